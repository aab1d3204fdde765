/-
  The statement of ExtsFinds: for every input the law returns true, and each argument reads afterwards as it read before. No condition.
-/
import Derived.Test.YtaagjnlkinojcaaRows
import Derived.Test.YtaagjnlkinojcaaSxY
import Derived.Test.YtaagjnlkinojcaaSxH
namespace Go.Proofs.Ytaagjnlkinojcaa.extsFinds
open Go Go.ChangeShapes Go.WideShapes Go.ChangeAt Go.RowKit Go.Sx
open Go.Proofs.Ytaagjnlkinojcaa
set_option linter.unusedVariables false
theorem own : ownKnob Try.prog.godebug = none := by kernel_rfl
theorem laidOut : laidOutB Try.prog = true := by kernel_rfl
set_option maxRecDepth 100000 in
theorem lifted (os : Os) (started : os.Started) (H : Type) (enc : TypeId × Value → H) :
   ReturnsInHanded {} Try.checked os 3 .any (Rows.extsFindsSpec.pre6 enc Try.prog Try.f3 Rows.extsFindsRow.domain false) (Rows.extsFindsSpec.post enc Try.prog Try.f3 false true false false) := by
 refine returnsInHanded_of_change (C := Try.checked) own started (by kernel_rfl) Try.func3
   (ChangeSpec.witness6 (enc := enc) (C := Try.checked) false ⟨#[], #[.slice none 0 0, .slice none 0 0, .agg #[.slice none 0 0, .bool false, .slice none 0 0], .slice none 0 0], []⟩ 8 (by kernel_rfl) (by kernel_rfl) (by kernel_rfl) (by kernel_rfl)) ?_
 intro W base args ds gs before hval0 hW hcnd _
 have hval : ∀ (j : Nat) t v, Try.f3.params[j]? = some t → args[j]? = some v → Value.okWide Try.prog W .any base t v := hval0
 have hW' := hW
 obtain ⟨p, q, hA0, hV, rfl, hfz, hnd⟩ := hW
 have hA : DataW.TrodAll enc Try.prog W 0 (fun _ => true) true Try.f3.params.toList args.toList ds p := hA0
 rw [Try.params3] at hA hval
 obtain ⟨v0, vs0, d0, ds0, p0, q0, hargs, rfl, rfl, h0, r0⟩ := trodAll_cons hA
 obtain ⟨v1, vs1, d1, ds1, p1, q1, rfl, rfl, rfl, h1, r1⟩ := trodAll_cons r0
 obtain ⟨v2, vs2, d2, ds2, p2, q2, rfl, rfl, rfl, h2, r2⟩ := trodAll_cons r1
 obtain ⟨v3, vs3, d3, ds3, p3, q3, rfl, rfl, rfl, h3, r3⟩ := trodAll_cons r2
 obtain ⟨rfl, rfl, rfl⟩ := trodAll_nil r3
 obtain rfl : args = #[v0, v1, v2, v3] := by cases args; simp_all
 obtain ⟨rfl, rfl⟩ := trodVars_none hV
 have k0 := h0
 have lt0 : ∀ x ∈ p0, x.block < W.heap.size := by obtain ⟨m, hm⟩ := k0; exact DataW.trod_lt m _ _ _ hm
 obtain ⟨l0, hl0, hw0, a0⟩ := open_rowsS Try.underlying22 (by kernel_rfl) (by kernel_rfl) (reads_three Try.underlying26 ⟨rfl, rfl, rfl⟩ (by kernel_rfl) (by kernel_rfl) (by kernel_rfl) (reads_one (cell_ints Try.underlying23 Try.underlying3 (by kernel_rfl))) (reads_one (cell_bool Try.underlying4)) (reads_one (cell_bytes Try.underlying24 Try.underlying5 (by kernel_rfl)))) (hval 0 22 v0 rfl rfl) h0
 have k1 := h1
 have lt1 : ∀ x ∈ p1, x.block < W.heap.size := by obtain ⟨m, hm⟩ := k1; exact DataW.trod_lt m _ _ _ hm
 obtain ⟨l1, hl1, hw1, a1⟩ := open_ints1 Try.underlying23 Try.underlying3 (by kernel_rfl) (hval 1 23 v1 rfl rfl) h1
 have k2 := h2
 have lt2 : ∀ x ∈ p2, x.block < W.heap.size := by obtain ⟨m, hm⟩ := k2; exact DataW.trod_lt m _ _ _ hm
 obtain ⟨⟨x2_0, x2_1, x2_2⟩, ⟨⟨hlx2_0, hwx2_0⟩, _, ⟨hlx2_2, hwx2_2⟩⟩, a2⟩ := open_agg Try.underlying26 (by kernel_rfl) (reads_three Try.underlying26 ⟨rfl, rfl, rfl⟩ (by kernel_rfl) (by kernel_rfl) (by kernel_rfl) (reads_one (cell_ints Try.underlying23 Try.underlying3 (by kernel_rfl))) (reads_one (cell_bool Try.underlying4)) (reads_one (cell_bytes Try.underlying24 Try.underlying5 (by kernel_rfl)))) (hval 2 26 v2 rfl rfl) h2
 have k3 := h3
 have lt3 : ∀ x ∈ p3, x.block < W.heap.size := by obtain ⟨m, hm⟩ := k3; exact DataW.trod_lt m _ _ _ hm
 obtain ⟨l3, hl3, hw3, a3⟩ := open_rowsS Try.underlying27 (by kernel_rfl) (by kernel_rfl) (reads_one (cell_ints Try.underlying23 Try.underlying3 (by kernel_rfl))) (hval 3 27 v3 rfl rfl) h3
 clear hA0 hval0
 have hcalls := Ct.calls (finds_ok l0 l1 x2_0 x2_1 x2_2 l3 hl0 hl1 hlx2_0 hlx2_2 hl3 hw0 hwx2_2 hw3) W [v0, v1, v2, v3] rfl fun i x v hx hv => by
   match i, hx, hv with
   | 0, hx, hv => simp at hx hv; subst hx hv; exact a0 _
   | 1, hx, hv => simp at hx hv; subst hx hv; exact a1 _
   | 2, hx, hv => simp at hx hv; subst hx hv; exact a2 _
   | 3, hx, hv => simp at hx hv; subst hx hv; exact a3 _
 refine hcalls.mono fun e W' ⟨he, bel⟩ => ?_
 subst he
 exact ⟨_, rfl, _, _, _, [], _, [], hW', trodAll_mk1 (shut_bool Try.underlying4 _), (trodAll_cons_mk (Below.trod laidOut (by kernel_rfl) (of_decide_eq_true (by kernel_rfl)) k0 bel lt0) (trodAll_cons_mk (Below.trod laidOut (by kernel_rfl) (of_decide_eq_true (by kernel_rfl)) k1 bel lt1) (trodAll_cons_mk (Below.trod laidOut (by kernel_rfl) (of_decide_eq_true (by kernel_rfl)) k2 bel lt2) (trodAll_cons_mk (Below.trod laidOut (by kernel_rfl) (of_decide_eq_true (by kernel_rfl)) k3 bel lt3) trodAll_mk0)))), rfl, bel.frame _, fun h => by cases h⟩
theorem over : Rows.extsFindsRow.holds Try.pinned (OpenSpec.ofChange Rows.extsFindsSpec) :=
 OpenClaim.holds_of_wide 3 Try.f3 rfl rfl rfl rfl rfl rfl rfl ⟨rfl, rfl, rfl, rfl, rfl⟩ rfl rfl rfl rfl rfl (by kernel_rfl) Try.func3 (by kernel_rfl)
   (of_decide_eq_true (by kernel_rfl)) (by unfold Func.isWrapper; first | (rw [if_pos (by decide +kernel)]; kernel_rfl) | (rw [if_neg (by decide +kernel)]; exact ⟨rfl, rfl⟩))
   (fun os started H enc _ => lifted os started H enc)
theorem proved : Rows.ExtsFindsSaid := over
#print axioms proved
end Go.Proofs.Ytaagjnlkinojcaa.extsFinds
