/-
  The statement of SealChecks: for every input the law returns true, and each argument reads afterwards as it read before. No condition.
-/
import Derived.Test.YthoaneleeabadaaGreatRows
import Derived.Test.YthoaneleeabadaaGreatSxY
import Derived.Test.YthoaneleeabadaaGreatSxH
namespace Go.Proofs.YthoaneleeabadaaGreat.sealChecks
open Go Go.ChangeShapes Go.WideShapes Go.ChangeAt Go.RowKit Go.Sx
open Go.Proofs.YthoaneleeabadaaGreat
set_option linter.unusedVariables false
theorem litw {n : Int} (h : (Lit.int IntKind.i64 n).wf = true) : -9223372036854775808 ≤ n ∧ n < 9223372036854775808 := by
 have h1 : IntKind.i64.min = -9223372036854775808 := by decide
 have h2 : IntKind.i64.max = 9223372036854775807 := by decide
 simp [Lit.wf] at h
 omega
theorem own : ownKnob Tryz.prog.godebug = none := by kernel_rfl
theorem laidOut : laidOutB Tryz.prog = true := by kernel_rfl
set_option maxRecDepth 100000 in
theorem lifted (os : Os) (started : os.Started) (H : Type) (enc : TypeId × Value → H) :
   ReturnsInHanded {} Tryz.checked os 5 .any (Rows.sealChecksSpec.pre6 enc Tryz.prog Tryz.f5 Rows.sealChecksRow.domain false) (Rows.sealChecksSpec.post enc Tryz.prog Tryz.f5 false true false false) := by
 refine returnsInHanded_of_change (C := Tryz.checked) own started (by kernel_rfl) Tryz.func5
   (ChangeSpec.witness6 (enc := enc) (C := Tryz.checked) false ⟨#[], #[.slice none 0 0, .agg #[.slice none 0 0, .slice none 0 0, .slice none 0 0, .slice none 0 0], .slice none 0 0, .int .i64 0, .int .i64 0], []⟩ 8 (by kernel_rfl) (by kernel_rfl) (by kernel_rfl) (by kernel_rfl)) ?_
 intro W base args ds gs before hval0 hW hcnd _
 have hval : ∀ (j : Nat) t v, Tryz.f5.params[j]? = some t → args[j]? = some v → Value.okWide Tryz.prog W .any base t v := hval0
 have hW' := hW
 obtain ⟨p, q, hA0, hV, rfl, hfz, hnd⟩ := hW
 have hA : DataW.TrodAll enc Tryz.prog W 0 (fun _ => true) true Tryz.f5.params.toList args.toList ds p := hA0
 rw [Tryz.params5] at hA hval
 obtain ⟨v0, vs0, d0, ds0, p0, q0, hargs, rfl, rfl, h0, r0⟩ := trodAll_cons hA
 obtain ⟨v1, vs1, d1, ds1, p1, q1, rfl, rfl, rfl, h1, r1⟩ := trodAll_cons r0
 obtain ⟨v2, vs2, d2, ds2, p2, q2, rfl, rfl, rfl, h2, r2⟩ := trodAll_cons r1
 obtain ⟨v3, vs3, d3, ds3, p3, q3, rfl, rfl, rfl, h3, r3⟩ := trodAll_cons r2
 obtain ⟨v4, vs4, d4, ds4, p4, q4, rfl, rfl, rfl, h4, r4⟩ := trodAll_cons r3
 obtain ⟨rfl, rfl, rfl⟩ := trodAll_nil r4
 obtain rfl : args = #[v0, v1, v2, v3, v4] := by cases args; simp_all
 obtain ⟨rfl, rfl⟩ := trodVars_none hV
 have k0 := h0
 have lt0 : ∀ x ∈ p0, x.block < W.heap.size := by obtain ⟨m, hm⟩ := k0; exact DataW.trod_lt m _ _ _ hm
 obtain ⟨l0, hl0, hw0, a0⟩ := open_rowsS Tryz.underlying59 (by kernel_rfl) (by kernel_rfl) (reads_two Tryz.underlying79 ⟨rfl, rfl⟩ (by kernel_rfl) (by kernel_rfl) (reads_one (cell_bytes Tryz.underlying23 Tryz.underlying5 (by kernel_rfl))) (reads_one (cell_bytes Tryz.underlying23 Tryz.underlying5 (by kernel_rfl)))) (hval 0 59 v0 rfl rfl) h0
 have k1 := h1
 have lt1 : ∀ x ∈ p1, x.block < W.heap.size := by obtain ⟨m, hm⟩ := k1; exact DataW.trod_lt m _ _ _ hm
 obtain ⟨⟨x1_0, ⟨x1_1, x1_2⟩, x1_3⟩, ⟨⟨hlx1_0, hwx1_0⟩, ⟨⟨hlx1_1, hwx1_1⟩, ⟨hlx1_2, hwx1_2⟩⟩, ⟨hlx1_3, hwx1_3⟩⟩, a1⟩ := open_agg Tryz.underlying69 (by kernel_rfl) (reads_three Tryz.underlying69 ⟨rfl, rfl, rfl⟩ (by kernel_rfl) (by kernel_rfl) (by kernel_rfl) (reads_one (cell_bytes Tryz.underlying23 Tryz.underlying5 (by kernel_rfl))) (reads_two Tryz.underlying25 ⟨rfl, rfl⟩ (by kernel_rfl) (by kernel_rfl) (reads_one (cell_ints Tryz.underlying22 Tryz.underlying3 (by kernel_rfl))) (reads_one (cell_bytes Tryz.underlying23 Tryz.underlying5 (by kernel_rfl)))) (reads_one (cell_bytes Tryz.underlying23 Tryz.underlying5 (by kernel_rfl)))) (hval 1 69 v1 rfl rfl) h1
 have k2 := h2
 have lt2 : ∀ x ∈ p2, x.block < W.heap.size := by obtain ⟨m, hm⟩ := k2; exact DataW.trod_lt m _ _ _ hm
 obtain ⟨l2, hl2, hw2, a2⟩ := open_rowsB Tryz.underlying76 Tryz.underlying23 Tryz.underlying5 (by kernel_rfl) (by kernel_rfl) (hval 2 76 v2 rfl rfl) h2
 have k3 := h3
 have lt3 : ∀ x ∈ p3, x.block < W.heap.size := by obtain ⟨m, hm⟩ := k3; exact DataW.trod_lt m _ _ _ hm
 obtain ⟨n3, hw3, a3⟩ := Sx.open_int Tryz.underlying3 (hval 3 3 v3 rfl rfl) h3
 have k4 := h4
 have lt4 : ∀ x ∈ p4, x.block < W.heap.size := by obtain ⟨m, hm⟩ := k4; exact DataW.trod_lt m _ _ _ hm
 obtain ⟨n4, hw4, a4⟩ := Sx.open_int Tryz.underlying3 (hval 4 3 v4 rfl rfl) h4
 clear hA0 hval0
 have hcalls := Ct.calls (checks19_ok l0 x1_0 x1_1 x1_2 x1_3 l2 n3 n4 hl0 hlx1_0 hlx1_1 hlx1_2 hlx1_3 hl2 hw0 hwx1_0 hwx1_2 hwx1_3 hw2 (litw hw3) (litw hw4)) W [v0, v1, v2, v3, v4] rfl fun i x v hx hv => by
   match i, hx, hv with
   | 0, hx, hv => simp at hx hv; subst hx hv; exact a0 _
   | 1, hx, hv => simp at hx hv; subst hx hv; exact a1 _
   | 2, hx, hv => simp at hx hv; subst hx hv; exact a2 _
   | 3, hx, hv => simp at hx hv; subst hx hv; exact a3 _
   | 4, hx, hv => simp at hx hv; subst hx hv; exact a4 _
 refine hcalls.mono fun e W' ⟨he, bel⟩ => ?_
 subst he
 exact ⟨_, rfl, _, _, _, [], _, [], hW', trodAll_mk1 (shut_bool Tryz.underlying4 _), (trodAll_cons_mk (Below.trod laidOut (by kernel_rfl) (of_decide_eq_true (by kernel_rfl)) k0 bel lt0) (trodAll_cons_mk (Below.trod laidOut (by kernel_rfl) (of_decide_eq_true (by kernel_rfl)) k1 bel lt1) (trodAll_cons_mk (Below.trod laidOut (by kernel_rfl) (of_decide_eq_true (by kernel_rfl)) k2 bel lt2) (trodAll_cons_mk (Below.trod laidOut (by kernel_rfl) (of_decide_eq_true (by kernel_rfl)) k3 bel lt3) (trodAll_cons_mk (Below.trod laidOut (by kernel_rfl) (of_decide_eq_true (by kernel_rfl)) k4 bel lt4) trodAll_mk0))))), rfl, bel.frame _, fun h => by cases h⟩
theorem over : Rows.sealChecksRow.holds Tryz.pinned (OpenSpec.ofChange Rows.sealChecksSpec) :=
 OpenClaim.holds_of_wide 5 Tryz.f5 rfl rfl rfl rfl rfl rfl rfl ⟨rfl, rfl, rfl, rfl, rfl⟩ rfl rfl rfl rfl rfl (by kernel_rfl) Tryz.func5 (by kernel_rfl)
   (of_decide_eq_true (by kernel_rfl)) (by unfold Func.isWrapper; first | (rw [if_pos (by decide +kernel)]; kernel_rfl) | (rw [if_neg (by decide +kernel)]; exact ⟨rfl, rfl⟩))
   (fun os started H enc _ => lifted os started H enc)
theorem proved : Rows.SealChecksSaid := over
#print axioms proved
end Go.Proofs.YthoaneleeabadaaGreat.sealChecks
