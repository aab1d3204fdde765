/-
  The statement of SealMakes: for every input the law returns true, and each argument reads afterwards as it read before. No condition.
-/
import Derived.Test.YthoaneleeabadaaGreatRows
import Derived.Test.YthoaneleeabadaaGreatSxH
namespace Go.Proofs.YthoaneleeabadaaGreat.sealMakes
open Go Go.ChangeShapes Go.WideShapes Go.ChangeAt Go.RowKit Go.Sx
open Go.Proofs.YthoaneleeabadaaGreat
set_option linter.unusedVariables false
theorem own : ownKnob Tryz.prog.godebug = none := by kernel_rfl
theorem laidOut : laidOutB Tryz.prog = true := by kernel_rfl
set_option maxRecDepth 100000 in
theorem lifted (os : Os) (started : os.Started) (H : Type) (enc : TypeId × Value → H) :
   ReturnsInHanded {} Tryz.checked os 4 .any (Rows.sealMakesSpec.pre6 enc Tryz.prog Tryz.f4 Rows.sealMakesRow.domain false) (Rows.sealMakesSpec.post enc Tryz.prog Tryz.f4 false true false false) := by
 refine returnsInHanded_of_change (C := Tryz.checked) own started (by kernel_rfl) Tryz.func4
   (ChangeSpec.witness6 (enc := enc) (C := Tryz.checked) false ⟨#[], #[.slice none 0 0, .slice none 0 0, .slice none 0 0], []⟩ 8 (by kernel_rfl) (by kernel_rfl) (by kernel_rfl) (by kernel_rfl)) ?_
 intro W base args ds gs before hval0 hW hcnd _
 have hval : ∀ (j : Nat) t v, Tryz.f4.params[j]? = some t → args[j]? = some v → Value.okWide Tryz.prog W .any base t v := hval0
 have hW' := hW
 obtain ⟨p, q, hA0, hV, rfl, hfz, hnd⟩ := hW
 have hA : DataW.TrodAll enc Tryz.prog W 0 (fun _ => true) true Tryz.f4.params.toList args.toList ds p := hA0
 rw [Tryz.params4] at hA hval
 obtain ⟨v0, vs0, d0, ds0, p0, q0, hargs, rfl, rfl, h0, r0⟩ := trodAll_cons hA
 obtain ⟨v1, vs1, d1, ds1, p1, q1, rfl, rfl, rfl, h1, r1⟩ := trodAll_cons r0
 obtain ⟨v2, vs2, d2, ds2, p2, q2, rfl, rfl, rfl, h2, r2⟩ := trodAll_cons r1
 obtain ⟨rfl, rfl, rfl⟩ := trodAll_nil r2
 obtain rfl : args = #[v0, v1, v2] := by cases args; simp_all
 obtain ⟨rfl, rfl⟩ := trodVars_none hV
 have k0 := h0
 have lt0 : ∀ x ∈ p0, x.block < W.heap.size := by obtain ⟨m, hm⟩ := k0; exact DataW.trod_lt m _ _ _ hm
 obtain ⟨l0, hl0, hw0, a0⟩ := open_rowsS Tryz.underlying59 (by kernel_rfl) (by kernel_rfl) (reads_two Tryz.underlying79 ⟨rfl, rfl⟩ (by kernel_rfl) (by kernel_rfl) (reads_one (cell_bytes Tryz.underlying23 Tryz.underlying5 (by kernel_rfl))) (reads_one (cell_bytes Tryz.underlying23 Tryz.underlying5 (by kernel_rfl)))) (hval 0 59 v0 rfl rfl) h0
 have k1 := h1
 have lt1 : ∀ x ∈ p1, x.block < W.heap.size := by obtain ⟨m, hm⟩ := k1; exact DataW.trod_lt m _ _ _ hm
 obtain ⟨l1, hl1, hw1, a1⟩ := Sx.open_bytes Tryz.underlying23 Tryz.underlying5 (by kernel_rfl) (hval 1 23 v1 rfl rfl) h1
 have k2 := h2
 have lt2 : ∀ x ∈ p2, x.block < W.heap.size := by obtain ⟨m, hm⟩ := k2; exact DataW.trod_lt m _ _ _ hm
 obtain ⟨l2, hl2, hw2, a2⟩ := Sx.open_bytes Tryz.underlying23 Tryz.underlying5 (by kernel_rfl) (hval 2 23 v2 rfl rfl) h2
 clear hA0 hval0
 have hcalls := Ct.calls (makes19_ok l0 l1 l2 hl0 hl1 hl2 hw0 hw1 hw2) W [v0, v1, v2] rfl fun i x v hx hv => by
   match i, hx, hv with
   | 0, hx, hv => simp at hx hv; subst hx hv; exact a0 _
   | 1, hx, hv => simp at hx hv; subst hx hv; exact a1 _
   | 2, hx, hv => simp at hx hv; subst hx hv; exact a2 _
 refine hcalls.mono fun e W' ⟨he, bel⟩ => ?_
 subst he
 exact ⟨_, rfl, _, _, _, [], _, [], hW', trodAll_mk1 (shut_bool Tryz.underlying4 _), (trodAll_cons_mk (Below.trod laidOut (by kernel_rfl) (of_decide_eq_true (by kernel_rfl)) k0 bel lt0) (trodAll_cons_mk (Below.trod laidOut (by kernel_rfl) (of_decide_eq_true (by kernel_rfl)) k1 bel lt1) (trodAll_cons_mk (Below.trod laidOut (by kernel_rfl) (of_decide_eq_true (by kernel_rfl)) k2 bel lt2) trodAll_mk0))), rfl, bel.frame _, fun h => by cases h⟩
theorem over : Rows.sealMakesRow.holds Tryz.pinned (OpenSpec.ofChange Rows.sealMakesSpec) :=
 OpenClaim.holds_of_wide 4 Tryz.f4 rfl rfl rfl rfl rfl rfl rfl ⟨rfl, rfl, rfl, rfl, rfl⟩ rfl rfl rfl rfl rfl (by kernel_rfl) Tryz.func4 (by kernel_rfl)
   (of_decide_eq_true (by kernel_rfl)) (by unfold Func.isWrapper; first | (rw [if_pos (by decide +kernel)]; kernel_rfl) | (rw [if_neg (by decide +kernel)]; exact ⟨rfl, rfl⟩))
   (fun os started H enc _ => lifted os started H enc)
theorem proved : Rows.SealMakesSaid := over
#print axioms proved
end Go.Proofs.YthoaneleeabadaaGreat.sealMakes
