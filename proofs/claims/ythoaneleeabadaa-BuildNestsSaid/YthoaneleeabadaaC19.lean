/-
  Chapter 03's wholes, walked: it returns true. The conditions: rows of bytes that a machine can hold, ints.
-/
import Derived.Test.YthoaneleeabadaaD8
import Derived.Test.YthoaneleeabadaaW16
namespace Go.Proofs.Ythoaneleeabadaa
set_option linter.unusedSimpArgs false
set_option linter.unusedVariables false
open Go.Sx

set_option maxRecDepth 10000

theorem wrap_len (t : TagP) (X : List Int) : (wrapL t X).length ≤ X.length + 20 := by
  have h1 := lowD_len 128 5 t.2.1.toNat
  have h2 := lowD_len 256 5 X.length
  have hT5 : (tgL t).length ≤ 10 := by
    unfold tgL
    split
    · simp
    · simp [hiL_len]; omega
  have hL5 : (lenL X.length).length ≤ 10 := by
    generalize X.length = n at *
    unfold lenL
    split
    · simp
    · simp; omega
  simp only [wrapL, List.length_append]
  omega
theorem wfB_app {a b : List Int} (ha : WfB a) (hb : WfB b) : WfB (a ++ b) := fun x hx => (List.mem_append.1 hx).elim (ha x) (hb x)
theorem wrap_wf (t : TagP) (X : List Int) (h : rightT t = true) (hw : WfB X) : WfB (wrapL t X) := by
  have hr : 0 ≤ t.1 ∧ t.1 ≤ 3 ∧ 0 ≤ t.2.1 ∧ t.2.1 < 2097152 := by simp [rightT] at h; omega
  have hfm := first_mem h
  have hfi : 0 ≤ firstI t ∧ firstI t ≤ 224 := by
    simp only [List.mem_cons, List.not_mem_nil, or_false] at hfm
    omega
  have hD := lowD_lt 128 (by decide) 5 t.2.1.toNat
  have h2 := lowD_len 256 5 X.length
  have hL := lowD_wf 256 (by decide) (by decide) 5 X.length
  refine wfB_app (wfB_app ?_ ?_) hw
  · unfold tgL
    split
    · intro x hx
      rw [List.mem_singleton.1 hx]
      omega
    · intro x hx
      cases hx with
      | head => omega
      | tail _ hx =>
        unfold hiL at hx
        rcases List.mem_append.1 hx with hx | hx
        · obtain ⟨y, hy, rfl⟩ := List.mem_map.1 hx
          have := hD y (List.mem_reverse.1 (List.mem_of_mem_take hy))
          omega
        · have := hD x (List.mem_reverse.1 (List.mem_of_mem_drop hx))
          omega
  · unfold lenL
    split
    · intro x hx
      rw [List.mem_singleton.1 hx]
      omega
    · intro x hx
      cases hx with
      | head => omega
      | tail _ hx => exact hL x (List.mem_reverse.1 hx)

end Go.Proofs.Ythoaneleeabadaa
