/-
  Chapter 03's law of ints, walked: it returns true. The conditions: rows of bytes that a machine can hold.
-/
import Derived.Test.YtppmfjopokkhmaaW17
import Derived.Test.YtppmfjopokkhmaaSxZ
namespace Go.Proofs.Ytppmfjopokkhmaa
set_option linter.unusedSimpArgs false
set_option linter.unusedVariables false
open Go.Sx

set_option maxRecDepth 10000

theorem ofMag_val (k : Int) (h0 : -9223372036854775808 ≤ k) (h1 : k < 9223372036854775808) : ofMag k = (k.natAbs : Int) := by
  unfold ofMag
  split <;> omega
/-- The int's digits, the program's and the document's. -/
theorem of_digits (k : Int) (h0 : -9223372036854775808 ≤ k) (h1 : k < 9223372036854775808) : trimL (patL (ofMag k)) = digL k.natAbs := by
  obtain ⟨d1, d2, d3⟩ := dig_spec k.natAbs k.natAbs (Nat.le_refl _)
  refine val_inj _ _ _ (Nat.le_refl _) (wf_trim (pat_wf _)) d1 (trim_idem _) d2 ?_
  rw [val_trim, d3, ofMag_val k h0 h1, pat_val _ (by omega) (by omega)]
theorem of_below (k : Int) (h0 : -9223372036854775808 ≤ k) (h1 : k < 9223372036854775808) : madeB (decide (k < 0)) (patL (ofMag k)) = decide (k < 0) := by
  obtain ⟨d1, d2, d3⟩ := dig_spec k.natAbs k.natAbs (Nat.le_refl _)
  rw [madeB, of_digits k h0 h1]
  by_cases h : k < 0
  · have : digL k.natAbs ≠ [] := by intro h'; rw [h'] at d3; simp [valA] at d3; omega
    have := List.length_pos_iff.2 this
    simp only [h, decide_true, cond_true, decide_eq_true_eq]; omega
  · simp only [h, decide_false, cond_false]
theorem dig_trim (n : Nat) : trimL (digL n) = digL n := (dig_spec n n (Nat.le_refl _)).2.1
theorem int_back (k : Int) (h0 : -9223372036854775808 ≤ k) (h1 : k < 9223372036854775808) : intV (decide (k < 0)) (digL k.natAbs) = some k := by
  obtain ⟨d1, d2, d3⟩ := dig_spec k.natAbs k.natAbs (Nat.le_refl _)
  have dl := dig_len 8 k.natAbs (by omega)
  rw [intV, if_neg (by omega), d3]
  by_cases h : k < 0
  · simp only [h, decide_true, if_true]
    rw [if_pos (by omega)]
    congr 1; omega
  · simp only [h, decide_false, Bool.false_eq_true, if_false]
    rw [if_pos (by omega)]
    congr 1; omega

end Go.Proofs.Ytppmfjopokkhmaa
