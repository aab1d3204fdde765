/-
  Chapter 03's law of contents, walked: it returns true. The conditions: rows of bytes that a machine can hold.
-/
import Derived.Test.YtppmfjopokkhmaaW14
namespace Go.Proofs.Ytppmfjopokkhmaa
set_option linter.unusedSimpArgs false
set_option linter.unusedVariables false
open Go.Sx

set_option maxRecDepth 10000

theorem wf_take {l : List Int} (h : WfB l) (n : Nat) : WfB (l.take n) := fun x hx => h x (List.mem_of_mem_take hx)

theorem right_made (b : Bool) (l : List Int) : rightB (madeB b l) (trimL l) = true := by
  rcases trim_nz l with h | ⟨x, t, h, hx⟩
  · rw [h]
    have : madeB b l = false := by cases b <;> simp [madeB, h]
    rw [this]; rfl
  · rw [h]; simpa [rightB] using hx
theorem parse_right (m : List Int) : (parseN m).2.1.length ≤ m.length ∧ ((parseN m).2.2 = 0 → rightB (parseN m).1 (parseN m).2.1 = true) := by
  have h1 := len_trim m
  have h2 := len_trim (tcL m)
  have h3 := tc_len m
  have h4 := right_made true (tcL m)
  have h5 := right_made false m
  unfold parseN
  repeat' split
  · exact ⟨Nat.zero_le _, fun h => by cases h⟩
  · exact ⟨Nat.zero_le _, fun h => by cases h⟩
  · exact ⟨Nat.zero_le _, fun h => by cases h⟩
  · exact ⟨by dsimp only; omega, fun _ => h4⟩
  · exact ⟨by dsimp only; omega, fun _ => h5⟩
theorem refc_len (b : Bool) (s : List Int) : (refcL b s).length ≤ s.length + 1 := by
  unfold refcL
  split <;> cases b <;> simp [tc_len]
end Go.Proofs.Ytppmfjopokkhmaa
