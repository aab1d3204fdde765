/-
  Chapter 03: numbers as text, the program's way. The conditions: rows of at most a million bytes.
-/
import Derived.Test.YtppmfjopokkhmaaW7
namespace Go.Proofs.Ytppmfjopokkhmaa
set_option linter.unusedSimpArgs false
set_option linter.unusedVariables false
open Go.Sx

set_option maxRecDepth 10000

theorem tenC_app : ∀ (a : List Int) (c x : Int), tenC c (a ++ [x]) = ((tenC c a).1 ++ [(256 * (tenC c a).2 + x) / 10], (256 * (tenC c a).2 + x) % 10)
  | [], c, x => rfl
  | y :: a, c, x => by simp only [List.cons_append, tenC, tenC_app a]
theorem tenC_low : ∀ (a : List Int) (c : Int), 0 ≤ c ∧ c < 10 → 0 ≤ (tenC c a).2 ∧ (tenC c a).2 < 10
  | [], c, h => h
  | y :: a, c, h => tenC_low a _ ⟨by omega, by omega⟩

end Go.Proofs.Ytppmfjopokkhmaa
