/-
  Chapter 03: rows that are written in place. The conditions: rows of at most a million bytes.
-/
import Derived.Test.YthalijmfhllgbaaDoorW2
namespace Go.Proofs.YthalijmfhllgbaaDoor
set_option linter.unusedSimpArgs false
set_option linter.unusedVariables false
open Go.Sx

set_option maxRecDepth 10000

@[simp] theorem wrapE8 (x : Int) : IntKind.u8.wrap x = x % 256 := by simp [IntKind.wrap, IntKind.signed, IntKind.bits]
def WfB (l : List Int) : Prop := ∀ x ∈ l, 0 ≤ x ∧ x < 256
end Go.Proofs.YthalijmfhllgbaaDoor
