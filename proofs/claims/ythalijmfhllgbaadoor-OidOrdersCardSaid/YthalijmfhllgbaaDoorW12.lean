/-
  Chapter 03: a number's text, the program's way. The conditions: rows of at most a hundred thousand bytes.
-/
import Derived.Test.YthalijmfhllgbaaDoorW11
import Derived.Test.YthalijmfhllgbaaDoorL1
namespace Go.Proofs.YthalijmfhllgbaaDoor
set_option linter.unusedSimpArgs false
set_option linter.unusedVariables false
open Go.Sx

set_option maxRecDepth 10000

/-- A row's value, to the base 256, behind c. -/
def valA : Int → List Int → Int
  | c, [] => c
  | c, x :: l => valA (256 * c + x) l
end Go.Proofs.YthalijmfhllgbaaDoor
