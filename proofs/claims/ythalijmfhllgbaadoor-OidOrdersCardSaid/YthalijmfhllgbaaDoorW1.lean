/-
  Chapter 03, its smaller functions: what each returns. The conditions: rows of at most a million bytes.
-/
import Derived.Test.YthalijmfhllgbaaDoorTy
namespace Go.Proofs.YthalijmfhllgbaaDoor
set_option linter.unusedSimpArgs false
set_option linter.unusedVariables false
open Go.Sx

set_option maxRecDepth 10000
abbrev B8 (l : List Int) : Av := .c (.lf (.ints .u8 l))
/-- Which of two rows comes first. -/
def cmpL : List Int → List Int → Int
  | [], [] => 0
  | [], _ :: _ => -1
  | _ :: _, [] => 1
  | x :: a, y :: b => if x < y then -1 else if y < x then 1 else cmpL a b

end Go.Proofs.YthalijmfhllgbaaDoor
