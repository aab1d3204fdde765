/-
  Chapter 03: numbers as text, the program's way: in a row's latter part. The conditions: rows of at most a million bytes.
-/
import Derived.Test.YthalijmfhllgbaaDoorW10
namespace Go.Proofs.YthalijmfhllgbaaDoor
set_option linter.unusedSimpArgs false
set_option linter.unusedVariables false
open Go.Sx

set_option maxRecDepth 10000

end Go.Proofs.YthalijmfhllgbaaDoor
