/-
  Chapter 03: contents of a number, and the number of contents. The conditions: rows of at most a million bytes.
-/
import Derived.Test.YthalijmfhllgbaaDoorW4
namespace Go.Proofs.YthalijmfhllgbaaDoor
set_option linter.unusedSimpArgs false
set_option linter.unusedVariables false
open Go.Sx

set_option maxRecDepth 10000

end Go.Proofs.YthalijmfhllgbaaDoor
