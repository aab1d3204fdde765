/-
  Chapter 03: the document's number of contents. The conditions: rows of at most ten thousand bytes.
-/
import Derived.Test.YthalijmfhllgbaaDoorW12
namespace Go.Proofs.YthalijmfhllgbaaDoor
set_option linter.unusedSimpArgs false
set_option linter.unusedVariables false
open Go.Sx

set_option maxRecDepth 10000

end Go.Proofs.YthalijmfhllgbaaDoor
