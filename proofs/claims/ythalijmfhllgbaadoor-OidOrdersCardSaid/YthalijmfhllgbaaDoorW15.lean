/-
  Chapter 03's law of contents, walked: it returns true. The conditions: rows of bytes that a machine can hold.
-/
import Derived.Test.YthalijmfhllgbaaDoorW14
namespace Go.Proofs.YthalijmfhllgbaaDoor
set_option linter.unusedSimpArgs false
set_option linter.unusedVariables false
open Go.Sx

set_option maxRecDepth 10000

end Go.Proofs.YthalijmfhllgbaaDoor
