/-
  Chapter 03: the chapter's examples are answered rightly. No condition.
-/
import Derived.Test.YthalijmfhllgbaaDoorW13
namespace Go.Proofs.YthalijmfhllgbaaDoor
set_option linter.unusedSimpArgs false
set_option linter.unusedVariables false
open Go.Sx

set_option maxRecDepth 10000

end Go.Proofs.YthalijmfhllgbaaDoor
