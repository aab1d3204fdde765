/-
  Chapter 03's plain law of contents and parse: what the program computes is what the document computes. The conditions: rows of bytes.
-/
import Derived.Test.YthalijmfhllgbaaDoorW9
namespace Go.Proofs.YthalijmfhllgbaaDoor
set_option linter.unusedSimpArgs false
set_option linter.unusedVariables false
open Go.Sx

end Go.Proofs.YthalijmfhllgbaaDoor
