/-
  Chapter 03's reading, walked: it returns true. The conditions: rows of bytes that a machine can hold.
-/
import Derived.Test.YtppmfjopokkhmaaC10
import Derived.Test.YtppmfjopokkhmaaW14
namespace Go.Proofs.Ytppmfjopokkhmaa
set_option linter.unusedSimpArgs false
set_option linter.unusedVariables false
open Go.Sx

set_option maxRecDepth 10000

theorem rightT_of (n : Int) : rightT (ofT n) = decide (0 ≤ n ∧ n < 2097152) := by
  simp [rightT, ofT]

end Go.Proofs.Ytppmfjopokkhmaa
