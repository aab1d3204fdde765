/-
  Chapters 02 and 03, the document's answer: contents and numbers that are read. The conditions: rows of at most a thousand bytes.
-/
import Derived.Test.YtppmfjopokkhmaaC9
namespace Go.Proofs.Ytppmfjopokkhmaa
set_option linter.unusedSimpArgs false
set_option linter.unusedVariables false
open Go.Sx

set_option maxRecDepth 10000

end Go.Proofs.Ytppmfjopokkhmaa
