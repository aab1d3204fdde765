/-
  Chapters 02 and 03, the document's answer: lengths, contents, numbers that are read. The conditions: rows of at most a million bytes.
-/
import Derived.Test.YtppmfjopokkhmaaC8
namespace Go.Proofs.Ytppmfjopokkhmaa
set_option linter.unusedSimpArgs false
set_option linter.unusedVariables false
open Go.Sx

set_option maxRecDepth 10000

end Go.Proofs.Ytppmfjopokkhmaa
