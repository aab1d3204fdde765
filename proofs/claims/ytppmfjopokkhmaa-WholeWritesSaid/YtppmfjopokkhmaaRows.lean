/-
  No cell of these rows narrows 'for every input' (looked for: loops, veiled, ifaces, maps, wideKeys, modest, calm, conditions, laid).
  DERIVED. THE GIVEN ROWS OF THIS SEAT. 12 by the template 'for every input the law returns true; each argument reads behind the call as it read before'; 0 by the template 'total and deterministic' (their statements: YtppmfjopokkhmaaTotals.lean).
  GIVEN WITH THE SEED: the statements are not yours to turn. If you find one false, say at which input.
  Laid BY PROGRAM, IN A SANDBOX (cutbox-rows.mjs): the forced cells as the released guide's own fill.sh prints them over the translation 31bf0bee8978b84a… (all of the seat's roots in one cut). By AI agents, Wed Nov 11 2026. No macro, syntax, notation, axiom, sorry.
-/
import Derived.Test.YtppmfjopokkhmaaChecked
import GoSem.Claim
import GoSem.ClaimJoined
import GoSem.ClaimMapViews
import Derived.JoinedTies
import Derived.KernelRfl
namespace Go.Proofs.Ytppmfjopokkhmaa
/- THE CELL 'sum', in the pinned program and in every row, IS THE sha256 OF THE DUMP (.gsa) THAT YtppmfjopokkhmaaProg.lean LOADS. Nothing in Lean hashes anything: it is a label: what it is worth is what the hold of that sum in a sandbox is worth. -/
noncomputable def Try.pinned : Pinned := { name := "ytppmfjopokkhmaa", sum := "31bf0bee8978b84ac1d5cb0c2e6189e4b25e62d851f606823cfe782f114fbf91", checked := Try.checked }
namespace Rows
def none {H : Type} : Left H := { results := [], args := [] }

/-- 'quittancelaw03.WholeContents': WHATEVER THE INPUT: true; the input reads as it did. -/
def wholeContentsSpec : ChangeSpec := { name := "wholeContents", fn := fun _ => fun
  | [d1, d2] => { results := [.lit (.bool true)], args := [d1, d2] }
  | _ => none }
def wholeContentsRow : OpenClaim := { program := "ytppmfjopokkhmaa", sum := "31bf0bee8978b84ac1d5cb0c2e6189e4b25e62d851f606823cfe782f114fbf91", func := "quittance/quittancelaw03.WholeContents", spec := "wholeContents", apart := false }
def WholeContentsSaid : Prop := wholeContentsRow.holds Try.pinned (OpenSpec.ofChange wholeContentsSpec)

/-- ITS FALSE NEIGHBOUR: 'it returns false'. Refute it at one input. -/
def wholeContentsWrong : ChangeSpec := { name := "wholeContents", fn := fun _ => fun
  | [d1, d2] => { results := [.lit (.bool false)], args := [d1, d2] }
  | _ => none }
def WholeContentsWrongFalsely : Prop := wholeContentsRow.holds Try.pinned (OpenSpec.ofChange wholeContentsWrong)

/-- 'quittancelaw03.WholeInts': WHATEVER THE INPUT: true; the input reads as it did. -/
def wholeIntsSpec : ChangeSpec := { name := "wholeInts", fn := fun _ => fun
  | [d1, d2] => { results := [.lit (.bool true)], args := [d1, d2] }
  | _ => none }
def wholeIntsRow : OpenClaim := { program := "ytppmfjopokkhmaa", sum := "31bf0bee8978b84ac1d5cb0c2e6189e4b25e62d851f606823cfe782f114fbf91", func := "quittance/quittancelaw03.WholeInts", spec := "wholeInts", apart := false }
def WholeIntsSaid : Prop := wholeIntsRow.holds Try.pinned (OpenSpec.ofChange wholeIntsSpec)

/-- ITS FALSE NEIGHBOUR: 'it returns false'. Refute it at one input. -/
def wholeIntsWrong : ChangeSpec := { name := "wholeInts", fn := fun _ => fun
  | [d1, d2] => { results := [.lit (.bool false)], args := [d1, d2] }
  | _ => none }
def WholeIntsWrongFalsely : Prop := wholeIntsRow.holds Try.pinned (OpenSpec.ofChange wholeIntsWrong)

/-- 'quittancelaw03.WholeTexts': WHATEVER THE INPUT: true; the input reads as it did. -/
def wholeTextsSpec : ChangeSpec := { name := "wholeTexts", fn := fun _ => fun
  | [d1, d2] => { results := [.lit (.bool true)], args := [d1, d2] }
  | _ => none }
def wholeTextsRow : OpenClaim := { program := "ytppmfjopokkhmaa", sum := "31bf0bee8978b84ac1d5cb0c2e6189e4b25e62d851f606823cfe782f114fbf91", func := "quittance/quittancelaw03.WholeTexts", spec := "wholeTexts", apart := false }
def WholeTextsSaid : Prop := wholeTextsRow.holds Try.pinned (OpenSpec.ofChange wholeTextsSpec)

/-- ITS FALSE NEIGHBOUR: 'it returns false'. Refute it at one input. -/
def wholeTextsWrong : ChangeSpec := { name := "wholeTexts", fn := fun _ => fun
  | [d1, d2] => { results := [.lit (.bool false)], args := [d1, d2] }
  | _ => none }
def WholeTextsWrongFalsely : Prop := wholeTextsRow.holds Try.pinned (OpenSpec.ofChange wholeTextsWrong)

/-- 'quittancelaw12.MacSums': WHATEVER THE INPUT: true; the input reads as it did. -/
def macSumsSpec : ChangeSpec := { name := "macSums", fn := fun _ => fun
  | [d] => { results := [.lit (.bool true)], args := [d] }
  | _ => none }
def macSumsRow : OpenClaim := { program := "ytppmfjopokkhmaa", sum := "31bf0bee8978b84ac1d5cb0c2e6189e4b25e62d851f606823cfe782f114fbf91", func := "quittance/quittancelaw12.MacSums", spec := "macSums", apart := false }
def MacSumsSaid : Prop := macSumsRow.holds Try.pinned (OpenSpec.ofChange macSumsSpec)

/-- ITS FALSE NEIGHBOUR: 'it returns false'. Refute it at one input. -/
def macSumsWrong : ChangeSpec := { name := "macSums", fn := fun _ => fun
  | [d] => { results := [.lit (.bool false)], args := [d] }
  | _ => none }
def MacSumsWrongFalsely : Prop := macSumsRow.holds Try.pinned (OpenSpec.ofChange macSumsWrong)

/-- 'quittancelaw12.MacParts': WHATEVER THE INPUT: true; the input reads as it did. -/
def macPartsSpec : ChangeSpec := { name := "macParts", fn := fun _ => fun
  | [d1, d2, d3] => { results := [.lit (.bool true)], args := [d1, d2, d3] }
  | _ => none }
def macPartsRow : OpenClaim := { program := "ytppmfjopokkhmaa", sum := "31bf0bee8978b84ac1d5cb0c2e6189e4b25e62d851f606823cfe782f114fbf91", func := "quittance/quittancelaw12.MacParts", spec := "macParts", apart := false }
def MacPartsSaid : Prop := macPartsRow.holds Try.pinned (OpenSpec.ofChange macPartsSpec)

/-- ITS FALSE NEIGHBOUR: 'it returns false'. Refute it at one input. -/
def macPartsWrong : ChangeSpec := { name := "macParts", fn := fun _ => fun
  | [d1, d2, d3] => { results := [.lit (.bool false)], args := [d1, d2, d3] }
  | _ => none }
def MacPartsWrongFalsely : Prop := macPartsRow.holds Try.pinned (OpenSpec.ofChange macPartsWrong)

/-- 'quittancelaw12.MacCopies': WHATEVER THE INPUT: true; the input reads as it did. -/
def macCopiesSpec : ChangeSpec := { name := "macCopies", fn := fun _ => fun
  | [d1, d2, d3] => { results := [.lit (.bool true)], args := [d1, d2, d3] }
  | _ => none }
def macCopiesRow : OpenClaim := { program := "ytppmfjopokkhmaa", sum := "31bf0bee8978b84ac1d5cb0c2e6189e4b25e62d851f606823cfe782f114fbf91", func := "quittance/quittancelaw12.MacCopies", spec := "macCopies", apart := false }
def MacCopiesSaid : Prop := macCopiesRow.holds Try.pinned (OpenSpec.ofChange macCopiesSpec)

/-- ITS FALSE NEIGHBOUR: 'it returns false'. Refute it at one input. -/
def macCopiesWrong : ChangeSpec := { name := "macCopies", fn := fun _ => fun
  | [d1, d2, d3] => { results := [.lit (.bool false)], args := [d1, d2, d3] }
  | _ => none }
def MacCopiesWrongFalsely : Prop := macCopiesRow.holds Try.pinned (OpenSpec.ofChange macCopiesWrong)

/-- 'quittancelaw12.MacSame': WHATEVER THE INPUT: true; the input reads as it did. -/
def macSameSpec : ChangeSpec := { name := "macSame", fn := fun _ => fun
  | [d1, d2, d3] => { results := [.lit (.bool true)], args := [d1, d2, d3] }
  | _ => none }
def macSameRow : OpenClaim := { program := "ytppmfjopokkhmaa", sum := "31bf0bee8978b84ac1d5cb0c2e6189e4b25e62d851f606823cfe782f114fbf91", func := "quittance/quittancelaw12.MacSame", spec := "macSame", apart := false }
def MacSameSaid : Prop := macSameRow.holds Try.pinned (OpenSpec.ofChange macSameSpec)

/-- ITS FALSE NEIGHBOUR: 'it returns false'. Refute it at one input. -/
def macSameWrong : ChangeSpec := { name := "macSame", fn := fun _ => fun
  | [d1, d2, d3] => { results := [.lit (.bool false)], args := [d1, d2, d3] }
  | _ => none }
def MacSameWrongFalsely : Prop := macSameRow.holds Try.pinned (OpenSpec.ofChange macSameWrong)

/-- 'quittancelaw12.MacTags': WHATEVER THE INPUT: true; the input reads as it did. -/
def macTagsSpec : ChangeSpec := { name := "macTags", fn := fun _ => fun
  | [d1, d2, d3] => { results := [.lit (.bool true)], args := [d1, d2, d3] }
  | _ => none }
def macTagsRow : OpenClaim := { program := "ytppmfjopokkhmaa", sum := "31bf0bee8978b84ac1d5cb0c2e6189e4b25e62d851f606823cfe782f114fbf91", func := "quittance/quittancelaw12.MacTags", spec := "macTags", apart := false }
def MacTagsSaid : Prop := macTagsRow.holds Try.pinned (OpenSpec.ofChange macTagsSpec)

/-- ITS FALSE NEIGHBOUR: 'it returns false'. Refute it at one input. -/
def macTagsWrong : ChangeSpec := { name := "macTags", fn := fun _ => fun
  | [d1, d2, d3] => { results := [.lit (.bool false)], args := [d1, d2, d3] }
  | _ => none }
def MacTagsWrongFalsely : Prop := macTagsRow.holds Try.pinned (OpenSpec.ofChange macTagsWrong)

/-- 'quittancelaw03.WholeRules': WHATEVER THE INPUT: true; the input reads as it did. -/
def wholeRulesSpec : ChangeSpec := { name := "wholeRules", fn := fun _ => fun
  | [d1, d2, d3] => { results := [.lit (.bool true)], args := [d1, d2, d3] }
  | _ => none }
def wholeRulesRow : OpenClaim := { program := "ytppmfjopokkhmaa", sum := "31bf0bee8978b84ac1d5cb0c2e6189e4b25e62d851f606823cfe782f114fbf91", func := "quittance/quittancelaw03.WholeRules", spec := "wholeRules", unfollowed := true, recurses := true, apart := false }
def WholeRulesSaid : Prop := wholeRulesRow.holds Try.pinned (OpenSpec.ofChange wholeRulesSpec)

/-- ITS FALSE NEIGHBOUR: 'it returns false'. Refute it at one input. -/
def wholeRulesWrong : ChangeSpec := { name := "wholeRules", fn := fun _ => fun
  | [d1, d2, d3] => { results := [.lit (.bool false)], args := [d1, d2, d3] }
  | _ => none }
def WholeRulesWrongFalsely : Prop := wholeRulesRow.holds Try.pinned (OpenSpec.ofChange wholeRulesWrong)

/-- 'quittancelaw03.WholeSums': WHATEVER THE INPUT: true; the input reads as it did. -/
def wholeSumsSpec : ChangeSpec := { name := "wholeSums", fn := fun _ => fun
  | [d1, d2] => { results := [.lit (.bool true)], args := [d1, d2] }
  | _ => none }
def wholeSumsRow : OpenClaim := { program := "ytppmfjopokkhmaa", sum := "31bf0bee8978b84ac1d5cb0c2e6189e4b25e62d851f606823cfe782f114fbf91", func := "quittance/quittancelaw03.WholeSums", spec := "wholeSums", unfollowed := true, recurses := true, apart := false }
def WholeSumsSaid : Prop := wholeSumsRow.holds Try.pinned (OpenSpec.ofChange wholeSumsSpec)

/-- ITS FALSE NEIGHBOUR: 'it returns false'. Refute it at one input. -/
def wholeSumsWrong : ChangeSpec := { name := "wholeSums", fn := fun _ => fun
  | [d1, d2] => { results := [.lit (.bool false)], args := [d1, d2] }
  | _ => none }
def WholeSumsWrongFalsely : Prop := wholeSumsRow.holds Try.pinned (OpenSpec.ofChange wholeSumsWrong)

/-- 'quittancelaw03.WholeReads': WHATEVER THE INPUT: true; the input reads as it did. -/
def wholeReadsSpec : ChangeSpec := { name := "wholeReads", fn := fun _ => fun
  | [d1, d2] => { results := [.lit (.bool true)], args := [d1, d2] }
  | _ => none }
def wholeReadsRow : OpenClaim := { program := "ytppmfjopokkhmaa", sum := "31bf0bee8978b84ac1d5cb0c2e6189e4b25e62d851f606823cfe782f114fbf91", func := "quittance/quittancelaw03.WholeReads", spec := "wholeReads", unfollowed := true, recurses := true, apart := false }
def WholeReadsSaid : Prop := wholeReadsRow.holds Try.pinned (OpenSpec.ofChange wholeReadsSpec)

/-- ITS FALSE NEIGHBOUR: 'it returns false'. Refute it at one input. -/
def wholeReadsWrong : ChangeSpec := { name := "wholeReads", fn := fun _ => fun
  | [d1, d2] => { results := [.lit (.bool false)], args := [d1, d2] }
  | _ => none }
def WholeReadsWrongFalsely : Prop := wholeReadsRow.holds Try.pinned (OpenSpec.ofChange wholeReadsWrong)

/-- 'quittancelaw03.WholeWrites': WHATEVER THE INPUT: true; the input reads as it did. -/
def wholeWritesSpec : ChangeSpec := { name := "wholeWrites", fn := fun _ => fun
  | [d1, d2, d3] => { results := [.lit (.bool true)], args := [d1, d2, d3] }
  | _ => none }
def wholeWritesRow : OpenClaim := { program := "ytppmfjopokkhmaa", sum := "31bf0bee8978b84ac1d5cb0c2e6189e4b25e62d851f606823cfe782f114fbf91", func := "quittance/quittancelaw03.WholeWrites", spec := "wholeWrites", unfollowed := true, recurses := true, apart := false }
def WholeWritesSaid : Prop := wholeWritesRow.holds Try.pinned (OpenSpec.ofChange wholeWritesSpec)

/-- ITS FALSE NEIGHBOUR: 'it returns false'. Refute it at one input. -/
def wholeWritesWrong : ChangeSpec := { name := "wholeWrites", fn := fun _ => fun
  | [d1, d2, d3] => { results := [.lit (.bool false)], args := [d1, d2, d3] }
  | _ => none }
def WholeWritesWrongFalsely : Prop := wholeWritesRow.holds Try.pinned (OpenSpec.ofChange wholeWritesWrong)

/- THE SECOND FORM. 'bulk': how many values and letters a reading holds, each counted each time it is reached (what is shared counts as often as it is met; a slice's spare places count too). A statement '..UptoSaid' is the law's where the arguments, and the package variables that the reading takes, are together of bulk at most 1048576: NARROWER than '..Said'. Prove '..Said' where nothing that the law and all that it calls make is longer than what came in: it says more and counts as full. Else prove '..UptoSaid'. A law counts once. -/
mutual
def uptoBulk {H : Type} : DataW H → Nat
  | .lit (.string bytes) => bytes.length + 1
  | .lit _ => 1
  | .nil => 1
  | .ptr d => uptoBulk d + 1
  | .slice elems spare => uptoBulkAll elems + uptoBulkAll spare + 1
  | .agg parts => uptoBulkAll parts + 1
  | .iface _ d => uptoBulk d + 1
  | .map entries => uptoBulkEntries entries + 1
  | .held _ => 1
def uptoBulkAll {H : Type} : List (DataW H) → Nat
  | [] => 0
  | d :: r => uptoBulk d + uptoBulkAll r
def uptoBulkEntries {H : Type} : List (Lit × DataW H) → Nat
  | [] => 0
  | x :: r => uptoBulkEntry x + uptoBulkEntries r
def uptoBulkEntry {H : Type} : Lit × DataW H → Nat
  | (.string bytes, d) => bytes.length + uptoBulk d + 1
  | (_, d) => uptoBulk d + 1
 end
def uptoSmall : (H : Type) → List (DataW H) → Bool := fun _ ds => decide (uptoBulkAll ds ≤ 1048576)
def OpenSpec.upto (s : _root_.Go.ChangeSpec) : _root_.Go.OpenSpec := { _root_.Go.OpenSpec.ofChange s with cond := some uptoSmall }

/-- 'quittancelaw03.WholeContents', WHERE WHAT IT READS IS OF BULK AT MOST 1048576: true; the input reads as it did. -/
def wholeContentsUptoRow : OpenClaim := { program := "ytppmfjopokkhmaa", sum := "31bf0bee8978b84ac1d5cb0c2e6189e4b25e62d851f606823cfe782f114fbf91", func := "quittance/quittancelaw03.WholeContents", spec := "wholeContents", apart := false, narrowed := true }
def WholeContentsUptoSaid : Prop := wholeContentsUptoRow.holds Try.pinned (OpenSpec.upto wholeContentsSpec)

/-- 'quittancelaw03.WholeInts', WHERE WHAT IT READS IS OF BULK AT MOST 1048576: true; the input reads as it did. -/
def wholeIntsUptoRow : OpenClaim := { program := "ytppmfjopokkhmaa", sum := "31bf0bee8978b84ac1d5cb0c2e6189e4b25e62d851f606823cfe782f114fbf91", func := "quittance/quittancelaw03.WholeInts", spec := "wholeInts", apart := false, narrowed := true }
def WholeIntsUptoSaid : Prop := wholeIntsUptoRow.holds Try.pinned (OpenSpec.upto wholeIntsSpec)

/-- 'quittancelaw03.WholeTexts', WHERE WHAT IT READS IS OF BULK AT MOST 1048576: true; the input reads as it did. -/
def wholeTextsUptoRow : OpenClaim := { program := "ytppmfjopokkhmaa", sum := "31bf0bee8978b84ac1d5cb0c2e6189e4b25e62d851f606823cfe782f114fbf91", func := "quittance/quittancelaw03.WholeTexts", spec := "wholeTexts", apart := false, narrowed := true }
def WholeTextsUptoSaid : Prop := wholeTextsUptoRow.holds Try.pinned (OpenSpec.upto wholeTextsSpec)

/-- 'quittancelaw12.MacSums', WHERE WHAT IT READS IS OF BULK AT MOST 1048576: true; the input reads as it did. -/
def macSumsUptoRow : OpenClaim := { program := "ytppmfjopokkhmaa", sum := "31bf0bee8978b84ac1d5cb0c2e6189e4b25e62d851f606823cfe782f114fbf91", func := "quittance/quittancelaw12.MacSums", spec := "macSums", apart := false, narrowed := true }
def MacSumsUptoSaid : Prop := macSumsUptoRow.holds Try.pinned (OpenSpec.upto macSumsSpec)

/-- 'quittancelaw12.MacParts', WHERE WHAT IT READS IS OF BULK AT MOST 1048576: true; the input reads as it did. -/
def macPartsUptoRow : OpenClaim := { program := "ytppmfjopokkhmaa", sum := "31bf0bee8978b84ac1d5cb0c2e6189e4b25e62d851f606823cfe782f114fbf91", func := "quittance/quittancelaw12.MacParts", spec := "macParts", apart := false, narrowed := true }
def MacPartsUptoSaid : Prop := macPartsUptoRow.holds Try.pinned (OpenSpec.upto macPartsSpec)

/-- 'quittancelaw12.MacCopies', WHERE WHAT IT READS IS OF BULK AT MOST 1048576: true; the input reads as it did. -/
def macCopiesUptoRow : OpenClaim := { program := "ytppmfjopokkhmaa", sum := "31bf0bee8978b84ac1d5cb0c2e6189e4b25e62d851f606823cfe782f114fbf91", func := "quittance/quittancelaw12.MacCopies", spec := "macCopies", apart := false, narrowed := true }
def MacCopiesUptoSaid : Prop := macCopiesUptoRow.holds Try.pinned (OpenSpec.upto macCopiesSpec)

/-- 'quittancelaw12.MacSame', WHERE WHAT IT READS IS OF BULK AT MOST 1048576: true; the input reads as it did. -/
def macSameUptoRow : OpenClaim := { program := "ytppmfjopokkhmaa", sum := "31bf0bee8978b84ac1d5cb0c2e6189e4b25e62d851f606823cfe782f114fbf91", func := "quittance/quittancelaw12.MacSame", spec := "macSame", apart := false, narrowed := true }
def MacSameUptoSaid : Prop := macSameUptoRow.holds Try.pinned (OpenSpec.upto macSameSpec)

/-- 'quittancelaw12.MacTags', WHERE WHAT IT READS IS OF BULK AT MOST 1048576: true; the input reads as it did. -/
def macTagsUptoRow : OpenClaim := { program := "ytppmfjopokkhmaa", sum := "31bf0bee8978b84ac1d5cb0c2e6189e4b25e62d851f606823cfe782f114fbf91", func := "quittance/quittancelaw12.MacTags", spec := "macTags", apart := false, narrowed := true }
def MacTagsUptoSaid : Prop := macTagsUptoRow.holds Try.pinned (OpenSpec.upto macTagsSpec)

/-- 'quittancelaw03.WholeRules', WHERE WHAT IT READS IS OF BULK AT MOST 1048576: true; the input reads as it did. -/
def wholeRulesUptoRow : OpenClaim := { program := "ytppmfjopokkhmaa", sum := "31bf0bee8978b84ac1d5cb0c2e6189e4b25e62d851f606823cfe782f114fbf91", func := "quittance/quittancelaw03.WholeRules", spec := "wholeRules", unfollowed := true, recurses := true, apart := false, narrowed := true }
def WholeRulesUptoSaid : Prop := wholeRulesUptoRow.holds Try.pinned (OpenSpec.upto wholeRulesSpec)

/-- 'quittancelaw03.WholeSums', WHERE WHAT IT READS IS OF BULK AT MOST 1048576: true; the input reads as it did. -/
def wholeSumsUptoRow : OpenClaim := { program := "ytppmfjopokkhmaa", sum := "31bf0bee8978b84ac1d5cb0c2e6189e4b25e62d851f606823cfe782f114fbf91", func := "quittance/quittancelaw03.WholeSums", spec := "wholeSums", unfollowed := true, recurses := true, apart := false, narrowed := true }
def WholeSumsUptoSaid : Prop := wholeSumsUptoRow.holds Try.pinned (OpenSpec.upto wholeSumsSpec)

/-- 'quittancelaw03.WholeReads', WHERE WHAT IT READS IS OF BULK AT MOST 1048576: true; the input reads as it did. -/
def wholeReadsUptoRow : OpenClaim := { program := "ytppmfjopokkhmaa", sum := "31bf0bee8978b84ac1d5cb0c2e6189e4b25e62d851f606823cfe782f114fbf91", func := "quittance/quittancelaw03.WholeReads", spec := "wholeReads", unfollowed := true, recurses := true, apart := false, narrowed := true }
def WholeReadsUptoSaid : Prop := wholeReadsUptoRow.holds Try.pinned (OpenSpec.upto wholeReadsSpec)

/-- 'quittancelaw03.WholeWrites', WHERE WHAT IT READS IS OF BULK AT MOST 1048576: true; the input reads as it did. -/
def wholeWritesUptoRow : OpenClaim := { program := "ytppmfjopokkhmaa", sum := "31bf0bee8978b84ac1d5cb0c2e6189e4b25e62d851f606823cfe782f114fbf91", func := "quittance/quittancelaw03.WholeWrites", spec := "wholeWrites", unfollowed := true, recurses := true, apart := false, narrowed := true }
def WholeWritesUptoSaid : Prop := wholeWritesUptoRow.holds Try.pinned (OpenSpec.upto wholeWritesSpec)

end Rows
end Go.Proofs.Ytppmfjopokkhmaa
