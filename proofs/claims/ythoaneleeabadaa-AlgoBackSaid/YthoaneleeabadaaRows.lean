/-
  No cell of these rows narrows 'for every input' (looked for: loops, veiled, ifaces, maps, wideKeys, modest, calm, conditions, laid).
  DERIVED. THE GIVEN ROWS OF THIS SEAT. 6 by the template 'for every input the law returns true; each argument reads behind the call as it read before'; 0 by the template 'total and deterministic' (their statements: YthoaneleeabadaaTotals.lean).
  GIVEN WITH THE SEED: the statements are not yours to turn. If you find one false, say at which input.
  Laid BY PROGRAM, IN A SANDBOX (cutbox-rows.mjs): the forced cells as the released guide's own fill.sh prints them over the translation b1a5c90c13a7694a… (all of the seat's roots in one cut). By AI agents, Wed Nov 11 2026. No macro, syntax, notation, axiom, sorry.
-/
import Derived.Test.YthoaneleeabadaaChecked
import GoSem.Claim
import GoSem.ClaimJoined
import GoSem.ClaimMapViews
import Derived.JoinedTies
import Derived.KernelRfl
namespace Go.Proofs.Ythoaneleeabadaa
/- THE CELL 'sum', in the pinned program and in every row, IS THE sha256 OF THE DUMP (.gsa) THAT YthoaneleeabadaaProg.lean LOADS. Nothing in Lean hashes anything: it is a label: what it is worth is what the hold of that sum in a sandbox is worth. -/
noncomputable def Try.pinned : Pinned := { name := "ythoaneleeabadaa", sum := "b1a5c90c13a7694a975055765e6d568f40fec9ff1599210457c39edd3c41944b", checked := Try.checked }
namespace Rows
def none {H : Type} : Left H := { results := [], args := [] }

/-- 'quittancelaw08.BuildPlays': WHATEVER THE INPUT: true; the input reads as it did. -/
def buildPlaysSpec : ChangeSpec := { name := "buildPlays", fn := fun _ => fun
  | [d] => { results := [.lit (.bool true)], args := [d] }
  | _ => none }
def buildPlaysRow : OpenClaim := { program := "ythoaneleeabadaa", sum := "b1a5c90c13a7694a975055765e6d568f40fec9ff1599210457c39edd3c41944b", func := "quittance/quittancelaw08.BuildPlays", spec := "buildPlays", unfollowed := true, recurses := true, apart := false }
def BuildPlaysSaid : Prop := buildPlaysRow.holds Try.pinned (OpenSpec.ofChange buildPlaysSpec)

/-- ITS FALSE NEIGHBOUR: 'it returns false'. Refute it at one input. -/
def buildPlaysWrong : ChangeSpec := { name := "buildPlays", fn := fun _ => fun
  | [d] => { results := [.lit (.bool false)], args := [d] }
  | _ => none }
def BuildPlaysWrongFalsely : Prop := buildPlaysRow.holds Try.pinned (OpenSpec.ofChange buildPlaysWrong)

/-- 'quittancelaw08.BuildWholes': WHATEVER THE INPUT: true; the input reads as it did. -/
def buildWholesSpec : ChangeSpec := { name := "buildWholes", fn := fun _ => fun
  | [d1, d2] => { results := [.lit (.bool true)], args := [d1, d2] }
  | _ => none }
def buildWholesRow : OpenClaim := { program := "ythoaneleeabadaa", sum := "b1a5c90c13a7694a975055765e6d568f40fec9ff1599210457c39edd3c41944b", func := "quittance/quittancelaw08.BuildWholes", spec := "buildWholes", unfollowed := true, recurses := true, apart := false }
def BuildWholesSaid : Prop := buildWholesRow.holds Try.pinned (OpenSpec.ofChange buildWholesSpec)

/-- ITS FALSE NEIGHBOUR: 'it returns false'. Refute it at one input. -/
def buildWholesWrong : ChangeSpec := { name := "buildWholes", fn := fun _ => fun
  | [d1, d2] => { results := [.lit (.bool false)], args := [d1, d2] }
  | _ => none }
def BuildWholesWrongFalsely : Prop := buildWholesRow.holds Try.pinned (OpenSpec.ofChange buildWholesWrong)

/-- 'quittancelaw08.BuildNests': WHATEVER THE INPUT: true; the input reads as it did. -/
def buildNestsSpec : ChangeSpec := { name := "buildNests", fn := fun _ => fun
  | [d1, d2] => { results := [.lit (.bool true)], args := [d1, d2] }
  | _ => none }
def buildNestsRow : OpenClaim := { program := "ythoaneleeabadaa", sum := "b1a5c90c13a7694a975055765e6d568f40fec9ff1599210457c39edd3c41944b", func := "quittance/quittancelaw08.BuildNests", spec := "buildNests", unfollowed := true, recurses := true, apart := false }
def BuildNestsSaid : Prop := buildNestsRow.holds Try.pinned (OpenSpec.ofChange buildNestsSpec)

/-- ITS FALSE NEIGHBOUR: 'it returns false'. Refute it at one input. -/
def buildNestsWrong : ChangeSpec := { name := "buildNests", fn := fun _ => fun
  | [d1, d2] => { results := [.lit (.bool false)], args := [d1, d2] }
  | _ => none }
def BuildNestsWrongFalsely : Prop := buildNestsRow.holds Try.pinned (OpenSpec.ofChange buildNestsWrong)

/-- 'quittancelaw08.BuildSets': WHATEVER THE INPUT: true; the input reads as it did. -/
def buildSetsSpec : ChangeSpec := { name := "buildSets", fn := fun _ => fun
  | [d1, d2] => { results := [.lit (.bool true)], args := [d1, d2] }
  | _ => none }
def buildSetsRow : OpenClaim := { program := "ythoaneleeabadaa", sum := "b1a5c90c13a7694a975055765e6d568f40fec9ff1599210457c39edd3c41944b", func := "quittance/quittancelaw08.BuildSets", spec := "buildSets", unfollowed := true, recurses := true, apart := false }
def BuildSetsSaid : Prop := buildSetsRow.holds Try.pinned (OpenSpec.ofChange buildSetsSpec)

/-- ITS FALSE NEIGHBOUR: 'it returns false'. Refute it at one input. -/
def buildSetsWrong : ChangeSpec := { name := "buildSets", fn := fun _ => fun
  | [d1, d2] => { results := [.lit (.bool false)], args := [d1, d2] }
  | _ => none }
def BuildSetsWrongFalsely : Prop := buildSetsRow.holds Try.pinned (OpenSpec.ofChange buildSetsWrong)

/-- 'quittancelaw18.AlgoReads': WHATEVER THE INPUT: true; the input reads as it did. -/
def algoReadsSpec : ChangeSpec := { name := "algoReads", fn := fun _ => fun
  | [d] => { results := [.lit (.bool true)], args := [d] }
  | _ => none }
def algoReadsRow : OpenClaim := { program := "ythoaneleeabadaa", sum := "b1a5c90c13a7694a975055765e6d568f40fec9ff1599210457c39edd3c41944b", func := "quittance/quittancelaw18.AlgoReads", spec := "algoReads", unfollowed := true, recurses := true, apart := false }
def AlgoReadsSaid : Prop := algoReadsRow.holds Try.pinned (OpenSpec.ofChange algoReadsSpec)

/-- ITS FALSE NEIGHBOUR: 'it returns false'. Refute it at one input. -/
def algoReadsWrong : ChangeSpec := { name := "algoReads", fn := fun _ => fun
  | [d] => { results := [.lit (.bool false)], args := [d] }
  | _ => none }
def AlgoReadsWrongFalsely : Prop := algoReadsRow.holds Try.pinned (OpenSpec.ofChange algoReadsWrong)

/-- 'quittancelaw18.AlgoBack': WHATEVER THE INPUT: true; the input reads as it did. -/
def algoBackSpec : ChangeSpec := { name := "algoBack", fn := fun _ => fun
  | [d1, d2] => { results := [.lit (.bool true)], args := [d1, d2] }
  | _ => none }
def algoBackRow : OpenClaim := { program := "ythoaneleeabadaa", sum := "b1a5c90c13a7694a975055765e6d568f40fec9ff1599210457c39edd3c41944b", func := "quittance/quittancelaw18.AlgoBack", spec := "algoBack", unfollowed := true, recurses := true, apart := false }
def AlgoBackSaid : Prop := algoBackRow.holds Try.pinned (OpenSpec.ofChange algoBackSpec)

/-- ITS FALSE NEIGHBOUR: 'it returns false'. Refute it at one input. -/
def algoBackWrong : ChangeSpec := { name := "algoBack", fn := fun _ => fun
  | [d1, d2] => { results := [.lit (.bool false)], args := [d1, d2] }
  | _ => none }
def AlgoBackWrongFalsely : Prop := algoBackRow.holds Try.pinned (OpenSpec.ofChange algoBackWrong)

/- THE SECOND FORM. 'bulk': how many values and letters a reading holds, each counted each time it is reached (what is shared counts as often as it is met; a slice's spare places count too). A statement '..UptoSaid' is the law's where the arguments, and the package variables that the reading takes, are together of bulk at most 1048576: NARROWER than '..Said'. Prove '..Said' where nothing that the law and all that it calls make is longer than what came in: it says more and counts as full. Else prove '..UptoSaid'. A law counts once. -/
mutual
def uptoBulk {H : Type} : DataW H → Nat
  | .lit (.string bytes) => bytes.length + 1
  | .lit _ => 1
  | .nil => 1
  | .ptr d => uptoBulk d + 1
  | .slice elems spare => uptoBulkAll elems + uptoBulkAll spare + 1
  | .agg parts => uptoBulkAll parts + 1
  | .iface _ d => uptoBulk d + 1
  | .map entries => uptoBulkEntries entries + 1
  | .held _ => 1
def uptoBulkAll {H : Type} : List (DataW H) → Nat
  | [] => 0
  | d :: r => uptoBulk d + uptoBulkAll r
def uptoBulkEntries {H : Type} : List (Lit × DataW H) → Nat
  | [] => 0
  | x :: r => uptoBulkEntry x + uptoBulkEntries r
def uptoBulkEntry {H : Type} : Lit × DataW H → Nat
  | (.string bytes, d) => bytes.length + uptoBulk d + 1
  | (_, d) => uptoBulk d + 1
 end
def uptoSmall : (H : Type) → List (DataW H) → Bool := fun _ ds => decide (uptoBulkAll ds ≤ 1048576)
def OpenSpec.upto (s : _root_.Go.ChangeSpec) : _root_.Go.OpenSpec := { _root_.Go.OpenSpec.ofChange s with cond := some uptoSmall }

/-- 'quittancelaw08.BuildPlays', WHERE WHAT IT READS IS OF BULK AT MOST 1048576: true; the input reads as it did. -/
def buildPlaysUptoRow : OpenClaim := { program := "ythoaneleeabadaa", sum := "b1a5c90c13a7694a975055765e6d568f40fec9ff1599210457c39edd3c41944b", func := "quittance/quittancelaw08.BuildPlays", spec := "buildPlays", unfollowed := true, recurses := true, apart := false, narrowed := true }
def BuildPlaysUptoSaid : Prop := buildPlaysUptoRow.holds Try.pinned (OpenSpec.upto buildPlaysSpec)

/-- 'quittancelaw08.BuildWholes', WHERE WHAT IT READS IS OF BULK AT MOST 1048576: true; the input reads as it did. -/
def buildWholesUptoRow : OpenClaim := { program := "ythoaneleeabadaa", sum := "b1a5c90c13a7694a975055765e6d568f40fec9ff1599210457c39edd3c41944b", func := "quittance/quittancelaw08.BuildWholes", spec := "buildWholes", unfollowed := true, recurses := true, apart := false, narrowed := true }
def BuildWholesUptoSaid : Prop := buildWholesUptoRow.holds Try.pinned (OpenSpec.upto buildWholesSpec)

/-- 'quittancelaw08.BuildNests', WHERE WHAT IT READS IS OF BULK AT MOST 1048576: true; the input reads as it did. -/
def buildNestsUptoRow : OpenClaim := { program := "ythoaneleeabadaa", sum := "b1a5c90c13a7694a975055765e6d568f40fec9ff1599210457c39edd3c41944b", func := "quittance/quittancelaw08.BuildNests", spec := "buildNests", unfollowed := true, recurses := true, apart := false, narrowed := true }
def BuildNestsUptoSaid : Prop := buildNestsUptoRow.holds Try.pinned (OpenSpec.upto buildNestsSpec)

/-- 'quittancelaw08.BuildSets', WHERE WHAT IT READS IS OF BULK AT MOST 1048576: true; the input reads as it did. -/
def buildSetsUptoRow : OpenClaim := { program := "ythoaneleeabadaa", sum := "b1a5c90c13a7694a975055765e6d568f40fec9ff1599210457c39edd3c41944b", func := "quittance/quittancelaw08.BuildSets", spec := "buildSets", unfollowed := true, recurses := true, apart := false, narrowed := true }
def BuildSetsUptoSaid : Prop := buildSetsUptoRow.holds Try.pinned (OpenSpec.upto buildSetsSpec)

/-- 'quittancelaw18.AlgoReads', WHERE WHAT IT READS IS OF BULK AT MOST 1048576: true; the input reads as it did. -/
def algoReadsUptoRow : OpenClaim := { program := "ythoaneleeabadaa", sum := "b1a5c90c13a7694a975055765e6d568f40fec9ff1599210457c39edd3c41944b", func := "quittance/quittancelaw18.AlgoReads", spec := "algoReads", unfollowed := true, recurses := true, apart := false, narrowed := true }
def AlgoReadsUptoSaid : Prop := algoReadsUptoRow.holds Try.pinned (OpenSpec.upto algoReadsSpec)

/-- 'quittancelaw18.AlgoBack', WHERE WHAT IT READS IS OF BULK AT MOST 1048576: true; the input reads as it did. -/
def algoBackUptoRow : OpenClaim := { program := "ythoaneleeabadaa", sum := "b1a5c90c13a7694a975055765e6d568f40fec9ff1599210457c39edd3c41944b", func := "quittance/quittancelaw18.AlgoBack", spec := "algoBack", unfollowed := true, recurses := true, apart := false, narrowed := true }
def AlgoBackUptoSaid : Prop := algoBackUptoRow.holds Try.pinned (OpenSpec.upto algoBackSpec)

end Rows
end Go.Proofs.Ythoaneleeabadaa
