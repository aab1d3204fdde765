/-
  No cell of these rows narrows 'for every input' (looked for: loops, veiled, ifaces, maps, wideKeys, modest, calm, conditions, laid).
  DERIVED. THE GIVEN ROWS OF THIS SEAT. 6 by the template 'for every input the law returns true; each argument reads behind the call as it read before'; 0 by the template 'total and deterministic' (their statements: YthoaneleeabadaaGreatTotals.lean).
  GIVEN WITH THE SEED: the statements are not yours to turn. If you find one false, say at which input.
  Laid BY PROGRAM, IN A SANDBOX (cutbox-rows.mjs): the forced cells as the released guide's own fill.sh prints them over the translation bd98d88db367b529… (all of the seat's roots in one cut). By AI agents, Wed Nov 11 2026. No macro, syntax, notation, axiom, sorry.
-/
import Derived.Test.YthoaneleeabadaaGreatChecked
import GoSem.Claim
import GoSem.ClaimJoined
import GoSem.ClaimMapViews
import Derived.JoinedTies
import Derived.KernelRfl
namespace Go.Proofs.YthoaneleeabadaaGreat
/- THE CELL 'sum', in the pinned program and in every row, IS THE sha256 OF THE DUMP (.gsa) THAT YthoaneleeabadaaGreatProg.lean LOADS. Nothing in Lean hashes anything: it is a label: what it is worth is what the hold of that sum in a sandbox is worth. -/
noncomputable def Tryz.pinned : Pinned := { name := "ythoaneleeabadaagreat", sum := "bd98d88db367b529824883fd7035a07c9133e6222036e9232795ec43f8b2a311", checked := Tryz.checked }
namespace Rows
def none {H : Type} : Left H := { results := [], args := [] }

/-- 'quittancelaw18.AlgoWrites': WHATEVER THE INPUT: true; the input reads as it did. -/
def algoWritesSpec : ChangeSpec := { name := "algoWrites", fn := fun _ => fun
  | [d] => { results := [.lit (.bool true)], args := [d] }
  | _ => none }
def algoWritesRow : OpenClaim := { program := "ythoaneleeabadaagreat", sum := "bd98d88db367b529824883fd7035a07c9133e6222036e9232795ec43f8b2a311", func := "quittance/quittancelaw18.AlgoWrites", spec := "algoWrites", unfollowed := true, recurses := true, apart := false }
def AlgoWritesSaid : Prop := algoWritesRow.holds Tryz.pinned (OpenSpec.ofChange algoWritesSpec)

/-- ITS FALSE NEIGHBOUR: 'it returns false'. Refute it at one input. -/
def algoWritesWrong : ChangeSpec := { name := "algoWrites", fn := fun _ => fun
  | [d] => { results := [.lit (.bool false)], args := [d] }
  | _ => none }
def AlgoWritesWrongFalsely : Prop := algoWritesRow.holds Tryz.pinned (OpenSpec.ofChange algoWritesWrong)

/-- 'quittancelaw19.SealMakes': WHATEVER THE INPUT: true; the input reads as it did. -/
def sealMakesSpec : ChangeSpec := { name := "sealMakes", fn := fun _ => fun
  | [d1, d2, d3] => { results := [.lit (.bool true)], args := [d1, d2, d3] }
  | _ => none }
def sealMakesRow : OpenClaim := { program := "ythoaneleeabadaagreat", sum := "bd98d88db367b529824883fd7035a07c9133e6222036e9232795ec43f8b2a311", func := "quittance/quittancelaw19.SealMakes", spec := "sealMakes", unfollowed := true, recurses := true, apart := false }
def SealMakesSaid : Prop := sealMakesRow.holds Tryz.pinned (OpenSpec.ofChange sealMakesSpec)

/-- ITS FALSE NEIGHBOUR: 'it returns false'. Refute it at one input. -/
def sealMakesWrong : ChangeSpec := { name := "sealMakes", fn := fun _ => fun
  | [d1, d2, d3] => { results := [.lit (.bool false)], args := [d1, d2, d3] }
  | _ => none }
def SealMakesWrongFalsely : Prop := sealMakesRow.holds Tryz.pinned (OpenSpec.ofChange sealMakesWrong)

/-- 'quittancelaw19.SealChecks': WHATEVER THE INPUT: true; the input reads as it did. -/
def sealChecksSpec : ChangeSpec := { name := "sealChecks", fn := fun _ => fun
  | [d1, d2, d3, d4, d5] => { results := [.lit (.bool true)], args := [d1, d2, d3, d4, d5] }
  | _ => none }
def sealChecksRow : OpenClaim := { program := "ythoaneleeabadaagreat", sum := "bd98d88db367b529824883fd7035a07c9133e6222036e9232795ec43f8b2a311", func := "quittance/quittancelaw19.SealChecks", spec := "sealChecks", unfollowed := true, recurses := true, apart := false }
def SealChecksSaid : Prop := sealChecksRow.holds Tryz.pinned (OpenSpec.ofChange sealChecksSpec)

/-- ITS FALSE NEIGHBOUR: 'it returns false'. Refute it at one input. -/
def sealChecksWrong : ChangeSpec := { name := "sealChecks", fn := fun _ => fun
  | [d1, d2, d3, d4, d5] => { results := [.lit (.bool false)], args := [d1, d2, d3, d4, d5] }
  | _ => none }
def SealChecksWrongFalsely : Prop := sealChecksRow.holds Tryz.pinned (OpenSpec.ofChange sealChecksWrong)

/-- 'quittancelaw19.SealReads': WHATEVER THE INPUT: true; the input reads as it did. -/
def sealReadsSpec : ChangeSpec := { name := "sealReads", fn := fun _ => fun
  | [d] => { results := [.lit (.bool true)], args := [d] }
  | _ => none }
def sealReadsRow : OpenClaim := { program := "ythoaneleeabadaagreat", sum := "bd98d88db367b529824883fd7035a07c9133e6222036e9232795ec43f8b2a311", func := "quittance/quittancelaw19.SealReads", spec := "sealReads", unfollowed := true, recurses := true, apart := false }
def SealReadsSaid : Prop := sealReadsRow.holds Tryz.pinned (OpenSpec.ofChange sealReadsSpec)

/-- ITS FALSE NEIGHBOUR: 'it returns false'. Refute it at one input. -/
def sealReadsWrong : ChangeSpec := { name := "sealReads", fn := fun _ => fun
  | [d] => { results := [.lit (.bool false)], args := [d] }
  | _ => none }
def SealReadsWrongFalsely : Prop := sealReadsRow.holds Tryz.pinned (OpenSpec.ofChange sealReadsWrong)

/-- 'quittancelaw19.SealBack': WHATEVER THE INPUT: true; the input reads as it did. -/
def sealBackSpec : ChangeSpec := { name := "sealBack", fn := fun _ => fun
  | [d] => { results := [.lit (.bool true)], args := [d] }
  | _ => none }
def sealBackRow : OpenClaim := { program := "ythoaneleeabadaagreat", sum := "bd98d88db367b529824883fd7035a07c9133e6222036e9232795ec43f8b2a311", func := "quittance/quittancelaw19.SealBack", spec := "sealBack", unfollowed := true, recurses := true, apart := false }
def SealBackSaid : Prop := sealBackRow.holds Tryz.pinned (OpenSpec.ofChange sealBackSpec)

/-- ITS FALSE NEIGHBOUR: 'it returns false'. Refute it at one input. -/
def sealBackWrong : ChangeSpec := { name := "sealBack", fn := fun _ => fun
  | [d] => { results := [.lit (.bool false)], args := [d] }
  | _ => none }
def SealBackWrongFalsely : Prop := sealBackRow.holds Tryz.pinned (OpenSpec.ofChange sealBackWrong)

/-- 'quittancelaw19.SealWrites': WHATEVER THE INPUT: true; the input reads as it did. -/
def sealWritesSpec : ChangeSpec := { name := "sealWrites", fn := fun _ => fun
  | [d1, d2] => { results := [.lit (.bool true)], args := [d1, d2] }
  | _ => none }
def sealWritesRow : OpenClaim := { program := "ythoaneleeabadaagreat", sum := "bd98d88db367b529824883fd7035a07c9133e6222036e9232795ec43f8b2a311", func := "quittance/quittancelaw19.SealWrites", spec := "sealWrites", unfollowed := true, recurses := true, apart := false }
def SealWritesSaid : Prop := sealWritesRow.holds Tryz.pinned (OpenSpec.ofChange sealWritesSpec)

/-- ITS FALSE NEIGHBOUR: 'it returns false'. Refute it at one input. -/
def sealWritesWrong : ChangeSpec := { name := "sealWrites", fn := fun _ => fun
  | [d1, d2] => { results := [.lit (.bool false)], args := [d1, d2] }
  | _ => none }
def SealWritesWrongFalsely : Prop := sealWritesRow.holds Tryz.pinned (OpenSpec.ofChange sealWritesWrong)

/- THE SECOND FORM. 'bulk': how many values and letters a reading holds, each counted each time it is reached (what is shared counts as often as it is met; a slice's spare places count too). A statement '..UptoSaid' is the law's where the arguments, and the package variables that the reading takes, are together of bulk at most 1048576: NARROWER than '..Said'. Prove '..Said' where nothing that the law and all that it calls make is longer than what came in: it says more and counts as full. Else prove '..UptoSaid'. A law counts once. -/
mutual
def uptoBulk {H : Type} : DataW H → Nat
  | .lit (.string bytes) => bytes.length + 1
  | .lit _ => 1
  | .nil => 1
  | .ptr d => uptoBulk d + 1
  | .slice elems spare => uptoBulkAll elems + uptoBulkAll spare + 1
  | .agg parts => uptoBulkAll parts + 1
  | .iface _ d => uptoBulk d + 1
  | .map entries => uptoBulkEntries entries + 1
  | .held _ => 1
def uptoBulkAll {H : Type} : List (DataW H) → Nat
  | [] => 0
  | d :: r => uptoBulk d + uptoBulkAll r
def uptoBulkEntries {H : Type} : List (Lit × DataW H) → Nat
  | [] => 0
  | x :: r => uptoBulkEntry x + uptoBulkEntries r
def uptoBulkEntry {H : Type} : Lit × DataW H → Nat
  | (.string bytes, d) => bytes.length + uptoBulk d + 1
  | (_, d) => uptoBulk d + 1
 end
def uptoSmall : (H : Type) → List (DataW H) → Bool := fun _ ds => decide (uptoBulkAll ds ≤ 1048576)
def OpenSpec.upto (s : _root_.Go.ChangeSpec) : _root_.Go.OpenSpec := { _root_.Go.OpenSpec.ofChange s with cond := some uptoSmall }

/-- 'quittancelaw18.AlgoWrites', WHERE WHAT IT READS IS OF BULK AT MOST 1048576: true; the input reads as it did. -/
def algoWritesUptoRow : OpenClaim := { program := "ythoaneleeabadaagreat", sum := "bd98d88db367b529824883fd7035a07c9133e6222036e9232795ec43f8b2a311", func := "quittance/quittancelaw18.AlgoWrites", spec := "algoWrites", unfollowed := true, recurses := true, apart := false, narrowed := true }
def AlgoWritesUptoSaid : Prop := algoWritesUptoRow.holds Tryz.pinned (OpenSpec.upto algoWritesSpec)

/-- 'quittancelaw19.SealMakes', WHERE WHAT IT READS IS OF BULK AT MOST 1048576: true; the input reads as it did. -/
def sealMakesUptoRow : OpenClaim := { program := "ythoaneleeabadaagreat", sum := "bd98d88db367b529824883fd7035a07c9133e6222036e9232795ec43f8b2a311", func := "quittance/quittancelaw19.SealMakes", spec := "sealMakes", unfollowed := true, recurses := true, apart := false, narrowed := true }
def SealMakesUptoSaid : Prop := sealMakesUptoRow.holds Tryz.pinned (OpenSpec.upto sealMakesSpec)

/-- 'quittancelaw19.SealChecks', WHERE WHAT IT READS IS OF BULK AT MOST 1048576: true; the input reads as it did. -/
def sealChecksUptoRow : OpenClaim := { program := "ythoaneleeabadaagreat", sum := "bd98d88db367b529824883fd7035a07c9133e6222036e9232795ec43f8b2a311", func := "quittance/quittancelaw19.SealChecks", spec := "sealChecks", unfollowed := true, recurses := true, apart := false, narrowed := true }
def SealChecksUptoSaid : Prop := sealChecksUptoRow.holds Tryz.pinned (OpenSpec.upto sealChecksSpec)

/-- 'quittancelaw19.SealReads', WHERE WHAT IT READS IS OF BULK AT MOST 1048576: true; the input reads as it did. -/
def sealReadsUptoRow : OpenClaim := { program := "ythoaneleeabadaagreat", sum := "bd98d88db367b529824883fd7035a07c9133e6222036e9232795ec43f8b2a311", func := "quittance/quittancelaw19.SealReads", spec := "sealReads", unfollowed := true, recurses := true, apart := false, narrowed := true }
def SealReadsUptoSaid : Prop := sealReadsUptoRow.holds Tryz.pinned (OpenSpec.upto sealReadsSpec)

/-- 'quittancelaw19.SealBack', WHERE WHAT IT READS IS OF BULK AT MOST 1048576: true; the input reads as it did. -/
def sealBackUptoRow : OpenClaim := { program := "ythoaneleeabadaagreat", sum := "bd98d88db367b529824883fd7035a07c9133e6222036e9232795ec43f8b2a311", func := "quittance/quittancelaw19.SealBack", spec := "sealBack", unfollowed := true, recurses := true, apart := false, narrowed := true }
def SealBackUptoSaid : Prop := sealBackUptoRow.holds Tryz.pinned (OpenSpec.upto sealBackSpec)

/-- 'quittancelaw19.SealWrites', WHERE WHAT IT READS IS OF BULK AT MOST 1048576: true; the input reads as it did. -/
def sealWritesUptoRow : OpenClaim := { program := "ythoaneleeabadaagreat", sum := "bd98d88db367b529824883fd7035a07c9133e6222036e9232795ec43f8b2a311", func := "quittance/quittancelaw19.SealWrites", spec := "sealWrites", unfollowed := true, recurses := true, apart := false, narrowed := true }
def SealWritesUptoSaid : Prop := sealWritesUptoRow.holds Tryz.pinned (OpenSpec.upto sealWritesSpec)

end Rows
end Go.Proofs.YthoaneleeabadaaGreat
