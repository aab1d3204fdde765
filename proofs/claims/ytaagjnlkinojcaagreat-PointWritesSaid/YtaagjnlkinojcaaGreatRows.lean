/-
  No cell of these rows narrows 'for every input' (looked for: loops, veiled, ifaces, maps, wideKeys, modest, calm, conditions, laid).
  DERIVED. THE GIVEN ROWS OF THIS SEAT. 6 by the template 'for every input the law returns true; each argument reads behind the call as it read before'; 0 by the template 'total and deterministic' (their statements: YtaagjnlkinojcaaGreatTotals.lean).
  GIVEN WITH THE SEED: the statements are not yours to turn. If you find one false, say at which input.
  Laid BY PROGRAM, IN A SANDBOX (cutbox-rows.mjs): the forced cells as the released guide's own fill.sh prints them over the translation 555f51c47ae4b9ec… (all of the seat's roots in one cut). By AI agents, Wed Nov 11 2026. No macro, syntax, notation, axiom, sorry.
-/
import Derived.Test.YtaagjnlkinojcaaGreatChecked
import GoSem.Claim
import GoSem.ClaimJoined
import GoSem.ClaimMapViews
import Derived.JoinedTies
import Derived.KernelRfl
namespace Go.Proofs.YtaagjnlkinojcaaGreat
/- THE CELL 'sum', in the pinned program and in every row, IS THE sha256 OF THE DUMP (.gsa) THAT YtaagjnlkinojcaaGreatProg.lean LOADS. Nothing in Lean hashes anything: it is a label: what it is worth is what the hold of that sum in a sandbox is worth. -/
noncomputable def Tryz.pinned : Pinned := { name := "ytaagjnlkinojcaagreat", sum := "555f51c47ae4b9ecd1c85373f3c3c08780c3d13bde8b020b24741d06603b08a9", checked := Tryz.checked }
namespace Rows
def none {H : Type} : Left H := { results := [], args := [] }

/-- 'quittancelaw16.PointMasks': WHATEVER THE INPUT: true; the input reads as it did. -/
def pointMasksSpec : ChangeSpec := { name := "pointMasks", fn := fun _ => fun
  | [d1, d2] => { results := [.lit (.bool true)], args := [d1, d2] }
  | _ => none }
def pointMasksRow : OpenClaim := { program := "ytaagjnlkinojcaagreat", sum := "555f51c47ae4b9ecd1c85373f3c3c08780c3d13bde8b020b24741d06603b08a9", func := "quittance/quittancelaw16.PointMasks", spec := "pointMasks", unfollowed := true, recurses := true, apart := false }
def PointMasksSaid : Prop := pointMasksRow.holds Tryz.pinned (OpenSpec.ofChange pointMasksSpec)

/-- ITS FALSE NEIGHBOUR: 'it returns false'. Refute it at one input. -/
def pointMasksWrong : ChangeSpec := { name := "pointMasks", fn := fun _ => fun
  | [d1, d2] => { results := [.lit (.bool false)], args := [d1, d2] }
  | _ => none }
def PointMasksWrongFalsely : Prop := pointMasksRow.holds Tryz.pinned (OpenSpec.ofChange pointMasksWrong)

/-- 'quittancelaw16.PointReads': WHATEVER THE INPUT: true; the input reads as it did. -/
def pointReadsSpec : ChangeSpec := { name := "pointReads", fn := fun _ => fun
  | [d] => { results := [.lit (.bool true)], args := [d] }
  | _ => none }
def pointReadsRow : OpenClaim := { program := "ytaagjnlkinojcaagreat", sum := "555f51c47ae4b9ecd1c85373f3c3c08780c3d13bde8b020b24741d06603b08a9", func := "quittance/quittancelaw16.PointReads", spec := "pointReads", unfollowed := true, recurses := true, apart := false }
def PointReadsSaid : Prop := pointReadsRow.holds Tryz.pinned (OpenSpec.ofChange pointReadsSpec)

/-- ITS FALSE NEIGHBOUR: 'it returns false'. Refute it at one input. -/
def pointReadsWrong : ChangeSpec := { name := "pointReads", fn := fun _ => fun
  | [d] => { results := [.lit (.bool false)], args := [d] }
  | _ => none }
def PointReadsWrongFalsely : Prop := pointReadsRow.holds Tryz.pinned (OpenSpec.ofChange pointReadsWrong)

/-- 'quittancelaw16.PointExpands': WHATEVER THE INPUT: true; the input reads as it did. -/
def pointExpandsSpec : ChangeSpec := { name := "pointExpands", fn := fun _ => fun
  | [d1, d2] => { results := [.lit (.bool true)], args := [d1, d2] }
  | _ => none }
def pointExpandsRow : OpenClaim := { program := "ytaagjnlkinojcaagreat", sum := "555f51c47ae4b9ecd1c85373f3c3c08780c3d13bde8b020b24741d06603b08a9", func := "quittance/quittancelaw16.PointExpands", spec := "pointExpands", unfollowed := true, recurses := true, apart := false }
def PointExpandsSaid : Prop := pointExpandsRow.holds Tryz.pinned (OpenSpec.ofChange pointExpandsSpec)

/-- ITS FALSE NEIGHBOUR: 'it returns false'. Refute it at one input. -/
def pointExpandsWrong : ChangeSpec := { name := "pointExpands", fn := fun _ => fun
  | [d1, d2] => { results := [.lit (.bool false)], args := [d1, d2] }
  | _ => none }
def PointExpandsWrongFalsely : Prop := pointExpandsRow.holds Tryz.pinned (OpenSpec.ofChange pointExpandsWrong)

/-- 'quittancelaw16.PointScopes': WHATEVER THE INPUT: true; the input reads as it did. -/
def pointScopesSpec : ChangeSpec := { name := "pointScopes", fn := fun _ => fun
  | [d1, d2] => { results := [.lit (.bool true)], args := [d1, d2] }
  | _ => none }
def pointScopesRow : OpenClaim := { program := "ytaagjnlkinojcaagreat", sum := "555f51c47ae4b9ecd1c85373f3c3c08780c3d13bde8b020b24741d06603b08a9", func := "quittance/quittancelaw16.PointScopes", spec := "pointScopes", unfollowed := true, recurses := true, apart := false }
def PointScopesSaid : Prop := pointScopesRow.holds Tryz.pinned (OpenSpec.ofChange pointScopesSpec)

/-- ITS FALSE NEIGHBOUR: 'it returns false'. Refute it at one input. -/
def pointScopesWrong : ChangeSpec := { name := "pointScopes", fn := fun _ => fun
  | [d1, d2] => { results := [.lit (.bool false)], args := [d1, d2] }
  | _ => none }
def PointScopesWrongFalsely : Prop := pointScopesRow.holds Tryz.pinned (OpenSpec.ofChange pointScopesWrong)

/-- 'quittancelaw16.PointWrites': WHATEVER THE INPUT: true; the input reads as it did. -/
def pointWritesSpec : ChangeSpec := { name := "pointWrites", fn := fun _ => fun
  | [d] => { results := [.lit (.bool true)], args := [d] }
  | _ => none }
def pointWritesRow : OpenClaim := { program := "ytaagjnlkinojcaagreat", sum := "555f51c47ae4b9ecd1c85373f3c3c08780c3d13bde8b020b24741d06603b08a9", func := "quittance/quittancelaw16.PointWrites", spec := "pointWrites", unfollowed := true, recurses := true, apart := false }
def PointWritesSaid : Prop := pointWritesRow.holds Tryz.pinned (OpenSpec.ofChange pointWritesSpec)

/-- ITS FALSE NEIGHBOUR: 'it returns false'. Refute it at one input. -/
def pointWritesWrong : ChangeSpec := { name := "pointWrites", fn := fun _ => fun
  | [d] => { results := [.lit (.bool false)], args := [d] }
  | _ => none }
def PointWritesWrongFalsely : Prop := pointWritesRow.holds Tryz.pinned (OpenSpec.ofChange pointWritesWrong)

/-- 'quittancelaw16.PointBack': WHATEVER THE INPUT: true; the input reads as it did. -/
def pointBackSpec : ChangeSpec := { name := "pointBack", fn := fun _ => fun
  | [d] => { results := [.lit (.bool true)], args := [d] }
  | _ => none }
def pointBackRow : OpenClaim := { program := "ytaagjnlkinojcaagreat", sum := "555f51c47ae4b9ecd1c85373f3c3c08780c3d13bde8b020b24741d06603b08a9", func := "quittance/quittancelaw16.PointBack", spec := "pointBack", unfollowed := true, recurses := true, apart := false }
def PointBackSaid : Prop := pointBackRow.holds Tryz.pinned (OpenSpec.ofChange pointBackSpec)

/-- ITS FALSE NEIGHBOUR: 'it returns false'. Refute it at one input. -/
def pointBackWrong : ChangeSpec := { name := "pointBack", fn := fun _ => fun
  | [d] => { results := [.lit (.bool false)], args := [d] }
  | _ => none }
def PointBackWrongFalsely : Prop := pointBackRow.holds Tryz.pinned (OpenSpec.ofChange pointBackWrong)

/- THE SECOND FORM. 'bulk': how many values and letters a reading holds, each counted each time it is reached (what is shared counts as often as it is met; a slice's spare places count too). A statement '..UptoSaid' is the law's where the arguments, and the package variables that the reading takes, are together of bulk at most 1048576: NARROWER than '..Said'. Prove '..Said' where nothing that the law and all that it calls make is longer than what came in: it says more and counts as full. Else prove '..UptoSaid'. A law counts once. -/
mutual
def uptoBulk {H : Type} : DataW H → Nat
  | .lit (.string bytes) => bytes.length + 1
  | .lit _ => 1
  | .nil => 1
  | .ptr d => uptoBulk d + 1
  | .slice elems spare => uptoBulkAll elems + uptoBulkAll spare + 1
  | .agg parts => uptoBulkAll parts + 1
  | .iface _ d => uptoBulk d + 1
  | .map entries => uptoBulkEntries entries + 1
  | .held _ => 1
def uptoBulkAll {H : Type} : List (DataW H) → Nat
  | [] => 0
  | d :: r => uptoBulk d + uptoBulkAll r
def uptoBulkEntries {H : Type} : List (Lit × DataW H) → Nat
  | [] => 0
  | x :: r => uptoBulkEntry x + uptoBulkEntries r
def uptoBulkEntry {H : Type} : Lit × DataW H → Nat
  | (.string bytes, d) => bytes.length + uptoBulk d + 1
  | (_, d) => uptoBulk d + 1
 end
def uptoSmall : (H : Type) → List (DataW H) → Bool := fun _ ds => decide (uptoBulkAll ds ≤ 1048576)
def OpenSpec.upto (s : _root_.Go.ChangeSpec) : _root_.Go.OpenSpec := { _root_.Go.OpenSpec.ofChange s with cond := some uptoSmall }

/-- 'quittancelaw16.PointMasks', WHERE WHAT IT READS IS OF BULK AT MOST 1048576: true; the input reads as it did. -/
def pointMasksUptoRow : OpenClaim := { program := "ytaagjnlkinojcaagreat", sum := "555f51c47ae4b9ecd1c85373f3c3c08780c3d13bde8b020b24741d06603b08a9", func := "quittance/quittancelaw16.PointMasks", spec := "pointMasks", unfollowed := true, recurses := true, apart := false, narrowed := true }
def PointMasksUptoSaid : Prop := pointMasksUptoRow.holds Tryz.pinned (OpenSpec.upto pointMasksSpec)

/-- 'quittancelaw16.PointReads', WHERE WHAT IT READS IS OF BULK AT MOST 1048576: true; the input reads as it did. -/
def pointReadsUptoRow : OpenClaim := { program := "ytaagjnlkinojcaagreat", sum := "555f51c47ae4b9ecd1c85373f3c3c08780c3d13bde8b020b24741d06603b08a9", func := "quittance/quittancelaw16.PointReads", spec := "pointReads", unfollowed := true, recurses := true, apart := false, narrowed := true }
def PointReadsUptoSaid : Prop := pointReadsUptoRow.holds Tryz.pinned (OpenSpec.upto pointReadsSpec)

/-- 'quittancelaw16.PointExpands', WHERE WHAT IT READS IS OF BULK AT MOST 1048576: true; the input reads as it did. -/
def pointExpandsUptoRow : OpenClaim := { program := "ytaagjnlkinojcaagreat", sum := "555f51c47ae4b9ecd1c85373f3c3c08780c3d13bde8b020b24741d06603b08a9", func := "quittance/quittancelaw16.PointExpands", spec := "pointExpands", unfollowed := true, recurses := true, apart := false, narrowed := true }
def PointExpandsUptoSaid : Prop := pointExpandsUptoRow.holds Tryz.pinned (OpenSpec.upto pointExpandsSpec)

/-- 'quittancelaw16.PointScopes', WHERE WHAT IT READS IS OF BULK AT MOST 1048576: true; the input reads as it did. -/
def pointScopesUptoRow : OpenClaim := { program := "ytaagjnlkinojcaagreat", sum := "555f51c47ae4b9ecd1c85373f3c3c08780c3d13bde8b020b24741d06603b08a9", func := "quittance/quittancelaw16.PointScopes", spec := "pointScopes", unfollowed := true, recurses := true, apart := false, narrowed := true }
def PointScopesUptoSaid : Prop := pointScopesUptoRow.holds Tryz.pinned (OpenSpec.upto pointScopesSpec)

/-- 'quittancelaw16.PointWrites', WHERE WHAT IT READS IS OF BULK AT MOST 1048576: true; the input reads as it did. -/
def pointWritesUptoRow : OpenClaim := { program := "ytaagjnlkinojcaagreat", sum := "555f51c47ae4b9ecd1c85373f3c3c08780c3d13bde8b020b24741d06603b08a9", func := "quittance/quittancelaw16.PointWrites", spec := "pointWrites", unfollowed := true, recurses := true, apart := false, narrowed := true }
def PointWritesUptoSaid : Prop := pointWritesUptoRow.holds Tryz.pinned (OpenSpec.upto pointWritesSpec)

/-- 'quittancelaw16.PointBack', WHERE WHAT IT READS IS OF BULK AT MOST 1048576: true; the input reads as it did. -/
def pointBackUptoRow : OpenClaim := { program := "ytaagjnlkinojcaagreat", sum := "555f51c47ae4b9ecd1c85373f3c3c08780c3d13bde8b020b24741d06603b08a9", func := "quittance/quittancelaw16.PointBack", spec := "pointBack", unfollowed := true, recurses := true, apart := false, narrowed := true }
def PointBackUptoSaid : Prop := pointBackUptoRow.holds Tryz.pinned (OpenSpec.upto pointBackSpec)

end Rows
end Go.Proofs.YtaagjnlkinojcaaGreat
