/-
  No cell of these rows narrows 'for every input' (looked for: loops, veiled, ifaces, maps, wideKeys, modest, calm, conditions, laid).
  DERIVED. THE GIVEN ROWS OF THIS SEAT. 8 by the template 'for every input the law returns true; each argument reads behind the call as it read before'; 0 by the template 'total and deterministic' (their statements: YthalijmfhllgbaaTotals.lean).
  GIVEN WITH THE SEED: the statements are not yours to turn. If you find one false, say at which input.
  Laid BY PROGRAM, IN A SANDBOX (cutbox-rows.mjs): the forced cells as the released guide's own fill.sh prints them over the translation ec491a219177b04e… (all of the seat's roots in one cut). By AI agents, Wed Nov 11 2026. No macro, syntax, notation, axiom, sorry.
-/
import Derived.Test.YthalijmfhllgbaaChecked
import GoSem.Claim
import GoSem.ClaimJoined
import GoSem.ClaimMapViews
import Derived.JoinedTies
import Derived.KernelRfl
namespace Go.Proofs.Ythalijmfhllgbaa
/- THE CELL 'sum', in the pinned program and in every row, IS THE sha256 OF THE DUMP (.gsa) THAT YthalijmfhllgbaaProg.lean LOADS. Nothing in Lean hashes anything: it is a label: what it is worth is what the hold of that sum in a sandbox is worth. -/
noncomputable def Try.pinned : Pinned := { name := "ythalijmfhllgbaa", sum := "ec491a219177b04ecd6f6fc21fc1f27ae4a860c506302b3fc73c487c1b79491a", checked := Try.checked }
namespace Rows
def none {H : Type} : Left H := { results := [], args := [] }

/-- 'quittancelaw17.ExtsFinds': WHATEVER THE INPUT: true; the input reads as it did. -/
def extsFindsSpec : ChangeSpec := { name := "extsFinds", fn := fun _ => fun
  | [d1, d2, d3, d4] => { results := [.lit (.bool true)], args := [d1, d2, d3, d4] }
  | _ => none }
def extsFindsRow : OpenClaim := { program := "ythalijmfhllgbaa", sum := "ec491a219177b04ecd6f6fc21fc1f27ae4a860c506302b3fc73c487c1b79491a", func := "quittance/quittancelaw17.ExtsFinds", spec := "extsFinds", unfollowed := true, recurses := true, apart := false }
def ExtsFindsSaid : Prop := extsFindsRow.holds Try.pinned (OpenSpec.ofChange extsFindsSpec)

/-- ITS FALSE NEIGHBOUR: 'it returns false'. Refute it at one input. -/
def extsFindsWrong : ChangeSpec := { name := "extsFinds", fn := fun _ => fun
  | [d1, d2, d3, d4] => { results := [.lit (.bool false)], args := [d1, d2, d3, d4] }
  | _ => none }
def ExtsFindsWrongFalsely : Prop := extsFindsRow.holds Try.pinned (OpenSpec.ofChange extsFindsWrong)

/-- 'quittancelaw10.ClockParses': WHATEVER THE INPUT: true; the input reads as it did. -/
def clockParsesSpec : ChangeSpec := { name := "clockParses", fn := fun _ => fun
  | [d1, d2] => { results := [.lit (.bool true)], args := [d1, d2] }
  | _ => none }
def clockParsesRow : OpenClaim := { program := "ythalijmfhllgbaa", sum := "ec491a219177b04ecd6f6fc21fc1f27ae4a860c506302b3fc73c487c1b79491a", func := "quittance/quittancelaw10.ClockParses", spec := "clockParses", inPlace := ["internal/abi.NoEscape"], unfollowed := true, recurses := true, apart := false }
def ClockParsesSaid : Prop := clockParsesRow.holds Try.pinned (OpenSpec.ofChange clockParsesSpec)

/-- ITS FALSE NEIGHBOUR: 'it returns false'. Refute it at one input. -/
def clockParsesWrong : ChangeSpec := { name := "clockParses", fn := fun _ => fun
  | [d1, d2] => { results := [.lit (.bool false)], args := [d1, d2] }
  | _ => none }
def ClockParsesWrongFalsely : Prop := clockParsesRow.holds Try.pinned (OpenSpec.ofChange clockParsesWrong)

/-- 'quittancelaw10.ClockWrites': WHATEVER THE INPUT: true; the input reads as it did. -/
def clockWritesSpec : ChangeSpec := { name := "clockWrites", fn := fun _ => fun
  | [d] => { results := [.lit (.bool true)], args := [d] }
  | _ => none }
def clockWritesRow : OpenClaim := { program := "ythalijmfhllgbaa", sum := "ec491a219177b04ecd6f6fc21fc1f27ae4a860c506302b3fc73c487c1b79491a", func := "quittance/quittancelaw10.ClockWrites", spec := "clockWrites", inPlace := ["internal/abi.NoEscape"], unfollowed := true, recurses := true, apart := false }
def ClockWritesSaid : Prop := clockWritesRow.holds Try.pinned (OpenSpec.ofChange clockWritesSpec)

/-- ITS FALSE NEIGHBOUR: 'it returns false'. Refute it at one input. -/
def clockWritesWrong : ChangeSpec := { name := "clockWrites", fn := fun _ => fun
  | [d] => { results := [.lit (.bool false)], args := [d] }
  | _ => none }
def ClockWritesWrongFalsely : Prop := clockWritesRow.holds Try.pinned (OpenSpec.ofChange clockWritesWrong)

/-- 'quittancelaw17.ExtsValues': WHATEVER THE INPUT: true; the input reads as it did. -/
def extsValuesSpec : ChangeSpec := { name := "extsValues", fn := fun _ => fun
  | [d1, d2] => { results := [.lit (.bool true)], args := [d1, d2] }
  | _ => none }
def extsValuesRow : OpenClaim := { program := "ythalijmfhllgbaa", sum := "ec491a219177b04ecd6f6fc21fc1f27ae4a860c506302b3fc73c487c1b79491a", func := "quittance/quittancelaw17.ExtsValues", spec := "extsValues", unfollowed := true, recurses := true, apart := false }
def ExtsValuesSaid : Prop := extsValuesRow.holds Try.pinned (OpenSpec.ofChange extsValuesSpec)

/-- ITS FALSE NEIGHBOUR: 'it returns false'. Refute it at one input. -/
def extsValuesWrong : ChangeSpec := { name := "extsValues", fn := fun _ => fun
  | [d1, d2] => { results := [.lit (.bool false)], args := [d1, d2] }
  | _ => none }
def ExtsValuesWrongFalsely : Prop := extsValuesRow.holds Try.pinned (OpenSpec.ofChange extsValuesWrong)

/-- 'quittancelaw10.ClockOrders': WHATEVER THE INPUT: true; the input reads as it did. -/
def clockOrdersSpec : ChangeSpec := { name := "clockOrders", fn := fun _ => fun
  | [d1, d2] => { results := [.lit (.bool true)], args := [d1, d2] }
  | _ => none }
def clockOrdersRow : OpenClaim := { program := "ythalijmfhllgbaa", sum := "ec491a219177b04ecd6f6fc21fc1f27ae4a860c506302b3fc73c487c1b79491a", func := "quittance/quittancelaw10.ClockOrders", spec := "clockOrders", inPlace := ["internal/abi.NoEscape"], unfollowed := true, recurses := true, apart := false }
def ClockOrdersSaid : Prop := clockOrdersRow.holds Try.pinned (OpenSpec.ofChange clockOrdersSpec)

/-- ITS FALSE NEIGHBOUR: 'it returns false'. Refute it at one input. -/
def clockOrdersWrong : ChangeSpec := { name := "clockOrders", fn := fun _ => fun
  | [d1, d2] => { results := [.lit (.bool false)], args := [d1, d2] }
  | _ => none }
def ClockOrdersWrongFalsely : Prop := clockOrdersRow.holds Try.pinned (OpenSpec.ofChange clockOrdersWrong)

/-- 'quittancelaw10.ClockReads': WHATEVER THE INPUT: true; the input reads as it did. -/
def clockReadsSpec : ChangeSpec := { name := "clockReads", fn := fun _ => fun
  | [d] => { results := [.lit (.bool true)], args := [d] }
  | _ => none }
def clockReadsRow : OpenClaim := { program := "ythalijmfhllgbaa", sum := "ec491a219177b04ecd6f6fc21fc1f27ae4a860c506302b3fc73c487c1b79491a", func := "quittance/quittancelaw10.ClockReads", spec := "clockReads", inPlace := ["internal/abi.NoEscape"], unfollowed := true, recurses := true, apart := false }
def ClockReadsSaid : Prop := clockReadsRow.holds Try.pinned (OpenSpec.ofChange clockReadsSpec)

/-- ITS FALSE NEIGHBOUR: 'it returns false'. Refute it at one input. -/
def clockReadsWrong : ChangeSpec := { name := "clockReads", fn := fun _ => fun
  | [d] => { results := [.lit (.bool false)], args := [d] }
  | _ => none }
def ClockReadsWrongFalsely : Prop := clockReadsRow.holds Try.pinned (OpenSpec.ofChange clockReadsWrong)

/-- 'quittancelaw08.BuildWraps': WHATEVER THE INPUT: true; the input reads as it did. -/
def buildWrapsSpec : ChangeSpec := { name := "buildWraps", fn := fun _ => fun
  | [d1, d2, d3] => { results := [.lit (.bool true)], args := [d1, d2, d3] }
  | _ => none }
def buildWrapsRow : OpenClaim := { program := "ythalijmfhllgbaa", sum := "ec491a219177b04ecd6f6fc21fc1f27ae4a860c506302b3fc73c487c1b79491a", func := "quittance/quittancelaw08.BuildWraps", spec := "buildWraps", unfollowed := true, recurses := true, apart := false }
def BuildWrapsSaid : Prop := buildWrapsRow.holds Try.pinned (OpenSpec.ofChange buildWrapsSpec)

/-- ITS FALSE NEIGHBOUR: 'it returns false'. Refute it at one input. -/
def buildWrapsWrong : ChangeSpec := { name := "buildWraps", fn := fun _ => fun
  | [d1, d2, d3] => { results := [.lit (.bool false)], args := [d1, d2, d3] }
  | _ => none }
def BuildWrapsWrongFalsely : Prop := buildWrapsRow.holds Try.pinned (OpenSpec.ofChange buildWrapsWrong)

/-- 'quittancelaw10.ClockBack': WHATEVER THE INPUT: true; the input reads as it did. -/
def clockBackSpec : ChangeSpec := { name := "clockBack", fn := fun _ => fun
  | [d1, d2, d3] => { results := [.lit (.bool true)], args := [d1, d2, d3] }
  | _ => none }
def clockBackRow : OpenClaim := { program := "ythalijmfhllgbaa", sum := "ec491a219177b04ecd6f6fc21fc1f27ae4a860c506302b3fc73c487c1b79491a", func := "quittance/quittancelaw10.ClockBack", spec := "clockBack", inPlace := ["internal/abi.NoEscape"], unfollowed := true, recurses := true, apart := false }
def ClockBackSaid : Prop := clockBackRow.holds Try.pinned (OpenSpec.ofChange clockBackSpec)

/-- ITS FALSE NEIGHBOUR: 'it returns false'. Refute it at one input. -/
def clockBackWrong : ChangeSpec := { name := "clockBack", fn := fun _ => fun
  | [d1, d2, d3] => { results := [.lit (.bool false)], args := [d1, d2, d3] }
  | _ => none }
def ClockBackWrongFalsely : Prop := clockBackRow.holds Try.pinned (OpenSpec.ofChange clockBackWrong)

/- THE SECOND FORM. 'bulk': how many values and letters a reading holds, each counted each time it is reached (what is shared counts as often as it is met; a slice's spare places count too). A statement '..UptoSaid' is the law's where the arguments, and the package variables that the reading takes, are together of bulk at most 1048576: NARROWER than '..Said'. Prove '..Said' where nothing that the law and all that it calls make is longer than what came in: it says more and counts as full. Else prove '..UptoSaid'. A law counts once. -/
mutual
def uptoBulk {H : Type} : DataW H → Nat
  | .lit (.string bytes) => bytes.length + 1
  | .lit _ => 1
  | .nil => 1
  | .ptr d => uptoBulk d + 1
  | .slice elems spare => uptoBulkAll elems + uptoBulkAll spare + 1
  | .agg parts => uptoBulkAll parts + 1
  | .iface _ d => uptoBulk d + 1
  | .map entries => uptoBulkEntries entries + 1
  | .held _ => 1
def uptoBulkAll {H : Type} : List (DataW H) → Nat
  | [] => 0
  | d :: r => uptoBulk d + uptoBulkAll r
def uptoBulkEntries {H : Type} : List (Lit × DataW H) → Nat
  | [] => 0
  | x :: r => uptoBulkEntry x + uptoBulkEntries r
def uptoBulkEntry {H : Type} : Lit × DataW H → Nat
  | (.string bytes, d) => bytes.length + uptoBulk d + 1
  | (_, d) => uptoBulk d + 1
 end
def uptoSmall : (H : Type) → List (DataW H) → Bool := fun _ ds => decide (uptoBulkAll ds ≤ 1048576)
def OpenSpec.upto (s : _root_.Go.ChangeSpec) : _root_.Go.OpenSpec := { _root_.Go.OpenSpec.ofChange s with cond := some uptoSmall }

/-- 'quittancelaw17.ExtsFinds', WHERE WHAT IT READS IS OF BULK AT MOST 1048576: true; the input reads as it did. -/
def extsFindsUptoRow : OpenClaim := { program := "ythalijmfhllgbaa", sum := "ec491a219177b04ecd6f6fc21fc1f27ae4a860c506302b3fc73c487c1b79491a", func := "quittance/quittancelaw17.ExtsFinds", spec := "extsFinds", unfollowed := true, recurses := true, apart := false, narrowed := true }
def ExtsFindsUptoSaid : Prop := extsFindsUptoRow.holds Try.pinned (OpenSpec.upto extsFindsSpec)

/-- 'quittancelaw10.ClockParses', WHERE WHAT IT READS IS OF BULK AT MOST 1048576: true; the input reads as it did. -/
def clockParsesUptoRow : OpenClaim := { program := "ythalijmfhllgbaa", sum := "ec491a219177b04ecd6f6fc21fc1f27ae4a860c506302b3fc73c487c1b79491a", func := "quittance/quittancelaw10.ClockParses", spec := "clockParses", inPlace := ["internal/abi.NoEscape"], unfollowed := true, recurses := true, apart := false, narrowed := true }
def ClockParsesUptoSaid : Prop := clockParsesUptoRow.holds Try.pinned (OpenSpec.upto clockParsesSpec)

/-- 'quittancelaw10.ClockWrites', WHERE WHAT IT READS IS OF BULK AT MOST 1048576: true; the input reads as it did. -/
def clockWritesUptoRow : OpenClaim := { program := "ythalijmfhllgbaa", sum := "ec491a219177b04ecd6f6fc21fc1f27ae4a860c506302b3fc73c487c1b79491a", func := "quittance/quittancelaw10.ClockWrites", spec := "clockWrites", inPlace := ["internal/abi.NoEscape"], unfollowed := true, recurses := true, apart := false, narrowed := true }
def ClockWritesUptoSaid : Prop := clockWritesUptoRow.holds Try.pinned (OpenSpec.upto clockWritesSpec)

/-- 'quittancelaw17.ExtsValues', WHERE WHAT IT READS IS OF BULK AT MOST 1048576: true; the input reads as it did. -/
def extsValuesUptoRow : OpenClaim := { program := "ythalijmfhllgbaa", sum := "ec491a219177b04ecd6f6fc21fc1f27ae4a860c506302b3fc73c487c1b79491a", func := "quittance/quittancelaw17.ExtsValues", spec := "extsValues", unfollowed := true, recurses := true, apart := false, narrowed := true }
def ExtsValuesUptoSaid : Prop := extsValuesUptoRow.holds Try.pinned (OpenSpec.upto extsValuesSpec)

/-- 'quittancelaw10.ClockOrders', WHERE WHAT IT READS IS OF BULK AT MOST 1048576: true; the input reads as it did. -/
def clockOrdersUptoRow : OpenClaim := { program := "ythalijmfhllgbaa", sum := "ec491a219177b04ecd6f6fc21fc1f27ae4a860c506302b3fc73c487c1b79491a", func := "quittance/quittancelaw10.ClockOrders", spec := "clockOrders", inPlace := ["internal/abi.NoEscape"], unfollowed := true, recurses := true, apart := false, narrowed := true }
def ClockOrdersUptoSaid : Prop := clockOrdersUptoRow.holds Try.pinned (OpenSpec.upto clockOrdersSpec)

/-- 'quittancelaw10.ClockReads', WHERE WHAT IT READS IS OF BULK AT MOST 1048576: true; the input reads as it did. -/
def clockReadsUptoRow : OpenClaim := { program := "ythalijmfhllgbaa", sum := "ec491a219177b04ecd6f6fc21fc1f27ae4a860c506302b3fc73c487c1b79491a", func := "quittance/quittancelaw10.ClockReads", spec := "clockReads", inPlace := ["internal/abi.NoEscape"], unfollowed := true, recurses := true, apart := false, narrowed := true }
def ClockReadsUptoSaid : Prop := clockReadsUptoRow.holds Try.pinned (OpenSpec.upto clockReadsSpec)

/-- 'quittancelaw08.BuildWraps', WHERE WHAT IT READS IS OF BULK AT MOST 1048576: true; the input reads as it did. -/
def buildWrapsUptoRow : OpenClaim := { program := "ythalijmfhllgbaa", sum := "ec491a219177b04ecd6f6fc21fc1f27ae4a860c506302b3fc73c487c1b79491a", func := "quittance/quittancelaw08.BuildWraps", spec := "buildWraps", unfollowed := true, recurses := true, apart := false, narrowed := true }
def BuildWrapsUptoSaid : Prop := buildWrapsUptoRow.holds Try.pinned (OpenSpec.upto buildWrapsSpec)

/-- 'quittancelaw10.ClockBack', WHERE WHAT IT READS IS OF BULK AT MOST 1048576: true; the input reads as it did. -/
def clockBackUptoRow : OpenClaim := { program := "ythalijmfhllgbaa", sum := "ec491a219177b04ecd6f6fc21fc1f27ae4a860c506302b3fc73c487c1b79491a", func := "quittance/quittancelaw10.ClockBack", spec := "clockBack", inPlace := ["internal/abi.NoEscape"], unfollowed := true, recurses := true, apart := false, narrowed := true }
def ClockBackUptoSaid : Prop := clockBackUptoRow.holds Try.pinned (OpenSpec.upto clockBackSpec)

end Rows
end Go.Proofs.Ythalijmfhllgbaa
