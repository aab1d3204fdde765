/-
  DERIVED. GIVEN WITH THE SEED: THE CARDS: each row of YtaagjnlkinojcaaGreatDoorRows.lean that lists a variable, with what it lists TIED to the program's text (the seventh form; the later family's looks); each row that meets fmt, with fmt's text TOLD by the authors' own Lean function (tested against real Go, not proved from fmt's source: count such statements apart). THE CARD IS WHAT COUNTS. Prove the row's statement (the work); the ties are given (YtaagjnlkinojcaaGreatDoorTie.lean); close each card by the builder's one call (the guide's Derived/Test/ToyasCard.lean, 'card_holds'). Laid BY PROGRAM, IN A SANDBOX (cutbox-door.mjs). By AI agents, Wed Nov 11 2026. No macro, syntax, notation, axiom, sorry.
-/
import Derived.Test.YtaagjnlkinojcaaGreatDoorRows
import GoSem.ClaimSeven
namespace Go.Proofs.YtaagjnlkinojcaaGreatDoor
namespace Rows

/-- THE TIED CARD OF 'quittancelaw17.ExtsReads'. -/
def extsReadsCard : Claim7 := { stood := { row := extsReadsRow, standIns := [], harness := (true, "0a19b14f927b040957c9aa1543a7f83ff252cb4cd59c0ec173ea99f222e21783"), looks := false }, kinds := [], alts := [], laidByText := true, laidKinds := [.data, .data, .data], laidTests := true, laidLooks := .later }
def ExtsReadsCardSaid : Prop := Claim7.holds Tryz.pinned (.plain (OpenSpec.ofChange extsReadsSpec)) extsReadsCard

/-- THE TIED CARD OF 'quittancelaw17.ExtsWrites'. -/
def extsWritesCard : Claim7 := { stood := { row := extsWritesRow, standIns := [], harness := (true, "0a19b14f927b040957c9aa1543a7f83ff252cb4cd59c0ec173ea99f222e21783"), looks := false }, kinds := [], alts := [], laidByText := true, laidKinds := [.data, .data, .data], laidTests := true, laidLooks := .later }
def ExtsWritesCardSaid : Prop := Claim7.holds Tryz.pinned (.plain (OpenSpec.ofChange extsWritesSpec)) extsWritesCard

/-- THE TIED CARD OF 'quittancelaw17.ExtsBack'. -/
def extsBackCard : Claim7 := { stood := { row := extsBackRow, standIns := [], harness := (true, "0a19b14f927b040957c9aa1543a7f83ff252cb4cd59c0ec173ea99f222e21783"), looks := false }, kinds := [], alts := [], laidByText := true, laidKinds := [.data, .data, .data], laidTests := true, laidLooks := .later }
def ExtsBackCardSaid : Prop := Claim7.holds Tryz.pinned (.plain (OpenSpec.ofChange extsBackSpec)) extsBackCard

/-- THE TIED CARD OF 'quittancelaw17.ExtsAts'. -/
def extsAtsCard : Claim7 := { stood := { row := extsAtsRow, standIns := [], harness := (true, "0a19b14f927b040957c9aa1543a7f83ff252cb4cd59c0ec173ea99f222e21783"), looks := false }, kinds := [], alts := [], laidByText := true, laidKinds := [.data, .data, .data], laidTests := true, laidLooks := .later }
def ExtsAtsCardSaid : Prop := Claim7.holds Tryz.pinned (.plain (OpenSpec.ofChange extsAtsSpec)) extsAtsCard

/-- THE SECOND FORM's CARD OF 'quittancelaw17.ExtsReads'. -/
def extsReadsUptoCard : Claim7 := { stood := { row := extsReadsUptoRow, standIns := [], harness := (true, "0a19b14f927b040957c9aa1543a7f83ff252cb4cd59c0ec173ea99f222e21783"), looks := false }, kinds := [], alts := [], laidByText := true, laidKinds := [.data, .data, .data], laidTests := true, laidLooks := .later }
def ExtsReadsUptoCardSaid : Prop := Claim7.holds Tryz.pinned (.plain (OpenSpec.upto extsReadsSpec)) extsReadsUptoCard

/-- THE SECOND FORM's CARD OF 'quittancelaw17.ExtsWrites'. -/
def extsWritesUptoCard : Claim7 := { stood := { row := extsWritesUptoRow, standIns := [], harness := (true, "0a19b14f927b040957c9aa1543a7f83ff252cb4cd59c0ec173ea99f222e21783"), looks := false }, kinds := [], alts := [], laidByText := true, laidKinds := [.data, .data, .data], laidTests := true, laidLooks := .later }
def ExtsWritesUptoCardSaid : Prop := Claim7.holds Tryz.pinned (.plain (OpenSpec.upto extsWritesSpec)) extsWritesUptoCard

/-- THE SECOND FORM's CARD OF 'quittancelaw17.ExtsBack'. -/
def extsBackUptoCard : Claim7 := { stood := { row := extsBackUptoRow, standIns := [], harness := (true, "0a19b14f927b040957c9aa1543a7f83ff252cb4cd59c0ec173ea99f222e21783"), looks := false }, kinds := [], alts := [], laidByText := true, laidKinds := [.data, .data, .data], laidTests := true, laidLooks := .later }
def ExtsBackUptoCardSaid : Prop := Claim7.holds Tryz.pinned (.plain (OpenSpec.upto extsBackSpec)) extsBackUptoCard

/-- THE SECOND FORM's CARD OF 'quittancelaw17.ExtsAts'. -/
def extsAtsUptoCard : Claim7 := { stood := { row := extsAtsUptoRow, standIns := [], harness := (true, "0a19b14f927b040957c9aa1543a7f83ff252cb4cd59c0ec173ea99f222e21783"), looks := false }, kinds := [], alts := [], laidByText := true, laidKinds := [.data, .data, .data], laidTests := true, laidLooks := .later }
def ExtsAtsUptoCardSaid : Prop := Claim7.holds Tryz.pinned (.plain (OpenSpec.upto extsAtsSpec)) extsAtsUptoCard
end Rows
end Go.Proofs.YtaagjnlkinojcaaGreatDoor
