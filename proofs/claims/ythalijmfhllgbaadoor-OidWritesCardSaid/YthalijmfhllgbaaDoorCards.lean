/-
  DERIVED. GIVEN WITH THE SEED: THE CARDS: each row of YthalijmfhllgbaaDoorRows.lean that lists a variable, with what it lists TIED to the program's text (the seventh form; the later family's looks); each row that meets fmt, with fmt's text TOLD by the authors' own Lean function (tested against real Go, not proved from fmt's source: count such statements apart). THE CARD IS WHAT COUNTS. Prove the row's statement (the work); the ties are given (YthalijmfhllgbaaDoorTie.lean); close each card by the builder's one call (the guide's Derived/Test/ToyasCard.lean, 'card_holds'). Laid BY PROGRAM, IN A SANDBOX (cutbox-door.mjs). By AI agents, Wed Nov 11 2026. No macro, syntax, notation, axiom, sorry.
-/
import Derived.Test.YthalijmfhllgbaaDoorRows
import GoSem.ClaimSeven
namespace Go.Proofs.YthalijmfhllgbaaDoor
namespace Rows

/-- THE TIED CARD OF 'quittancelaw04.OidOrders'. -/
def oidOrdersCard : Claim7 := { stood := { row := oidOrdersRow, standIns := [], harness := (true, "f6da638f1f81855f13438ec0a507ba57f9882fdec652ec24e175ce6206899b4d"), looks := false }, kinds := [], alts := [], laidByText := true, laidKinds := [.data, .data, .data], laidTests := true, laidLooks := .later }
def OidOrdersCardSaid : Prop := Claim7.holds Tryd.pinned (.plain (OpenSpec.ofChange oidOrdersSpec)) oidOrdersCard

/-- THE TIED CARD OF 'quittancelaw04.OidWrites'. -/
def oidWritesCard : Claim7 := { stood := { row := oidWritesRow, standIns := [], harness := (true, "f6da638f1f81855f13438ec0a507ba57f9882fdec652ec24e175ce6206899b4d"), looks := false }, kinds := [], alts := [], laidByText := true, laidKinds := [.data, .data, .data], laidTests := true, laidLooks := .later }
def OidWritesCardSaid : Prop := Claim7.holds Tryd.pinned (.plain (OpenSpec.ofChange oidWritesSpec)) oidWritesCard

/-- THE TIED CARD OF 'quittancelaw04.OidTexts'. -/
def oidTextsCard : Claim7 := { stood := { row := oidTextsRow, standIns := [], harness := (true, "f6da638f1f81855f13438ec0a507ba57f9882fdec652ec24e175ce6206899b4d"), looks := false }, kinds := [], alts := [], laidByText := true, laidKinds := [.data, .data, .data, .data, .pinned], laidTests := true, laidLooks := .later }
def OidTextsCardSaid : Prop := Claim7.holds Tryd.pinned (.plain (OpenSpec.ofChange oidTextsSpec)) oidTextsCard

/-- THE TIED CARD OF 'quittancelaw04.OidBack'. -/
def oidBackCard : Claim7 := { stood := { row := oidBackRow, standIns := [], harness := (true, "f6da638f1f81855f13438ec0a507ba57f9882fdec652ec24e175ce6206899b4d"), looks := false }, kinds := [], alts := [], laidByText := true, laidKinds := [.data, .data, .data, .data, .pinned], laidTests := true, laidLooks := .later }
def OidBackCardSaid : Prop := Claim7.holds Tryd.pinned (.plain (OpenSpec.ofChange oidBackSpec)) oidBackCard

/-- THE SECOND FORM's CARD OF 'quittancelaw04.OidOrders'. -/
def oidOrdersUptoCard : Claim7 := { stood := { row := oidOrdersUptoRow, standIns := [], harness := (true, "f6da638f1f81855f13438ec0a507ba57f9882fdec652ec24e175ce6206899b4d"), looks := false }, kinds := [], alts := [], laidByText := true, laidKinds := [.data, .data, .data], laidTests := true, laidLooks := .later }
def OidOrdersUptoCardSaid : Prop := Claim7.holds Tryd.pinned (.plain (OpenSpec.upto oidOrdersSpec)) oidOrdersUptoCard

/-- THE SECOND FORM's CARD OF 'quittancelaw04.OidWrites'. -/
def oidWritesUptoCard : Claim7 := { stood := { row := oidWritesUptoRow, standIns := [], harness := (true, "f6da638f1f81855f13438ec0a507ba57f9882fdec652ec24e175ce6206899b4d"), looks := false }, kinds := [], alts := [], laidByText := true, laidKinds := [.data, .data, .data], laidTests := true, laidLooks := .later }
def OidWritesUptoCardSaid : Prop := Claim7.holds Tryd.pinned (.plain (OpenSpec.upto oidWritesSpec)) oidWritesUptoCard

/-- THE SECOND FORM's CARD OF 'quittancelaw04.OidTexts'. -/
def oidTextsUptoCard : Claim7 := { stood := { row := oidTextsUptoRow, standIns := [], harness := (true, "f6da638f1f81855f13438ec0a507ba57f9882fdec652ec24e175ce6206899b4d"), looks := false }, kinds := [], alts := [], laidByText := true, laidKinds := [.data, .data, .data, .data, .pinned], laidTests := true, laidLooks := .later }
def OidTextsUptoCardSaid : Prop := Claim7.holds Tryd.pinned (.plain (OpenSpec.upto oidTextsSpec)) oidTextsUptoCard

/-- THE SECOND FORM's CARD OF 'quittancelaw04.OidBack'. -/
def oidBackUptoCard : Claim7 := { stood := { row := oidBackUptoRow, standIns := [], harness := (true, "f6da638f1f81855f13438ec0a507ba57f9882fdec652ec24e175ce6206899b4d"), looks := false }, kinds := [], alts := [], laidByText := true, laidKinds := [.data, .data, .data, .data, .pinned], laidTests := true, laidLooks := .later }
def OidBackUptoCardSaid : Prop := Claim7.holds Tryd.pinned (.plain (OpenSpec.upto oidBackSpec)) oidBackUptoCard
end Rows
end Go.Proofs.YthalijmfhllgbaaDoor
