/-
  DERIVED. GIVEN WITH THE SEED: THE CARDS: each row of YtjpabeoflhkfkaaGreatDoorRows.lean that lists a variable, with what it lists TIED to the program's text (the seventh form; the later family's looks); each row that meets fmt, with fmt's text TOLD by the authors' own Lean function (tested against real Go, not proved from fmt's source: count such statements apart). THE CARD IS WHAT COUNTS. Prove the row's statement (the work); the ties are given (YtjpabeoflhkfkaaGreatDoorTie.lean); close each card by the builder's one call (the guide's Derived/Test/ToyasCard.lean, 'card_holds'). Laid BY PROGRAM, IN A SANDBOX (cutbox-door.mjs). By AI agents, Wed Nov 11 2026. No macro, syntax, notation, axiom, sorry.
-/
import Derived.Test.YtjpabeoflhkfkaaGreatDoorRows
import GoSem.ClaimSeven
namespace Go.Proofs.YtjpabeoflhkfkaaGreatDoor
namespace Rows

/-- THE TIED CARD OF 'postilionlaw18.WarrantSeals'. -/
def warrantSealsCard : Claim7 := { stood := { row := warrantSealsRow, standIns := [], harness := (true, "83ad8bae9175ee9a4c8c2c16cd349a00a092cbd0e52ed67438cc1f6b4ec4241d"), looks := true }, kinds := [], alts := [], laidByText := true, laidKinds := [.data, .data, .data, .data, .data, .pinned], laidTests := true, laidLooks := .later }
def WarrantSealsCardSaid : Prop := Claim7.holds Tryz.pinned (.plain (OpenSpec.ofChange warrantSealsSpec)) warrantSealsCard

/-- THE TIED CARD OF 'postilionlaw18.WarrantNumbers'. -/
def warrantNumbersCard : Claim7 := { stood := { row := warrantNumbersRow, standIns := [], harness := (true, "83ad8bae9175ee9a4c8c2c16cd349a00a092cbd0e52ed67438cc1f6b4ec4241d"), looks := true }, kinds := [], alts := [], laidByText := true, laidKinds := [.data, .data, .data, .data, .data, .pinned], laidTests := true, laidLooks := .later }
def WarrantNumbersCardSaid : Prop := Claim7.holds Tryz.pinned (.plain (OpenSpec.ofChange warrantNumbersSpec)) warrantNumbersCard

/-- THE TIED CARD OF 'postilionlaw18.WarrantKept'. -/
def warrantKeptCard : Claim7 := { stood := { row := warrantKeptRow, standIns := [], harness := (true, "83ad8bae9175ee9a4c8c2c16cd349a00a092cbd0e52ed67438cc1f6b4ec4241d"), looks := true }, kinds := [], alts := [], laidByText := true, laidKinds := [.data, .data, .data, .data, .data, .pinned], laidTests := true, laidLooks := .later }
def WarrantKeptCardSaid : Prop := Claim7.holds Tryz.pinned (.plain (OpenSpec.ofChange warrantKeptSpec)) warrantKeptCard

/-- THE TIED CARD OF 'postilionlaw18.WarrantWritten'. -/
def warrantWrittenCard : Claim7 := { stood := { row := warrantWrittenRow, standIns := [], harness := (true, "83ad8bae9175ee9a4c8c2c16cd349a00a092cbd0e52ed67438cc1f6b4ec4241d"), looks := true }, kinds := [], alts := [], laidByText := true, laidKinds := [.data, .data, .data, .data, .data, .pinned], laidTests := true, laidLooks := .later }
def WarrantWrittenCardSaid : Prop := Claim7.holds Tryz.pinned (.plain (OpenSpec.ofChange warrantWrittenSpec)) warrantWrittenCard

/-- THE TIED CARD OF 'postilionlaw18.WarrantWeaker'. -/
def warrantWeakerCard : Claim7 := { stood := { row := warrantWeakerRow, standIns := [], harness := (true, "83ad8bae9175ee9a4c8c2c16cd349a00a092cbd0e52ed67438cc1f6b4ec4241d"), looks := true }, kinds := [], alts := [], laidByText := true, laidKinds := [.data, .data, .data, .data, .data, .pinned], laidTests := true, laidLooks := .later }
def WarrantWeakerCardSaid : Prop := Claim7.holds Tryz.pinned (.plain (OpenSpec.ofChange warrantWeakerSpec)) warrantWeakerCard

/-- THE SECOND FORM's CARD OF 'postilionlaw18.WarrantSeals'. -/
def warrantSealsUptoCard : Claim7 := { stood := { row := warrantSealsUptoRow, standIns := [], harness := (true, "83ad8bae9175ee9a4c8c2c16cd349a00a092cbd0e52ed67438cc1f6b4ec4241d"), looks := true }, kinds := [], alts := [], laidByText := true, laidKinds := [.data, .data, .data, .data, .data, .pinned], laidTests := true, laidLooks := .later }
def WarrantSealsUptoCardSaid : Prop := Claim7.holds Tryz.pinned (.plain (OpenSpec.upto warrantSealsSpec)) warrantSealsUptoCard

/-- THE SECOND FORM's CARD OF 'postilionlaw18.WarrantNumbers'. -/
def warrantNumbersUptoCard : Claim7 := { stood := { row := warrantNumbersUptoRow, standIns := [], harness := (true, "83ad8bae9175ee9a4c8c2c16cd349a00a092cbd0e52ed67438cc1f6b4ec4241d"), looks := true }, kinds := [], alts := [], laidByText := true, laidKinds := [.data, .data, .data, .data, .data, .pinned], laidTests := true, laidLooks := .later }
def WarrantNumbersUptoCardSaid : Prop := Claim7.holds Tryz.pinned (.plain (OpenSpec.upto warrantNumbersSpec)) warrantNumbersUptoCard

/-- THE SECOND FORM's CARD OF 'postilionlaw18.WarrantKept'. -/
def warrantKeptUptoCard : Claim7 := { stood := { row := warrantKeptUptoRow, standIns := [], harness := (true, "83ad8bae9175ee9a4c8c2c16cd349a00a092cbd0e52ed67438cc1f6b4ec4241d"), looks := true }, kinds := [], alts := [], laidByText := true, laidKinds := [.data, .data, .data, .data, .data, .pinned], laidTests := true, laidLooks := .later }
def WarrantKeptUptoCardSaid : Prop := Claim7.holds Tryz.pinned (.plain (OpenSpec.upto warrantKeptSpec)) warrantKeptUptoCard

/-- THE SECOND FORM's CARD OF 'postilionlaw18.WarrantWritten'. -/
def warrantWrittenUptoCard : Claim7 := { stood := { row := warrantWrittenUptoRow, standIns := [], harness := (true, "83ad8bae9175ee9a4c8c2c16cd349a00a092cbd0e52ed67438cc1f6b4ec4241d"), looks := true }, kinds := [], alts := [], laidByText := true, laidKinds := [.data, .data, .data, .data, .data, .pinned], laidTests := true, laidLooks := .later }
def WarrantWrittenUptoCardSaid : Prop := Claim7.holds Tryz.pinned (.plain (OpenSpec.upto warrantWrittenSpec)) warrantWrittenUptoCard

/-- THE SECOND FORM's CARD OF 'postilionlaw18.WarrantWeaker'. -/
def warrantWeakerUptoCard : Claim7 := { stood := { row := warrantWeakerUptoRow, standIns := [], harness := (true, "83ad8bae9175ee9a4c8c2c16cd349a00a092cbd0e52ed67438cc1f6b4ec4241d"), looks := true }, kinds := [], alts := [], laidByText := true, laidKinds := [.data, .data, .data, .data, .data, .pinned], laidTests := true, laidLooks := .later }
def WarrantWeakerUptoCardSaid : Prop := Claim7.holds Tryz.pinned (.plain (OpenSpec.upto warrantWeakerSpec)) warrantWeakerUptoCard
end Rows
end Go.Proofs.YtjpabeoflhkfkaaGreatDoor
