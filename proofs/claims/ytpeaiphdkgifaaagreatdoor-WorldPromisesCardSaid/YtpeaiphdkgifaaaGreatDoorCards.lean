/-
  DERIVED. GIVEN WITH THE SEED: THE CARDS: each row of YtpeaiphdkgifaaaGreatDoorRows.lean that lists a variable, with what it lists TIED to the program's text (the seventh form; the later family's looks); each row that meets fmt, with fmt's text TOLD by the authors' own Lean function (tested against real Go, not proved from fmt's source: count such statements apart). THE CARD IS WHAT COUNTS. Prove the row's statement (the work); the ties are given (YtpeaiphdkgifaaaGreatDoorTie.lean); close each card by the builder's one call (the guide's Derived/Test/ToyasCard.lean, 'card_holds'). Laid BY PROGRAM, IN A SANDBOX (cutbox-door.mjs). By AI agents, Wed Nov 11 2026. No macro, syntax, notation, axiom, sorry.
-/
import Derived.Test.YtpeaiphdkgifaaaGreatDoorRows
import GoSem.ClaimSeven
namespace Go.Proofs.YtpeaiphdkgifaaaGreatDoor
namespace Rows

/-- THE TIED CARD OF 'postilionlaw22.WorldStops'. -/
def worldStopsCard : Claim7 := { stood := { row := worldStopsRow, standIns := [], harness := (true, "24de67e05ebd517c93d7dcaef166891602085efb4eda99e2306dccdbc2da2c9a"), looks := true }, kinds := [], alts := [], laidByText := true, laidKinds := [.data, .data, .data, .data], laidTests := true, laidLooks := .later }
def WorldStopsCardSaid : Prop := Claim7.holds Tryz.pinned (.plain (OpenSpec.ofChange worldStopsSpec)) worldStopsCard

/-- THE TIED CARD OF 'postilionlaw22.WorldLabels'. -/
def worldLabelsCard : Claim7 := { stood := { row := worldLabelsRow, standIns := [], harness := (true, "24de67e05ebd517c93d7dcaef166891602085efb4eda99e2306dccdbc2da2c9a"), looks := true }, kinds := [], alts := [], laidByText := true, laidKinds := [.data, .data, .data, .data], laidTests := true, laidLooks := .later }
def WorldLabelsCardSaid : Prop := Claim7.holds Tryz.pinned (.plain (OpenSpec.ofChange worldLabelsSpec)) worldLabelsCard

/-- THE TIED CARD OF 'postilionlaw22.WorldDeeds'. -/
def worldDeedsCard : Claim7 := { stood := { row := worldDeedsRow, standIns := [], harness := (true, "24de67e05ebd517c93d7dcaef166891602085efb4eda99e2306dccdbc2da2c9a"), looks := true }, kinds := [], alts := [], laidByText := true, laidKinds := [.data, .data, .data, .data], laidTests := true, laidLooks := .later }
def WorldDeedsCardSaid : Prop := Claim7.holds Tryz.pinned (.plain (OpenSpec.ofChange worldDeedsSpec)) worldDeedsCard

/-- THE TIED CARD OF 'postilionlaw22.WorldHeld'. -/
def worldHeldCard : Claim7 := { stood := { row := worldHeldRow, standIns := [], harness := (true, "24de67e05ebd517c93d7dcaef166891602085efb4eda99e2306dccdbc2da2c9a"), looks := true }, kinds := [], alts := [], laidByText := true, laidKinds := [.data, .data, .data, .data], laidTests := true, laidLooks := .later }
def WorldHeldCardSaid : Prop := Claim7.holds Tryz.pinned (.plain (OpenSpec.ofChange worldHeldSpec)) worldHeldCard

/-- THE TIED CARD OF 'postilionlaw22.WorldAlone'. -/
def worldAloneCard : Claim7 := { stood := { row := worldAloneRow, standIns := [], harness := (true, "24de67e05ebd517c93d7dcaef166891602085efb4eda99e2306dccdbc2da2c9a"), looks := true }, kinds := [], alts := [], laidByText := true, laidKinds := [.data, .data, .data, .data], laidTests := true, laidLooks := .later }
def WorldAloneCardSaid : Prop := Claim7.holds Tryz.pinned (.plain (OpenSpec.ofChange worldAloneSpec)) worldAloneCard

/-- THE TIED CARD OF 'postilionlaw22.WorldSpots'. -/
def worldSpotsCard : Claim7 := { stood := { row := worldSpotsRow, standIns := [], harness := (true, "24de67e05ebd517c93d7dcaef166891602085efb4eda99e2306dccdbc2da2c9a"), looks := true }, kinds := [], alts := [], laidByText := true, laidKinds := [.data, .data, .data, .data], laidTests := true, laidLooks := .later }
def WorldSpotsCardSaid : Prop := Claim7.holds Tryz.pinned (.plain (OpenSpec.ofChange worldSpotsSpec)) worldSpotsCard

/-- THE TIED CARD OF 'postilionlaw22.WorldWays'. -/
def worldWaysCard : Claim7 := { stood := { row := worldWaysRow, standIns := [], harness := (true, "24de67e05ebd517c93d7dcaef166891602085efb4eda99e2306dccdbc2da2c9a"), looks := true }, kinds := [], alts := [], laidByText := true, laidKinds := [.data, .data, .data, .data], laidTests := true, laidLooks := .later }
def WorldWaysCardSaid : Prop := Claim7.holds Tryz.pinned (.plain (OpenSpec.ofChange worldWaysSpec)) worldWaysCard

/-- THE TIED CARD OF 'postilionlaw22.WorldPromises'. -/
def worldPromisesCard : Claim7 := { stood := { row := worldPromisesRow, standIns := [], harness := (true, "24de67e05ebd517c93d7dcaef166891602085efb4eda99e2306dccdbc2da2c9a"), looks := true }, kinds := [], alts := [], laidByText := true, laidKinds := [.data, .data, .data, .data], laidTests := true, laidLooks := .later }
def WorldPromisesCardSaid : Prop := Claim7.holds Tryz.pinned (.plain (OpenSpec.ofChange worldPromisesSpec)) worldPromisesCard

/-- THE SECOND FORM's CARD OF 'postilionlaw22.WorldStops'. -/
def worldStopsUptoCard : Claim7 := { stood := { row := worldStopsUptoRow, standIns := [], harness := (true, "24de67e05ebd517c93d7dcaef166891602085efb4eda99e2306dccdbc2da2c9a"), looks := true }, kinds := [], alts := [], laidByText := true, laidKinds := [.data, .data, .data, .data], laidTests := true, laidLooks := .later }
def WorldStopsUptoCardSaid : Prop := Claim7.holds Tryz.pinned (.plain (OpenSpec.upto worldStopsSpec)) worldStopsUptoCard

/-- THE SECOND FORM's CARD OF 'postilionlaw22.WorldLabels'. -/
def worldLabelsUptoCard : Claim7 := { stood := { row := worldLabelsUptoRow, standIns := [], harness := (true, "24de67e05ebd517c93d7dcaef166891602085efb4eda99e2306dccdbc2da2c9a"), looks := true }, kinds := [], alts := [], laidByText := true, laidKinds := [.data, .data, .data, .data], laidTests := true, laidLooks := .later }
def WorldLabelsUptoCardSaid : Prop := Claim7.holds Tryz.pinned (.plain (OpenSpec.upto worldLabelsSpec)) worldLabelsUptoCard

/-- THE SECOND FORM's CARD OF 'postilionlaw22.WorldDeeds'. -/
def worldDeedsUptoCard : Claim7 := { stood := { row := worldDeedsUptoRow, standIns := [], harness := (true, "24de67e05ebd517c93d7dcaef166891602085efb4eda99e2306dccdbc2da2c9a"), looks := true }, kinds := [], alts := [], laidByText := true, laidKinds := [.data, .data, .data, .data], laidTests := true, laidLooks := .later }
def WorldDeedsUptoCardSaid : Prop := Claim7.holds Tryz.pinned (.plain (OpenSpec.upto worldDeedsSpec)) worldDeedsUptoCard

/-- THE SECOND FORM's CARD OF 'postilionlaw22.WorldHeld'. -/
def worldHeldUptoCard : Claim7 := { stood := { row := worldHeldUptoRow, standIns := [], harness := (true, "24de67e05ebd517c93d7dcaef166891602085efb4eda99e2306dccdbc2da2c9a"), looks := true }, kinds := [], alts := [], laidByText := true, laidKinds := [.data, .data, .data, .data], laidTests := true, laidLooks := .later }
def WorldHeldUptoCardSaid : Prop := Claim7.holds Tryz.pinned (.plain (OpenSpec.upto worldHeldSpec)) worldHeldUptoCard

/-- THE SECOND FORM's CARD OF 'postilionlaw22.WorldAlone'. -/
def worldAloneUptoCard : Claim7 := { stood := { row := worldAloneUptoRow, standIns := [], harness := (true, "24de67e05ebd517c93d7dcaef166891602085efb4eda99e2306dccdbc2da2c9a"), looks := true }, kinds := [], alts := [], laidByText := true, laidKinds := [.data, .data, .data, .data], laidTests := true, laidLooks := .later }
def WorldAloneUptoCardSaid : Prop := Claim7.holds Tryz.pinned (.plain (OpenSpec.upto worldAloneSpec)) worldAloneUptoCard

/-- THE SECOND FORM's CARD OF 'postilionlaw22.WorldSpots'. -/
def worldSpotsUptoCard : Claim7 := { stood := { row := worldSpotsUptoRow, standIns := [], harness := (true, "24de67e05ebd517c93d7dcaef166891602085efb4eda99e2306dccdbc2da2c9a"), looks := true }, kinds := [], alts := [], laidByText := true, laidKinds := [.data, .data, .data, .data], laidTests := true, laidLooks := .later }
def WorldSpotsUptoCardSaid : Prop := Claim7.holds Tryz.pinned (.plain (OpenSpec.upto worldSpotsSpec)) worldSpotsUptoCard

/-- THE SECOND FORM's CARD OF 'postilionlaw22.WorldWays'. -/
def worldWaysUptoCard : Claim7 := { stood := { row := worldWaysUptoRow, standIns := [], harness := (true, "24de67e05ebd517c93d7dcaef166891602085efb4eda99e2306dccdbc2da2c9a"), looks := true }, kinds := [], alts := [], laidByText := true, laidKinds := [.data, .data, .data, .data], laidTests := true, laidLooks := .later }
def WorldWaysUptoCardSaid : Prop := Claim7.holds Tryz.pinned (.plain (OpenSpec.upto worldWaysSpec)) worldWaysUptoCard

/-- THE SECOND FORM's CARD OF 'postilionlaw22.WorldPromises'. -/
def worldPromisesUptoCard : Claim7 := { stood := { row := worldPromisesUptoRow, standIns := [], harness := (true, "24de67e05ebd517c93d7dcaef166891602085efb4eda99e2306dccdbc2da2c9a"), looks := true }, kinds := [], alts := [], laidByText := true, laidKinds := [.data, .data, .data, .data], laidTests := true, laidLooks := .later }
def WorldPromisesUptoCardSaid : Prop := Claim7.holds Tryz.pinned (.plain (OpenSpec.upto worldPromisesSpec)) worldPromisesUptoCard
end Rows
end Go.Proofs.YtpeaiphdkgifaaaGreatDoor
