/-
  DERIVED. GIVEN WITH THE SEED: THE CARDS: each row of YtldkmljjmnaefaaGreatDoorRows.lean that lists a variable, with what it lists TIED to the program's text (the seventh form; the later family's looks); each row that meets fmt, with fmt's text TOLD by the authors' own Lean function (tested against real Go, not proved from fmt's source: count such statements apart). THE CARD IS WHAT COUNTS. Prove the row's statement (the work); the ties are given (YtldkmljjmnaefaaGreatDoorTie.lean); close each card by the builder's one call (the guide's Derived/Test/ToyasCard.lean, 'card_holds'). Laid BY PROGRAM, IN A SANDBOX (cutbox-door.mjs). By AI agents, Wed Nov 11 2026. No macro, syntax, notation, axiom, sorry.
-/
import Derived.Test.YtldkmljjmnaefaaGreatDoorRows
import GoSem.ClaimSeven
namespace Go.Proofs.YtldkmljjmnaefaaGreatDoor
namespace Rows

/-- THE TIED CARD OF 'postilionlaw17.PromiseLater'. -/
def promiseLaterCard : Claim7 := { stood := { row := promiseLaterRow, standIns := [], harness := (true, "3ec7b5e7091a4555ec0672c626bb86cf6ecda3c6ea0147f960c0eba2d6a56eb7"), looks := true }, kinds := [], alts := [], laidByText := true, laidKinds := [.data], laidTests := true, laidLooks := .later }
def PromiseLaterCardSaid : Prop := Claim7.holds Tryz.pinned (.plain (OpenSpec.ofChange promiseLaterSpec)) promiseLaterCard

/-- THE TIED CARD OF 'postilionlaw17.PromiseLonger'. -/
def promiseLongerCard : Claim7 := { stood := { row := promiseLongerRow, standIns := [], harness := (true, "3ec7b5e7091a4555ec0672c626bb86cf6ecda3c6ea0147f960c0eba2d6a56eb7"), looks := true }, kinds := [], alts := [], laidByText := true, laidKinds := [.data], laidTests := true, laidLooks := .later }
def PromiseLongerCardSaid : Prop := Claim7.holds Tryz.pinned (.plain (OpenSpec.ofChange promiseLongerSpec)) promiseLongerCard

/-- THE TIED CARD OF 'postilionlaw17.PromiseFaster'. -/
def promiseFasterCard : Claim7 := { stood := { row := promiseFasterRow, standIns := [], harness := (true, "3ec7b5e7091a4555ec0672c626bb86cf6ecda3c6ea0147f960c0eba2d6a56eb7"), looks := true }, kinds := [], alts := [], laidByText := true, laidKinds := [.data], laidTests := true, laidLooks := .later }
def PromiseFasterCardSaid : Prop := Claim7.holds Tryz.pinned (.plain (OpenSpec.ofChange promiseFasterSpec)) promiseFasterCard

/-- THE TIED CARD OF 'postilionlaw17.PromiseMinutes'. -/
def promiseMinutesCard : Claim7 := { stood := { row := promiseMinutesRow, standIns := [], harness := (true, "3ec7b5e7091a4555ec0672c626bb86cf6ecda3c6ea0147f960c0eba2d6a56eb7"), looks := true }, kinds := [], alts := [], laidByText := true, laidKinds := [.data], laidTests := true, laidLooks := .later }
def PromiseMinutesCardSaid : Prop := Claim7.holds Tryz.pinned (.plain (OpenSpec.ofChange promiseMinutesSpec)) promiseMinutesCard

/-- THE TIED CARD OF 'postilionlaw17.PromiseWays'. -/
def promiseWaysCard : Claim7 := { stood := { row := promiseWaysRow, standIns := [], harness := (true, "3ec7b5e7091a4555ec0672c626bb86cf6ecda3c6ea0147f960c0eba2d6a56eb7"), looks := true }, kinds := [], alts := [], laidByText := true, laidKinds := [.data], laidTests := true, laidLooks := .later }
def PromiseWaysCardSaid : Prop := Claim7.holds Tryz.pinned (.plain (OpenSpec.ofChange promiseWaysSpec)) promiseWaysCard

/-- THE SECOND FORM's CARD OF 'postilionlaw17.PromiseLater'. -/
def promiseLaterUptoCard : Claim7 := { stood := { row := promiseLaterUptoRow, standIns := [], harness := (true, "3ec7b5e7091a4555ec0672c626bb86cf6ecda3c6ea0147f960c0eba2d6a56eb7"), looks := true }, kinds := [], alts := [], laidByText := true, laidKinds := [.data], laidTests := true, laidLooks := .later }
def PromiseLaterUptoCardSaid : Prop := Claim7.holds Tryz.pinned (.plain (OpenSpec.upto promiseLaterSpec)) promiseLaterUptoCard

/-- THE SECOND FORM's CARD OF 'postilionlaw17.PromiseLonger'. -/
def promiseLongerUptoCard : Claim7 := { stood := { row := promiseLongerUptoRow, standIns := [], harness := (true, "3ec7b5e7091a4555ec0672c626bb86cf6ecda3c6ea0147f960c0eba2d6a56eb7"), looks := true }, kinds := [], alts := [], laidByText := true, laidKinds := [.data], laidTests := true, laidLooks := .later }
def PromiseLongerUptoCardSaid : Prop := Claim7.holds Tryz.pinned (.plain (OpenSpec.upto promiseLongerSpec)) promiseLongerUptoCard

/-- THE SECOND FORM's CARD OF 'postilionlaw17.PromiseFaster'. -/
def promiseFasterUptoCard : Claim7 := { stood := { row := promiseFasterUptoRow, standIns := [], harness := (true, "3ec7b5e7091a4555ec0672c626bb86cf6ecda3c6ea0147f960c0eba2d6a56eb7"), looks := true }, kinds := [], alts := [], laidByText := true, laidKinds := [.data], laidTests := true, laidLooks := .later }
def PromiseFasterUptoCardSaid : Prop := Claim7.holds Tryz.pinned (.plain (OpenSpec.upto promiseFasterSpec)) promiseFasterUptoCard

/-- THE SECOND FORM's CARD OF 'postilionlaw17.PromiseMinutes'. -/
def promiseMinutesUptoCard : Claim7 := { stood := { row := promiseMinutesUptoRow, standIns := [], harness := (true, "3ec7b5e7091a4555ec0672c626bb86cf6ecda3c6ea0147f960c0eba2d6a56eb7"), looks := true }, kinds := [], alts := [], laidByText := true, laidKinds := [.data], laidTests := true, laidLooks := .later }
def PromiseMinutesUptoCardSaid : Prop := Claim7.holds Tryz.pinned (.plain (OpenSpec.upto promiseMinutesSpec)) promiseMinutesUptoCard

/-- THE SECOND FORM's CARD OF 'postilionlaw17.PromiseWays'. -/
def promiseWaysUptoCard : Claim7 := { stood := { row := promiseWaysUptoRow, standIns := [], harness := (true, "3ec7b5e7091a4555ec0672c626bb86cf6ecda3c6ea0147f960c0eba2d6a56eb7"), looks := true }, kinds := [], alts := [], laidByText := true, laidKinds := [.data], laidTests := true, laidLooks := .later }
def PromiseWaysUptoCardSaid : Prop := Claim7.holds Tryz.pinned (.plain (OpenSpec.upto promiseWaysSpec)) promiseWaysUptoCard
end Rows
end Go.Proofs.YtldkmljjmnaefaaGreatDoor
