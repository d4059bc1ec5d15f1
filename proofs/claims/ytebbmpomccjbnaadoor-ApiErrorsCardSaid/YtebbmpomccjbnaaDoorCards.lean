/-
  DERIVED. GIVEN WITH THE SEED: THE CARDS: each row of YtebbmpomccjbnaaDoorRows.lean that lists a variable, with what it lists TIED to the program's text (the seventh form; the later family's looks); each row that meets fmt, with fmt's text TOLD by the authors' own Lean function (tested against real Go, not proved from fmt's source: count such statements apart). THE CARD IS WHAT COUNTS. Prove the row's statement (the work); the ties are given (YtebbmpomccjbnaaDoorTie.lean); close each card by the builder's one call (the guide's Derived/Test/ToyasCard.lean, 'card_holds'). Laid BY PROGRAM, IN A SANDBOX (cutbox-door.mjs). By AI agents, Wed Nov 11 2026. No macro, syntax, notation, axiom, sorry.
-/
import Derived.Test.YtebbmpomccjbnaaDoorRows
import GoSem.ClaimSeven
namespace Go.Proofs.YtebbmpomccjbnaaDoor
namespace Rows

/-- THE TIED CARD OF 'massiftop.ApiErrors'. -/
def apiErrorsCard : Claim7 := { stood := { row := apiErrorsRow, standIns := [], harness := (true, "8dc92c8701b8302d725373eeb9a438a8c37b8f45231a7211e4672056a922b346"), looks := false }, kinds := [], alts := [], laidByText := true, laidKinds := [.data, .data, .data], laidTests := true, laidLooks := .later }
def ApiErrorsCardSaid : Prop := Claim7.holds Tryd.pinned (.plain (OpenSpec.ofChange apiErrorsSpec)) apiErrorsCard

/-- THE SECOND FORM's CARD OF 'massiftop.ApiErrors'. -/
def apiErrorsUptoCard : Claim7 := { stood := { row := apiErrorsUptoRow, standIns := [], harness := (true, "8dc92c8701b8302d725373eeb9a438a8c37b8f45231a7211e4672056a922b346"), looks := false }, kinds := [], alts := [], laidByText := true, laidKinds := [.data, .data, .data], laidTests := true, laidLooks := .later }
def ApiErrorsUptoCardSaid : Prop := Claim7.holds Tryd.pinned (.plain (OpenSpec.upto apiErrorsSpec)) apiErrorsUptoCard
end Rows
end Go.Proofs.YtebbmpomccjbnaaDoor
