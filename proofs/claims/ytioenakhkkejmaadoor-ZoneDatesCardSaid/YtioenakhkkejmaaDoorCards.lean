/-
  DERIVED. GIVEN WITH THE SEED: THE CARDS: each row of YtioenakhkkejmaaDoorRows.lean that lists a variable, with what it lists TIED to the program's text (the seventh form; the later family's looks); each row that meets fmt, with fmt's text TOLD by the authors' own Lean function (tested against real Go, not proved from fmt's source: count such statements apart). THE CARD IS WHAT COUNTS. Prove the row's statement (the work); the ties are given (YtioenakhkkejmaaDoorTie.lean); close each card by the builder's one call (the guide's Derived/Test/ToyasCard.lean, 'card_holds'). Laid BY PROGRAM, IN A SANDBOX (cutbox-door.mjs). By AI agents, Wed Nov 11 2026. No macro, syntax, notation, axiom, sorry.
-/
import Derived.Test.YtioenakhkkejmaaDoorRows
import GoSem.ClaimSeven
namespace Go.Proofs.YtioenakhkkejmaaDoor
namespace Rows

/-- THE TIED CARD OF 'rollbooklaw09.ZoneDates'. -/
def zoneDatesCard : Claim7 := { stood := { row := zoneDatesRow, standIns := [], harness := (true, "713dd4a4faf115b0e1fbb21b979553976f4a384426955a3a6c4b9012d287234e"), looks := false }, kinds := [], alts := [], laidByText := true, laidKinds := [.data, .data, .data, .data], laidTests := true, laidLooks := .later }
def ZoneDatesCardSaid : Prop := Claim7.holds Tryd.pinned (.plain (OpenSpec.ofChange zoneDatesSpec)) zoneDatesCard

/-- THE SECOND FORM's CARD OF 'rollbooklaw09.ZoneDates'. -/
def zoneDatesUptoCard : Claim7 := { stood := { row := zoneDatesUptoRow, standIns := [], harness := (true, "713dd4a4faf115b0e1fbb21b979553976f4a384426955a3a6c4b9012d287234e"), looks := false }, kinds := [], alts := [], laidByText := true, laidKinds := [.data, .data, .data, .data], laidTests := true, laidLooks := .later }
def ZoneDatesUptoCardSaid : Prop := Claim7.holds Tryd.pinned (.plain (OpenSpec.upto zoneDatesSpec)) zoneDatesUptoCard
end Rows
end Go.Proofs.YtioenakhkkejmaaDoor
