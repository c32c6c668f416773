/-
  DERIVED. GIVEN WITH THE SEED: THE CARDS: each row of YtaiiibbnjmjamaaGreatDoorRows.lean that lists a variable, with what it lists TIED to the program's text (the seventh form; the later family's looks); each row that meets fmt, with fmt's text TOLD by the authors' own Lean function (tested against real Go, not proved from fmt's source: count such statements apart). THE CARD IS WHAT COUNTS. Prove the row's statement (the work); the ties are given (YtaiiibbnjmjamaaGreatDoorTie.lean); close each card by the builder's one call (the guide's Derived/Test/ToyasCard.lean, 'card_holds'). Laid BY PROGRAM, IN A SANDBOX (cutbox-door.mjs). By AI agents, Wed Nov 11 2026. No macro, syntax, notation, axiom, sorry.
-/
import Derived.Test.YtaiiibbnjmjamaaGreatDoorRows
import GoSem.ClaimSeven
namespace Go.Proofs.YtaiiibbnjmjamaaGreatDoor
namespace Rows

/-- THE TIED CARD OF 'rollbooklaw10.HolidayKeys'. -/
def holidayKeysCard : Claim7 := { stood := { row := holidayKeysRow, standIns := [], harness := (true, "c6adcf90057bd88884c91206e0327d95e1adf79d1694b8a2364b425a3e9483f8"), looks := false }, kinds := [], alts := [], laidByText := true, laidKinds := [.data, .data, .data, .data, .data], laidTests := true, laidLooks := .later }
def HolidayKeysCardSaid : Prop := Claim7.holds Tryz.pinned (.plain (OpenSpec.ofChange holidayKeysSpec)) holidayKeysCard

/-- THE SECOND FORM's CARD OF 'rollbooklaw10.HolidayKeys'. -/
def holidayKeysUptoCard : Claim7 := { stood := { row := holidayKeysUptoRow, standIns := [], harness := (true, "c6adcf90057bd88884c91206e0327d95e1adf79d1694b8a2364b425a3e9483f8"), looks := false }, kinds := [], alts := [], laidByText := true, laidKinds := [.data, .data, .data, .data, .data], laidTests := true, laidLooks := .later }
def HolidayKeysUptoCardSaid : Prop := Claim7.holds Tryz.pinned (.plain (OpenSpec.upto holidayKeysSpec)) holidayKeysUptoCard
end Rows
end Go.Proofs.YtaiiibbnjmjamaaGreatDoor
