/-
  DERIVED. GIVEN WITH THE SEED: THE CARDS: each row of YtnemgohcjjhfmaaGreatDoorRows.lean that lists a variable, with what it lists TIED to the program's text (the seventh form; the later family's looks); each row that meets fmt, with fmt's text TOLD by the authors' own Lean function (tested against real Go, not proved from fmt's source: count such statements apart). THE CARD IS WHAT COUNTS. Prove the row's statement (the work); the ties are given (YtnemgohcjjhfmaaGreatDoorTie.lean); close each card by the builder's one call (the guide's Derived/Test/ToyasCard.lean, 'card_holds'). Laid BY PROGRAM, IN A SANDBOX (cutbox-door.mjs). By AI agents, Wed Nov 11 2026. No macro, syntax, notation, axiom, sorry.
-/
import Derived.Test.YtnemgohcjjhfmaaGreatDoorRows
import GoSem.ClaimSeven
namespace Go.Proofs.YtnemgohcjjhfmaaGreatDoor
namespace Rows

/-- THE TIED CARD OF 'rollbooklaw10.HolidayDays'. -/
def holidayDaysCard : Claim7 := { stood := { row := holidayDaysRow, standIns := [], harness := (true, "d095ebff0296a04312bb876e038ef833f31212d9fb91e3e61a2c664e755a2e0b"), looks := false }, kinds := [], alts := [], laidByText := true, laidKinds := [.data, .data, .data, .data, .data], laidTests := true, laidLooks := .later }
def HolidayDaysCardSaid : Prop := Claim7.holds Tryz.pinned (.plain (OpenSpec.ofChange holidayDaysSpec)) holidayDaysCard

/-- THE TIED CARD OF 'rollbooklaw10.HolidayRanges'. -/
def holidayRangesCard : Claim7 := { stood := { row := holidayRangesRow, standIns := [], harness := (true, "d095ebff0296a04312bb876e038ef833f31212d9fb91e3e61a2c664e755a2e0b"), looks := false }, kinds := [], alts := [], laidByText := true, laidKinds := [.data, .data, .data, .data, .data], laidTests := true, laidLooks := .later }
def HolidayRangesCardSaid : Prop := Claim7.holds Tryz.pinned (.plain (OpenSpec.ofChange holidayRangesSpec)) holidayRangesCard

/-- THE TIED CARD OF 'rollbooklaw10.HolidayKeys'. -/
def holidayKeysCard : Claim7 := { stood := { row := holidayKeysRow, standIns := [], harness := (true, "d095ebff0296a04312bb876e038ef833f31212d9fb91e3e61a2c664e755a2e0b"), looks := false }, kinds := [], alts := [], laidByText := true, laidKinds := [.data, .data, .data, .data, .data], laidTests := true, laidLooks := .later }
def HolidayKeysCardSaid : Prop := Claim7.holds Tryz.pinned (.plain (OpenSpec.ofChange holidayKeysSpec)) holidayKeysCard

/-- THE SECOND FORM's CARD OF 'rollbooklaw10.HolidayDays'. -/
def holidayDaysUptoCard : Claim7 := { stood := { row := holidayDaysUptoRow, standIns := [], harness := (true, "d095ebff0296a04312bb876e038ef833f31212d9fb91e3e61a2c664e755a2e0b"), looks := false }, kinds := [], alts := [], laidByText := true, laidKinds := [.data, .data, .data, .data, .data], laidTests := true, laidLooks := .later }
def HolidayDaysUptoCardSaid : Prop := Claim7.holds Tryz.pinned (.plain (OpenSpec.upto holidayDaysSpec)) holidayDaysUptoCard

/-- THE SECOND FORM's CARD OF 'rollbooklaw10.HolidayRanges'. -/
def holidayRangesUptoCard : Claim7 := { stood := { row := holidayRangesUptoRow, standIns := [], harness := (true, "d095ebff0296a04312bb876e038ef833f31212d9fb91e3e61a2c664e755a2e0b"), looks := false }, kinds := [], alts := [], laidByText := true, laidKinds := [.data, .data, .data, .data, .data], laidTests := true, laidLooks := .later }
def HolidayRangesUptoCardSaid : Prop := Claim7.holds Tryz.pinned (.plain (OpenSpec.upto holidayRangesSpec)) holidayRangesUptoCard

/-- THE SECOND FORM's CARD OF 'rollbooklaw10.HolidayKeys'. -/
def holidayKeysUptoCard : Claim7 := { stood := { row := holidayKeysUptoRow, standIns := [], harness := (true, "d095ebff0296a04312bb876e038ef833f31212d9fb91e3e61a2c664e755a2e0b"), looks := false }, kinds := [], alts := [], laidByText := true, laidKinds := [.data, .data, .data, .data, .data], laidTests := true, laidLooks := .later }
def HolidayKeysUptoCardSaid : Prop := Claim7.holds Tryz.pinned (.plain (OpenSpec.upto holidayKeysSpec)) holidayKeysUptoCard
end Rows
end Go.Proofs.YtnemgohcjjhfmaaGreatDoor
