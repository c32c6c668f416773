/-
  DERIVED. GIVEN WITH THE SEED: THE CARDS: each row of YtnemgohcjjhfmaaDoorRows.lean that lists a variable, with what it lists TIED to the program's text (the seventh form; the later family's looks); each row that meets fmt, with fmt's text TOLD by the authors' own Lean function (tested against real Go, not proved from fmt's source: count such statements apart). THE CARD IS WHAT COUNTS. Prove the row's statement (the work); the ties are given (YtnemgohcjjhfmaaDoorTie.lean); close each card by the builder's one call (the guide's Derived/Test/ToyasCard.lean, 'card_holds'). Laid BY PROGRAM, IN A SANDBOX (cutbox-door.mjs). By AI agents, Wed Nov 11 2026. No macro, syntax, notation, axiom, sorry.
-/
import Derived.Test.YtnemgohcjjhfmaaDoorRows
import GoSem.ClaimSeven
namespace Go.Proofs.YtnemgohcjjhfmaaDoor
namespace Rows

/-- THE TIED CARD OF 'rollbooklaw10.HolidayChecks'. -/
def holidayChecksCard : Claim7 := { stood := { row := holidayChecksRow, standIns := [], harness := (true, "09f8f7ce851f87bba6c3cbbed6f93562b7556bc49de3b04472dfd777fcb8b9fa"), looks := false }, kinds := [], alts := [], laidByText := true, laidKinds := [.data, .data, .data, .data, .data], laidTests := true, laidLooks := .later }
def HolidayChecksCardSaid : Prop := Claim7.holds Tryd.pinned (.plain (OpenSpec.ofChange holidayChecksSpec)) holidayChecksCard

/-- THE TIED CARD OF 'rollbooklaw10.HolidayYears'. -/
def holidayYearsCard : Claim7 := { stood := { row := holidayYearsRow, standIns := [], harness := (true, "09f8f7ce851f87bba6c3cbbed6f93562b7556bc49de3b04472dfd777fcb8b9fa"), looks := false }, kinds := [], alts := [], laidByText := true, laidKinds := [.data, .data, .data, .data, .data], laidTests := true, laidLooks := .later }
def HolidayYearsCardSaid : Prop := Claim7.holds Tryd.pinned (.plain (OpenSpec.ofChange holidayYearsSpec)) holidayYearsCard

/-- THE TIED CARD OF 'rollbooklaw10.HolidayWeekdays'. -/
def holidayWeekdaysCard : Claim7 := { stood := { row := holidayWeekdaysRow, standIns := [], harness := (true, "09f8f7ce851f87bba6c3cbbed6f93562b7556bc49de3b04472dfd777fcb8b9fa"), looks := false }, kinds := [], alts := [], laidByText := true, laidKinds := [.data, .data, .data, .data, .data], laidTests := true, laidLooks := .later }
def HolidayWeekdaysCardSaid : Prop := Claim7.holds Tryd.pinned (.plain (OpenSpec.ofChange holidayWeekdaysSpec)) holidayWeekdaysCard

/-- THE TIED CARD OF 'rollbooklaw10.HolidayCycle'. -/
def holidayCycleCard : Claim7 := { stood := { row := holidayCycleRow, standIns := [], harness := (true, "09f8f7ce851f87bba6c3cbbed6f93562b7556bc49de3b04472dfd777fcb8b9fa"), looks := false }, kinds := [], alts := [], laidByText := true, laidKinds := [.data, .data, .data, .data, .data], laidTests := true, laidLooks := .later }
def HolidayCycleCardSaid : Prop := Claim7.holds Tryd.pinned (.plain (OpenSpec.ofChange holidayCycleSpec)) holidayCycleCard

/-- THE TIED CARD OF 'rollbooklaw10.HolidayNeighbours'. -/
def holidayNeighboursCard : Claim7 := { stood := { row := holidayNeighboursRow, standIns := [], harness := (true, "09f8f7ce851f87bba6c3cbbed6f93562b7556bc49de3b04472dfd777fcb8b9fa"), looks := false }, kinds := [], alts := [], laidByText := true, laidKinds := [.data, .data, .data, .data, .data], laidTests := true, laidLooks := .later }
def HolidayNeighboursCardSaid : Prop := Claim7.holds Tryd.pinned (.plain (OpenSpec.ofChange holidayNeighboursSpec)) holidayNeighboursCard

/-- THE TIED CARD OF 'rollbooklaw10.HolidayLists'. -/
def holidayListsCard : Claim7 := { stood := { row := holidayListsRow, standIns := [], harness := (true, "09f8f7ce851f87bba6c3cbbed6f93562b7556bc49de3b04472dfd777fcb8b9fa"), looks := false }, kinds := [], alts := [], laidByText := true, laidKinds := [.data, .data, .data, .data, .data], laidTests := true, laidLooks := .later }
def HolidayListsCardSaid : Prop := Claim7.holds Tryd.pinned (.plain (OpenSpec.ofChange holidayListsSpec)) holidayListsCard

/-- THE TIED CARD OF 'rollbooklaw10.HolidayEaster'. -/
def holidayEasterCard : Claim7 := { stood := { row := holidayEasterRow, standIns := [], harness := (true, "09f8f7ce851f87bba6c3cbbed6f93562b7556bc49de3b04472dfd777fcb8b9fa"), looks := false }, kinds := [], alts := [], laidByText := true, laidKinds := [.data, .data, .data, .data, .data], laidTests := true, laidLooks := .later }
def HolidayEasterCardSaid : Prop := Claim7.holds Tryd.pinned (.plain (OpenSpec.ofChange holidayEasterSpec)) holidayEasterCard

/-- THE SECOND FORM's CARD OF 'rollbooklaw10.HolidayChecks'. -/
def holidayChecksUptoCard : Claim7 := { stood := { row := holidayChecksUptoRow, standIns := [], harness := (true, "09f8f7ce851f87bba6c3cbbed6f93562b7556bc49de3b04472dfd777fcb8b9fa"), looks := false }, kinds := [], alts := [], laidByText := true, laidKinds := [.data, .data, .data, .data, .data], laidTests := true, laidLooks := .later }
def HolidayChecksUptoCardSaid : Prop := Claim7.holds Tryd.pinned (.plain (OpenSpec.upto holidayChecksSpec)) holidayChecksUptoCard

/-- THE SECOND FORM's CARD OF 'rollbooklaw10.HolidayYears'. -/
def holidayYearsUptoCard : Claim7 := { stood := { row := holidayYearsUptoRow, standIns := [], harness := (true, "09f8f7ce851f87bba6c3cbbed6f93562b7556bc49de3b04472dfd777fcb8b9fa"), looks := false }, kinds := [], alts := [], laidByText := true, laidKinds := [.data, .data, .data, .data, .data], laidTests := true, laidLooks := .later }
def HolidayYearsUptoCardSaid : Prop := Claim7.holds Tryd.pinned (.plain (OpenSpec.upto holidayYearsSpec)) holidayYearsUptoCard

/-- THE SECOND FORM's CARD OF 'rollbooklaw10.HolidayWeekdays'. -/
def holidayWeekdaysUptoCard : Claim7 := { stood := { row := holidayWeekdaysUptoRow, standIns := [], harness := (true, "09f8f7ce851f87bba6c3cbbed6f93562b7556bc49de3b04472dfd777fcb8b9fa"), looks := false }, kinds := [], alts := [], laidByText := true, laidKinds := [.data, .data, .data, .data, .data], laidTests := true, laidLooks := .later }
def HolidayWeekdaysUptoCardSaid : Prop := Claim7.holds Tryd.pinned (.plain (OpenSpec.upto holidayWeekdaysSpec)) holidayWeekdaysUptoCard

/-- THE SECOND FORM's CARD OF 'rollbooklaw10.HolidayCycle'. -/
def holidayCycleUptoCard : Claim7 := { stood := { row := holidayCycleUptoRow, standIns := [], harness := (true, "09f8f7ce851f87bba6c3cbbed6f93562b7556bc49de3b04472dfd777fcb8b9fa"), looks := false }, kinds := [], alts := [], laidByText := true, laidKinds := [.data, .data, .data, .data, .data], laidTests := true, laidLooks := .later }
def HolidayCycleUptoCardSaid : Prop := Claim7.holds Tryd.pinned (.plain (OpenSpec.upto holidayCycleSpec)) holidayCycleUptoCard

/-- THE SECOND FORM's CARD OF 'rollbooklaw10.HolidayNeighbours'. -/
def holidayNeighboursUptoCard : Claim7 := { stood := { row := holidayNeighboursUptoRow, standIns := [], harness := (true, "09f8f7ce851f87bba6c3cbbed6f93562b7556bc49de3b04472dfd777fcb8b9fa"), looks := false }, kinds := [], alts := [], laidByText := true, laidKinds := [.data, .data, .data, .data, .data], laidTests := true, laidLooks := .later }
def HolidayNeighboursUptoCardSaid : Prop := Claim7.holds Tryd.pinned (.plain (OpenSpec.upto holidayNeighboursSpec)) holidayNeighboursUptoCard

/-- THE SECOND FORM's CARD OF 'rollbooklaw10.HolidayLists'. -/
def holidayListsUptoCard : Claim7 := { stood := { row := holidayListsUptoRow, standIns := [], harness := (true, "09f8f7ce851f87bba6c3cbbed6f93562b7556bc49de3b04472dfd777fcb8b9fa"), looks := false }, kinds := [], alts := [], laidByText := true, laidKinds := [.data, .data, .data, .data, .data], laidTests := true, laidLooks := .later }
def HolidayListsUptoCardSaid : Prop := Claim7.holds Tryd.pinned (.plain (OpenSpec.upto holidayListsSpec)) holidayListsUptoCard

/-- THE SECOND FORM's CARD OF 'rollbooklaw10.HolidayEaster'. -/
def holidayEasterUptoCard : Claim7 := { stood := { row := holidayEasterUptoRow, standIns := [], harness := (true, "09f8f7ce851f87bba6c3cbbed6f93562b7556bc49de3b04472dfd777fcb8b9fa"), looks := false }, kinds := [], alts := [], laidByText := true, laidKinds := [.data, .data, .data, .data, .data], laidTests := true, laidLooks := .later }
def HolidayEasterUptoCardSaid : Prop := Claim7.holds Tryd.pinned (.plain (OpenSpec.upto holidayEasterSpec)) holidayEasterUptoCard
end Rows
end Go.Proofs.YtnemgohcjjhfmaaDoor
