/-
  DERIVED. GIVEN WITH THE SEED: THE CARDS: each row of YtefapmdgodfpeaaDoorRows.lean that lists a variable, with what it lists TIED to the program's text (the seventh form; the later family's looks); each row that meets fmt, with fmt's text TOLD by the authors' own Lean function (tested against real Go, not proved from fmt's source: count such statements apart). THE CARD IS WHAT COUNTS. Prove the row's statement (the work); the ties are given (YtefapmdgodfpeaaDoorTie.lean); close each card by the builder's one call (the guide's Derived/Test/ToyasCard.lean, 'card_holds'). Laid BY PROGRAM, IN A SANDBOX (cutbox-door.mjs). By AI agents, Wed Nov 11 2026. No macro, syntax, notation, axiom, sorry.
-/
import Derived.Test.YtefapmdgodfpeaaDoorRows
import GoSem.ClaimSeven
namespace Go.Proofs.YtefapmdgodfpeaaDoor
namespace Rows

/-- THE TIED CARD OF 'rollbooklaw08.DateDays'. -/
def dateDaysCard : Claim7 := { stood := { row := dateDaysRow, standIns := [], harness := (true, "2efc48f0b26da16e4ab0c1d9044362e2f1327eecfa74b799be1a546dcc6c93ab"), looks := false }, kinds := [], alts := [], laidByText := true, laidKinds := [.data, .data, .data, .data], laidTests := true, laidLooks := .later }
def DateDaysCardSaid : Prop := Claim7.holds Tryd.pinned (.plain (OpenSpec.ofChange dateDaysSpec)) dateDaysCard

/-- THE TIED CARD OF 'rollbooklaw08.DateOf'. -/
def dateOfCard : Claim7 := { stood := { row := dateOfRow, standIns := [], harness := (true, "2efc48f0b26da16e4ab0c1d9044362e2f1327eecfa74b799be1a546dcc6c93ab"), looks := false }, kinds := [], alts := [], laidByText := true, laidKinds := [.data, .data, .data, .data], laidTests := true, laidLooks := .later }
def DateOfCardSaid : Prop := Claim7.holds Tryd.pinned (.plain (OpenSpec.ofChange dateOfSpec)) dateOfCard

/-- THE TIED CARD OF 'rollbooklaw08.DateWeekdays'. -/
def dateWeekdaysCard : Claim7 := { stood := { row := dateWeekdaysRow, standIns := [], harness := (true, "2efc48f0b26da16e4ab0c1d9044362e2f1327eecfa74b799be1a546dcc6c93ab"), looks := false }, kinds := [], alts := [], laidByText := true, laidKinds := [.data, .data, .data, .data], laidTests := true, laidLooks := .later }
def DateWeekdaysCardSaid : Prop := Claim7.holds Tryd.pinned (.plain (OpenSpec.ofChange dateWeekdaysSpec)) dateWeekdaysCard

/-- THE TIED CARD OF 'rollbooklaw08.DateEaster'. -/
def dateEasterCard : Claim7 := { stood := { row := dateEasterRow, standIns := [], harness := (true, "2efc48f0b26da16e4ab0c1d9044362e2f1327eecfa74b799be1a546dcc6c93ab"), looks := false }, kinds := [], alts := [], laidByText := true, laidKinds := [.data, .data, .data, .data], laidTests := true, laidLooks := .later }
def DateEasterCardSaid : Prop := Claim7.holds Tryd.pinned (.plain (OpenSpec.ofChange dateEasterSpec)) dateEasterCard

/-- THE TIED CARD OF 'rollbooklaw08.DateMonths'. -/
def dateMonthsCard : Claim7 := { stood := { row := dateMonthsRow, standIns := [], harness := (true, "2efc48f0b26da16e4ab0c1d9044362e2f1327eecfa74b799be1a546dcc6c93ab"), looks := false }, kinds := [], alts := [], laidByText := true, laidKinds := [.data, .data, .data, .data], laidTests := true, laidLooks := .later }
def DateMonthsCardSaid : Prop := Claim7.holds Tryd.pinned (.plain (OpenSpec.ofChange dateMonthsSpec)) dateMonthsCard

/-- THE TIED CARD OF 'rollbooklaw08.DateParses'. -/
def dateParsesCard : Claim7 := { stood := { row := dateParsesRow, standIns := [], harness := (true, "2efc48f0b26da16e4ab0c1d9044362e2f1327eecfa74b799be1a546dcc6c93ab"), looks := false }, kinds := [], alts := [], laidByText := true, laidKinds := [.data, .data, .data, .data], laidTests := true, laidLooks := .later }
def DateParsesCardSaid : Prop := Claim7.holds Tryd.pinned (.plain (OpenSpec.ofChange dateParsesSpec)) dateParsesCard

/-- THE TIED CARD OF 'rollbooklaw08.DateRound'. -/
def dateRoundCard : Claim7 := { stood := { row := dateRoundRow, standIns := [], harness := (true, "2efc48f0b26da16e4ab0c1d9044362e2f1327eecfa74b799be1a546dcc6c93ab"), looks := false }, kinds := [], alts := [], laidByText := true, laidKinds := [.data, .data, .data, .data], laidTests := true, laidLooks := .later }
def DateRoundCardSaid : Prop := Claim7.holds Tryd.pinned (.plain (OpenSpec.ofChange dateRoundSpec)) dateRoundCard

/-- THE TIED CARD OF 'rollbooklaw08.DateSteps'. -/
def dateStepsCard : Claim7 := { stood := { row := dateStepsRow, standIns := [], harness := (true, "2efc48f0b26da16e4ab0c1d9044362e2f1327eecfa74b799be1a546dcc6c93ab"), looks := false }, kinds := [], alts := [], laidByText := true, laidKinds := [.data, .data, .data, .data], laidTests := true, laidLooks := .later }
def DateStepsCardSaid : Prop := Claim7.holds Tryd.pinned (.plain (OpenSpec.ofChange dateStepsSpec)) dateStepsCard

/-- THE TIED CARD OF 'rollbooklaw08.DateCycles'. -/
def dateCyclesCard : Claim7 := { stood := { row := dateCyclesRow, standIns := [], harness := (true, "2efc48f0b26da16e4ab0c1d9044362e2f1327eecfa74b799be1a546dcc6c93ab"), looks := false }, kinds := [], alts := [], laidByText := true, laidKinds := [.data, .data, .data, .data], laidTests := true, laidLooks := .later }
def DateCyclesCardSaid : Prop := Claim7.holds Tryd.pinned (.plain (OpenSpec.ofChange dateCyclesSpec)) dateCyclesCard

/-- THE TIED CARD OF 'rollbooklaw08.DateEasterSunday'. -/
def dateEasterSundayCard : Claim7 := { stood := { row := dateEasterSundayRow, standIns := [], harness := (true, "2efc48f0b26da16e4ab0c1d9044362e2f1327eecfa74b799be1a546dcc6c93ab"), looks := false }, kinds := [], alts := [], laidByText := true, laidKinds := [.data, .data, .data, .data], laidTests := true, laidLooks := .later }
def DateEasterSundayCardSaid : Prop := Claim7.holds Tryd.pinned (.plain (OpenSpec.ofChange dateEasterSundaySpec)) dateEasterSundayCard

/-- THE TIED CARD OF 'rollbooklaw08.DateAdds'. -/
def dateAddsCard : Claim7 := { stood := { row := dateAddsRow, standIns := [], harness := (true, "2efc48f0b26da16e4ab0c1d9044362e2f1327eecfa74b799be1a546dcc6c93ab"), looks := false }, kinds := [], alts := [], laidByText := true, laidKinds := [.data, .data, .data, .data], laidTests := true, laidLooks := .later }
def DateAddsCardSaid : Prop := Claim7.holds Tryd.pinned (.plain (OpenSpec.ofChange dateAddsSpec)) dateAddsCard

/-- THE SECOND FORM's CARD OF 'rollbooklaw08.DateDays'. -/
def dateDaysUptoCard : Claim7 := { stood := { row := dateDaysUptoRow, standIns := [], harness := (true, "2efc48f0b26da16e4ab0c1d9044362e2f1327eecfa74b799be1a546dcc6c93ab"), looks := false }, kinds := [], alts := [], laidByText := true, laidKinds := [.data, .data, .data, .data], laidTests := true, laidLooks := .later }
def DateDaysUptoCardSaid : Prop := Claim7.holds Tryd.pinned (.plain (OpenSpec.upto dateDaysSpec)) dateDaysUptoCard

/-- THE SECOND FORM's CARD OF 'rollbooklaw08.DateOf'. -/
def dateOfUptoCard : Claim7 := { stood := { row := dateOfUptoRow, standIns := [], harness := (true, "2efc48f0b26da16e4ab0c1d9044362e2f1327eecfa74b799be1a546dcc6c93ab"), looks := false }, kinds := [], alts := [], laidByText := true, laidKinds := [.data, .data, .data, .data], laidTests := true, laidLooks := .later }
def DateOfUptoCardSaid : Prop := Claim7.holds Tryd.pinned (.plain (OpenSpec.upto dateOfSpec)) dateOfUptoCard

/-- THE SECOND FORM's CARD OF 'rollbooklaw08.DateWeekdays'. -/
def dateWeekdaysUptoCard : Claim7 := { stood := { row := dateWeekdaysUptoRow, standIns := [], harness := (true, "2efc48f0b26da16e4ab0c1d9044362e2f1327eecfa74b799be1a546dcc6c93ab"), looks := false }, kinds := [], alts := [], laidByText := true, laidKinds := [.data, .data, .data, .data], laidTests := true, laidLooks := .later }
def DateWeekdaysUptoCardSaid : Prop := Claim7.holds Tryd.pinned (.plain (OpenSpec.upto dateWeekdaysSpec)) dateWeekdaysUptoCard

/-- THE SECOND FORM's CARD OF 'rollbooklaw08.DateEaster'. -/
def dateEasterUptoCard : Claim7 := { stood := { row := dateEasterUptoRow, standIns := [], harness := (true, "2efc48f0b26da16e4ab0c1d9044362e2f1327eecfa74b799be1a546dcc6c93ab"), looks := false }, kinds := [], alts := [], laidByText := true, laidKinds := [.data, .data, .data, .data], laidTests := true, laidLooks := .later }
def DateEasterUptoCardSaid : Prop := Claim7.holds Tryd.pinned (.plain (OpenSpec.upto dateEasterSpec)) dateEasterUptoCard

/-- THE SECOND FORM's CARD OF 'rollbooklaw08.DateMonths'. -/
def dateMonthsUptoCard : Claim7 := { stood := { row := dateMonthsUptoRow, standIns := [], harness := (true, "2efc48f0b26da16e4ab0c1d9044362e2f1327eecfa74b799be1a546dcc6c93ab"), looks := false }, kinds := [], alts := [], laidByText := true, laidKinds := [.data, .data, .data, .data], laidTests := true, laidLooks := .later }
def DateMonthsUptoCardSaid : Prop := Claim7.holds Tryd.pinned (.plain (OpenSpec.upto dateMonthsSpec)) dateMonthsUptoCard

/-- THE SECOND FORM's CARD OF 'rollbooklaw08.DateParses'. -/
def dateParsesUptoCard : Claim7 := { stood := { row := dateParsesUptoRow, standIns := [], harness := (true, "2efc48f0b26da16e4ab0c1d9044362e2f1327eecfa74b799be1a546dcc6c93ab"), looks := false }, kinds := [], alts := [], laidByText := true, laidKinds := [.data, .data, .data, .data], laidTests := true, laidLooks := .later }
def DateParsesUptoCardSaid : Prop := Claim7.holds Tryd.pinned (.plain (OpenSpec.upto dateParsesSpec)) dateParsesUptoCard

/-- THE SECOND FORM's CARD OF 'rollbooklaw08.DateRound'. -/
def dateRoundUptoCard : Claim7 := { stood := { row := dateRoundUptoRow, standIns := [], harness := (true, "2efc48f0b26da16e4ab0c1d9044362e2f1327eecfa74b799be1a546dcc6c93ab"), looks := false }, kinds := [], alts := [], laidByText := true, laidKinds := [.data, .data, .data, .data], laidTests := true, laidLooks := .later }
def DateRoundUptoCardSaid : Prop := Claim7.holds Tryd.pinned (.plain (OpenSpec.upto dateRoundSpec)) dateRoundUptoCard

/-- THE SECOND FORM's CARD OF 'rollbooklaw08.DateSteps'. -/
def dateStepsUptoCard : Claim7 := { stood := { row := dateStepsUptoRow, standIns := [], harness := (true, "2efc48f0b26da16e4ab0c1d9044362e2f1327eecfa74b799be1a546dcc6c93ab"), looks := false }, kinds := [], alts := [], laidByText := true, laidKinds := [.data, .data, .data, .data], laidTests := true, laidLooks := .later }
def DateStepsUptoCardSaid : Prop := Claim7.holds Tryd.pinned (.plain (OpenSpec.upto dateStepsSpec)) dateStepsUptoCard

/-- THE SECOND FORM's CARD OF 'rollbooklaw08.DateCycles'. -/
def dateCyclesUptoCard : Claim7 := { stood := { row := dateCyclesUptoRow, standIns := [], harness := (true, "2efc48f0b26da16e4ab0c1d9044362e2f1327eecfa74b799be1a546dcc6c93ab"), looks := false }, kinds := [], alts := [], laidByText := true, laidKinds := [.data, .data, .data, .data], laidTests := true, laidLooks := .later }
def DateCyclesUptoCardSaid : Prop := Claim7.holds Tryd.pinned (.plain (OpenSpec.upto dateCyclesSpec)) dateCyclesUptoCard

/-- THE SECOND FORM's CARD OF 'rollbooklaw08.DateEasterSunday'. -/
def dateEasterSundayUptoCard : Claim7 := { stood := { row := dateEasterSundayUptoRow, standIns := [], harness := (true, "2efc48f0b26da16e4ab0c1d9044362e2f1327eecfa74b799be1a546dcc6c93ab"), looks := false }, kinds := [], alts := [], laidByText := true, laidKinds := [.data, .data, .data, .data], laidTests := true, laidLooks := .later }
def DateEasterSundayUptoCardSaid : Prop := Claim7.holds Tryd.pinned (.plain (OpenSpec.upto dateEasterSundaySpec)) dateEasterSundayUptoCard

/-- THE SECOND FORM's CARD OF 'rollbooklaw08.DateAdds'. -/
def dateAddsUptoCard : Claim7 := { stood := { row := dateAddsUptoRow, standIns := [], harness := (true, "2efc48f0b26da16e4ab0c1d9044362e2f1327eecfa74b799be1a546dcc6c93ab"), looks := false }, kinds := [], alts := [], laidByText := true, laidKinds := [.data, .data, .data, .data], laidTests := true, laidLooks := .later }
def DateAddsUptoCardSaid : Prop := Claim7.holds Tryd.pinned (.plain (OpenSpec.upto dateAddsSpec)) dateAddsUptoCard
end Rows
end Go.Proofs.YtefapmdgodfpeaaDoor
