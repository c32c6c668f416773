/-
  DERIVED. GIVEN WITH THE SEED: THE CARDS: each row of YtiilljcnikgeaaaDoorRows.lean that lists a variable, with what it lists TIED to the program's text (the seventh form; the later family's looks); each row that meets fmt, with fmt's text TOLD by the authors' own Lean function (tested against real Go, not proved from fmt's source: count such statements apart). THE CARD IS WHAT COUNTS. Prove the row's statement (the work); the ties are given (YtiilljcnikgeaaaDoorTie.lean); close each card by the builder's one call (the guide's Derived/Test/ToyasCard.lean, 'card_holds'). Laid BY PROGRAM, IN A SANDBOX (cutbox-door.mjs). By AI agents, Wed Nov 11 2026. No macro, syntax, notation, axiom, sorry.
-/
import Derived.Test.YtiilljcnikgeaaaDoorRows
import GoSem.ClaimSeven
namespace Go.Proofs.YtiilljcnikgeaaaDoor
namespace Rows

/-- THE TIED CARD OF 'rollbooklaw11.CalendarChecks'. -/
def calendarChecksCard : Claim7 := { stood := { row := calendarChecksRow, standIns := [], harness := (true, "c7bbb65c456cacd283c9356fddd8c07a414156a5f745631963ad111485eca1db"), looks := false }, kinds := [], alts := [], laidByText := true, laidKinds := [.data, .data], laidTests := true, laidLooks := .later }
def CalendarChecksCardSaid : Prop := Claim7.holds Tryd.pinned (.plain (OpenSpec.ofChange calendarChecksSpec)) calendarChecksCard

/-- THE TIED CARD OF 'rollbooklaw11.CalendarHours'. -/
def calendarHoursCard : Claim7 := { stood := { row := calendarHoursRow, standIns := [], harness := (true, "c7bbb65c456cacd283c9356fddd8c07a414156a5f745631963ad111485eca1db"), looks := false }, kinds := [], alts := [], laidByText := true, laidKinds := [.data, .data], laidTests := true, laidLooks := .later }
def CalendarHoursCardSaid : Prop := Claim7.holds Tryd.pinned (.plain (OpenSpec.ofChange calendarHoursSpec)) calendarHoursCard

/-- THE TIED CARD OF 'rollbooklaw11.CalendarConsults'. -/
def calendarConsultsCard : Claim7 := { stood := { row := calendarConsultsRow, standIns := [], harness := (true, "c7bbb65c456cacd283c9356fddd8c07a414156a5f745631963ad111485eca1db"), looks := false }, kinds := [], alts := [], laidByText := true, laidKinds := [.data, .data], laidTests := true, laidLooks := .later }
def CalendarConsultsCardSaid : Prop := Claim7.holds Tryd.pinned (.plain (OpenSpec.ofChange calendarConsultsSpec)) calendarConsultsCard

/-- THE TIED CARD OF 'rollbooklaw11.CalendarSteps'. -/
def calendarStepsCard : Claim7 := { stood := { row := calendarStepsRow, standIns := [], harness := (true, "c7bbb65c456cacd283c9356fddd8c07a414156a5f745631963ad111485eca1db"), looks := false }, kinds := [], alts := [], laidByText := true, laidKinds := [.data, .data], laidTests := true, laidLooks := .later }
def CalendarStepsCardSaid : Prop := Claim7.holds Tryd.pinned (.plain (OpenSpec.ofChange calendarStepsSpec)) calendarStepsCard

/-- THE TIED CARD OF 'rollbooklaw11.CalendarHolidays'. -/
def calendarHolidaysCard : Claim7 := { stood := { row := calendarHolidaysRow, standIns := [], harness := (true, "c7bbb65c456cacd283c9356fddd8c07a414156a5f745631963ad111485eca1db"), looks := false }, kinds := [], alts := [], laidByText := true, laidKinds := [.data, .data], laidTests := true, laidLooks := .later }
def CalendarHolidaysCardSaid : Prop := Claim7.holds Tryd.pinned (.plain (OpenSpec.ofChange calendarHolidaysSpec)) calendarHolidaysCard

/-- THE TIED CARD OF 'rollbooklaw11.CalendarLearns'. -/
def calendarLearnsCard : Claim7 := { stood := { row := calendarLearnsRow, standIns := [], harness := (true, "c7bbb65c456cacd283c9356fddd8c07a414156a5f745631963ad111485eca1db"), looks := false }, kinds := [], alts := [], laidByText := true, laidKinds := [.data, .data], laidTests := true, laidLooks := .later }
def CalendarLearnsCardSaid : Prop := Claim7.holds Tryd.pinned (.plain (OpenSpec.ofChange calendarLearnsSpec)) calendarLearnsCard

/-- THE SECOND FORM's CARD OF 'rollbooklaw11.CalendarChecks'. -/
def calendarChecksUptoCard : Claim7 := { stood := { row := calendarChecksUptoRow, standIns := [], harness := (true, "c7bbb65c456cacd283c9356fddd8c07a414156a5f745631963ad111485eca1db"), looks := false }, kinds := [], alts := [], laidByText := true, laidKinds := [.data, .data], laidTests := true, laidLooks := .later }
def CalendarChecksUptoCardSaid : Prop := Claim7.holds Tryd.pinned (.plain (OpenSpec.upto calendarChecksSpec)) calendarChecksUptoCard

/-- THE SECOND FORM's CARD OF 'rollbooklaw11.CalendarHours'. -/
def calendarHoursUptoCard : Claim7 := { stood := { row := calendarHoursUptoRow, standIns := [], harness := (true, "c7bbb65c456cacd283c9356fddd8c07a414156a5f745631963ad111485eca1db"), looks := false }, kinds := [], alts := [], laidByText := true, laidKinds := [.data, .data], laidTests := true, laidLooks := .later }
def CalendarHoursUptoCardSaid : Prop := Claim7.holds Tryd.pinned (.plain (OpenSpec.upto calendarHoursSpec)) calendarHoursUptoCard

/-- THE SECOND FORM's CARD OF 'rollbooklaw11.CalendarConsults'. -/
def calendarConsultsUptoCard : Claim7 := { stood := { row := calendarConsultsUptoRow, standIns := [], harness := (true, "c7bbb65c456cacd283c9356fddd8c07a414156a5f745631963ad111485eca1db"), looks := false }, kinds := [], alts := [], laidByText := true, laidKinds := [.data, .data], laidTests := true, laidLooks := .later }
def CalendarConsultsUptoCardSaid : Prop := Claim7.holds Tryd.pinned (.plain (OpenSpec.upto calendarConsultsSpec)) calendarConsultsUptoCard

/-- THE SECOND FORM's CARD OF 'rollbooklaw11.CalendarSteps'. -/
def calendarStepsUptoCard : Claim7 := { stood := { row := calendarStepsUptoRow, standIns := [], harness := (true, "c7bbb65c456cacd283c9356fddd8c07a414156a5f745631963ad111485eca1db"), looks := false }, kinds := [], alts := [], laidByText := true, laidKinds := [.data, .data], laidTests := true, laidLooks := .later }
def CalendarStepsUptoCardSaid : Prop := Claim7.holds Tryd.pinned (.plain (OpenSpec.upto calendarStepsSpec)) calendarStepsUptoCard

/-- THE SECOND FORM's CARD OF 'rollbooklaw11.CalendarHolidays'. -/
def calendarHolidaysUptoCard : Claim7 := { stood := { row := calendarHolidaysUptoRow, standIns := [], harness := (true, "c7bbb65c456cacd283c9356fddd8c07a414156a5f745631963ad111485eca1db"), looks := false }, kinds := [], alts := [], laidByText := true, laidKinds := [.data, .data], laidTests := true, laidLooks := .later }
def CalendarHolidaysUptoCardSaid : Prop := Claim7.holds Tryd.pinned (.plain (OpenSpec.upto calendarHolidaysSpec)) calendarHolidaysUptoCard

/-- THE SECOND FORM's CARD OF 'rollbooklaw11.CalendarLearns'. -/
def calendarLearnsUptoCard : Claim7 := { stood := { row := calendarLearnsUptoRow, standIns := [], harness := (true, "c7bbb65c456cacd283c9356fddd8c07a414156a5f745631963ad111485eca1db"), looks := false }, kinds := [], alts := [], laidByText := true, laidKinds := [.data, .data], laidTests := true, laidLooks := .later }
def CalendarLearnsUptoCardSaid : Prop := Claim7.holds Tryd.pinned (.plain (OpenSpec.upto calendarLearnsSpec)) calendarLearnsUptoCard
end Rows
end Go.Proofs.YtiilljcnikgeaaaDoor
