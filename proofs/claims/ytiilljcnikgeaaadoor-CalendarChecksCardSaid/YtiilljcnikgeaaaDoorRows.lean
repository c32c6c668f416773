/-
  NARROWER THAN 'FOR EVERY INPUT', by the rows' own cells (each row's printed sentence says how): CalendarChecks: laid · CalendarHours: laid · CalendarConsults: laid · CalendarSteps: laid · CalendarHolidays: laid · CalendarLearns: laid.
  DERIVED. THE GIVEN ROWS OF THIS SEAT. 6 by the template 'for every input the law returns true; each argument reads behind the call as it read before'; 0 by the template 'total and deterministic' (their statements: YtiilljcnikgeaaaDoorTotals.lean).
  GIVEN WITH THE SEED: the statements are not yours to turn. If you find one false, say at which input.
  Laid BY PROGRAM, IN A SANDBOX (cutbox-rows.mjs): the forced cells as the released guide's own fill.sh prints them over the translation 01d93a134721a2c7… (all of the seat's roots in one cut). By AI agents, Wed Nov 11 2026. No macro, syntax, notation, axiom, sorry.
-/
import Derived.Test.YtiilljcnikgeaaaDoorChecked
import GoSem.Claim
import GoSem.ClaimJoined
import GoSem.ClaimMapViews
import Derived.JoinedTies
import Derived.KernelRfl
namespace Go.Proofs.YtiilljcnikgeaaaDoor
/- THE CELL 'sum', in the pinned program and in every row, IS THE sha256 OF THE DUMP (.gsa) THAT YtiilljcnikgeaaaDoorProg.lean LOADS. Nothing in Lean hashes anything: it is a label: what it is worth is what the hold of that sum in a sandbox is worth. -/
noncomputable def Tryd.pinned : Pinned := { name := "ytiilljcnikgeaaadoor", sum := "01d93a134721a2c7a4ac8389170dee78dec476a5b0f63502e9267267e562bfb3", checked := Tryd.checked }
namespace Rows
def none {H : Type} : Left H := { results := [], args := [] }

/- WHAT THE LISTED PACKAGE-LEVEL VARIABLES READ AS WHEN THE CALL BEGINS. Each datum BY PROGRAM (the guide's laid-datum.mjs) off the statement by which the dump's own 'gosem.cut.vars' lays the variable. In a bare row this is a premise. The card (YtiilljcnikgeaaaDoorCards.lean) ties it to the program's text. -/
def laid_rollbook_date_lengths {H : Type} : DataW H := .agg [.lit (.int .i64 0), .lit (.int .i64 31), .lit (.int .i64 28), .lit (.int .i64 31), .lit (.int .i64 30), .lit (.int .i64 31), .lit (.int .i64 30), .lit (.int .i64 31), .lit (.int .i64 31), .lit (.int .i64 30), .lit (.int .i64 31), .lit (.int .i64 30), .lit (.int .i64 31)]
def laid_rollbook_holiday_moves {H : Type} : DataW H := .agg [.agg [.lit (.int .i64 0), .lit (.int .i64 0), .lit (.int .i64 0), .lit (.int .i64 0), .lit (.int .i64 0), .lit (.int .i64 0), .lit (.int .i64 0)], .agg [.lit (.int .i64 0), .lit (.int .i64 0), .lit (.int .i64 0), .lit (.int .i64 0), .lit (.int .i64 0), .lit (.int .i64 2), .lit (.int .i64 1)], .agg [.lit (.int .i64 0), .lit (.int .i64 0), .lit (.int .i64 0), .lit (.int .i64 0), .lit (.int .i64 0), .lit (.int .i64 (-1)), .lit (.int .i64 1)]]

/-- 'rollbooklaw11.CalendarChecks': WHATEVER THE INPUT: true; the input reads as it did. -/
def calendarChecksSpec : ChangeSpec := { name := "calendarChecks", fn := fun _ => fun
  | [d1, d2, d3, d4] => { results := [.lit (.bool true)], args := [d1, d2, d3, d4] }
  | _ => none }
def calendarChecksRow : OpenClaim := { program := "ytiilljcnikgeaaadoor", sum := "01d93a134721a2c7a4ac8389170dee78dec476a5b0f63502e9267267e562bfb3", func := "rollbook/rollbooklaw11.CalendarChecks", spec := "calendarChecks", unfollowed := true, recurses := true, named := ["rollbook/date.lengths", "rollbook/holiday.moves"], apart := false, laid := [("rollbook/date.lengths", laid_rollbook_date_lengths), ("rollbook/holiday.moves", laid_rollbook_holiday_moves)] }
def CalendarChecksSaid : Prop := calendarChecksRow.holds Tryd.pinned (OpenSpec.ofChange calendarChecksSpec)

/-- ITS FALSE NEIGHBOUR: 'it returns false'. Refute it at one input. -/
def calendarChecksWrong : ChangeSpec := { name := "calendarChecks", fn := fun _ => fun
  | [d1, d2, d3, d4] => { results := [.lit (.bool false)], args := [d1, d2, d3, d4] }
  | _ => none }
def CalendarChecksWrongFalsely : Prop := calendarChecksRow.holds Tryd.pinned (OpenSpec.ofChange calendarChecksWrong)

/-- 'rollbooklaw11.CalendarHours': WHATEVER THE INPUT: true; the input reads as it did. -/
def calendarHoursSpec : ChangeSpec := { name := "calendarHours", fn := fun _ => fun
  | [d1, d2, d3, d4] => { results := [.lit (.bool true)], args := [d1, d2, d3, d4] }
  | _ => none }
def calendarHoursRow : OpenClaim := { program := "ytiilljcnikgeaaadoor", sum := "01d93a134721a2c7a4ac8389170dee78dec476a5b0f63502e9267267e562bfb3", func := "rollbook/rollbooklaw11.CalendarHours", spec := "calendarHours", unfollowed := true, recurses := true, named := ["rollbook/holiday.moves", "rollbook/date.lengths"], apart := false, laid := [("rollbook/date.lengths", laid_rollbook_date_lengths), ("rollbook/holiday.moves", laid_rollbook_holiday_moves)] }
def CalendarHoursSaid : Prop := calendarHoursRow.holds Tryd.pinned (OpenSpec.ofChange calendarHoursSpec)

/-- ITS FALSE NEIGHBOUR: 'it returns false'. Refute it at one input. -/
def calendarHoursWrong : ChangeSpec := { name := "calendarHours", fn := fun _ => fun
  | [d1, d2, d3, d4] => { results := [.lit (.bool false)], args := [d1, d2, d3, d4] }
  | _ => none }
def CalendarHoursWrongFalsely : Prop := calendarHoursRow.holds Tryd.pinned (OpenSpec.ofChange calendarHoursWrong)

/-- 'rollbooklaw11.CalendarConsults': WHATEVER THE INPUT: true; the input reads as it did. -/
def calendarConsultsSpec : ChangeSpec := { name := "calendarConsults", fn := fun _ => fun
  | [d1, d2, d3, d4, d5] => { results := [.lit (.bool true)], args := [d1, d2, d3, d4, d5] }
  | _ => none }
def calendarConsultsRow : OpenClaim := { program := "ytiilljcnikgeaaadoor", sum := "01d93a134721a2c7a4ac8389170dee78dec476a5b0f63502e9267267e562bfb3", func := "rollbook/rollbooklaw11.CalendarConsults", spec := "calendarConsults", unfollowed := true, recurses := true, named := ["rollbook/holiday.moves", "rollbook/date.lengths"], apart := false, laid := [("rollbook/date.lengths", laid_rollbook_date_lengths), ("rollbook/holiday.moves", laid_rollbook_holiday_moves)] }
def CalendarConsultsSaid : Prop := calendarConsultsRow.holds Tryd.pinned (OpenSpec.ofChange calendarConsultsSpec)

/-- ITS FALSE NEIGHBOUR: 'it returns false'. Refute it at one input. -/
def calendarConsultsWrong : ChangeSpec := { name := "calendarConsults", fn := fun _ => fun
  | [d1, d2, d3, d4, d5] => { results := [.lit (.bool false)], args := [d1, d2, d3, d4, d5] }
  | _ => none }
def CalendarConsultsWrongFalsely : Prop := calendarConsultsRow.holds Tryd.pinned (OpenSpec.ofChange calendarConsultsWrong)

/-- 'rollbooklaw11.CalendarSteps': WHATEVER THE INPUT: true; the input reads as it did. -/
def calendarStepsSpec : ChangeSpec := { name := "calendarSteps", fn := fun _ => fun
  | [d1, d2, d3, d4, d5] => { results := [.lit (.bool true)], args := [d1, d2, d3, d4, d5] }
  | _ => none }
def calendarStepsRow : OpenClaim := { program := "ytiilljcnikgeaaadoor", sum := "01d93a134721a2c7a4ac8389170dee78dec476a5b0f63502e9267267e562bfb3", func := "rollbook/rollbooklaw11.CalendarSteps", spec := "calendarSteps", unfollowed := true, recurses := true, named := ["rollbook/holiday.moves", "rollbook/date.lengths"], apart := false, laid := [("rollbook/date.lengths", laid_rollbook_date_lengths), ("rollbook/holiday.moves", laid_rollbook_holiday_moves)] }
def CalendarStepsSaid : Prop := calendarStepsRow.holds Tryd.pinned (OpenSpec.ofChange calendarStepsSpec)

/-- ITS FALSE NEIGHBOUR: 'it returns false'. Refute it at one input. -/
def calendarStepsWrong : ChangeSpec := { name := "calendarSteps", fn := fun _ => fun
  | [d1, d2, d3, d4, d5] => { results := [.lit (.bool false)], args := [d1, d2, d3, d4, d5] }
  | _ => none }
def CalendarStepsWrongFalsely : Prop := calendarStepsRow.holds Tryd.pinned (OpenSpec.ofChange calendarStepsWrong)

/-- 'rollbooklaw11.CalendarHolidays': WHATEVER THE INPUT: true; the input reads as it did. -/
def calendarHolidaysSpec : ChangeSpec := { name := "calendarHolidays", fn := fun _ => fun
  | [d1, d2, d3] => { results := [.lit (.bool true)], args := [d1, d2, d3] }
  | _ => none }
def calendarHolidaysRow : OpenClaim := { program := "ytiilljcnikgeaaadoor", sum := "01d93a134721a2c7a4ac8389170dee78dec476a5b0f63502e9267267e562bfb3", func := "rollbook/rollbooklaw11.CalendarHolidays", spec := "calendarHolidays", unfollowed := true, recurses := true, named := ["rollbook/holiday.moves", "rollbook/date.lengths"], apart := false, laid := [("rollbook/date.lengths", laid_rollbook_date_lengths), ("rollbook/holiday.moves", laid_rollbook_holiday_moves)] }
def CalendarHolidaysSaid : Prop := calendarHolidaysRow.holds Tryd.pinned (OpenSpec.ofChange calendarHolidaysSpec)

/-- ITS FALSE NEIGHBOUR: 'it returns false'. Refute it at one input. -/
def calendarHolidaysWrong : ChangeSpec := { name := "calendarHolidays", fn := fun _ => fun
  | [d1, d2, d3] => { results := [.lit (.bool false)], args := [d1, d2, d3] }
  | _ => none }
def CalendarHolidaysWrongFalsely : Prop := calendarHolidaysRow.holds Tryd.pinned (OpenSpec.ofChange calendarHolidaysWrong)

/-- 'rollbooklaw11.CalendarLearns': WHATEVER THE INPUT: true; the input reads as it did. -/
def calendarLearnsSpec : ChangeSpec := { name := "calendarLearns", fn := fun _ => fun
  | [d1, d2, d3, d4, d5] => { results := [.lit (.bool true)], args := [d1, d2, d3, d4, d5] }
  | _ => none }
def calendarLearnsRow : OpenClaim := { program := "ytiilljcnikgeaaadoor", sum := "01d93a134721a2c7a4ac8389170dee78dec476a5b0f63502e9267267e562bfb3", func := "rollbook/rollbooklaw11.CalendarLearns", spec := "calendarLearns", unfollowed := true, recurses := true, named := ["rollbook/holiday.moves", "rollbook/date.lengths"], apart := false, laid := [("rollbook/date.lengths", laid_rollbook_date_lengths), ("rollbook/holiday.moves", laid_rollbook_holiday_moves)] }
def CalendarLearnsSaid : Prop := calendarLearnsRow.holds Tryd.pinned (OpenSpec.ofChange calendarLearnsSpec)

/-- ITS FALSE NEIGHBOUR: 'it returns false'. Refute it at one input. -/
def calendarLearnsWrong : ChangeSpec := { name := "calendarLearns", fn := fun _ => fun
  | [d1, d2, d3, d4, d5] => { results := [.lit (.bool false)], args := [d1, d2, d3, d4, d5] }
  | _ => none }
def CalendarLearnsWrongFalsely : Prop := calendarLearnsRow.holds Tryd.pinned (OpenSpec.ofChange calendarLearnsWrong)

/- THE SECOND FORM. 'bulk': how many values and letters a reading holds, each counted each time it is reached (what is shared counts as often as it is met; a slice's spare places count too). A statement '..UptoSaid' is the law's where the arguments, and the package variables that the reading takes, are together of bulk at most 1048576: NARROWER than '..Said'. Prove '..Said' where nothing that the law and all that it calls make is longer than what came in: it says more and counts as full. Else prove '..UptoSaid'. A law counts once. -/
mutual
def uptoBulk {H : Type} : DataW H → Nat
  | .lit (.string bytes) => bytes.length + 1
  | .lit _ => 1
  | .nil => 1
  | .ptr d => uptoBulk d + 1
  | .slice elems spare => uptoBulkAll elems + uptoBulkAll spare + 1
  | .agg parts => uptoBulkAll parts + 1
  | .iface _ d => uptoBulk d + 1
  | .map entries => uptoBulkEntries entries + 1
  | .held _ => 1
def uptoBulkAll {H : Type} : List (DataW H) → Nat
  | [] => 0
  | d :: r => uptoBulk d + uptoBulkAll r
def uptoBulkEntries {H : Type} : List (Lit × DataW H) → Nat
  | [] => 0
  | x :: r => uptoBulkEntry x + uptoBulkEntries r
def uptoBulkEntry {H : Type} : Lit × DataW H → Nat
  | (.string bytes, d) => bytes.length + uptoBulk d + 1
  | (_, d) => uptoBulk d + 1
 end
def uptoSmall : (H : Type) → List (DataW H) → Bool := fun _ ds => decide (uptoBulkAll ds ≤ 1048576)
def OpenSpec.upto (s : _root_.Go.ChangeSpec) : _root_.Go.OpenSpec := { _root_.Go.OpenSpec.ofChange s with cond := some uptoSmall }

/-- 'rollbooklaw11.CalendarChecks', WHERE WHAT IT READS IS OF BULK AT MOST 1048576: true; the input reads as it did. -/
def calendarChecksUptoRow : OpenClaim := { program := "ytiilljcnikgeaaadoor", sum := "01d93a134721a2c7a4ac8389170dee78dec476a5b0f63502e9267267e562bfb3", func := "rollbook/rollbooklaw11.CalendarChecks", spec := "calendarChecks", unfollowed := true, recurses := true, named := ["rollbook/date.lengths", "rollbook/holiday.moves"], apart := false, laid := [("rollbook/date.lengths", laid_rollbook_date_lengths), ("rollbook/holiday.moves", laid_rollbook_holiday_moves)], narrowed := true }
def CalendarChecksUptoSaid : Prop := calendarChecksUptoRow.holds Tryd.pinned (OpenSpec.upto calendarChecksSpec)

/-- 'rollbooklaw11.CalendarHours', WHERE WHAT IT READS IS OF BULK AT MOST 1048576: true; the input reads as it did. -/
def calendarHoursUptoRow : OpenClaim := { program := "ytiilljcnikgeaaadoor", sum := "01d93a134721a2c7a4ac8389170dee78dec476a5b0f63502e9267267e562bfb3", func := "rollbook/rollbooklaw11.CalendarHours", spec := "calendarHours", unfollowed := true, recurses := true, named := ["rollbook/holiday.moves", "rollbook/date.lengths"], apart := false, laid := [("rollbook/date.lengths", laid_rollbook_date_lengths), ("rollbook/holiday.moves", laid_rollbook_holiday_moves)], narrowed := true }
def CalendarHoursUptoSaid : Prop := calendarHoursUptoRow.holds Tryd.pinned (OpenSpec.upto calendarHoursSpec)

/-- 'rollbooklaw11.CalendarConsults', WHERE WHAT IT READS IS OF BULK AT MOST 1048576: true; the input reads as it did. -/
def calendarConsultsUptoRow : OpenClaim := { program := "ytiilljcnikgeaaadoor", sum := "01d93a134721a2c7a4ac8389170dee78dec476a5b0f63502e9267267e562bfb3", func := "rollbook/rollbooklaw11.CalendarConsults", spec := "calendarConsults", unfollowed := true, recurses := true, named := ["rollbook/holiday.moves", "rollbook/date.lengths"], apart := false, laid := [("rollbook/date.lengths", laid_rollbook_date_lengths), ("rollbook/holiday.moves", laid_rollbook_holiday_moves)], narrowed := true }
def CalendarConsultsUptoSaid : Prop := calendarConsultsUptoRow.holds Tryd.pinned (OpenSpec.upto calendarConsultsSpec)

/-- 'rollbooklaw11.CalendarSteps', WHERE WHAT IT READS IS OF BULK AT MOST 1048576: true; the input reads as it did. -/
def calendarStepsUptoRow : OpenClaim := { program := "ytiilljcnikgeaaadoor", sum := "01d93a134721a2c7a4ac8389170dee78dec476a5b0f63502e9267267e562bfb3", func := "rollbook/rollbooklaw11.CalendarSteps", spec := "calendarSteps", unfollowed := true, recurses := true, named := ["rollbook/holiday.moves", "rollbook/date.lengths"], apart := false, laid := [("rollbook/date.lengths", laid_rollbook_date_lengths), ("rollbook/holiday.moves", laid_rollbook_holiday_moves)], narrowed := true }
def CalendarStepsUptoSaid : Prop := calendarStepsUptoRow.holds Tryd.pinned (OpenSpec.upto calendarStepsSpec)

/-- 'rollbooklaw11.CalendarHolidays', WHERE WHAT IT READS IS OF BULK AT MOST 1048576: true; the input reads as it did. -/
def calendarHolidaysUptoRow : OpenClaim := { program := "ytiilljcnikgeaaadoor", sum := "01d93a134721a2c7a4ac8389170dee78dec476a5b0f63502e9267267e562bfb3", func := "rollbook/rollbooklaw11.CalendarHolidays", spec := "calendarHolidays", unfollowed := true, recurses := true, named := ["rollbook/holiday.moves", "rollbook/date.lengths"], apart := false, laid := [("rollbook/date.lengths", laid_rollbook_date_lengths), ("rollbook/holiday.moves", laid_rollbook_holiday_moves)], narrowed := true }
def CalendarHolidaysUptoSaid : Prop := calendarHolidaysUptoRow.holds Tryd.pinned (OpenSpec.upto calendarHolidaysSpec)

/-- 'rollbooklaw11.CalendarLearns', WHERE WHAT IT READS IS OF BULK AT MOST 1048576: true; the input reads as it did. -/
def calendarLearnsUptoRow : OpenClaim := { program := "ytiilljcnikgeaaadoor", sum := "01d93a134721a2c7a4ac8389170dee78dec476a5b0f63502e9267267e562bfb3", func := "rollbook/rollbooklaw11.CalendarLearns", spec := "calendarLearns", unfollowed := true, recurses := true, named := ["rollbook/holiday.moves", "rollbook/date.lengths"], apart := false, laid := [("rollbook/date.lengths", laid_rollbook_date_lengths), ("rollbook/holiday.moves", laid_rollbook_holiday_moves)], narrowed := true }
def CalendarLearnsUptoSaid : Prop := calendarLearnsUptoRow.holds Tryd.pinned (OpenSpec.upto calendarLearnsSpec)

end Rows
end Go.Proofs.YtiilljcnikgeaaaDoor
