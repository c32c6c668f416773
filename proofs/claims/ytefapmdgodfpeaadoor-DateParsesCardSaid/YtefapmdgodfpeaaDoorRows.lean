/-
  NARROWER THAN 'FOR EVERY INPUT', by the rows' own cells (each row's printed sentence says how): DateDays: laid · DateOf: laid · DateWeekdays: laid · DateEaster: laid · DateMonths: laid · DateParses: laid · DateRound: laid · DateSteps: laid · DateCycles: laid · DateEasterSunday: laid · DateAdds: laid.
  DERIVED. THE GIVEN ROWS OF THIS SEAT. 11 by the template 'for every input the law returns true; each argument reads behind the call as it read before'; 0 by the template 'total and deterministic' (their statements: YtefapmdgodfpeaaDoorTotals.lean).
  GIVEN WITH THE SEED: the statements are not yours to turn. If you find one false, say at which input.
  Laid BY PROGRAM, IN A SANDBOX (cutbox-rows.mjs): the forced cells as the released guide's own fill.sh prints them over the translation f8acad047edebc8f… (all of the seat's roots in one cut). By AI agents, Wed Nov 11 2026. No macro, syntax, notation, axiom, sorry.
-/
import Derived.Test.YtefapmdgodfpeaaDoorChecked
import GoSem.Claim
import GoSem.ClaimJoined
import GoSem.ClaimMapViews
import Derived.JoinedTies
import Derived.KernelRfl
namespace Go.Proofs.YtefapmdgodfpeaaDoor
/- THE CELL 'sum', in the pinned program and in every row, IS THE sha256 OF THE DUMP (.gsa) THAT YtefapmdgodfpeaaDoorProg.lean LOADS. Nothing in Lean hashes anything: it is a label: what it is worth is what the hold of that sum in a sandbox is worth. -/
noncomputable def Tryd.pinned : Pinned := { name := "ytefapmdgodfpeaadoor", sum := "f8acad047edebc8fba48245513880f2f1fee63e3b8923178790f5d7df3024d89", checked := Tryd.checked }
namespace Rows
def none {H : Type} : Left H := { results := [], args := [] }

/- WHAT THE LISTED PACKAGE-LEVEL VARIABLES READ AS WHEN THE CALL BEGINS. Each datum BY PROGRAM (the guide's laid-datum.mjs) off the statement by which the dump's own 'gosem.cut.vars' lays the variable. In a bare row this is a premise. The card (YtefapmdgodfpeaaDoorCards.lean) ties it to the program's text. -/
def laid_math_bits_deBruijn32tab {H : Type} : DataW H := .agg [.lit (.int .u8 0), .lit (.int .u8 1), .lit (.int .u8 28), .lit (.int .u8 2), .lit (.int .u8 29), .lit (.int .u8 14), .lit (.int .u8 24), .lit (.int .u8 3), .lit (.int .u8 30), .lit (.int .u8 22), .lit (.int .u8 20), .lit (.int .u8 15), .lit (.int .u8 25), .lit (.int .u8 17), .lit (.int .u8 4), .lit (.int .u8 8), .lit (.int .u8 31), .lit (.int .u8 27), .lit (.int .u8 13), .lit (.int .u8 23), .lit (.int .u8 21), .lit (.int .u8 19), .lit (.int .u8 16), .lit (.int .u8 7), .lit (.int .u8 26), .lit (.int .u8 12), .lit (.int .u8 18), .lit (.int .u8 6), .lit (.int .u8 11), .lit (.int .u8 5), .lit (.int .u8 10), .lit (.int .u8 9)]
def laid_math_bits_deBruijn64tab {H : Type} : DataW H := .agg [.lit (.int .u8 0), .lit (.int .u8 1), .lit (.int .u8 56), .lit (.int .u8 2), .lit (.int .u8 57), .lit (.int .u8 49), .lit (.int .u8 28), .lit (.int .u8 3), .lit (.int .u8 61), .lit (.int .u8 58), .lit (.int .u8 42), .lit (.int .u8 50), .lit (.int .u8 38), .lit (.int .u8 29), .lit (.int .u8 17), .lit (.int .u8 4), .lit (.int .u8 62), .lit (.int .u8 47), .lit (.int .u8 59), .lit (.int .u8 36), .lit (.int .u8 45), .lit (.int .u8 43), .lit (.int .u8 51), .lit (.int .u8 22), .lit (.int .u8 53), .lit (.int .u8 39), .lit (.int .u8 33), .lit (.int .u8 30), .lit (.int .u8 24), .lit (.int .u8 18), .lit (.int .u8 12), .lit (.int .u8 5), .lit (.int .u8 63), .lit (.int .u8 55), .lit (.int .u8 48), .lit (.int .u8 27), .lit (.int .u8 60), .lit (.int .u8 41), .lit (.int .u8 37), .lit (.int .u8 16), .lit (.int .u8 46), .lit (.int .u8 35), .lit (.int .u8 44), .lit (.int .u8 21), .lit (.int .u8 52), .lit (.int .u8 32), .lit (.int .u8 23), .lit (.int .u8 11), .lit (.int .u8 54), .lit (.int .u8 26), .lit (.int .u8 40), .lit (.int .u8 15), .lit (.int .u8 34), .lit (.int .u8 20), .lit (.int .u8 31), .lit (.int .u8 10), .lit (.int .u8 25), .lit (.int .u8 14), .lit (.int .u8 19), .lit (.int .u8 9), .lit (.int .u8 13), .lit (.int .u8 8), .lit (.int .u8 7), .lit (.int .u8 6)]
def laid_internal_strconv_uint64pow10 {H : Type} : DataW H := .agg [.lit (.int .u64 1), .lit (.int .u64 10), .lit (.int .u64 100), .lit (.int .u64 1000), .lit (.int .u64 10000), .lit (.int .u64 100000), .lit (.int .u64 1000000), .lit (.int .u64 10000000), .lit (.int .u64 100000000), .lit (.int .u64 1000000000), .lit (.int .u64 10000000000), .lit (.int .u64 100000000000), .lit (.int .u64 1000000000000), .lit (.int .u64 10000000000000), .lit (.int .u64 100000000000000), .lit (.int .u64 1000000000000000), .lit (.int .u64 10000000000000000), .lit (.int .u64 100000000000000000), .lit (.int .u64 1000000000000000000), .lit (.int .u64 10000000000000000000)]
def laid_rollbook_date_lengths {H : Type} : DataW H := .agg [.lit (.int .i64 0), .lit (.int .i64 31), .lit (.int .i64 28), .lit (.int .i64 31), .lit (.int .i64 30), .lit (.int .i64 31), .lit (.int .i64 30), .lit (.int .i64 31), .lit (.int .i64 31), .lit (.int .i64 30), .lit (.int .i64 31), .lit (.int .i64 30), .lit (.int .i64 31)]

/-- 'rollbooklaw08.DateDays': WHATEVER THE INPUT: true; the input reads as it did. -/
def dateDaysSpec : ChangeSpec := { name := "dateDays", fn := fun _ => fun
  | [d] => { results := [.lit (.bool true)], args := [d] }
  | _ => none }
def dateDaysRow : OpenClaim := { program := "ytefapmdgodfpeaadoor", sum := "f8acad047edebc8fba48245513880f2f1fee63e3b8923178790f5d7df3024d89", func := "rollbook/rollbooklaw08.DateDays", spec := "dateDays", inPlace := ["internal/abi.NoEscape", "internal/bytealg.MakeNoZero"], unfollowed := true, recurses := true, named := ["rollbook/date.lengths", "internal/strconv.uint64pow10", "math/bits.deBruijn32tab", "math/bits.deBruijn64tab"], apart := false, laid := [("math/bits.deBruijn32tab", laid_math_bits_deBruijn32tab), ("math/bits.deBruijn64tab", laid_math_bits_deBruijn64tab), ("internal/strconv.uint64pow10", laid_internal_strconv_uint64pow10), ("rollbook/date.lengths", laid_rollbook_date_lengths)] }
def DateDaysSaid : Prop := dateDaysRow.holds Tryd.pinned (OpenSpec.ofChange dateDaysSpec)

/-- ITS FALSE NEIGHBOUR: 'it returns false'. Refute it at one input. -/
def dateDaysWrong : ChangeSpec := { name := "dateDays", fn := fun _ => fun
  | [d] => { results := [.lit (.bool false)], args := [d] }
  | _ => none }
def DateDaysWrongFalsely : Prop := dateDaysRow.holds Tryd.pinned (OpenSpec.ofChange dateDaysWrong)

/-- 'rollbooklaw08.DateOf': WHATEVER THE INPUT: true; the input reads as it did. -/
def dateOfSpec : ChangeSpec := { name := "dateOf", fn := fun _ => fun
  | [d] => { results := [.lit (.bool true)], args := [d] }
  | _ => none }
def dateOfRow : OpenClaim := { program := "ytefapmdgodfpeaadoor", sum := "f8acad047edebc8fba48245513880f2f1fee63e3b8923178790f5d7df3024d89", func := "rollbook/rollbooklaw08.DateOf", spec := "dateOf", inPlace := ["internal/abi.NoEscape", "internal/bytealg.MakeNoZero"], unfollowed := true, recurses := true, named := ["internal/strconv.uint64pow10", "math/bits.deBruijn32tab", "math/bits.deBruijn64tab", "rollbook/date.lengths"], apart := false, laid := [("math/bits.deBruijn32tab", laid_math_bits_deBruijn32tab), ("math/bits.deBruijn64tab", laid_math_bits_deBruijn64tab), ("internal/strconv.uint64pow10", laid_internal_strconv_uint64pow10), ("rollbook/date.lengths", laid_rollbook_date_lengths)] }
def DateOfSaid : Prop := dateOfRow.holds Tryd.pinned (OpenSpec.ofChange dateOfSpec)

/-- ITS FALSE NEIGHBOUR: 'it returns false'. Refute it at one input. -/
def dateOfWrong : ChangeSpec := { name := "dateOf", fn := fun _ => fun
  | [d] => { results := [.lit (.bool false)], args := [d] }
  | _ => none }
def DateOfWrongFalsely : Prop := dateOfRow.holds Tryd.pinned (OpenSpec.ofChange dateOfWrong)

/-- 'rollbooklaw08.DateWeekdays': WHATEVER THE INPUT: true; the input reads as it did. -/
def dateWeekdaysSpec : ChangeSpec := { name := "dateWeekdays", fn := fun _ => fun
  | [d1, d2] => { results := [.lit (.bool true)], args := [d1, d2] }
  | _ => none }
def dateWeekdaysRow : OpenClaim := { program := "ytefapmdgodfpeaadoor", sum := "f8acad047edebc8fba48245513880f2f1fee63e3b8923178790f5d7df3024d89", func := "rollbook/rollbooklaw08.DateWeekdays", spec := "dateWeekdays", inPlace := ["internal/abi.NoEscape", "internal/bytealg.MakeNoZero"], unfollowed := true, recurses := true, named := ["rollbook/date.lengths", "internal/strconv.uint64pow10", "math/bits.deBruijn32tab", "math/bits.deBruijn64tab"], apart := false, laid := [("math/bits.deBruijn32tab", laid_math_bits_deBruijn32tab), ("math/bits.deBruijn64tab", laid_math_bits_deBruijn64tab), ("internal/strconv.uint64pow10", laid_internal_strconv_uint64pow10), ("rollbook/date.lengths", laid_rollbook_date_lengths)] }
def DateWeekdaysSaid : Prop := dateWeekdaysRow.holds Tryd.pinned (OpenSpec.ofChange dateWeekdaysSpec)

/-- ITS FALSE NEIGHBOUR: 'it returns false'. Refute it at one input. -/
def dateWeekdaysWrong : ChangeSpec := { name := "dateWeekdays", fn := fun _ => fun
  | [d1, d2] => { results := [.lit (.bool false)], args := [d1, d2] }
  | _ => none }
def DateWeekdaysWrongFalsely : Prop := dateWeekdaysRow.holds Tryd.pinned (OpenSpec.ofChange dateWeekdaysWrong)

/-- 'rollbooklaw08.DateEaster': WHATEVER THE INPUT: true; the input reads as it did. -/
def dateEasterSpec : ChangeSpec := { name := "dateEaster", fn := fun _ => fun
  | [d] => { results := [.lit (.bool true)], args := [d] }
  | _ => none }
def dateEasterRow : OpenClaim := { program := "ytefapmdgodfpeaadoor", sum := "f8acad047edebc8fba48245513880f2f1fee63e3b8923178790f5d7df3024d89", func := "rollbook/rollbooklaw08.DateEaster", spec := "dateEaster", inPlace := ["internal/abi.NoEscape", "internal/bytealg.MakeNoZero"], unfollowed := true, recurses := true, named := ["rollbook/date.lengths", "internal/strconv.uint64pow10", "math/bits.deBruijn32tab", "math/bits.deBruijn64tab"], apart := false, laid := [("math/bits.deBruijn32tab", laid_math_bits_deBruijn32tab), ("math/bits.deBruijn64tab", laid_math_bits_deBruijn64tab), ("internal/strconv.uint64pow10", laid_internal_strconv_uint64pow10), ("rollbook/date.lengths", laid_rollbook_date_lengths)] }
def DateEasterSaid : Prop := dateEasterRow.holds Tryd.pinned (OpenSpec.ofChange dateEasterSpec)

/-- ITS FALSE NEIGHBOUR: 'it returns false'. Refute it at one input. -/
def dateEasterWrong : ChangeSpec := { name := "dateEaster", fn := fun _ => fun
  | [d] => { results := [.lit (.bool false)], args := [d] }
  | _ => none }
def DateEasterWrongFalsely : Prop := dateEasterRow.holds Tryd.pinned (OpenSpec.ofChange dateEasterWrong)

/-- 'rollbooklaw08.DateMonths': WHATEVER THE INPUT: true; the input reads as it did. -/
def dateMonthsSpec : ChangeSpec := { name := "dateMonths", fn := fun _ => fun
  | [d1, d2] => { results := [.lit (.bool true)], args := [d1, d2] }
  | _ => none }
def dateMonthsRow : OpenClaim := { program := "ytefapmdgodfpeaadoor", sum := "f8acad047edebc8fba48245513880f2f1fee63e3b8923178790f5d7df3024d89", func := "rollbook/rollbooklaw08.DateMonths", spec := "dateMonths", inPlace := ["internal/abi.NoEscape", "internal/bytealg.MakeNoZero"], unfollowed := true, recurses := true, named := ["rollbook/date.lengths", "internal/strconv.uint64pow10", "math/bits.deBruijn32tab", "math/bits.deBruijn64tab"], apart := false, laid := [("math/bits.deBruijn32tab", laid_math_bits_deBruijn32tab), ("math/bits.deBruijn64tab", laid_math_bits_deBruijn64tab), ("internal/strconv.uint64pow10", laid_internal_strconv_uint64pow10), ("rollbook/date.lengths", laid_rollbook_date_lengths)] }
def DateMonthsSaid : Prop := dateMonthsRow.holds Tryd.pinned (OpenSpec.ofChange dateMonthsSpec)

/-- ITS FALSE NEIGHBOUR: 'it returns false'. Refute it at one input. -/
def dateMonthsWrong : ChangeSpec := { name := "dateMonths", fn := fun _ => fun
  | [d1, d2] => { results := [.lit (.bool false)], args := [d1, d2] }
  | _ => none }
def DateMonthsWrongFalsely : Prop := dateMonthsRow.holds Tryd.pinned (OpenSpec.ofChange dateMonthsWrong)

/-- 'rollbooklaw08.DateParses': WHATEVER THE INPUT: true; the input reads as it did. -/
def dateParsesSpec : ChangeSpec := { name := "dateParses", fn := fun _ => fun
  | [d1, d2, d3, d4, d5] => { results := [.lit (.bool true)], args := [d1, d2, d3, d4, d5] }
  | _ => none }
def dateParsesRow : OpenClaim := { program := "ytefapmdgodfpeaadoor", sum := "f8acad047edebc8fba48245513880f2f1fee63e3b8923178790f5d7df3024d89", func := "rollbook/rollbooklaw08.DateParses", spec := "dateParses", inPlace := ["internal/abi.NoEscape", "internal/bytealg.MakeNoZero"], unfollowed := true, recurses := true, named := ["rollbook/date.lengths", "internal/strconv.uint64pow10", "math/bits.deBruijn32tab", "math/bits.deBruijn64tab"], apart := false, laid := [("math/bits.deBruijn32tab", laid_math_bits_deBruijn32tab), ("math/bits.deBruijn64tab", laid_math_bits_deBruijn64tab), ("internal/strconv.uint64pow10", laid_internal_strconv_uint64pow10), ("rollbook/date.lengths", laid_rollbook_date_lengths)] }
def DateParsesSaid : Prop := dateParsesRow.holds Tryd.pinned (OpenSpec.ofChange dateParsesSpec)

/-- ITS FALSE NEIGHBOUR: 'it returns false'. Refute it at one input. -/
def dateParsesWrong : ChangeSpec := { name := "dateParses", fn := fun _ => fun
  | [d1, d2, d3, d4, d5] => { results := [.lit (.bool false)], args := [d1, d2, d3, d4, d5] }
  | _ => none }
def DateParsesWrongFalsely : Prop := dateParsesRow.holds Tryd.pinned (OpenSpec.ofChange dateParsesWrong)

/-- 'rollbooklaw08.DateRound': WHATEVER THE INPUT: true; the input reads as it did. -/
def dateRoundSpec : ChangeSpec := { name := "dateRound", fn := fun _ => fun
  | [d1, d2] => { results := [.lit (.bool true)], args := [d1, d2] }
  | _ => none }
def dateRoundRow : OpenClaim := { program := "ytefapmdgodfpeaadoor", sum := "f8acad047edebc8fba48245513880f2f1fee63e3b8923178790f5d7df3024d89", func := "rollbook/rollbooklaw08.DateRound", spec := "dateRound", inPlace := ["internal/abi.NoEscape", "internal/bytealg.MakeNoZero"], unfollowed := true, recurses := true, named := ["rollbook/date.lengths", "internal/strconv.uint64pow10", "math/bits.deBruijn32tab", "math/bits.deBruijn64tab"], apart := false, laid := [("math/bits.deBruijn32tab", laid_math_bits_deBruijn32tab), ("math/bits.deBruijn64tab", laid_math_bits_deBruijn64tab), ("internal/strconv.uint64pow10", laid_internal_strconv_uint64pow10), ("rollbook/date.lengths", laid_rollbook_date_lengths)] }
def DateRoundSaid : Prop := dateRoundRow.holds Tryd.pinned (OpenSpec.ofChange dateRoundSpec)

/-- ITS FALSE NEIGHBOUR: 'it returns false'. Refute it at one input. -/
def dateRoundWrong : ChangeSpec := { name := "dateRound", fn := fun _ => fun
  | [d1, d2] => { results := [.lit (.bool false)], args := [d1, d2] }
  | _ => none }
def DateRoundWrongFalsely : Prop := dateRoundRow.holds Tryd.pinned (OpenSpec.ofChange dateRoundWrong)

/-- 'rollbooklaw08.DateSteps': WHATEVER THE INPUT: true; the input reads as it did. -/
def dateStepsSpec : ChangeSpec := { name := "dateSteps", fn := fun _ => fun
  | [d] => { results := [.lit (.bool true)], args := [d] }
  | _ => none }
def dateStepsRow : OpenClaim := { program := "ytefapmdgodfpeaadoor", sum := "f8acad047edebc8fba48245513880f2f1fee63e3b8923178790f5d7df3024d89", func := "rollbook/rollbooklaw08.DateSteps", spec := "dateSteps", inPlace := ["internal/abi.NoEscape", "internal/bytealg.MakeNoZero"], unfollowed := true, recurses := true, named := ["rollbook/date.lengths", "internal/strconv.uint64pow10", "math/bits.deBruijn32tab", "math/bits.deBruijn64tab"], apart := false, laid := [("math/bits.deBruijn32tab", laid_math_bits_deBruijn32tab), ("math/bits.deBruijn64tab", laid_math_bits_deBruijn64tab), ("internal/strconv.uint64pow10", laid_internal_strconv_uint64pow10), ("rollbook/date.lengths", laid_rollbook_date_lengths)] }
def DateStepsSaid : Prop := dateStepsRow.holds Tryd.pinned (OpenSpec.ofChange dateStepsSpec)

/-- ITS FALSE NEIGHBOUR: 'it returns false'. Refute it at one input. -/
def dateStepsWrong : ChangeSpec := { name := "dateSteps", fn := fun _ => fun
  | [d] => { results := [.lit (.bool false)], args := [d] }
  | _ => none }
def DateStepsWrongFalsely : Prop := dateStepsRow.holds Tryd.pinned (OpenSpec.ofChange dateStepsWrong)

/-- 'rollbooklaw08.DateCycles': WHATEVER THE INPUT: true; the input reads as it did. -/
def dateCyclesSpec : ChangeSpec := { name := "dateCycles", fn := fun _ => fun
  | [d] => { results := [.lit (.bool true)], args := [d] }
  | _ => none }
def dateCyclesRow : OpenClaim := { program := "ytefapmdgodfpeaadoor", sum := "f8acad047edebc8fba48245513880f2f1fee63e3b8923178790f5d7df3024d89", func := "rollbook/rollbooklaw08.DateCycles", spec := "dateCycles", inPlace := ["internal/abi.NoEscape", "internal/bytealg.MakeNoZero"], unfollowed := true, recurses := true, named := ["rollbook/date.lengths", "internal/strconv.uint64pow10", "math/bits.deBruijn32tab", "math/bits.deBruijn64tab"], apart := false, laid := [("math/bits.deBruijn32tab", laid_math_bits_deBruijn32tab), ("math/bits.deBruijn64tab", laid_math_bits_deBruijn64tab), ("internal/strconv.uint64pow10", laid_internal_strconv_uint64pow10), ("rollbook/date.lengths", laid_rollbook_date_lengths)] }
def DateCyclesSaid : Prop := dateCyclesRow.holds Tryd.pinned (OpenSpec.ofChange dateCyclesSpec)

/-- ITS FALSE NEIGHBOUR: 'it returns false'. Refute it at one input. -/
def dateCyclesWrong : ChangeSpec := { name := "dateCycles", fn := fun _ => fun
  | [d] => { results := [.lit (.bool false)], args := [d] }
  | _ => none }
def DateCyclesWrongFalsely : Prop := dateCyclesRow.holds Tryd.pinned (OpenSpec.ofChange dateCyclesWrong)

/-- 'rollbooklaw08.DateEasterSunday': WHATEVER THE INPUT: true; the input reads as it did. -/
def dateEasterSundaySpec : ChangeSpec := { name := "dateEasterSunday", fn := fun _ => fun
  | [d] => { results := [.lit (.bool true)], args := [d] }
  | _ => none }
def dateEasterSundayRow : OpenClaim := { program := "ytefapmdgodfpeaadoor", sum := "f8acad047edebc8fba48245513880f2f1fee63e3b8923178790f5d7df3024d89", func := "rollbook/rollbooklaw08.DateEasterSunday", spec := "dateEasterSunday", inPlace := ["internal/abi.NoEscape", "internal/bytealg.MakeNoZero"], unfollowed := true, recurses := true, named := ["rollbook/date.lengths", "internal/strconv.uint64pow10", "math/bits.deBruijn32tab", "math/bits.deBruijn64tab"], apart := false, laid := [("math/bits.deBruijn32tab", laid_math_bits_deBruijn32tab), ("math/bits.deBruijn64tab", laid_math_bits_deBruijn64tab), ("internal/strconv.uint64pow10", laid_internal_strconv_uint64pow10), ("rollbook/date.lengths", laid_rollbook_date_lengths)] }
def DateEasterSundaySaid : Prop := dateEasterSundayRow.holds Tryd.pinned (OpenSpec.ofChange dateEasterSundaySpec)

/-- ITS FALSE NEIGHBOUR: 'it returns false'. Refute it at one input. -/
def dateEasterSundayWrong : ChangeSpec := { name := "dateEasterSunday", fn := fun _ => fun
  | [d] => { results := [.lit (.bool false)], args := [d] }
  | _ => none }
def DateEasterSundayWrongFalsely : Prop := dateEasterSundayRow.holds Tryd.pinned (OpenSpec.ofChange dateEasterSundayWrong)

/-- 'rollbooklaw08.DateAdds': WHATEVER THE INPUT: true; the input reads as it did. -/
def dateAddsSpec : ChangeSpec := { name := "dateAdds", fn := fun _ => fun
  | [d1, d2, d3] => { results := [.lit (.bool true)], args := [d1, d2, d3] }
  | _ => none }
def dateAddsRow : OpenClaim := { program := "ytefapmdgodfpeaadoor", sum := "f8acad047edebc8fba48245513880f2f1fee63e3b8923178790f5d7df3024d89", func := "rollbook/rollbooklaw08.DateAdds", spec := "dateAdds", inPlace := ["internal/abi.NoEscape", "internal/bytealg.MakeNoZero"], unfollowed := true, recurses := true, named := ["rollbook/date.lengths", "internal/strconv.uint64pow10", "math/bits.deBruijn32tab", "math/bits.deBruijn64tab"], apart := false, laid := [("math/bits.deBruijn32tab", laid_math_bits_deBruijn32tab), ("math/bits.deBruijn64tab", laid_math_bits_deBruijn64tab), ("internal/strconv.uint64pow10", laid_internal_strconv_uint64pow10), ("rollbook/date.lengths", laid_rollbook_date_lengths)] }
def DateAddsSaid : Prop := dateAddsRow.holds Tryd.pinned (OpenSpec.ofChange dateAddsSpec)

/-- ITS FALSE NEIGHBOUR: 'it returns false'. Refute it at one input. -/
def dateAddsWrong : ChangeSpec := { name := "dateAdds", fn := fun _ => fun
  | [d1, d2, d3] => { results := [.lit (.bool false)], args := [d1, d2, d3] }
  | _ => none }
def DateAddsWrongFalsely : Prop := dateAddsRow.holds Tryd.pinned (OpenSpec.ofChange dateAddsWrong)

/- THE SECOND FORM. 'bulk': how many values and letters a reading holds, each counted each time it is reached (what is shared counts as often as it is met; a slice's spare places count too). A statement '..UptoSaid' is the law's where the arguments, and the package variables that the reading takes, are together of bulk at most 1048576: NARROWER than '..Said'. Prove '..Said' where nothing that the law and all that it calls make is longer than what came in: it says more and counts as full. Else prove '..UptoSaid'. A law counts once. -/
mutual
def uptoBulk {H : Type} : DataW H → Nat
  | .lit (.string bytes) => bytes.length + 1
  | .lit _ => 1
  | .nil => 1
  | .ptr d => uptoBulk d + 1
  | .slice elems spare => uptoBulkAll elems + uptoBulkAll spare + 1
  | .agg parts => uptoBulkAll parts + 1
  | .iface _ d => uptoBulk d + 1
  | .map entries => uptoBulkEntries entries + 1
  | .held _ => 1
def uptoBulkAll {H : Type} : List (DataW H) → Nat
  | [] => 0
  | d :: r => uptoBulk d + uptoBulkAll r
def uptoBulkEntries {H : Type} : List (Lit × DataW H) → Nat
  | [] => 0
  | x :: r => uptoBulkEntry x + uptoBulkEntries r
def uptoBulkEntry {H : Type} : Lit × DataW H → Nat
  | (.string bytes, d) => bytes.length + uptoBulk d + 1
  | (_, d) => uptoBulk d + 1
 end
def uptoSmall : (H : Type) → List (DataW H) → Bool := fun _ ds => decide (uptoBulkAll ds ≤ 1048576)
def OpenSpec.upto (s : _root_.Go.ChangeSpec) : _root_.Go.OpenSpec := { _root_.Go.OpenSpec.ofChange s with cond := some uptoSmall }

/-- 'rollbooklaw08.DateDays', WHERE WHAT IT READS IS OF BULK AT MOST 1048576: true; the input reads as it did. -/
def dateDaysUptoRow : OpenClaim := { program := "ytefapmdgodfpeaadoor", sum := "f8acad047edebc8fba48245513880f2f1fee63e3b8923178790f5d7df3024d89", func := "rollbook/rollbooklaw08.DateDays", spec := "dateDays", inPlace := ["internal/abi.NoEscape", "internal/bytealg.MakeNoZero"], unfollowed := true, recurses := true, named := ["rollbook/date.lengths", "internal/strconv.uint64pow10", "math/bits.deBruijn32tab", "math/bits.deBruijn64tab"], apart := false, laid := [("math/bits.deBruijn32tab", laid_math_bits_deBruijn32tab), ("math/bits.deBruijn64tab", laid_math_bits_deBruijn64tab), ("internal/strconv.uint64pow10", laid_internal_strconv_uint64pow10), ("rollbook/date.lengths", laid_rollbook_date_lengths)], narrowed := true }
def DateDaysUptoSaid : Prop := dateDaysUptoRow.holds Tryd.pinned (OpenSpec.upto dateDaysSpec)

/-- 'rollbooklaw08.DateOf', WHERE WHAT IT READS IS OF BULK AT MOST 1048576: true; the input reads as it did. -/
def dateOfUptoRow : OpenClaim := { program := "ytefapmdgodfpeaadoor", sum := "f8acad047edebc8fba48245513880f2f1fee63e3b8923178790f5d7df3024d89", func := "rollbook/rollbooklaw08.DateOf", spec := "dateOf", inPlace := ["internal/abi.NoEscape", "internal/bytealg.MakeNoZero"], unfollowed := true, recurses := true, named := ["internal/strconv.uint64pow10", "math/bits.deBruijn32tab", "math/bits.deBruijn64tab", "rollbook/date.lengths"], apart := false, laid := [("math/bits.deBruijn32tab", laid_math_bits_deBruijn32tab), ("math/bits.deBruijn64tab", laid_math_bits_deBruijn64tab), ("internal/strconv.uint64pow10", laid_internal_strconv_uint64pow10), ("rollbook/date.lengths", laid_rollbook_date_lengths)], narrowed := true }
def DateOfUptoSaid : Prop := dateOfUptoRow.holds Tryd.pinned (OpenSpec.upto dateOfSpec)

/-- 'rollbooklaw08.DateWeekdays', WHERE WHAT IT READS IS OF BULK AT MOST 1048576: true; the input reads as it did. -/
def dateWeekdaysUptoRow : OpenClaim := { program := "ytefapmdgodfpeaadoor", sum := "f8acad047edebc8fba48245513880f2f1fee63e3b8923178790f5d7df3024d89", func := "rollbook/rollbooklaw08.DateWeekdays", spec := "dateWeekdays", inPlace := ["internal/abi.NoEscape", "internal/bytealg.MakeNoZero"], unfollowed := true, recurses := true, named := ["rollbook/date.lengths", "internal/strconv.uint64pow10", "math/bits.deBruijn32tab", "math/bits.deBruijn64tab"], apart := false, laid := [("math/bits.deBruijn32tab", laid_math_bits_deBruijn32tab), ("math/bits.deBruijn64tab", laid_math_bits_deBruijn64tab), ("internal/strconv.uint64pow10", laid_internal_strconv_uint64pow10), ("rollbook/date.lengths", laid_rollbook_date_lengths)], narrowed := true }
def DateWeekdaysUptoSaid : Prop := dateWeekdaysUptoRow.holds Tryd.pinned (OpenSpec.upto dateWeekdaysSpec)

/-- 'rollbooklaw08.DateEaster', WHERE WHAT IT READS IS OF BULK AT MOST 1048576: true; the input reads as it did. -/
def dateEasterUptoRow : OpenClaim := { program := "ytefapmdgodfpeaadoor", sum := "f8acad047edebc8fba48245513880f2f1fee63e3b8923178790f5d7df3024d89", func := "rollbook/rollbooklaw08.DateEaster", spec := "dateEaster", inPlace := ["internal/abi.NoEscape", "internal/bytealg.MakeNoZero"], unfollowed := true, recurses := true, named := ["rollbook/date.lengths", "internal/strconv.uint64pow10", "math/bits.deBruijn32tab", "math/bits.deBruijn64tab"], apart := false, laid := [("math/bits.deBruijn32tab", laid_math_bits_deBruijn32tab), ("math/bits.deBruijn64tab", laid_math_bits_deBruijn64tab), ("internal/strconv.uint64pow10", laid_internal_strconv_uint64pow10), ("rollbook/date.lengths", laid_rollbook_date_lengths)], narrowed := true }
def DateEasterUptoSaid : Prop := dateEasterUptoRow.holds Tryd.pinned (OpenSpec.upto dateEasterSpec)

/-- 'rollbooklaw08.DateMonths', WHERE WHAT IT READS IS OF BULK AT MOST 1048576: true; the input reads as it did. -/
def dateMonthsUptoRow : OpenClaim := { program := "ytefapmdgodfpeaadoor", sum := "f8acad047edebc8fba48245513880f2f1fee63e3b8923178790f5d7df3024d89", func := "rollbook/rollbooklaw08.DateMonths", spec := "dateMonths", inPlace := ["internal/abi.NoEscape", "internal/bytealg.MakeNoZero"], unfollowed := true, recurses := true, named := ["rollbook/date.lengths", "internal/strconv.uint64pow10", "math/bits.deBruijn32tab", "math/bits.deBruijn64tab"], apart := false, laid := [("math/bits.deBruijn32tab", laid_math_bits_deBruijn32tab), ("math/bits.deBruijn64tab", laid_math_bits_deBruijn64tab), ("internal/strconv.uint64pow10", laid_internal_strconv_uint64pow10), ("rollbook/date.lengths", laid_rollbook_date_lengths)], narrowed := true }
def DateMonthsUptoSaid : Prop := dateMonthsUptoRow.holds Tryd.pinned (OpenSpec.upto dateMonthsSpec)

/-- 'rollbooklaw08.DateParses', WHERE WHAT IT READS IS OF BULK AT MOST 1048576: true; the input reads as it did. -/
def dateParsesUptoRow : OpenClaim := { program := "ytefapmdgodfpeaadoor", sum := "f8acad047edebc8fba48245513880f2f1fee63e3b8923178790f5d7df3024d89", func := "rollbook/rollbooklaw08.DateParses", spec := "dateParses", inPlace := ["internal/abi.NoEscape", "internal/bytealg.MakeNoZero"], unfollowed := true, recurses := true, named := ["rollbook/date.lengths", "internal/strconv.uint64pow10", "math/bits.deBruijn32tab", "math/bits.deBruijn64tab"], apart := false, laid := [("math/bits.deBruijn32tab", laid_math_bits_deBruijn32tab), ("math/bits.deBruijn64tab", laid_math_bits_deBruijn64tab), ("internal/strconv.uint64pow10", laid_internal_strconv_uint64pow10), ("rollbook/date.lengths", laid_rollbook_date_lengths)], narrowed := true }
def DateParsesUptoSaid : Prop := dateParsesUptoRow.holds Tryd.pinned (OpenSpec.upto dateParsesSpec)

/-- 'rollbooklaw08.DateRound', WHERE WHAT IT READS IS OF BULK AT MOST 1048576: true; the input reads as it did. -/
def dateRoundUptoRow : OpenClaim := { program := "ytefapmdgodfpeaadoor", sum := "f8acad047edebc8fba48245513880f2f1fee63e3b8923178790f5d7df3024d89", func := "rollbook/rollbooklaw08.DateRound", spec := "dateRound", inPlace := ["internal/abi.NoEscape", "internal/bytealg.MakeNoZero"], unfollowed := true, recurses := true, named := ["rollbook/date.lengths", "internal/strconv.uint64pow10", "math/bits.deBruijn32tab", "math/bits.deBruijn64tab"], apart := false, laid := [("math/bits.deBruijn32tab", laid_math_bits_deBruijn32tab), ("math/bits.deBruijn64tab", laid_math_bits_deBruijn64tab), ("internal/strconv.uint64pow10", laid_internal_strconv_uint64pow10), ("rollbook/date.lengths", laid_rollbook_date_lengths)], narrowed := true }
def DateRoundUptoSaid : Prop := dateRoundUptoRow.holds Tryd.pinned (OpenSpec.upto dateRoundSpec)

/-- 'rollbooklaw08.DateSteps', WHERE WHAT IT READS IS OF BULK AT MOST 1048576: true; the input reads as it did. -/
def dateStepsUptoRow : OpenClaim := { program := "ytefapmdgodfpeaadoor", sum := "f8acad047edebc8fba48245513880f2f1fee63e3b8923178790f5d7df3024d89", func := "rollbook/rollbooklaw08.DateSteps", spec := "dateSteps", inPlace := ["internal/abi.NoEscape", "internal/bytealg.MakeNoZero"], unfollowed := true, recurses := true, named := ["rollbook/date.lengths", "internal/strconv.uint64pow10", "math/bits.deBruijn32tab", "math/bits.deBruijn64tab"], apart := false, laid := [("math/bits.deBruijn32tab", laid_math_bits_deBruijn32tab), ("math/bits.deBruijn64tab", laid_math_bits_deBruijn64tab), ("internal/strconv.uint64pow10", laid_internal_strconv_uint64pow10), ("rollbook/date.lengths", laid_rollbook_date_lengths)], narrowed := true }
def DateStepsUptoSaid : Prop := dateStepsUptoRow.holds Tryd.pinned (OpenSpec.upto dateStepsSpec)

/-- 'rollbooklaw08.DateCycles', WHERE WHAT IT READS IS OF BULK AT MOST 1048576: true; the input reads as it did. -/
def dateCyclesUptoRow : OpenClaim := { program := "ytefapmdgodfpeaadoor", sum := "f8acad047edebc8fba48245513880f2f1fee63e3b8923178790f5d7df3024d89", func := "rollbook/rollbooklaw08.DateCycles", spec := "dateCycles", inPlace := ["internal/abi.NoEscape", "internal/bytealg.MakeNoZero"], unfollowed := true, recurses := true, named := ["rollbook/date.lengths", "internal/strconv.uint64pow10", "math/bits.deBruijn32tab", "math/bits.deBruijn64tab"], apart := false, laid := [("math/bits.deBruijn32tab", laid_math_bits_deBruijn32tab), ("math/bits.deBruijn64tab", laid_math_bits_deBruijn64tab), ("internal/strconv.uint64pow10", laid_internal_strconv_uint64pow10), ("rollbook/date.lengths", laid_rollbook_date_lengths)], narrowed := true }
def DateCyclesUptoSaid : Prop := dateCyclesUptoRow.holds Tryd.pinned (OpenSpec.upto dateCyclesSpec)

/-- 'rollbooklaw08.DateEasterSunday', WHERE WHAT IT READS IS OF BULK AT MOST 1048576: true; the input reads as it did. -/
def dateEasterSundayUptoRow : OpenClaim := { program := "ytefapmdgodfpeaadoor", sum := "f8acad047edebc8fba48245513880f2f1fee63e3b8923178790f5d7df3024d89", func := "rollbook/rollbooklaw08.DateEasterSunday", spec := "dateEasterSunday", inPlace := ["internal/abi.NoEscape", "internal/bytealg.MakeNoZero"], unfollowed := true, recurses := true, named := ["rollbook/date.lengths", "internal/strconv.uint64pow10", "math/bits.deBruijn32tab", "math/bits.deBruijn64tab"], apart := false, laid := [("math/bits.deBruijn32tab", laid_math_bits_deBruijn32tab), ("math/bits.deBruijn64tab", laid_math_bits_deBruijn64tab), ("internal/strconv.uint64pow10", laid_internal_strconv_uint64pow10), ("rollbook/date.lengths", laid_rollbook_date_lengths)], narrowed := true }
def DateEasterSundayUptoSaid : Prop := dateEasterSundayUptoRow.holds Tryd.pinned (OpenSpec.upto dateEasterSundaySpec)

/-- 'rollbooklaw08.DateAdds', WHERE WHAT IT READS IS OF BULK AT MOST 1048576: true; the input reads as it did. -/
def dateAddsUptoRow : OpenClaim := { program := "ytefapmdgodfpeaadoor", sum := "f8acad047edebc8fba48245513880f2f1fee63e3b8923178790f5d7df3024d89", func := "rollbook/rollbooklaw08.DateAdds", spec := "dateAdds", inPlace := ["internal/abi.NoEscape", "internal/bytealg.MakeNoZero"], unfollowed := true, recurses := true, named := ["rollbook/date.lengths", "internal/strconv.uint64pow10", "math/bits.deBruijn32tab", "math/bits.deBruijn64tab"], apart := false, laid := [("math/bits.deBruijn32tab", laid_math_bits_deBruijn32tab), ("math/bits.deBruijn64tab", laid_math_bits_deBruijn64tab), ("internal/strconv.uint64pow10", laid_internal_strconv_uint64pow10), ("rollbook/date.lengths", laid_rollbook_date_lengths)], narrowed := true }
def DateAddsUptoSaid : Prop := dateAddsUptoRow.holds Tryd.pinned (OpenSpec.upto dateAddsSpec)

end Rows
end Go.Proofs.YtefapmdgodfpeaaDoor
