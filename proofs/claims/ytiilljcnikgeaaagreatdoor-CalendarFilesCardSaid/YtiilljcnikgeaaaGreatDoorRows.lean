/-
  NARROWER THAN 'FOR EVERY INPUT', by the rows' own cells (each row's printed sentence says how): CalendarAdds: laid · CalendarFiles: laid · CalendarOpens: laid.
  DERIVED. THE GIVEN ROWS OF THIS SEAT. 3 by the template 'for every input the law returns true; each argument reads behind the call as it read before'; 0 by the template 'total and deterministic' (their statements: YtiilljcnikgeaaaGreatDoorTotals.lean).
  GIVEN WITH THE SEED: the statements are not yours to turn. If you find one false, say at which input.
  Laid BY PROGRAM, IN A SANDBOX (cutbox-rows.mjs): the forced cells as the released guide's own fill.sh prints them over the translation 06bc41235fd91f10… (all of the seat's roots in one cut). By AI agents, Wed Nov 11 2026. No macro, syntax, notation, axiom, sorry.
-/
import Derived.Test.YtiilljcnikgeaaaGreatDoorChecked
import GoSem.Claim
import GoSem.ClaimJoined
import GoSem.ClaimMapViews
import Derived.JoinedTies
import Derived.KernelRfl
namespace Go.Proofs.YtiilljcnikgeaaaGreatDoor
/- THE CELL 'sum', in the pinned program and in every row, IS THE sha256 OF THE DUMP (.gsa) THAT YtiilljcnikgeaaaGreatDoorProg.lean LOADS. Nothing in Lean hashes anything: it is a label: what it is worth is what the hold of that sum in a sandbox is worth. -/
noncomputable def Tryz.pinned : Pinned := { name := "ytiilljcnikgeaaagreatdoor", sum := "06bc41235fd91f101a45785cf9ce9a160af41e5d26ffe58b72d9bf291cf61b9e", checked := Tryz.checked }
namespace Rows
def none {H : Type} : Left H := { results := [], args := [] }

/- WHAT THE LISTED PACKAGE-LEVEL VARIABLES READ AS WHEN THE CALL BEGINS. Each datum BY PROGRAM (the guide's laid-datum.mjs) off the statement by which the dump's own 'gosem.cut.vars' lays the variable. In a bare row this is a premise. The card (YtiilljcnikgeaaaGreatDoorCards.lean) ties it to the program's text. -/
def laid_rollbook_date_lengths {H : Type} : DataW H := .agg [.lit (.int .i64 0), .lit (.int .i64 31), .lit (.int .i64 28), .lit (.int .i64 31), .lit (.int .i64 30), .lit (.int .i64 31), .lit (.int .i64 30), .lit (.int .i64 31), .lit (.int .i64 31), .lit (.int .i64 30), .lit (.int .i64 31), .lit (.int .i64 30), .lit (.int .i64 31)]
def laid_rollbook_holiday_moves {H : Type} : DataW H := .agg [.agg [.lit (.int .i64 0), .lit (.int .i64 0), .lit (.int .i64 0), .lit (.int .i64 0), .lit (.int .i64 0), .lit (.int .i64 0), .lit (.int .i64 0)], .agg [.lit (.int .i64 0), .lit (.int .i64 0), .lit (.int .i64 0), .lit (.int .i64 0), .lit (.int .i64 0), .lit (.int .i64 2), .lit (.int .i64 1)], .agg [.lit (.int .i64 0), .lit (.int .i64 0), .lit (.int .i64 0), .lit (.int .i64 0), .lit (.int .i64 0), .lit (.int .i64 (-1)), .lit (.int .i64 1)]]

/-- 'rollbooklaw11.CalendarAdds': WHATEVER THE INPUT: true; the input reads as it did. -/
def calendarAddsSpec : ChangeSpec := { name := "calendarAdds", fn := fun _ => fun
  | [d1, d2, d3, d4, d5] => { results := [.lit (.bool true)], args := [d1, d2, d3, d4, d5] }
  | _ => none }
def calendarAddsRow : OpenClaim := { program := "ytiilljcnikgeaaagreatdoor", sum := "06bc41235fd91f101a45785cf9ce9a160af41e5d26ffe58b72d9bf291cf61b9e", func := "rollbook/rollbooklaw11.CalendarAdds", spec := "calendarAdds", unfollowed := true, recurses := true, named := ["rollbook/holiday.moves", "rollbook/date.lengths"], apart := false, laid := [("rollbook/date.lengths", laid_rollbook_date_lengths), ("rollbook/holiday.moves", laid_rollbook_holiday_moves)] }
def CalendarAddsSaid : Prop := calendarAddsRow.holds Tryz.pinned (OpenSpec.ofChange calendarAddsSpec)

/-- ITS FALSE NEIGHBOUR: 'it returns false'. Refute it at one input. -/
def calendarAddsWrong : ChangeSpec := { name := "calendarAdds", fn := fun _ => fun
  | [d1, d2, d3, d4, d5] => { results := [.lit (.bool false)], args := [d1, d2, d3, d4, d5] }
  | _ => none }
def CalendarAddsWrongFalsely : Prop := calendarAddsRow.holds Tryz.pinned (OpenSpec.ofChange calendarAddsWrong)

/-- 'rollbooklaw11.CalendarFiles': WHATEVER THE INPUT: true; the input reads as it did. -/
def calendarFilesSpec : ChangeSpec := { name := "calendarFiles", fn := fun _ => fun
  | [d1, d2, d3, d4] => { results := [.lit (.bool true)], args := [d1, d2, d3, d4] }
  | _ => none }
def calendarFilesRow : OpenClaim := { program := "ytiilljcnikgeaaagreatdoor", sum := "06bc41235fd91f101a45785cf9ce9a160af41e5d26ffe58b72d9bf291cf61b9e", func := "rollbook/rollbooklaw11.CalendarFiles", spec := "calendarFiles", unfollowed := true, recurses := true, named := ["rollbook/holiday.moves", "rollbook/date.lengths"], apart := false, laid := [("rollbook/date.lengths", laid_rollbook_date_lengths), ("rollbook/holiday.moves", laid_rollbook_holiday_moves)] }
def CalendarFilesSaid : Prop := calendarFilesRow.holds Tryz.pinned (OpenSpec.ofChange calendarFilesSpec)

/-- ITS FALSE NEIGHBOUR: 'it returns false'. Refute it at one input. -/
def calendarFilesWrong : ChangeSpec := { name := "calendarFiles", fn := fun _ => fun
  | [d1, d2, d3, d4] => { results := [.lit (.bool false)], args := [d1, d2, d3, d4] }
  | _ => none }
def CalendarFilesWrongFalsely : Prop := calendarFilesRow.holds Tryz.pinned (OpenSpec.ofChange calendarFilesWrong)

/-- 'rollbooklaw11.CalendarOpens': WHATEVER THE INPUT: true; the input reads as it did. -/
def calendarOpensSpec : ChangeSpec := { name := "calendarOpens", fn := fun _ => fun
  | [d1, d2, d3, d4, d5] => { results := [.lit (.bool true)], args := [d1, d2, d3, d4, d5] }
  | _ => none }
def calendarOpensRow : OpenClaim := { program := "ytiilljcnikgeaaagreatdoor", sum := "06bc41235fd91f101a45785cf9ce9a160af41e5d26ffe58b72d9bf291cf61b9e", func := "rollbook/rollbooklaw11.CalendarOpens", spec := "calendarOpens", unfollowed := true, recurses := true, named := ["rollbook/holiday.moves", "rollbook/date.lengths"], apart := false, laid := [("rollbook/date.lengths", laid_rollbook_date_lengths), ("rollbook/holiday.moves", laid_rollbook_holiday_moves)] }
def CalendarOpensSaid : Prop := calendarOpensRow.holds Tryz.pinned (OpenSpec.ofChange calendarOpensSpec)

/-- ITS FALSE NEIGHBOUR: 'it returns false'. Refute it at one input. -/
def calendarOpensWrong : ChangeSpec := { name := "calendarOpens", fn := fun _ => fun
  | [d1, d2, d3, d4, d5] => { results := [.lit (.bool false)], args := [d1, d2, d3, d4, d5] }
  | _ => none }
def CalendarOpensWrongFalsely : Prop := calendarOpensRow.holds Tryz.pinned (OpenSpec.ofChange calendarOpensWrong)

/- THE SECOND FORM. 'bulk': how many values and letters a reading holds, each counted each time it is reached (what is shared counts as often as it is met; a slice's spare places count too). A statement '..UptoSaid' is the law's where the arguments, and the package variables that the reading takes, are together of bulk at most 1048576: NARROWER than '..Said'. Prove '..Said' where nothing that the law and all that it calls make is longer than what came in: it says more and counts as full. Else prove '..UptoSaid'. A law counts once. -/
mutual
def uptoBulk {H : Type} : DataW H → Nat
  | .lit (.string bytes) => bytes.length + 1
  | .lit _ => 1
  | .nil => 1
  | .ptr d => uptoBulk d + 1
  | .slice elems spare => uptoBulkAll elems + uptoBulkAll spare + 1
  | .agg parts => uptoBulkAll parts + 1
  | .iface _ d => uptoBulk d + 1
  | .map entries => uptoBulkEntries entries + 1
  | .held _ => 1
def uptoBulkAll {H : Type} : List (DataW H) → Nat
  | [] => 0
  | d :: r => uptoBulk d + uptoBulkAll r
def uptoBulkEntries {H : Type} : List (Lit × DataW H) → Nat
  | [] => 0
  | x :: r => uptoBulkEntry x + uptoBulkEntries r
def uptoBulkEntry {H : Type} : Lit × DataW H → Nat
  | (.string bytes, d) => bytes.length + uptoBulk d + 1
  | (_, d) => uptoBulk d + 1
 end
def uptoSmall : (H : Type) → List (DataW H) → Bool := fun _ ds => decide (uptoBulkAll ds ≤ 1048576)
def OpenSpec.upto (s : _root_.Go.ChangeSpec) : _root_.Go.OpenSpec := { _root_.Go.OpenSpec.ofChange s with cond := some uptoSmall }

/-- 'rollbooklaw11.CalendarAdds', WHERE WHAT IT READS IS OF BULK AT MOST 1048576: true; the input reads as it did. -/
def calendarAddsUptoRow : OpenClaim := { program := "ytiilljcnikgeaaagreatdoor", sum := "06bc41235fd91f101a45785cf9ce9a160af41e5d26ffe58b72d9bf291cf61b9e", func := "rollbook/rollbooklaw11.CalendarAdds", spec := "calendarAdds", unfollowed := true, recurses := true, named := ["rollbook/holiday.moves", "rollbook/date.lengths"], apart := false, laid := [("rollbook/date.lengths", laid_rollbook_date_lengths), ("rollbook/holiday.moves", laid_rollbook_holiday_moves)], narrowed := true }
def CalendarAddsUptoSaid : Prop := calendarAddsUptoRow.holds Tryz.pinned (OpenSpec.upto calendarAddsSpec)

/-- 'rollbooklaw11.CalendarFiles', WHERE WHAT IT READS IS OF BULK AT MOST 1048576: true; the input reads as it did. -/
def calendarFilesUptoRow : OpenClaim := { program := "ytiilljcnikgeaaagreatdoor", sum := "06bc41235fd91f101a45785cf9ce9a160af41e5d26ffe58b72d9bf291cf61b9e", func := "rollbook/rollbooklaw11.CalendarFiles", spec := "calendarFiles", unfollowed := true, recurses := true, named := ["rollbook/holiday.moves", "rollbook/date.lengths"], apart := false, laid := [("rollbook/date.lengths", laid_rollbook_date_lengths), ("rollbook/holiday.moves", laid_rollbook_holiday_moves)], narrowed := true }
def CalendarFilesUptoSaid : Prop := calendarFilesUptoRow.holds Tryz.pinned (OpenSpec.upto calendarFilesSpec)

/-- 'rollbooklaw11.CalendarOpens', WHERE WHAT IT READS IS OF BULK AT MOST 1048576: true; the input reads as it did. -/
def calendarOpensUptoRow : OpenClaim := { program := "ytiilljcnikgeaaagreatdoor", sum := "06bc41235fd91f101a45785cf9ce9a160af41e5d26ffe58b72d9bf291cf61b9e", func := "rollbook/rollbooklaw11.CalendarOpens", spec := "calendarOpens", unfollowed := true, recurses := true, named := ["rollbook/holiday.moves", "rollbook/date.lengths"], apart := false, laid := [("rollbook/date.lengths", laid_rollbook_date_lengths), ("rollbook/holiday.moves", laid_rollbook_holiday_moves)], narrowed := true }
def CalendarOpensUptoSaid : Prop := calendarOpensUptoRow.holds Tryz.pinned (OpenSpec.upto calendarOpensSpec)

end Rows
end Go.Proofs.YtiilljcnikgeaaaGreatDoor
