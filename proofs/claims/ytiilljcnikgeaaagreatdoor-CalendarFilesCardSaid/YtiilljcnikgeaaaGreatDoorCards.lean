/-
  DERIVED. GIVEN WITH THE SEED: THE CARDS: each row of YtiilljcnikgeaaaGreatDoorRows.lean that lists a variable, with what it lists TIED to the program's text (the seventh form; the later family's looks); each row that meets fmt, with fmt's text TOLD by the authors' own Lean function (tested against real Go, not proved from fmt's source: count such statements apart). THE CARD IS WHAT COUNTS. Prove the row's statement (the work); the ties are given (YtiilljcnikgeaaaGreatDoorTie.lean); close each card by the builder's one call (the guide's Derived/Test/ToyasCard.lean, 'card_holds'). Laid BY PROGRAM, IN A SANDBOX (cutbox-door.mjs). By AI agents, Wed Nov 11 2026. No macro, syntax, notation, axiom, sorry.
-/
import Derived.Test.YtiilljcnikgeaaaGreatDoorRows
import GoSem.ClaimSeven
namespace Go.Proofs.YtiilljcnikgeaaaGreatDoor
namespace Rows

/-- THE TIED CARD OF 'rollbooklaw11.CalendarAdds'. -/
def calendarAddsCard : Claim7 := { stood := { row := calendarAddsRow, standIns := [], harness := (true, "df7d49727a90a3b496888e761babd0c04a43e6b9e50452446a1978d0d423d8de"), looks := false }, kinds := [], alts := [], laidByText := true, laidKinds := [.data, .data], laidTests := true, laidLooks := .later }
def CalendarAddsCardSaid : Prop := Claim7.holds Tryz.pinned (.plain (OpenSpec.ofChange calendarAddsSpec)) calendarAddsCard

/-- THE TIED CARD OF 'rollbooklaw11.CalendarFiles'. -/
def calendarFilesCard : Claim7 := { stood := { row := calendarFilesRow, standIns := [], harness := (true, "df7d49727a90a3b496888e761babd0c04a43e6b9e50452446a1978d0d423d8de"), looks := false }, kinds := [], alts := [], laidByText := true, laidKinds := [.data, .data], laidTests := true, laidLooks := .later }
def CalendarFilesCardSaid : Prop := Claim7.holds Tryz.pinned (.plain (OpenSpec.ofChange calendarFilesSpec)) calendarFilesCard

/-- THE TIED CARD OF 'rollbooklaw11.CalendarOpens'. -/
def calendarOpensCard : Claim7 := { stood := { row := calendarOpensRow, standIns := [], harness := (true, "df7d49727a90a3b496888e761babd0c04a43e6b9e50452446a1978d0d423d8de"), looks := false }, kinds := [], alts := [], laidByText := true, laidKinds := [.data, .data], laidTests := true, laidLooks := .later }
def CalendarOpensCardSaid : Prop := Claim7.holds Tryz.pinned (.plain (OpenSpec.ofChange calendarOpensSpec)) calendarOpensCard

/-- THE SECOND FORM's CARD OF 'rollbooklaw11.CalendarAdds'. -/
def calendarAddsUptoCard : Claim7 := { stood := { row := calendarAddsUptoRow, standIns := [], harness := (true, "df7d49727a90a3b496888e761babd0c04a43e6b9e50452446a1978d0d423d8de"), looks := false }, kinds := [], alts := [], laidByText := true, laidKinds := [.data, .data], laidTests := true, laidLooks := .later }
def CalendarAddsUptoCardSaid : Prop := Claim7.holds Tryz.pinned (.plain (OpenSpec.upto calendarAddsSpec)) calendarAddsUptoCard

/-- THE SECOND FORM's CARD OF 'rollbooklaw11.CalendarFiles'. -/
def calendarFilesUptoCard : Claim7 := { stood := { row := calendarFilesUptoRow, standIns := [], harness := (true, "df7d49727a90a3b496888e761babd0c04a43e6b9e50452446a1978d0d423d8de"), looks := false }, kinds := [], alts := [], laidByText := true, laidKinds := [.data, .data], laidTests := true, laidLooks := .later }
def CalendarFilesUptoCardSaid : Prop := Claim7.holds Tryz.pinned (.plain (OpenSpec.upto calendarFilesSpec)) calendarFilesUptoCard

/-- THE SECOND FORM's CARD OF 'rollbooklaw11.CalendarOpens'. -/
def calendarOpensUptoCard : Claim7 := { stood := { row := calendarOpensUptoRow, standIns := [], harness := (true, "df7d49727a90a3b496888e761babd0c04a43e6b9e50452446a1978d0d423d8de"), looks := false }, kinds := [], alts := [], laidByText := true, laidKinds := [.data, .data], laidTests := true, laidLooks := .later }
def CalendarOpensUptoCardSaid : Prop := Claim7.holds Tryz.pinned (.plain (OpenSpec.upto calendarOpensSpec)) calendarOpensUptoCard
end Rows
end Go.Proofs.YtiilljcnikgeaaaGreatDoor
