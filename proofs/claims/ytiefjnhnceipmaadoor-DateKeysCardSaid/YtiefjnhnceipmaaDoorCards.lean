/-
  DERIVED. GIVEN WITH THE SEED: THE CARDS: each row of YtiefjnhnceipmaaDoorRows.lean that lists a variable, with what it lists TIED to the program's text (the seventh form; the later family's looks); each row that meets fmt, with fmt's text TOLD by the authors' own Lean function (tested against real Go, not proved from fmt's source: count such statements apart). THE CARD IS WHAT COUNTS. Prove the row's statement (the work); the ties are given (YtiefjnhnceipmaaDoorTie.lean); close each card by the builder's one call (the guide's Derived/Test/ToyasCard.lean, 'card_holds'). Laid BY PROGRAM, IN A SANDBOX (cutbox-door.mjs). By AI agents, Wed Nov 11 2026. No macro, syntax, notation, axiom, sorry.
-/
import Derived.Test.YtiefjnhnceipmaaDoorRows
import GoSem.ClaimSeven
namespace Go.Proofs.YtiefjnhnceipmaaDoor
namespace Rows

/-- THE TIED CARD OF 'rollbooklaw08.DateKeys'. -/
def dateKeysCard : Claim7 := { stood := { row := dateKeysRow, standIns := [], harness := (true, "89d21408c018ba67c1a1ad673924f1100b2e1a9fdaefa48d3e491097df7a8675"), looks := false }, kinds := [], alts := [], laidByText := true, laidKinds := [.data, .data, .data, .data], laidTests := true, laidLooks := .later }
def DateKeysCardSaid : Prop := Claim7.holds Tryd.pinned (.plain (OpenSpec.ofChange dateKeysSpec)) dateKeysCard

/-- THE SECOND FORM's CARD OF 'rollbooklaw08.DateKeys'. -/
def dateKeysUptoCard : Claim7 := { stood := { row := dateKeysUptoRow, standIns := [], harness := (true, "89d21408c018ba67c1a1ad673924f1100b2e1a9fdaefa48d3e491097df7a8675"), looks := false }, kinds := [], alts := [], laidByText := true, laidKinds := [.data, .data, .data, .data], laidTests := true, laidLooks := .later }
def DateKeysUptoCardSaid : Prop := Claim7.holds Tryd.pinned (.plain (OpenSpec.upto dateKeysSpec)) dateKeysUptoCard
end Rows
end Go.Proofs.YtiefjnhnceipmaaDoor
