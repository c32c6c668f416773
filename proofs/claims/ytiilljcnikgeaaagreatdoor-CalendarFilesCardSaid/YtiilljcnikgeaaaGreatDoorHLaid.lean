/- What the rows' list of variables gives: the tables lie in memory, that of the moves of holidays too; and a world in which they do. -/
import Derived.Test.YtiilljcnikgeaaaGreatDoorCards
import Derived.Test.YtiilljcnikgeaaaGreatDoorTie
import Derived.Test.YtiilljcnikgeaaaGreatDoorHArr
import Derived.Test.YtiilljcnikgeaaaGreatDoorHGrid
import Derived.ProofKit
import Derived.OpenShut
import Derived.Deep.DeepHandedRow
import Derived.Stop.LaidErr
namespace Go.Proofs.YtiilljcnikgeaaaGreatDoor
open Go.ChangeShapes Go.WideShapes Go.ChangeAt Go.RowKit

theorem own : ownKnob Tryz.prog.godebug = none := by kernel_rfl
theorem gLen : Tryz.prog.globalNamed "rollbook/date.lengths" = some 0 := by kernel_rfl
theorem tLen : (Tryz.prog.globals[0]?).map (·.type) = some 115 := by kernel_rfl
theorem gMov : Tryz.prog.globalNamed "rollbook/holiday.moves" = some 1 := by kernel_rfl
theorem tMov : (Tryz.prog.globals[1]?).map (·.type) = some 123 := by kernel_rfl
theorem c7 : Tryz.prog.cellsOf 122 = 7 := by kernel_rfl
theorem c37 : Tryz.prog.cellsOf 123 = 3 * 7 := by kernel_rfl
theorem cInt : Tryz.prog.cellsOf 3 = 1 := by kernel_rfl
theorem c13 : Tryz.prog.cellsOf 115 = 13 := by kernel_rfl

def lenTab : List Int := [0, 31, 28, 31, 30, 31, 30, 31, 31, 30, 31, 30, 31]
/-- the rows' list -/
def laidList : List (String × DataW Unit) := [("rollbook/date.lengths", Rows.laid_rollbook_date_lengths), ("rollbook/holiday.moves", Rows.laid_rollbook_holiday_moves)]

theorem goodH_of_laid {W : World} (h0 : laidMetH Tryz.prog laidList W) : GoodH W := by
  have h2 : laidMet Tryz.prog laidList W := h0
  have h3 : laidMet Tryz.prog (("rollbook/date.lengths", Lib.tabData .i64 lenTab) :: [("rollbook/holiday.moves", Rows.laid_rollbook_holiday_moves)]) W := h2
  have h4 : laidMet Tryz.prog [("rollbook/holiday.moves", .agg (movT.map (Lib.tabData .i64)))] W := h3.tail
  have t3 := Lib.tabIs_of_head gLen tLen Tryz.underlying115 Tryz.underlying3 cInt c13 h3
  have hcm : ∀ i j : Nat, i < 3 → j < 7 → W.cell? ⟨1, i * 7 + j, none⟩ = some (.int .i64 ((movT.getD i []).getD j 0)) := by
    obtain ⟨ps, ⟨g', t', cs, fuel, p, q, hg', ht', hvar, hd, _, _⟩, _⟩ := h4
    obtain rfl := Option.some.inj (gMov.symm.trans hg')
    obtain rfl := Option.some.inj (tMov.symm.trans ht')
    intro i j hi hj
    have h1 := cell_of_grid Tryz.underlying123 Tryz.underlying122 Tryz.underlying3 cInt c7 c37 hd i j hi hj
    have h2 := World.var?_cell gMov hvar (i * 7 + j)
    rw [h2]
    simpa using h1
  refine ⟨⟨⟨?_, trivial⟩, fun i hi => t3.cell gLen i hi⟩, World.block_lt_of_cell? W _ (hcm 0 0 (by omega) (by omega)), hcm⟩
  have b1 := World.block_lt_of_cell? W _ (t3.cell gLen 0 (by decide))
  have b2 := World.block_lt_of_cell? W _ (hcm 0 0 (by omega) (by omega))
  simp only at b1 b2
  omega

/-- a block of a variable, filled -/
def fillB (h : Array Obj) (g : Nat) (k : IntKind) (zs : List Int) : Array Obj :=
  h.modify g fun
    | .cells _ t frozen => .cells (zs.map fun z => Value.int k z).toArray t frozen
    | o => o
/-- A WORLD FOR THE WITNESS: the settled one, the tables holding what their initialisers lay. -/
noncomputable def laidWorld (os : Os) : World :=
  { World.holding Tryz.prog os ⟨#[], #[], []⟩ with heap := fillB (fillB (World.holding Tryz.prog os ⟨#[], #[], []⟩).heap 1 .i64 movT.flatten) 0 .i64 lenTab }
theorem laid_met (os : Os) (args : Array Value) : laidMet Tryz.prog laidList ((laidWorld os).forCall (fun _ _ => 0) ⟨#[], args, []⟩).memory :=
  laidMet_of_run' 8 (by kernel_rfl) (by kernel_rfl)
end Go.Proofs.YtiilljcnikgeaaaGreatDoor
