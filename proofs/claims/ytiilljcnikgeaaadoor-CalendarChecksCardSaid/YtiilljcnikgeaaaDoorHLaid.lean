/- What the rows' list of variables gives: the tables lie in memory, that of the moves of holidays too; and a world in which they do. -/
import Derived.Test.YtiilljcnikgeaaaDoorCards
import Derived.Test.YtiilljcnikgeaaaDoorTie
import Derived.Test.YtiilljcnikgeaaaDoorHArr
import Derived.Test.YtiilljcnikgeaaaDoorHGrid
import Derived.ProofKit
import Derived.OpenShut
import Derived.Deep.DeepHandedRow
import Derived.Stop.LaidErr
namespace Go.Proofs.YtiilljcnikgeaaaDoor
open Go.ChangeShapes Go.WideShapes Go.ChangeAt Go.RowKit

theorem own : ownKnob Tryd.prog.godebug = none := by kernel_rfl
theorem gLen : Tryd.prog.globalNamed "rollbook/date.lengths" = some 1 := by kernel_rfl
theorem tLen : (Tryd.prog.globals[1]?).map (·.type) = some 120 := by kernel_rfl
theorem gMov : Tryd.prog.globalNamed "rollbook/holiday.moves" = some 0 := by kernel_rfl
theorem tMov : (Tryd.prog.globals[0]?).map (·.type) = some 96 := by kernel_rfl
theorem c7 : Tryd.prog.cellsOf 95 = 7 := by kernel_rfl
theorem c37 : Tryd.prog.cellsOf 96 = 3 * 7 := by kernel_rfl
theorem cInt : Tryd.prog.cellsOf 3 = 1 := by kernel_rfl
theorem c13 : Tryd.prog.cellsOf 120 = 13 := by kernel_rfl

def lenTab : List Int := [0, 31, 28, 31, 30, 31, 30, 31, 31, 30, 31, 30, 31]
/-- the rows' list -/
def laidList : List (String × DataW Unit) := [("rollbook/date.lengths", Rows.laid_rollbook_date_lengths), ("rollbook/holiday.moves", Rows.laid_rollbook_holiday_moves)]

theorem goodH_of_laid {W : World} (h0 : laidMetH Tryd.prog laidList W) : GoodH W := by
  have h2 : laidMet Tryd.prog laidList W := h0
  have h3 : laidMet Tryd.prog (("rollbook/date.lengths", Lib.tabData .i64 lenTab) :: [("rollbook/holiday.moves", Rows.laid_rollbook_holiday_moves)]) W := h2
  have h4 : laidMet Tryd.prog [("rollbook/holiday.moves", .agg (movT.map (Lib.tabData .i64)))] W := h3.tail
  have t3 := Lib.tabIs_of_head gLen tLen Tryd.underlying120 Tryd.underlying3 cInt c13 h3
  have hcm : ∀ i j : Nat, i < 3 → j < 7 → W.cell? ⟨0, i * 7 + j, none⟩ = some (.int .i64 ((movT.getD i []).getD j 0)) := by
    obtain ⟨ps, ⟨g', t', cs, fuel, p, q, hg', ht', hvar, hd, _, _⟩, _⟩ := h4
    obtain rfl := Option.some.inj (gMov.symm.trans hg')
    obtain rfl := Option.some.inj (tMov.symm.trans ht')
    intro i j hi hj
    have h1 := cell_of_grid Tryd.underlying96 Tryd.underlying95 Tryd.underlying3 cInt c7 c37 hd i j hi hj
    have h2 := World.var?_cell gMov hvar (i * 7 + j)
    rw [h2]
    simpa using h1
  refine ⟨⟨⟨?_, trivial⟩, fun i hi => t3.cell gLen i hi⟩, World.block_lt_of_cell? W _ (hcm 0 0 (by omega) (by omega)), hcm⟩
  have b1 := World.block_lt_of_cell? W _ (t3.cell gLen 0 (by decide))
  have b2 := World.block_lt_of_cell? W _ (hcm 0 0 (by omega) (by omega))
  simp only at b1 b2
  omega

/-- a block of a variable, filled -/
def fillB (h : Array Obj) (g : Nat) (k : IntKind) (zs : List Int) : Array Obj :=
  h.modify g fun
    | .cells _ t frozen => .cells (zs.map fun z => Value.int k z).toArray t frozen
    | o => o
/-- A WORLD FOR THE WITNESS: the settled one, the tables holding what their initialisers lay. -/
noncomputable def laidWorld (os : Os) : World :=
  { World.holding Tryd.prog os ⟨#[], #[], []⟩ with heap := fillB (fillB (World.holding Tryd.prog os ⟨#[], #[], []⟩).heap 0 .i64 movT.flatten) 1 .i64 lenTab }
theorem laid_met (os : Os) (args : Array Value) : laidMet Tryd.prog laidList ((laidWorld os).forCall (fun _ _ => 0) ⟨#[], args, []⟩).memory :=
  laidMet_of_run' 8 (by kernel_rfl) (by kernel_rfl)
end Go.Proofs.YtiilljcnikgeaaaDoor
