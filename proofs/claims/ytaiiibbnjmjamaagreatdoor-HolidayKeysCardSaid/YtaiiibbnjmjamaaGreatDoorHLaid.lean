/- What the rows' list of variables gives: the tables lie in memory, that of the moves of holidays too; and a world in which they do. -/
import Derived.Test.YtaiiibbnjmjamaaGreatDoorCards
import Derived.Test.YtaiiibbnjmjamaaGreatDoorTie
import Derived.Test.YtaiiibbnjmjamaaGreatDoorHArr
import Derived.Test.YtaiiibbnjmjamaaGreatDoorHGrid
import Derived.ProofKit
import Derived.OpenShut
import Derived.Deep.DeepHandedRow
import Derived.Stop.LaidErr
namespace Go.Proofs.YtaiiibbnjmjamaaGreatDoor
open Go.ChangeShapes Go.WideShapes Go.ChangeAt Go.RowKit

theorem own : ownKnob Tryz.prog.godebug = none := by kernel_rfl
theorem gB32 : Tryz.prog.globalNamed "math/bits.deBruijn32tab" = some 4 := by kernel_rfl
theorem gB64 : Tryz.prog.globalNamed "math/bits.deBruijn64tab" = some 5 := by kernel_rfl
theorem gLen : Tryz.prog.globalNamed "rollbook/date.lengths" = some 1 := by kernel_rfl
theorem tB64 : (Tryz.prog.globals[5]?).map (·.type) = some 166 := by kernel_rfl
theorem tPow : (Tryz.prog.globals[3]?).map (·.type) = some 155 := by kernel_rfl
theorem tLen : (Tryz.prog.globals[1]?).map (·.type) = some 113 := by kernel_rfl
theorem gMov : Tryz.prog.globalNamed "rollbook/holiday.moves" = some 0 := by kernel_rfl
theorem tMov : (Tryz.prog.globals[0]?).map (·.type) = some 55 := by kernel_rfl
theorem c7 : Tryz.prog.cellsOf 54 = 7 := by kernel_rfl
theorem c37 : Tryz.prog.cellsOf 55 = 3 * 7 := by kernel_rfl
theorem cInt : Tryz.prog.cellsOf 3 = 1 := by kernel_rfl
theorem cU64 : Tryz.prog.cellsOf 129 = 1 := by kernel_rfl
theorem cU8 : Tryz.prog.cellsOf 5 = 1 := by kernel_rfl
theorem cDate : Tryz.prog.cellsOf 67 = 3 := by kernel_rfl
theorem c13 : Tryz.prog.cellsOf 113 = 13 := by kernel_rfl
theorem c20 : Tryz.prog.cellsOf 155 = 20 := by kernel_rfl
theorem c64 : Tryz.prog.cellsOf 166 = 64 := by kernel_rfl

def lenTab : List Int := [0, 31, 28, 31, 30, 31, 30, 31, 31, 30, 31, 30, 31]
def b32Tab : List Int := [0, 1, 28, 2, 29, 14, 24, 3, 30, 22, 20, 15, 25, 17, 4, 8, 31, 27, 13, 23, 21, 19, 16, 7, 26, 12, 18, 6, 11, 5, 10, 9]
def b64Tab : List Int := [0, 1, 56, 2, 57, 49, 28, 3, 61, 58, 42, 50, 38, 29, 17, 4, 62, 47, 59, 36, 45, 43, 51, 22, 53, 39, 33, 30, 24, 18, 12, 5, 63, 55, 48, 27, 60, 41, 37, 16, 46, 35, 44, 21, 52, 32, 23, 11, 54, 26, 40, 15, 34, 20, 31, 10, 25, 14, 19, 9, 13, 8, 7, 6]
/-- the rows' list -/
def laidList : List (String × DataW Unit) := [("math/bits.deBruijn32tab", Rows.laid_math_bits_deBruijn32tab), ("math/bits.deBruijn64tab", Rows.laid_math_bits_deBruijn64tab), ("internal/strconv.uint64pow10", Rows.laid_internal_strconv_uint64pow10), ("rollbook/date.lengths", Rows.laid_rollbook_date_lengths), ("rollbook/holiday.moves", Rows.laid_rollbook_holiday_moves)]

theorem goodH_of_laid {W : World} (h0 : laidMetH Tryz.prog laidList W) : GoodH W := by
  have h : laidMet Tryz.prog laidList W := h0
  have h1 : laidMet Tryz.prog (("math/bits.deBruijn64tab", Lib.tabData .u8 b64Tab) :: [("internal/strconv.uint64pow10", Rows.laid_internal_strconv_uint64pow10), ("rollbook/date.lengths", Rows.laid_rollbook_date_lengths), ("rollbook/holiday.moves", Rows.laid_rollbook_holiday_moves)]) W := h.tail
  have h2 : laidMet Tryz.prog (("internal/strconv.uint64pow10", Lib.tabData .u64 Lib.pow10Tab) :: [("rollbook/date.lengths", Rows.laid_rollbook_date_lengths), ("rollbook/holiday.moves", Rows.laid_rollbook_holiday_moves)]) W := h1.tail
  have h3 : laidMet Tryz.prog (("rollbook/date.lengths", Lib.tabData .i64 lenTab) :: [("rollbook/holiday.moves", Rows.laid_rollbook_holiday_moves)]) W := h2.tail
  have h4 : laidMet Tryz.prog [("rollbook/holiday.moves", .agg (movT.map (Lib.tabData .i64)))] W := h3.tail
  have t1 := Lib.tabIs_of_head gB64 tB64 Tryz.underlying166 Tryz.underlying5 cU8 c64 h1
  have t2 := Lib.tabIs_of_head powGlobal tPow Tryz.underlying155 Tryz.underlying129 cU64 c20 h2
  have t3 := Lib.tabIs_of_head gLen tLen Tryz.underlying113 Tryz.underlying3 cInt c13 h3
  have hcm : ∀ i j : Nat, i < 3 → j < 7 → W.cell? ⟨0, i * 7 + j, none⟩ = some (.int .i64 ((movT.getD i []).getD j 0)) := by
    obtain ⟨ps, ⟨g', t', cs, fuel, p, q, hg', ht', hvar, hd, _, _⟩, _⟩ := h4
    obtain rfl := Option.some.inj (gMov.symm.trans hg')
    obtain rfl := Option.some.inj (tMov.symm.trans ht')
    intro i j hi hj
    have h1 := cell_of_grid Tryz.underlying55 Tryz.underlying54 Tryz.underlying3 cInt c7 c37 hd i j hi hj
    have h2 := World.var?_cell gMov hvar (i * 7 + j)
    rw [h2]
    simpa using h1
  refine ⟨⟨⟨?_, t2⟩, fun i hi => t3.cell gLen i hi⟩, World.block_lt_of_cell? W _ (hcm 0 0 (by omega) (by omega)), hcm⟩
  have := World.block_lt_of_cell? W _ (t1.cell gB64 0 (by decide))
  simp only at this
  omega

/-- a block of a variable, filled -/
def fillB (h : Array Obj) (g : Nat) (k : IntKind) (zs : List Int) : Array Obj :=
  h.modify g fun
    | .cells _ t frozen => .cells (zs.map fun z => Value.int k z).toArray t frozen
    | o => o
/-- A WORLD FOR THE WITNESS: the settled one, the tables holding what their initialisers lay. -/
noncomputable def laidWorld (os : Os) : World :=
  { World.holding Tryz.prog os ⟨#[], #[], []⟩ with heap := fillB (fillB (fillB (fillB (fillB (World.holding Tryz.prog os ⟨#[], #[], []⟩).heap 0 .i64 movT.flatten) 1 .i64 lenTab) 3 .u64 Lib.pow10Tab) 4 .u8 b32Tab) 5 .u8 b64Tab }
theorem laid_met (os : Os) (args : Array Value) : laidMet Tryz.prog laidList ((laidWorld os).forCall (fun _ _ => 0) ⟨#[], args, []⟩).memory :=
  laidMet_of_run' 8 (by kernel_rfl) (by kernel_rfl)
end Go.Proofs.YtaiiibbnjmjamaaGreatDoor
