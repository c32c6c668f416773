/- What the rows' list of variables gives: the tables lie in memory; and a world in which they do. -/
import Derived.Test.YtiefjnhnceipmaaDoorCards
import Derived.Test.YtiefjnhnceipmaaDoorTie
import Derived.Test.YtiefjnhnceipmaaDoorDBase
import Derived.ProofKit
import Derived.OpenShut
import Derived.Deep.DeepHandedRow
import Derived.Stop.LaidErr
namespace Go.Proofs.YtiefjnhnceipmaaDoor
open Go.ChangeShapes Go.WideShapes Go.ChangeAt Go.RowKit

theorem own : ownKnob Tryd.prog.godebug = none := by kernel_rfl
theorem gB32 : Tryd.prog.globalNamed "math/bits.deBruijn32tab" = some 3 := by kernel_rfl
theorem gB64 : Tryd.prog.globalNamed "math/bits.deBruijn64tab" = some 4 := by kernel_rfl
theorem gLen : Tryd.prog.globalNamed "rollbook/date.lengths" = some 0 := by kernel_rfl
theorem tB64 : (Tryd.prog.globals[4]?).map (·.type) = some 121 := by kernel_rfl
theorem tPow : (Tryd.prog.globals[2]?).map (·.type) = some 116 := by kernel_rfl
theorem tLen : (Tryd.prog.globals[0]?).map (·.type) = some 104 := by kernel_rfl
theorem cInt : Tryd.prog.cellsOf 3 = 1 := by kernel_rfl
theorem cU64 : Tryd.prog.cellsOf 99 = 1 := by kernel_rfl
theorem cU8 : Tryd.prog.cellsOf 5 = 1 := by kernel_rfl
theorem cDate : Tryd.prog.cellsOf 48 = 3 := by kernel_rfl
theorem c13 : Tryd.prog.cellsOf 104 = 13 := by kernel_rfl
theorem c20 : Tryd.prog.cellsOf 116 = 20 := by kernel_rfl
theorem c64 : Tryd.prog.cellsOf 121 = 64 := by kernel_rfl

def lenTab : List Int := [0, 31, 28, 31, 30, 31, 30, 31, 31, 30, 31, 30, 31]
def b32Tab : List Int := [0, 1, 28, 2, 29, 14, 24, 3, 30, 22, 20, 15, 25, 17, 4, 8, 31, 27, 13, 23, 21, 19, 16, 7, 26, 12, 18, 6, 11, 5, 10, 9]
def b64Tab : List Int := [0, 1, 56, 2, 57, 49, 28, 3, 61, 58, 42, 50, 38, 29, 17, 4, 62, 47, 59, 36, 45, 43, 51, 22, 53, 39, 33, 30, 24, 18, 12, 5, 63, 55, 48, 27, 60, 41, 37, 16, 46, 35, 44, 21, 52, 32, 23, 11, 54, 26, 40, 15, 34, 20, 31, 10, 25, 14, 19, 9, 13, 8, 7, 6]
/-- the rows' list -/
def laidList : List (String × DataW Unit) := [("math/bits.deBruijn32tab", Rows.laid_math_bits_deBruijn32tab), ("math/bits.deBruijn64tab", Rows.laid_math_bits_deBruijn64tab), ("internal/strconv.uint64pow10", Rows.laid_internal_strconv_uint64pow10), ("rollbook/date.lengths", Rows.laid_rollbook_date_lengths)]

theorem good_of_laid {W : World} (h0 : laidMetH Tryd.prog laidList W) : Good W := by
  have h : laidMet Tryd.prog laidList W := h0
  have h1 : laidMet Tryd.prog (("math/bits.deBruijn64tab", Lib.tabData .u8 b64Tab) :: [("internal/strconv.uint64pow10", Rows.laid_internal_strconv_uint64pow10), ("rollbook/date.lengths", Rows.laid_rollbook_date_lengths)]) W := h.tail
  have h2 : laidMet Tryd.prog (("internal/strconv.uint64pow10", Lib.tabData .u64 Lib.pow10Tab) :: [("rollbook/date.lengths", Rows.laid_rollbook_date_lengths)]) W := h1.tail
  have h3 : laidMet Tryd.prog (("rollbook/date.lengths", Lib.tabData .i64 lenTab) :: []) W := h2.tail
  have t1 := Lib.tabIs_of_head gB64 tB64 Tryd.underlying121 Tryd.underlying5 cU8 c64 h1
  have t2 := Lib.tabIs_of_head powGlobal tPow Tryd.underlying116 Tryd.underlying99 cU64 c20 h2
  have t3 := Lib.tabIs_of_head gLen tLen Tryd.underlying104 Tryd.underlying3 cInt c13 h3
  refine ⟨⟨?_, t2⟩, fun i hi => t3.cell gLen i hi⟩
  have := World.block_lt_of_cell? W _ (t1.cell gB64 0 (by decide))
  exact this

/-- a block of a variable, filled -/
def fillB (h : Array Obj) (g : Nat) (k : IntKind) (zs : List Int) : Array Obj :=
  h.modify g fun
    | .cells _ t frozen => .cells (zs.map fun z => Value.int k z).toArray t frozen
    | o => o
/-- A WORLD FOR THE WITNESS: the settled one, the tables holding what their initialisers lay. -/
noncomputable def laidWorld (os : Os) : World :=
  { World.holding Tryd.prog os ⟨#[], #[], []⟩ with heap := fillB (fillB (fillB (fillB (World.holding Tryd.prog os ⟨#[], #[], []⟩).heap 0 .i64 lenTab) 2 .u64 Lib.pow10Tab) 3 .u8 b32Tab) 4 .u8 b64Tab }
theorem laid_met (os : Os) (args : Array Value) : laidMet Tryd.prog laidList ((laidWorld os).forCall (fun _ _ => 0) ⟨#[], args, []⟩).memory :=
  laidMet_of_run' 8 (by kernel_rfl) (by kernel_rfl)
end Go.Proofs.YtiefjnhnceipmaaDoor
