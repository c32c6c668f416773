/- Base of the date walks: the laid table of month lengths, and what a call leaves of the memory that was there. Conditions: none. -/
import Derived.Test.YtiefjnhnceipmaaDoorKPlain
import Derived.Test.YtiefjnhnceipmaaDoorDPlain
import Derived.Lib.LaidTab
import Derived.Lib.SmallJoins
import Derived.Test.YtiefjnhnceipmaaDoorShelf
namespace Go.Proofs.YtiefjnhnceipmaaDoor
open Go.RowKit

/-- the table of month lengths lies in its variable -/
def Tab (w : World) : Prop := ∀ i : Nat, i < 13 → w.cell? ⟨0, i, none⟩ = some (.int .i64 ([0, 31, 28, 31, 30, 31, 30, 31, 31, 30, 31, 30, 31].getD i 0))
def Pow (w : World) : Prop := Lib.TabIs Tryd.prog w "internal/strconv.uint64pow10" .u64 Lib.pow10Tab
theorem powGlobal : Tryd.prog.globalNamed "internal/strconv.uint64pow10" = some 2 := by kernel_rfl
def Good (w : World) : Prop := (5 ≤ w.heap.size ∧ Pow w) ∧ Tab w

theorem Good.below {w w' : World} (h : Good w) (hb : Below w.heap.size w w') : Good w' :=
  ⟨⟨Nat.le_trans h.1.1 hb.size, Joins.tab_stays powGlobal h.1.2 hb (Nat.le_refl _)⟩, fun i hi => (hb.cell (p := ⟨0, i, none⟩) (by have := h.1.1; show 0 < _; omega)).trans (h.2 i hi)⟩
theorem Good.alloc {w : World} (h : Good w) (o : Obj) : Good (w.alloc o) := h.below ((Below.refl _ w).alloc (Nat.le_refl _) o)
theorem Good.drew {w : World} (h : Good w) : Good w.drew := h.below ((Below.refl _ w).drew)
theorem Good.drewN {w : World} (h : Good w) (n : Nat) : Good (w.drewN n) := h.below (bl_drewN (bl_refl w) n)
end Go.Proofs.YtiefjnhnceipmaaDoor
