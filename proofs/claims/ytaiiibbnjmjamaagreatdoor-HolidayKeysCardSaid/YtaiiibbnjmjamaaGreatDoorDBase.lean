/- Base of the date walks: the laid table of month lengths, and what a call leaves of the memory that was there. Conditions: none. -/
import Derived.Test.YtaiiibbnjmjamaaGreatDoorKK
import Derived.Test.YtaiiibbnjmjamaaGreatDoorDPlain
import Derived.Lib.LaidTab
import Derived.Lib.SmallJoins
import Derived.Test.YtaiiibbnjmjamaaGreatDoorShelf
namespace Go.Proofs.YtaiiibbnjmjamaaGreatDoor
open Go.RowKit

/-- the table of month lengths lies in its variable -/
def Tab (w : World) : Prop := ∀ i : Nat, i < 13 → w.cell? ⟨1, i, none⟩ = some (.int .i64 ([0, 31, 28, 31, 30, 31, 30, 31, 31, 30, 31, 30, 31].getD i 0))
def Pow (w : World) : Prop := Lib.TabIs Tryz.prog w "internal/strconv.uint64pow10" .u64 Lib.pow10Tab
theorem powGlobal : Tryz.prog.globalNamed "internal/strconv.uint64pow10" = some 3 := by kernel_rfl
def Good (w : World) : Prop := (5 ≤ w.heap.size ∧ Pow w) ∧ Tab w

theorem Good.below {w w' : World} (h : Good w) (hb : Below w.heap.size w w') : Good w' :=
  ⟨⟨Nat.le_trans h.1.1 hb.size, Joins.tab_stays powGlobal h.1.2 hb (Nat.le_refl _)⟩, fun i hi => (hb.cell (p := ⟨1, i, none⟩) (by have := h.1.1; show 1 < _; omega)).trans (h.2 i hi)⟩
theorem Good.alloc {w : World} (h : Good w) (o : Obj) : Good (w.alloc o) := h.below ((Below.refl _ w).alloc (Nat.le_refl _) o)
theorem Good.drew {w : World} (h : Good w) : Good w.drew := h.below ((Below.refl _ w).drew)
theorem Good.drewN {w : World} (h : Good w) (n : Nat) : Good (w.drewN n) := h.below (bl_drewN (bl_refl w) n)
end Go.Proofs.YtaiiibbnjmjamaaGreatDoor
