/- Rules for holidays and kept days in memory; the listed table of moves. Conditions: none. -/
import Derived.Test.YtaiiibbnjmjamaaGreatDoorKK
import Derived.Test.YtaiiibbnjmjamaaGreatDoorHPl
import Derived.Test.YtaiiibbnjmjamaaGreatDoorHWin
import Derived.Test.YtaiiibbnjmjamaaGreatDoorDBase
namespace Go.Proofs.YtaiiibbnjmjamaaGreatDoor
open Go.RowKit

/-- a rule's cells -/
def encH (h : Hol) : List Value := [.int .i64 h.k, .int .i64 h.mo, .int .i64 h.d, .int .i64 h.wd, .int .i64 h.nth, .int .i64 h.off, .int .i64 h.mv, .int .i64 h.f, .int .i64 h.l]
theorem encH_len (h : Hol) : (encH h).length = 9 := rfl
abbrev aggH (h : Hol) : Value := .agg #[.int .i64 h.k, .int .i64 h.mo, .int .i64 h.d, .int .i64 h.wd, .int .i64 h.nth, .int .i64 h.off, .int .i64 h.mv, .int .i64 h.f, .int .i64 h.l]
abbrev cellsH (h : Hol) : Array Value := #[.int .i64 h.k, .int .i64 h.mo, .int .i64 h.d, .int .i64 h.wd, .int .i64 h.nth, .int .i64 h.off, .int .i64 h.mv, .int .i64 h.f, .int .i64 h.l]
/-- a kept day's cells -/
def encN (p : Int × Int) : List Value := [.int .i64 p.1, .int .i64 p.2]
theorem encN_len (p : Int × Int) : (encN p).length = 2 := rfl
abbrev IsHols (w : World) (v : Value) (l : List Hol) : Prop := IsRow 9 encH w v l
abbrev IsNs (w : World) (v : Value) (l : List (Int × Int)) : Prop := IsRow 2 encN w v l
/-- the table of moves -/
def movT : List (List Int) := [[0, 0, 0, 0, 0, 0, 0], [0, 0, 0, 0, 0, 2, 1], [0, 0, 0, 0, 0, -1, 1]]
def GoodH (w : World) : Prop := Good w ∧ (0 < w.heap.size ∧ ∀ i j : Nat, i < 3 → j < 7 → w.cell? ⟨0, i * 7 + j, none⟩ = some (.int .i64 ((movT.getD i []).getD j 0)))
theorem GoodH.below {w w' : World} (h : GoodH w) (hb : Below w.heap.size w w') : GoodH w' :=
  ⟨h.1.below hb, Nat.lt_of_lt_of_le h.2.1 hb.size, fun i j hi hj => (hb.cell (p := ⟨0, i * 7 + j, none⟩) h.2.1).trans (h.2.2 i j hi hj)⟩
theorem GoodH.alloc {w : World} (h : GoodH w) (o : Obj) : GoodH (w.alloc o) := h.below (bl_alloc w o)
theorem GoodH.drew {w : World} (h : GoodH w) : GoodH w.drew := h.below (bl_drew w)
theorem GoodH.drewN {w : World} (h : GoodH w) (n : Nat) : GoodH (w.drewN n) := h.below (bl_drewN (bl_refl w) n)
theorem movT_eq : ∀ (i j : Nat), i < 3 → j < 7 → (movT.getD i []).getD j 0 = movV i j := by
  intro i j hi hj
  match i, hi with
  | 0, _ => match j, hj with
    | 0, _ => rfl | 1, _ => rfl | 2, _ => rfl | 3, _ => rfl | 4, _ => rfl | 5, _ => rfl | 6, _ => rfl
  | 1, _ => match j, hj with
    | 0, _ => rfl | 1, _ => rfl | 2, _ => rfl | 3, _ => rfl | 4, _ => rfl | 5, _ => rfl | 6, _ => rfl
  | 2, _ => match j, hj with
    | 0, _ => rfl | 1, _ => rfl | 2, _ => rfl | 3, _ => rfl | 4, _ => rfl | 5, _ => rfl | 6, _ => rfl
end Go.Proofs.YtaiiibbnjmjamaaGreatDoor
