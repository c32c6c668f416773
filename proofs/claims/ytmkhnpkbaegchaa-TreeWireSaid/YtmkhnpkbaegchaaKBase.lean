/- Words for walks: what a call leaves of the memory that was there. Conditions: none. -/
import Derived.Test.YtmkhnpkbaegchaaRows
import Derived.WalkKit
import Derived.WalkSpells
import Derived.WalkLawsBesides
import Derived.Deep.QuietTactic
import Derived.BigQuiet
import Derived.Lib.Hide
import Derived.Deep.DeepCutAuto
import Derived.Deep.CutBlock
import Derived.Deep.RegionWith
import Derived.Deep.DeepFit
namespace Go.Proofs.Ytmkhnpkbaegchaa
open Go.RowKit

theorem bl_trans {a b c : World} (h : Below a.heap.size a b) (k : Below b.heap.size b c) : Below a.heap.size a c := h.trans (k.mono h.size)
theorem bl_alloc (w : World) (o : Obj) : Below w.heap.size w (w.alloc o) := (Below.refl _ w).alloc (Nat.le_refl _) o
theorem bl_drew (w : World) : Below w.heap.size w w.drew := (Below.refl _ w).drew
theorem bl_refl (w : World) : Below w.heap.size w w := Below.refl _ w

/-- it returns v, and what lay there lies there -/
def Ret (v : Value) (w : World) (e : Ending) (w' : World) : Prop := e = .returned v ∧ Below w.heap.size w w'
/-- it returns v, and the world is the old one -/
def Pur (v : Value) (w : World) (e : Ending) (w' : World) : Prop := e = .returned v ∧ w = w'
theorem Pur.ret {v w e w'} (h : Pur v w e w') : Ret v w e w' := by obtain ⟨rfl, rfl⟩ := h; exact ⟨rfl, Below.refl _ _⟩
/-- the worlds in which all that lies in W lies as it lay -/
structure UpW (W : World) where
  w : World
  h : Below W.heap.size W w
instance (W : World) : Nonempty (UpW W) := ⟨⟨W, Below.refl _ _⟩⟩
theorem wp_region_up {P : Program} {id : Nat} {Q : Exit → Act → World → Prop} {a : Act} {w : World} {l : List Oper} (hm : P.follows .mixedOrders = true) (hB : Region.lexB .any l.toArray = true)
    (h : wpQuiet P l.toArray (fun w' => ∃ u : UpW w, w' = u.w) (fun a' => ∀ w', (∃ u : UpW w, w' = u.w) → Q .normal a' w') l a) : (Code.region id l.toArray true).wp P Q a w :=
  wp_region_quiet (C := fun w' => ∃ u : UpW w, w' = u.w) hm hB ⟨⟨w.drew, bl_drew w⟩, rfl⟩ (by simpa using h)
theorem Ret.up {P : Program} {f : FuncId} {args : Array Value} {W : World} {u : UpW W} {v : Value} (h : Calls P f args u.w (Ret v u.w)) : Calls P f args u.w fun e w'' => e = .returned v ∧ ∃ u' : UpW W, w'' = u'.w :=
  h.mono fun _ w'' ⟨he, hb⟩ => ⟨he, ⟨w'', bl_trans u.h hb⟩, rfl⟩
theorem ret_int {k : IntKind} {a b : Int} (h : a = b) : Ending.returned (.int k a) = .returned (.int k b) := by rw [h]
theorem ret_bool {a b : Bool} (h : a = b) : Ending.returned (.bool a) = .returned (.bool b) := by rw [h]
theorem ret_ie {a b : Int} {c d : Int} (h : a = b) (h' : c = d) : Ending.returned (.tuple #[.int .i64 a, .int .i64 c]) = .returned (.tuple #[.int .i64 b, .int .i64 d]) := by rw [h, h']
theorem bl_drewN {a w : World} (h : Below a.heap.size a w) (n : Nat) : Below a.heap.size a (w.drewN n) := h.trans ⟨rfl, rfl, rfl, Nat.le_refl _, fun _ _ => rfl⟩
theorem Pur.quiet {P : Program} {f : FuncId} {args : Array Value} {w : World} {n : Nat} {v : Value} (h : Calls P f args (w.drewN n) (Pur v (w.drewN n))) : Calls P f args (w.drewN n) fun e w'' => e = .returned v ∧ ∃ m, w'' = w.drewN m :=
  h.mono fun _ _ ⟨he, hm⟩ => ⟨he, n, hm.symm⟩
end Go.Proofs.Ytmkhnpkbaegchaa
