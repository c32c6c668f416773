/- Words on blocks of memory that are known whole. Conditions: none. -/
import Derived.Test.YtmkhnpkbaegchaaKIter
import Derived.Laws.Rows
import Derived.Laws.OwnMore
import Derived.Deep.Draws
import Derived.Maps.AppendAt
namespace Go.Proofs.Ytmkhnpkbaegchaa
open Go.RowKit

/-- block g is the cells cs, of elements of type t, none of them frozen -/
def Blk (w : World) (g : Nat) (t : TypeId) (cs : Array Value) : Prop := w.heap[g]? = some (Obj.cells cs t (0, 0))
theorem Blk.lt {w : World} {g t cs} (h : Blk w g t cs) : g < w.heap.size := (Array.getElem?_eq_some_iff.1 h).1
theorem Blk.cell {w : World} {g t cs} (h : Blk w g t cs) (i : Nat) : w.cell? ⟨g, i, none⟩ = cs[i]? := by
  unfold World.cell?
  rw [show w.heap[g]? = _ from h]
  rfl
theorem Blk.frozen {w : World} {g t cs} (h : Blk w g t cs) (i : Nat) : w.frozen? ⟨g, i, none⟩ = false := by
  unfold World.frozen?
  rw [show w.heap[g]? = _ from h]
  simp
theorem Blk.new (w : World) (t : TypeId) (cs : Array Value) : Blk (w.alloc (.cells cs t)) w.heap.size t cs := World.alloc_heap_new w _
theorem Blk.at {w : World} {n : Nat} (h : n = w.heap.size) (t : TypeId) (cs : Array Value) : Blk (w.alloc (.cells cs t)) n t cs := by rw [h]; exact Blk.new w t cs
theorem Blk.kept {w w' : World} {g t cs} {row : Option Nat} (h : Blk w g t cs) (hg : w.grownBy w' row) (hne : some g ≠ row) : Blk w' g t cs := (hg.block g h.lt hne).trans h
theorem Blk.alloc {w : World} {g t cs} (h : Blk w g t cs) (o : Obj) : Blk (w.alloc o) g t cs := h.kept (World.grownBy_alloc w o none) (by simp)
theorem Blk.below {w w' : World} {B g t cs} (h : Blk w g t cs) (hb : Below B w w') (hg : g < B) : Blk w' g t cs := (hb.block g hg).trans h
theorem Blk.drew {w : World} {g t cs} (h : Blk w g t cs) : Blk w.drew g t cs := h
theorem Blk.drewN {w : World} {g t cs} (h : Blk w g t cs) (n : Nat) : Blk (w.drewN n) g t cs := h
theorem grown_setAt (W : World) (B i : Nat) (v : Value) : W.grownBy (W.setCell ⟨B, i, none⟩ v) (some B) :=
  ⟨rfl, rfl, rfl, by simp [World.setCell], fun k _ hk => by
    have hne : B ≠ k := fun e => hk (by rw [e])
    simp [World.setCell, Array.getElem?_modify, hne]⟩
theorem Blk.set {w : World} {g t cs} (h : Blk w g t cs) (i : Nat) (u : Value) : Blk (w.setCell ⟨g, i, none⟩ u) g t (cs.setIfInBounds i u) := by
  have h' : w.heap[g]? = some (Obj.cells cs t (0, 0)) := h
  show (w.heap.modify g _)[g]? = _
  simp [Array.getElem?_modify, h']
theorem Blk.far {w : World} {g t cs} (h : Blk w g t cs) {p : Addr} (hp : g ≠ p.block) (u : Value) : Blk (w.setCell p u) g t cs := by
  have h' : w.heap[g]? = some (Obj.cells cs t (0, 0)) := h
  show (w.heap.modify p.block _)[g]? = _
  simp [Array.getElem?_modify, h', Ne.symm hp]
theorem Blk.ne {w : World} {g t cs g' t' cs'} (h : Blk w g t cs) (h' : Blk w g' t' cs') (hne : t ≠ t') : g ≠ g' := by
  intro e
  subst e
  have := Option.some.inj ((show w.heap[g]? = _ from h).symm.trans h')
  injection this with _ ht
  exact hne ht
theorem Blk.mine {w : World} {T : TypeId → Bool} {g t cs} (h : Blk w g t cs) (ht : T t = true) {B : Nat} (hB : B ≤ g) : ∀ r, (some g : Option Nat) = some r → B ≤ r ∧ ∃ o : Obj, w.heap[r]? = some o ∧ mineB T o = true := by
  intro r e
  cases e
  exact ⟨hB, _, h, ht⟩
/-- a block of a type that is not the iterator's stays through its steps, and through the book-keeping -/
theorem Blk.ownT {β : Type} {T : TypeId → Bool} {B : Nat} (g : Nat) (t : TypeId) (f : β → Array Value) (ht : T t = false) : OwnT T B (fun s W => Blk W g t (f s)) := by
  intro s W W' row h hg hr
  refine h.kept hg (fun e => ?_)
  obtain ⟨_, o, ho, hc⟩ := hr g e.symm
  rw [show W.heap[g]? = _ from h] at ho
  cases ho
  rcases hc with hc | hc
  · cases hc
  · rw [show mineB T (Obj.cells (f s) t (0, 0)) = T t from rfl, ht] at hc; cases hc
theorem belowT {β : Type} {T : TypeId → Bool} {B n₀ : Nat} {w : World} (hw : n₀ ≤ w.heap.size) (hn : n₀ ≤ B) : OwnT T B (fun (_ : β) W => Below n₀ w W) :=
  fun _ _ _ _ hs hg hr => hs.grown hg (Nat.le_trans hw hs.size) (fun k e => Nat.le_trans hn (hr k e).1)
theorem pureT {β : Type} {T : TypeId → Bool} {B : Nat} (p : β → Prop) : OwnT T B (fun s (_ : World) => p s) := fun _ _ _ _ hs _ _ => hs
theorem KeepT.alloc {T : TypeId → Bool} {n₀ : Nat} {W : World} (h : n₀ ≤ W.heap.size) (o : Obj) : KeepT T n₀ W (W.alloc o) :=
  ⟨(Below.refl _ _).alloc h _, fun b cs t fr _ hb => ((World.grownBy_alloc W o none).block b (Array.getElem?_eq_some_iff.1 hb).1 (by simp)).trans hb⟩
theorem KeepT.grown {T : TypeId → Bool} {n₀ : Nat} {W W' : World} {row : Option Nat} (hg : W.grownBy W' row) (h : n₀ ≤ W.heap.size) (hr : ∀ r, row = some r → n₀ ≤ r ∧ ∀ o : Obj, W.heap[r]? = some o → mineB T o = false) : KeepT T n₀ W W' :=
  ⟨(Below.refl _ _).grown hg h (fun k e => (hr k e).1), fun b cs t fr ht hb => (hg.block b (Array.getElem?_eq_some_iff.1 hb).1 (fun e => by
    have := (hr b e.symm).2 _ hb
    rw [show mineB T (Obj.cells cs t fr) = T t from rfl, ht] at this; cases this)).trans hb⟩
theorem KeepT.set {T : TypeId → Bool} {n₀ : Nat} {W : World} {g t cs} (h : Blk W g t cs) (ht : T t = false) (hn : n₀ ≤ g) (hw : n₀ ≤ W.heap.size) (i : Nat) (v : Value) : KeepT T n₀ W (W.setCell ⟨g, i, none⟩ v) :=
  KeepT.grown (grown_setAt W g i v) hw (fun r e => by
    cases e
    exact ⟨hn, fun o ho => by rw [show W.heap[g]? = _ from h] at ho; cases ho; exact ht⟩)
theorem KeepT.drew {T : TypeId → Bool} {n₀ : Nat} {W : World} : KeepT T n₀ W W.drew := ⟨(Below.refl _ _).drew, fun _ _ _ _ _ h => h⟩
/-- a result that lies in a cell, read when the deferred calls are taken -/
theorem Blk.put {W : World} {g t cs D o} (h : Blk W g t cs) (hD : W.heap[D]? = some (.deferred o)) (o' : Obj) : Blk (W.putObj D o') g t cs := by
  have hne : g ≠ D := fun e => by
    have h' : W.heap[g]? = some (Obj.cells cs t (0, 0)) := h
    rw [e, hD] at h'; cases h'
  exact (World.putObj_heap_other hne).trans h
theorem keepsFrom_set (B : Nat) (W : World) (g i : Nat) (v : Value) {t cs} (h : Blk W g t cs) : KeepsFrom B W (W.setCell ⟨g, i, none⟩ v) :=
  ⟨by simp [World.setCell], fun k o hk h0 ho => by
    have hne : k ≠ g := fun e => by
      rw [e, show W.heap[g]? = _ from h] at h0; cases h0; cases ho
    exact ((grown_setAt W g i v).block k (Array.getElem?_eq_some_iff.1 h0).1 (fun e => hne (Option.some.inj e))).trans h0⟩
end Go.Proofs.Ytmkhnpkbaegchaa
