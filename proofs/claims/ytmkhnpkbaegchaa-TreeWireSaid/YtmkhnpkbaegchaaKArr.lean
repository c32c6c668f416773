/- Words on slices of elements of k cells each: what such a slice reads as; the elements of a row that the call has made. Conditions: none. -/
import Derived.Test.YtmkhnpkbaegchaaKBlk
namespace Go.Proofs.Ytmkhnpkbaegchaa
open Go.RowKit

theorem pur_ret {P : Program} {f : FuncId} {args : Array Value} {w : World} {v : Value} (h : Calls P f args w (Pur v w)) : Calls P f args w (Ret v w) := h.mono fun _ _ => Pur.ret
/-- the slice v reads as the elements l, of k cells each, laid by enc -/
def IsRow {α : Type} (k : Nat) (enc : α → List Value) (w : World) (v : Value) (l : List α) : Prop :=
  (∃ a cap, v = .slice a 0 cap ∧ l = []) ∨ ∃ b off cap, v = .slice (some ⟨b, off, none⟩) l.length cap ∧ b < w.heap.size ∧ l.length ≤ maxLen ∧
    ∀ j x, l[j]? = some x → ∀ i u, (enc x)[i]? = some u → w.cell? ⟨b, off + j * k + i, none⟩ = some u
section
variable {α : Type} {k : Nat} {enc : α → List Value}
theorem IsRow.below {w w' : World} {v : Value} {l : List α} (h : IsRow k enc w v l) (hb : Below w.heap.size w w') : IsRow k enc w' v l := by
  rcases h with h | ⟨b, off, cap, e, hlt, hm, hc⟩
  · exact .inl h
  · exact .inr ⟨b, off, cap, e, Nat.lt_of_lt_of_le hlt hb.size, hm, fun j x hx i u hu => (hb.cell (p := ⟨b, off + j * k + i, none⟩) hlt).trans (hc j x hx i u hu)⟩
theorem IsRow.nil (w : World) : IsRow k enc w (.slice none 0 0) ([] : List α) := .inl ⟨none, 0, rfl, rfl⟩
theorem IsRow.slice {w : World} {v : Value} {l : List α} (h : IsRow k enc w v l) : ∃ a cap, v = .slice a l.length cap ∧ l.length ≤ maxLen := by
  rcases h with ⟨a, cap, rfl, rfl⟩ | ⟨b, off, cap, e, hlt, hm, hc⟩
  · exact ⟨a, cap, rfl, Nat.zero_le _⟩
  · exact ⟨_, cap, e, hm⟩
/-- the elements' cells, one behind the other -/
def flatE (enc : α → List Value) (l : List α) : List Value := l.flatMap enc
theorem flatE_nil : flatE enc [] = [] := rfl
theorem flatE_append (l r : List α) : flatE enc (l ++ r) = flatE enc l ++ flatE enc r := by unfold flatE; rw [List.flatMap_append]
theorem flatE_one (x : α) : flatE enc [x] = enc x := by unfold flatE; simp
theorem flatE_snoc (l : List α) (x : α) : flatE enc (l ++ [x]) = flatE enc l ++ enc x := by rw [flatE_append, flatE_one]
theorem flatE_len (hk : ∀ x, (enc x).length = k) (l : List α) : (flatE enc l).length = l.length * k := by
  unfold flatE
  induction l with
  | nil => simp
  | cons a l ih => rw [List.flatMap_cons, List.length_append, ih, hk, List.length_cons, Nat.succ_mul, Nat.add_comm]
theorem flatE_at (hk : ∀ x, (enc x).length = k) : ∀ (l : List α) (j : Nat) (x : α), l[j]? = some x → ∀ (i : Nat) (u : Value), (enc x)[i]? = some u → (flatE enc l)[j * k + i]? = some u
  | [], j, x, h, _, _, _ => by simp at h
  | a :: l, 0, x, h, i, u, hu => by
    simp at h; subst h
    have hi : i < (enc a).length := (List.getElem?_eq_some_iff.1 hu).1
    unfold flatE
    rw [List.flatMap_cons, Nat.zero_mul, Nat.zero_add, List.getElem?_append_left hi, hu]
  | a :: l, j + 1, x, h, i, u, hu => by
    simp at h
    have ih := flatE_at hk l j x h i u hu
    have e : flatE enc (a :: l) = enc a ++ flatE enc l := by unfold flatE; rw [List.flatMap_cons]
    rw [e, List.getElem?_append_right (by rw [hk, Nat.succ_mul]; omega), hk, show (j + 1) * k + i - k = j * k + i by rw [Nat.succ_mul]; omega]
    exact ih
/-- a row that the call has made, as a slice of such elements -/
theorem IsRow.of_row {w : World} {B e : Nat} {v : Value} {l : List α} (hk : ∀ x, (enc x).length = k) (h : w.ownsRow B e k v l.length (flatE enc l)) (hm : l.length ≤ maxLen) : IsRow k enc w v l := by
  have h0 := h
  rcases h.2 with ⟨e1, e2⟩ | ⟨g, cap', cur, e1, hg, hh, hn, hcap, hsz, htake⟩
  · exact .inl ⟨none, 0, e1, List.length_eq_zero_iff.1 e2⟩
  · subst e1
    refine .inr ⟨g, 0, cap', rfl, (Array.getElem?_eq_some_iff.1 hh).1, hm, fun j x hx i u hu => ?_⟩
    have c := h0.cells (g := g) rfl (j * k + i) u (flatE_at hk l j x hx i u hu)
    rw [Go.WideShapes.add_plain] at c
    rw [Nat.add_assoc]
    exact c
end
theorem row_below {w w' : World} {B e k n : Nat} {v : Value} {xs : List Value} (h : w.ownsRow B e k v n xs) (hb : Below w.heap.size w w') : w'.ownsRow B e k v n xs := by
  refine ⟨h.1, ?_⟩
  rcases h.2 with h1 | ⟨g, cap', cur, h1, hg, hh, h2⟩
  · exact .inl h1
  · exact .inr ⟨g, cap', cur, h1, hg, (hb.block g (Array.getElem?_eq_some_iff.1 hh).1).trans hh, h2⟩
theorem row_base {w : World} {B B' : Nat} {e : TypeId} {size n : Nat} {v : Value} {xs : List Value} (h : w.ownsRow B e size v n xs) (hb : B' ≤ B) : w.ownsRow B' e size v n xs := by
  refine ⟨h.1, ?_⟩
  rcases h.2 with h1 | ⟨g, cap', cur, h1, hg, h2⟩
  · exact .inl h1
  · exact .inr ⟨g, cap', cur, h1, by omega, h2⟩
theorem row_far {w : World} {B : Nat} {e : TypeId} {size n : Nat} {v : Value} {xs : List Value} (h : w.ownsRow B e size v n xs) {g : Nat} (hg : g < B) : some g ≠ v.ownBlock := by
  intro k
  have := (h.lt g k.symm).1
  omega
theorem row_slice {w : World} {B e k n : Nat} {v : Value} {xs : List Value} (h : w.ownsRow B e k v n xs) : ∃ a cap, v = .slice a n cap := by
  rcases h.2 with ⟨h1, h2⟩ | ⟨g', cap', cur, h1, _⟩
  · exact ⟨none, 0, by rw [h1, h2]⟩
  · exact ⟨_, _, h1⟩
/-- the blocks from n0 to n1 lie as they lay -/
def Mid (n0 n1 : Nat) (w w' : World) : Prop := n1 ≤ w'.heap.size ∧ ∀ k, n0 ≤ k → k < n1 → w'.heap[k]? = w.heap[k]?
theorem Mid.refl {n0 n1 : Nat} {w : World} (h : n1 ≤ w.heap.size) : Mid n0 n1 w w := ⟨h, fun _ _ _ => rfl⟩
theorem Mid.grown {n0 n1 : Nat} {w w' w'' : World} {row : Option Nat} (h : Mid n0 n1 w w') (hg : w'.grownBy w'' row) (hr : ∀ r, row = some r → r < n0 ∨ n1 ≤ r) : Mid n0 n1 w w'' :=
  ⟨Nat.le_trans h.1 hg.size, fun k h0 h1 => (hg.block k (Nat.lt_of_lt_of_le h1 h.1) (fun e => by rcases hr k e.symm with q | q <;> omega)).trans (h.2 k h0 h1)⟩
theorem Mid.alloc {n0 n1 : Nat} {w w' : World} (h : Mid n0 n1 w w') (o : Obj) : Mid n0 n1 w (w'.alloc o) := h.grown (World.grownBy_alloc w' o none) (fun r e => by cases e)
theorem Mid.below {n0 n1 : Nat} {w w' w'' : World} (h : Mid n0 n1 w w') (hb : Below w'.heap.size w' w'') : Mid n0 n1 w w'' :=
  ⟨Nat.le_trans h.1 hb.size, fun k h0 h1 => (hb.block k (Nat.lt_of_lt_of_le h1 h.1)).trans (h.2 k h0 h1)⟩
theorem Mid.cell {n0 n1 : Nat} {w w' : World} (h : Mid n0 n1 w w') {g : Nat} (h0 : n0 ≤ g) (h1 : g < n1) (o : Nat) : w'.cell? ⟨g, o, none⟩ = w.cell? ⟨g, o, none⟩ := World.cell?_of_block (h.2 g h0 h1)
/-- the block of a row lies outside n0 to n1 -/
def OutB (n0 n1 : Nat) (v : Value) : Prop := ∀ r, v.ownBlock = some r → r < n0 ∨ n1 ≤ r
theorem OutB.of_lt {w : World} {B e k n n0 n1 : Nat} {v : Value} {xs : List Value} (h : w.ownsRow B e k v n xs) (hw : w.heap.size ≤ n0) : OutB n0 n1 v := fun r e => .inl (Nat.lt_of_lt_of_le (h.lt r e).2 hw)
theorem OutB.at {n0 n1 m : Nat} {v v' : Value} (h : OutB n0 n1 v) (hv : v'.ownBlock = v.ownBlock ∨ v'.ownBlock = some m) (hm : n1 ≤ m) : OutB n0 n1 v' := by
  intro r e
  rcases hv with q | q
  · exact h r (q ▸ e)
  · rw [q] at e; cases e; exact .inr hm
end Go.Proofs.Ytmkhnpkbaegchaa
