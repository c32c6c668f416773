/- Words on rows of pairs and of nodes: parts of them, one element set. Conditions: stated at each. -/
import Derived.Test.YtaiiibbnjmjamaaGreatDoorTPutP
import Derived.Test.YtaiiibbnjmjamaaGreatDoorTMade
import Derived.Test.YtaiiibbnjmjamaaGreatDoorTIns
namespace Go.Proofs.YtaiiibbnjmjamaaGreatDoor
open Go.RowKit

section
variable {α : Type} {k : Nat} {enc : α → List Value}
theorem row_head {w : World} {B E g cap : Nat} {L : List α} (hk : ∀ x, (enc x).length = k) (h : w.ownsRow B E k (.slice (some ⟨g, 0, none⟩) L.length cap) L.length (flatE enc L)) (hm : L.length ≤ 1000000000) (j c : Nat) (hj : j ≤ L.length) :
    IsRow k enc w (.slice (some ⟨g, 0, none⟩) j c) (L.take j) := by
  have hl : (L.take j).length = j := by rw [List.length_take]; omega
  refine .inr ⟨g, 0, c, by rw [hl], (h.lt g rfl).2, by rw [hl]; unfold maxLen; omega, fun t x hx i u hu => ?_⟩
  have ht : t < j := by have := (List.getElem?_eq_some_iff.1 hx).1; omega
  rw [List.getElem?_take_of_lt ht] at hx
  have := h.cells (g := g) rfl (t * k + i) u (flatE_at hk L t x hx i u hu)
  rw [Go.WideShapes.add_plain] at this
  rwa [Nat.add_assoc]
theorem row_tail {w : World} {B E g cap : Nat} {L : List α} (hk : ∀ x, (enc x).length = k) (h : w.ownsRow B E k (.slice (some ⟨g, 0, none⟩) L.length cap) L.length (flatE enc L)) (hm : L.length ≤ 1000000000) (j c o n : Nat) (ho : o = j * k) (hn : n = L.length - j) :
    IsRow k enc w (.slice (some ⟨g, o, none⟩) n c) (L.drop j) := by
  subst ho hn
  have hl : (L.drop j).length = L.length - j := by rw [List.length_drop]
  refine .inr ⟨g, j * k, c, by rw [hl], (h.lt g rfl).2, by rw [hl]; unfold maxLen; omega, fun t x hx i u hu => ?_⟩
  rw [List.getElem?_drop] at hx
  have := h.cells (g := g) rfl ((j + t) * k + i) u (flatE_at hk L (j + t) x hx i u hu)
  rw [Go.WideShapes.add_plain, Nat.zero_add] at this
  rw [show j * k + t * k + i = (j + t) * k + i by rw [Nat.add_mul]]
  exact this
theorem flatE_cons (x : α) (L : List α) : flatE enc (x :: L) = enc x ++ flatE enc L := by unfold flatE; rw [List.flatMap_cons]
end
theorem set_K : ∀ (L : List Kid) (i : Nat) (y : Kid), (flatE encK L).set i (ptrN y.p) = flatE encK (L.set i y)
  | [], _, _ => rfl
  | a :: L, 0, y => by rw [flatE_cons, List.set_cons_zero, flatE_cons]; rfl
  | a :: L, i + 1, y => by
    rw [flatE_cons, List.set_cons_succ, flatE_cons, ← set_K L i y]; rfl
theorem set_P : ∀ (L : List KV) (i : Nat) (y : KV), ((flatE encKV L).set (i * 2) (.string y.k)).set (i * 2 + 1) (.string y.v) = flatE encKV (L.set i y)
  | [], _, _ => rfl
  | a :: L, 0, y => by rw [flatE_cons, List.set_cons_zero, flatE_cons]; rfl
  | a :: L, i + 1, y => by
    rw [flatE_cons, List.set_cons_succ, flatE_cons, ← set_P L i y, show (i + 1) * 2 = i * 2 + 1 + 1 by omega]; rfl
/-- rows of the two kinds lie in different blocks -/
theorem rows_apart {w : World} {B B' n m : Nat} {v v' : Value} {xs ys : List Value} {k k' : Nat} (h : w.ownsRow B 36 k v n xs) (h' : w.ownsRow B' 59 k' v' m ys) (g : Nat) (e : v.ownBlock = some g) : v'.ownBlock ≠ some g := by
  intro e'
  rcases h.2 with ⟨rfl, _⟩ | ⟨g1, c1, cur1, rfl, _, h1, _⟩
  · cases e
  · rcases h'.2 with ⟨rfl, _⟩ | ⟨g2, c2, cur2, rfl, _, h2, _⟩
    · cases e'
    · cases e; cases e'
      rw [h1] at h2; cases h2
end Go.Proofs.YtaiiibbnjmjamaaGreatDoor
