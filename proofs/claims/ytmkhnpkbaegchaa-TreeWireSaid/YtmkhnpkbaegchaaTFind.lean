/- Plain words and words on memory for the way down a tree: what the search at a node tells of the whole list below it. Conditions: stated at each. -/
import Derived.Test.YtmkhnpkbaegchaaTTree
namespace Go.Proofs.Ytmkhnpkbaegchaa
open Go.RowKit

def getL (l : List KV) (k : ByteArray) : Option KV := l.find? fun x => decide (x.k = k)
/-- the last pair whose key is not behind a key -/
def flrL (l : List KV) (k : ByteArray) : Option KV := (l.filter fun x => !kl k x.k).getLast?
theorem getL_none {l : List KV} {k : ByteArray} (h : ∀ x ∈ l, x.k ≠ k) : getL l k = none := List.find?_eq_none.2 fun x hx => by simpa using h x hx
theorem getL_mid {a b c : List KV} {k : ByteArray} (ha : ∀ x ∈ a, kl x.k k = true) (hc : ∀ x ∈ c, kl k x.k = true) : getL (a ++ (b ++ c)) k = getL b k := by
  have h1 := getL_none (fun x hx => kl_ne (ha x hx))
  have h2 := getL_none (fun x hx => (kl_ne (hc x hx)).symm)
  unfold getL at *
  rw [List.find?_append, List.find?_append, h1, h2]
  cases List.find? _ b <;> rfl
theorem flr_mid {a b c : List KV} {k : ByteArray} (ha : ∀ x ∈ a, kl x.k k = true) (hc : ∀ x ∈ c, kl k x.k = true) : flrL (a ++ (b ++ c)) k = (flrL b k).or a.getLast? := by
  unfold flrL
  have h1 : a.filter (fun x => !kl k x.k) = a := List.filter_eq_self.2 fun x hx => by rw [kl_asym (ha x hx)]; rfl
  have h2 : c.filter (fun x => !kl k x.k) = [] := List.filter_eq_nil_iff.2 fun x hx => by rw [hc x hx]; simp
  rw [List.filter_append, List.filter_append, h1, h2, List.append_nil, List.getLast?_append]
theorem get_pair {U V : List KV} {q : KV} (h : Srt (U ++ q :: V)) : getL (U ++ q :: V) q.k = some q := by
  have h1 := srt_mid h
  rw [show U ++ q :: V = U ++ ([q] ++ V) by simp, getL_mid h1.1 h1.2]
  unfold getL; simp
theorem flr_pair {U V : List KV} {q : KV} (h : Srt (U ++ q :: V)) : flrL (U ++ q :: V) q.k = some q := by
  have h1 := srt_mid h
  rw [show U ++ q :: V = U ++ ([q] ++ V) by simp, flr_mid h1.1 h1.2]
  unfold flrL; simp [kl_irr]
theorem wpre_last : ∀ (A : List KV) (FA : List (List KV)), FA.length = A.length → (wpre A FA).getLast? = A.getLast?
  | [], _, _ => rfl
  | _ :: _, [], h => by simp at h
  | a :: A, f :: FA, h => by
    have ih := wpre_last A FA (by simpa using h)
    show (f ++ a :: wpre A FA).getLast? = _
    rw [List.getLast?_append, List.getLast?_cons, List.getLast?_cons, ih]; rfl
/-- what the search at a node tells of the whole list below it -/
theorem down_yes {ps : List KV} {fs : List (List KV)} {k : ByteArray} {i : Nat} {q : KV} (hs : Srt (weave ps fs)) (hl : fs = [] ∨ fs.length = ps.length + 1) (hq : ps[i]? = some q) (e : q.k = k) : getL (weave ps fs) k = some q ∧ flrL (weave ps fs) k = some q := by
  obtain ⟨U, V, h1, _⟩ := weave_pair ps fs i q hq hl
  subst e
  rw [h1] at hs ⊢
  exact ⟨get_pair hs, flr_pair hs⟩
theorem take_last {ps : List KV} {i : Nat} : (ps.take i).getLast? = if i = 0 then none else if i ≤ ps.length then ps[i - 1]? else ps.getLast? := by
  split
  · rename_i h; subst h; rfl
  · split
    · rw [List.getLast?_eq_getElem?, List.length_take, Nat.min_eq_left (by assumption), List.getElem?_take_of_lt (by omega)]
    · rw [List.take_of_length_le (by omega)]
theorem down_leaf {ps : List KV} {k : ByteArray} {i : Nat} (h1 : ∀ x ∈ ps.take i, kl x.k k = true) (h2 : ∀ x ∈ ps.drop i, kl k x.k = true) : getL ps k = none ∧ flrL ps k = (ps.take i).getLast? := by
  have a := getL_mid (a := ps.take i) (b := []) (c := ps.drop i) h1 h2
  have b := flr_mid (a := ps.take i) (b := []) (c := ps.drop i) h1 h2
  rw [List.nil_append, List.take_append_drop] at a b
  exact ⟨a, b⟩
theorem down_kid {ps : List KV} {fs : List (List KV)} {k : ByteArray} {i : Nat} {f : List KV} (hl : fs.length = ps.length + 1) (hi : i ≤ ps.length) (hf : fs[i]? = some f) (hs : Srt (weave ps fs)) (h1 : ∀ x ∈ ps.take i, kl x.k k = true) (h2 : ∀ x ∈ ps.drop i, kl k x.k = true) :
    getL (weave ps fs) k = getL f k ∧ flrL (weave ps fs) k = (flrL f k).or (ps.take i).getLast? := by
  obtain ⟨_, h3, _⟩ := weave_child hl hi hf
  rw [h3] at hs ⊢
  have a1 := wpre_lt hs h1
  have a2 := wpost_gt (srt_append.1 (srt_append.1 hs).2.1).2.1 h2
  refine ⟨getL_mid a1 a2, ?_⟩
  rw [flr_mid a1 a2, wpre_last _ _ (by simp; omega)]
/-- a node as it is read on the way down -/
theorem NodeAt.cells {F : Nat → Prop} {w : World} {p : Nat} {ps : List KV} {ks : List Kid} {sz : Nat} (h : NodeAt F w p ps ks sz) :
    ∃ pa pc ka kc, w.cell? ⟨p, 0, none⟩ = some (.slice pa ps.length pc) ∧ w.cell? ⟨p, 1, none⟩ = some (.slice ka ks.length kc) ∧ p < w.heap.size ∧
      (∀ i q, ps[i]? = some q → ∃ g o, pa = some ⟨g, o, none⟩ ∧ g < w.heap.size ∧ w.cell? ⟨g, o + i * 2, none⟩ = some (.string q.k) ∧ w.cell? ⟨g, o + i * 2 + 1, none⟩ = some (.string q.v)) ∧
      (∀ i y, ks[i]? = some y → ∃ g o, ka = some ⟨g, o, none⟩ ∧ g < w.heap.size ∧ w.cell? ⟨g, o + i, none⟩ = some (ptrN y.p)) := by
  obtain ⟨vp, vk, h1, h2, h3, _⟩ := h
  obtain ⟨pa, pc, rfl, _, hp⟩ := h2.open
  obtain ⟨ka, kc, rfl, _, hk⟩ := h3.open
  have c0 := h1.cell 0
  have c1 := h1.cell 1
  simp at c0 c1
  refine ⟨pa, pc, ka, kc, c0, c1, h1.lt, fun i q hq => ?_, fun i y hy => ?_⟩
  · obtain ⟨g, o, e, hg, hc⟩ := hp (by have := (List.getElem?_eq_some_iff.1 hq).1; omega)
    exact ⟨g, o, e, hg, hc i q hq 0 _ rfl, hc i q hq 1 _ rfl⟩
  · obtain ⟨g, o, e, hg, hc⟩ := hk (by have := (List.getElem?_eq_some_iff.1 hy).1; omega)
    have := hc i y hy 0 _ rfl
    rw [Nat.mul_one, Nat.add_zero] at this
    exact ⟨g, o, e, hg, this⟩
end Go.Proofs.Ytmkhnpkbaegchaa
