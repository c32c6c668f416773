/- Words on trees in memory: what a node reads as, and the nodes below it. Conditions: none. -/
import Derived.Test.YtaiiibbnjmjamaaGreatDoorKApp
import Derived.Test.YtaiiibbnjmjamaaGreatDoorTPl
namespace Go.Proofs.YtaiiibbnjmjamaaGreatDoor
open Go.RowKit

/-- where a row lies, once it has an element -/
theorem IsRow.open {α : Type} {k : Nat} {enc : α → List Value} {w : World} {v : Value} {l : List α} (hv : IsRow k enc w v l) : ∃ pa cap, v = .slice pa l.length cap ∧ l.length ≤ maxLen ∧ (0 < l.length → ∃ b off, pa = some ⟨b, off, none⟩ ∧ b < w.heap.size ∧ ∀ j x, l[j]? = some x → ∀ i u, (enc x)[i]? = some u → w.cell? ⟨b, off + j * k + i, none⟩ = some u) := by
  rcases hv with ⟨a, cap, rfl, rfl⟩ | ⟨b, off, cap, rfl, hlt, hm, hc⟩
  · exact ⟨a, cap, rfl, Nat.zero_le _, fun h => absurd h (by simp)⟩
  · exact ⟨_, cap, rfl, hm, fun _ => ⟨b, off, rfl, hlt, hc⟩⟩
/-- a node: its block, how many pairs it has itself, the pairs of it and of all below it, the blocks of it and of all below it -/
structure Kid where
  p : Nat
  n : Nat
  l : List KV
  N : List Nat
abbrev ptrN (p : Nat) : Value := .pointer (some ⟨p, 0, none⟩)
def encKV (x : KV) : List Value := [.string x.k, .string x.v]
def encK (x : Kid) : List Value := [ptrN x.p]
theorem encKV_len (x : KV) : (encKV x).length = 2 := rfl
theorem encK_len (x : Kid) : (encK x).length = 1 := rfl
theorem encKV_one (x : KV) : ∀ u ∈ encKV x, u.oneCell' = true := fun u h => by simp [encKV] at h; rcases h with rfl | rfl <;> rfl
theorem encK_one (x : Kid) : ∀ u ∈ encK x, u.oneCell' = true := fun u h => by simp [encK] at h; subst h; rfl
/-- the blocks of a slice that has an element are such -/
def InF (F : Nat → Prop) (v : Value) : Prop := ∀ a n c, v = .slice (some a) n c → 0 < n → F a.block
theorem InF.nil (F : Nat → Prop) (n c : Nat) : InF F (.slice none n c) := fun a n c e => by cases e
theorem InF.at {F : Nat → Prop} {a : Addr} (h : F a.block) (n c : Nat) : InF F (.slice (some a) n c) := fun a n c e _ => by cases e; exact h
theorem InF.of_row {F : Nat → Prop} {w : World} {B e k n : Nat} {v : Value} {xs : List Value} (h : w.ownsRow B e k v n xs) (hF : ∀ b, B ≤ b → F b) : InF F v := fun a n c e _ => hF _ (h.lt a.block (by rw [e]; rfl)).1
theorem InF.mono {F G : Nat → Prop} {v : Value} (h : InF F v) (hg : ∀ b, F b → G b) : InF G v := fun a n c e hn => hg _ (h a n c e hn)
theorem cell_other {w : World} {R i : Nat} {u : Value} {a : Addr} (h : a.block ≠ R) : (w.setCell ⟨R, i, none⟩ u).cell? a = w.cell? a := World.cell?_of_block (by show (w.heap.modify R _)[a.block]? = _; rw [Array.getElem?_modify, if_neg (Ne.symm h)])
theorem IsRow.set {α : Type} {k : Nat} {enc : α → List Value} {F : Nat → Prop} {w : World} {v : Value} {l : List α} (h : IsRow k enc w v l) (hF : InF F v) {R : Nat} (hR : ¬ F R) (i : Nat) (u : Value) : IsRow k enc (w.setCell ⟨R, i, none⟩ u) v l := by
  rcases h with h | ⟨b, off, cap, e, hlt, hm, hc⟩
  · exact .inl h
  · refine .inr ⟨b, off, cap, e, by simpa [World.setCell] using hlt, hm, fun j x hx i' u' hu => ?_⟩
    rw [cell_other]
    · exact hc j x hx i' u' hu
    · intro q
      have hl : 0 < l.length := by have := (List.getElem?_eq_some_iff.1 hx).1; omega
      have q' : b = R := q
      subst q'
      exact hR (hF ⟨b, off, none⟩ _ _ e hl)
theorem IsRow.kept {α : Type} {k : Nat} {enc : α → List Value} {F : Nat → Prop} {w w' : World} {v : Value} {l : List α} (h : IsRow k enc w v l) (hF : InF F v) (hs : w.heap.size ≤ w'.heap.size) (hk : ∀ b, F b → b < w.heap.size → w'.heap[b]? = w.heap[b]?) : IsRow k enc w' v l := by
  rcases h with h | ⟨b, off, cap, e, hlt, hm, hc⟩
  · exact .inl h
  · refine .inr ⟨b, off, cap, e, Nat.lt_of_lt_of_le hlt hs, hm, fun j x hx i' u' hu => ?_⟩
    have hl : 0 < l.length := by have := (List.getElem?_eq_some_iff.1 hx).1; omega
    have := hk b (hF ⟨b, off, none⟩ _ _ e hl) hlt
    rw [World.cell?_of_block (w := w) (a := ⟨b, off + j * k + i', none⟩) this]
    exact hc j x hx i' u' hu
/-- the block p is a node of those pairs and children, and lies in blocks that are F -/
def NodeAt (F : Nat → Prop) (w : World) (p : Nat) (ps : List KV) (ks : List Kid) (sz : Nat) : Prop :=
  ∃ vp vk, Blk w p 92 #[vp, vk, .int .i64 sz] ∧ IsRow 2 encKV w vp ps ∧ IsRow 1 encK w vk ks ∧ F p ∧ InF F vp ∧ InF F vk
section
variable {F G : Nat → Prop}
theorem NodeAt.below {w w' : World} {p : Nat} {ps : List KV} {ks : List Kid} {sz : Nat} (h : NodeAt F w p ps ks sz) (hb : Below w.heap.size w w') : NodeAt F w' p ps ks sz := by
  obtain ⟨vp, vk, h1, h2, h3, h4⟩ := h
  exact ⟨vp, vk, h1.below hb h1.lt, h2.below hb, h3.below hb, h4⟩
theorem NodeAt.lt {w : World} {p : Nat} {ps : List KV} {ks : List Kid} {sz : Nat} (h : NodeAt F w p ps ks sz) : p < w.heap.size := by
  obtain ⟨_, _, h1, _⟩ := h
  exact h1.lt
theorem NodeAt.mono {w : World} {p : Nat} {ps : List KV} {ks : List Kid} {sz : Nat} (h : NodeAt F w p ps ks sz) (hg : ∀ b, F b → G b) : NodeAt G w p ps ks sz := by
  obtain ⟨vp, vk, h1, h2, h3, h4, h5, h6⟩ := h
  exact ⟨vp, vk, h1, h2, h3, hg _ h4, h5.mono hg, h6.mono hg⟩
theorem NodeAt.set {w : World} {p : Nat} {ps : List KV} {ks : List Kid} {sz : Nat} (h : NodeAt F w p ps ks sz) {R : Nat} (hR : ¬ F R) (i : Nat) (u : Value) : NodeAt F (w.setCell ⟨R, i, none⟩ u) p ps ks sz := by
  obtain ⟨vp, vk, h1, h2, h3, h4, h5, h6⟩ := h
  exact ⟨vp, vk, h1.far (p := ⟨R, i, none⟩) (fun (e : p = R) => hR (e ▸ h4)) u, h2.set h5 hR i u, h3.set h6 hR i u, h4, h5, h6⟩
theorem NodeAt.kept {w w' : World} {p : Nat} {ps : List KV} {ks : List Kid} {sz : Nat} (h : NodeAt F w p ps ks sz) (hs : w.heap.size ≤ w'.heap.size) (hk : ∀ b, F b → b < w.heap.size → w'.heap[b]? = w.heap[b]?) : NodeAt F w' p ps ks sz := by
  obtain ⟨vp, vk, h1, h2, h3, h4, h5, h6⟩ := h
  exact ⟨vp, vk, (hk p h4 h1.lt).trans h1, h2.kept h5 hs hk, h3.kept h6 hs hk, h4, h5, h6⟩
theorem InF.lt {α : Type} {k : Nat} {enc : α → List Value} {w : World} {v : Value} {l : List α} (h : IsRow k enc w v l) (hF : InF F v) : InF (fun b => F b ∧ b < w.heap.size) v := fun a n c e hn => by
  refine ⟨hF a n c e hn, ?_⟩
  rcases h with ⟨a', cap, e', _⟩ | ⟨b, off, cap, e', hlt, _⟩
  · rw [e] at e'; cases e'; omega
  · rw [e] at e'; cases e'; exact hlt
theorem NodeAt.in {w : World} {p : Nat} {ps : List KV} {ks : List Kid} {sz : Nat} (h : NodeAt F w p ps ks sz) : NodeAt (fun b => F b ∧ b < w.heap.size) w p ps ks sz := by
  obtain ⟨vp, vk, h1, h2, h3, h4, h5, h6⟩ := h
  exact ⟨vp, vk, h1, h2, h3, ⟨h4, h1.lt⟩, InF.lt h2 h5, InF.lt h3 h6⟩
end
/-- a node of that height with all below it -/
def IsN (F : Nat → Prop) : Nat → World → Kid → Prop
  | 0, w, x => NodeAt F w x.p x.l [] x.l.length ∧ x.n = x.l.length ∧ x.N = [x.p]
  | h + 1, w, x => ∃ ps ks, NodeAt F w x.p ps ks x.l.length ∧ ks.length = ps.length + 1 ∧ x.n = ps.length ∧ x.l = weave ps (ks.map Kid.l) ∧ x.N = x.p :: ks.flatMap Kid.N ∧ ∀ y ∈ ks, IsN F h w y ∧ 3 ≤ y.n ∧ y.n ≤ 8
section
variable {F G : Nat → Prop}
theorem IsN.below : ∀ {h : Nat} {w w' : World} {x : Kid}, IsN F h w x → Below w.heap.size w w' → IsN F h w' x
  | 0, _, _, _, h, hb => ⟨h.1.below hb, h.2⟩
  | _ + 1, _, _, _, ⟨ps, ks, h1, h2, h3, h4, h5, h6⟩, hb => ⟨ps, ks, h1.below hb, h2, h3, h4, h5, fun y hy => ⟨(h6 y hy).1.below hb, (h6 y hy).2⟩⟩
theorem IsN.mono : ∀ {h : Nat} {w : World} {x : Kid}, IsN F h w x → (∀ b, F b → G b) → IsN G h w x
  | 0, _, _, h, hg => ⟨h.1.mono hg, h.2⟩
  | _ + 1, _, _, ⟨ps, ks, h1, h2, h3, h4, h5, h6⟩, hg => ⟨ps, ks, h1.mono hg, h2, h3, h4, h5, fun y hy => ⟨(h6 y hy).1.mono hg, (h6 y hy).2⟩⟩
theorem IsN.set : ∀ {h : Nat} {w : World} {x : Kid}, IsN F h w x → ∀ {R : Nat}, ¬ F R → ∀ (i : Nat) (u : Value), IsN F h (w.setCell ⟨R, i, none⟩ u) x
  | 0, _, _, h, _, hR, i, u => ⟨h.1.set hR i u, h.2⟩
  | _ + 1, _, _, ⟨ps, ks, h1, h2, h3, h4, h5, h6⟩, _, hR, i, u => ⟨ps, ks, h1.set hR i u, h2, h3, h4, h5, fun y hy => ⟨(h6 y hy).1.set hR i u, (h6 y hy).2⟩⟩
theorem IsN.kept : ∀ {h : Nat} {w w' : World} {x : Kid}, IsN F h w x → w.heap.size ≤ w'.heap.size → (∀ b, F b → b < w.heap.size → w'.heap[b]? = w.heap[b]?) → IsN F h w' x
  | 0, _, _, _, h, hs, hk => ⟨h.1.kept hs hk, h.2⟩
  | _ + 1, _, _, _, ⟨ps, ks, h1, h2, h3, h4, h5, h6⟩, hs, hk => ⟨ps, ks, h1.kept hs hk, h2, h3, h4, h5, fun y hy => ⟨(h6 y hy).1.kept hs hk, (h6 y hy).2⟩⟩
/-- growth of a row that is not among its blocks -/
theorem IsN.grown {h : Nat} {w w' : World} {x : Kid} {row : Option Nat} (hx : IsN F h w x) (hg : w.grownBy w' row) (hr : ∀ r, row = some r → ¬ F r) : IsN F h w' x :=
  hx.kept hg.size (fun b hb hlt => hg.block b hlt (fun e => hr b e.symm hb))
theorem IsN.in : ∀ {h : Nat} {w : World} {x : Kid}, IsN F h w x → IsN (fun b => F b ∧ b < w.heap.size) h w x
  | 0, _, _, h => ⟨h.1.in, h.2⟩
  | _ + 1, _, _, ⟨ps, ks, h1, h2, h3, h4, h5, h6⟩ => ⟨ps, ks, h1.in, h2, h3, h4, h5, fun y hy => ⟨(h6 y hy).1.in, (h6 y hy).2⟩⟩
/-- what a node reads as, whatever its height -/
structure Node (F : Nat → Prop) (h : Nat) (w : World) (x : Kid) (ps : List KV) (ks : List Kid) : Prop where
  at_ : NodeAt F w x.p ps ks x.l.length
  n : x.n = ps.length
  l : x.l = weave ps (ks.map Kid.l)
  N : x.N = x.p :: ks.flatMap Kid.N
  leaf : h = 0 → ks = []
  kids : ∀ h', h = h' + 1 → ks.length = ps.length + 1 ∧ ∀ y ∈ ks, IsN F h' w y ∧ 3 ≤ y.n ∧ y.n ≤ 8
theorem IsN.node {h : Nat} {w : World} {x : Kid} (hx : IsN F h w x) : ∃ ps ks, Node F h w x ps ks := by
  cases h with
  | zero =>
    obtain ⟨h1, h2, h3⟩ := hx
    exact ⟨x.l, [], h1, h2, by simp [weave_nil], by simp [h3], fun _ => rfl, (fun _ e => by cases e)⟩
  | succ h =>
    obtain ⟨ps, ks, h1, h2, h3, h4, h5, h6⟩ := hx
    refine ⟨ps, ks, h1, h3, h4, h5, (fun e => by cases e), fun h' e => ?_⟩
    cases e
    exact ⟨h2, h6⟩
theorem IsN.leaf {w : World} {p : Nat} {ps : List KV} {sz : Nat} (h : NodeAt F w p ps [] sz) (e : sz = ps.length) : IsN F 0 w ⟨p, ps.length, ps, [p]⟩ := by
  subst e
  exact ⟨h, rfl, rfl⟩
theorem IsN.inner {h : Nat} {w : World} {p : Nat} {ps : List KV} {ks : List Kid} {sz : Nat} (hn : NodeAt F w p ps ks sz) (e : sz = (weave ps (ks.map Kid.l)).length) (hl : ks.length = ps.length + 1) (hk : ∀ y ∈ ks, IsN F h w y ∧ 3 ≤ y.n ∧ y.n ≤ 8) :
    IsN F (h + 1) w ⟨p, ps.length, weave ps (ks.map Kid.l), p :: ks.flatMap Kid.N⟩ := by
  subst e
  exact ⟨ps, ks, hn, hl, rfl, rfl, rfl, hk⟩
end
/-- how many pairs -/
def kidsSum (ks : List Kid) : Nat := (ks.map fun y => y.l.length).sum
theorem weave_len : ∀ (ps : List KV) (fs : List (List KV)), (fs = [] ∨ fs.length = ps.length + 1) → (weave ps fs).length = ps.length + (fs.map List.length).sum
  | ps, [], _ => by rw [weave_nil]; simp
  | [], [f], _ => by simp [weave]
  | [], _ :: _ :: _, h => by rcases h with h | h <;> simp at h
  | p :: ps, [f], h => by rcases h with h | h <;> simp at h
  | p :: ps, f :: g :: fs, h => by
    have ih := weave_len ps (g :: fs) (.inr (by rcases h with h | h <;> simp at h ⊢; omega))
    show (f ++ p :: weave ps (g :: fs)).length = _
    rw [List.length_append, List.length_cons, ih]
    simp only [List.map_cons, List.sum_cons, List.length_cons]
    omega
theorem kids_len {ps : List KV} {ks : List Kid} (h : ks = [] ∨ ks.length = ps.length + 1) : (weave ps (ks.map Kid.l)).length = ps.length + kidsSum ks := by
  rw [weave_len _ _ (by rcases h with h | h; exact .inl (by simp [h]); exact .inr (by simp [h]))]
  unfold kidsSum
  rw [List.map_map]; rfl
section
variable {F : Nat → Prop}
theorem IsN.lt {h : Nat} {w : World} {x : Kid} (hx : IsN F h w x) : x.p < w.heap.size := by
  obtain ⟨ps, ks, hn⟩ := hx.node
  exact hn.at_.lt
/-- a child's block: the cell of its size -/
theorem IsN.size {h : Nat} {w : World} {x : Kid} (hx : IsN F h w x) : w.cell? ⟨x.p, 2, none⟩ = some (.int .i64 x.l.length) := by
  obtain ⟨ps, ks, hn⟩ := hx.node
  obtain ⟨vp, vk, h1, _⟩ := hn.at_
  exact h1.cell 2
theorem Node.shape {h : Nat} {w : World} {x : Kid} {ps : List KV} {ks : List Kid} (hx : Node F h w x ps ks) : ks = [] ∨ ks.length = ps.length + 1 := by
  cases h with
  | zero => exact .inl (hx.leaf rfl)
  | succ h => exact .inr (hx.kids h rfl).1
theorem Node.len {h : Nat} {w : World} {x : Kid} {ps : List KV} {ks : List Kid} (hx : Node F h w x ps ks) : x.l.length = ps.length + kidsSum ks := by
  rw [hx.l, kids_len hx.shape]
end
end Go.Proofs.YtaiiibbnjmjamaaGreatDoor
