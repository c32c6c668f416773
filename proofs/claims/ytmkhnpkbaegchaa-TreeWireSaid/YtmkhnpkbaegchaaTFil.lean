/- Words for the walk of filled: two rows of the caller's own that are written, the children that stay, what a node may be made of. Conditions: stated at each. -/
import Derived.Test.YtmkhnpkbaegchaaTFilP
import Derived.Test.YtmkhnpkbaegchaaTRow
import Derived.Test.YtmkhnpkbaegchaaTDel
import Derived.Test.YtmkhnpkbaegchaaTFind
namespace Go.Proofs.Ytmkhnpkbaegchaa
open Go.RowKit

/-- all blocks but two stay -/
structure Kep (g1 g2 : Nat) (w W : World) : Prop where
  os : W.os = w.os
  tape : W.tape = w.tape
  output : W.output = w.output
  size : w.heap.size ≤ W.heap.size
  block : ∀ b, b < w.heap.size → b ≠ g1 → b ≠ g2 → W.heap[b]? = w.heap[b]?
abbrev offG (F : Nat → Prop) (g1 g2 : Nat) : Nat → Prop := fun b => F b ∧ b ≠ g1 ∧ b ≠ g2
section
variable {g1 g2 B : Nat} {w W W' : World} {F : Nat → Prop}
theorem Kep.refl (g1 g2 : Nat) (w : World) : Kep g1 g2 w w := ⟨rfl, rfl, rfl, Nat.le_refl _, fun _ _ _ _ => rfl⟩
theorem Kep.trans (h : Kep g1 g2 w W) (k : Kep g1 g2 W W') : Kep g1 g2 w W' :=
  ⟨k.os.trans h.os, k.tape.trans h.tape, k.output.trans h.output, Nat.le_trans h.size k.size, fun b hb h1 h2 => (k.block b (Nat.lt_of_lt_of_le hb h.size) h1 h2).trans (h.block b hb h1 h2)⟩
theorem Kep.of (h : Below w.heap.size w W) : Kep g1 g2 w W := ⟨h.os, h.tape, h.output, h.size, fun b hb _ _ => h.block b hb⟩
theorem Kep.grown {g : Nat} (h : w.grownBy W (some g)) (hg : g = g1 ∨ g = g2) : Kep g1 g2 w W :=
  ⟨h.os, h.tape, h.output, h.size, fun b hb h1 h2 => h.block b hb (fun e => by have := Option.some.inj e; omega)⟩
theorem Kep.set (w : World) {g : Nat} (hg : g = g1 ∨ g = g2) (i : Nat) (u : Value) : Kep g1 g2 w (w.setCell ⟨g, i, none⟩ u) :=
  ⟨rfl, rfl, rfl, by simp, fun b _ h1 h2 => heap_setCell_other w ⟨g, i, none⟩ b u (fun e => by have e' : b = g := e; omega)⟩
theorem Kep.below (h : Kep g1 g2 w W) (h1 : B ≤ g1) (h2 : B ≤ g2) (hw : B ≤ w.heap.size) : Below B w W :=
  ⟨h.os, h.tape, h.output, h.size, fun b hb => h.block b (Nat.lt_of_lt_of_le hb hw) (by omega) (by omega)⟩
theorem Kep.kid {t : Nat} {y : Kid} (h : Kep g1 g2 w W) (hk : IsN (offG F g1 g2) t w y) : IsN (offG F g1 g2) t W y := hk.kept h.size (fun b hb hlt => h.block b hlt hb.2.1 hb.2.2)
/-- the blocks that are newer than a world -/
theorem Kep.node {p sz : Nat} {ps : List KV} {ks : List Kid} (h : Kep g1 g2 w W) (hk : NodeAt (offG F g1 g2) w p ps ks sz) : NodeAt (offG F g1 g2) W p ps ks sz := hk.kept h.size (fun b hb hlt => h.block b hlt hb.2.1 hb.2.2)
end
/-- the caller's two rows as they stand -/
structure FSt (B g1 c1 n1 g2 c2 n2 : Nat) (w W : World) (PS : List KV) (KS : List Kid) : Prop where
  lp : PS.length = n1
  lk : KS.length = n2
  rp : W.ownsRow B 63 2 (.slice (some ⟨g1, 0, none⟩) n1 c1) n1 (flatE encKV PS)
  rk : W.ownsRow B 85 1 (.slice (some ⟨g2, 0, none⟩) n2 c2) n2 (flatE encK KS)
  kep : Kep g1 g2 w W
section
variable {B g1 c1 n1 g2 c2 n2 : Nat} {w W W' : World} {PS : List KV} {KS : List Kid}
theorem FSt.ne (h : FSt B g1 c1 n1 g2 c2 n2 w W PS KS) : g1 ≠ g2 := fun e => by
  have := rows_apart h.rp h.rk g1 rfl
  rw [e] at this
  exact this rfl
theorem FSt.lt1 (h : FSt B g1 c1 n1 g2 c2 n2 w W PS KS) : B ≤ g1 ∧ g1 < W.heap.size := h.rp.lt g1 rfl
theorem FSt.lt2 (h : FSt B g1 c1 n1 g2 c2 n2 w W PS KS) : B ≤ g2 ∧ g2 < W.heap.size := h.rk.lt g2 rfl
theorem FSt.below (h : FSt B g1 c1 n1 g2 c2 n2 w W PS KS) (hb : Below W.heap.size W W') : FSt B g1 c1 n1 g2 c2 n2 w W' PS KS :=
  ⟨h.lp, h.lk, row_below h.rp hb, row_below h.rk hb, h.kep.trans (.of hb)⟩
theorem FSt.p0 (h : FSt B g1 c1 n1 g2 c2 n2 w W PS KS) {j : Nat} {q : KV} (hq : PS[j]? = some q) : W.cell? ⟨g1, j * 2, none⟩ = some (.string q.k) := by
  have := h.rp.cells (g := g1) rfl (j * 2 + 0) _ (flatE_at encKV_len PS j q hq 0 _ rfl)
  rwa [Go.WideShapes.add_plain, Nat.zero_add] at this
theorem FSt.p1 (h : FSt B g1 c1 n1 g2 c2 n2 w W PS KS) {j : Nat} {q : KV} (hq : PS[j]? = some q) : W.cell? ⟨g1, j * 2 + 1, none⟩ = some (.string q.v) := by
  have := h.rp.cells (g := g1) rfl (j * 2 + 1) _ (flatE_at encKV_len PS j q hq 1 _ rfl)
  rwa [Go.WideShapes.add_plain, Nat.zero_add] at this
theorem FSt.k0 (h : FSt B g1 c1 n1 g2 c2 n2 w W PS KS) {j : Nat} {y : Kid} (hy : KS[j]? = some y) : W.cell? ⟨g2, j, none⟩ = some (ptrN y.p) := by
  have := h.rk.cells (g := g2) rfl (j * 1 + 0) _ (flatE_at encK_len KS j y hy 0 _ rfl)
  rwa [Go.WideShapes.add_plain, Nat.zero_add, Nat.mul_one] at this
theorem FSt.f1 (h : FSt B g1 c1 n1 g2 c2 n2 w W PS KS) (j : Nat) : W.frozen? ⟨g1, j, none⟩ = false := h.rp.frozenAt j
theorem FSt.f2 (h : FSt B g1 c1 n1 g2 c2 n2 w W PS KS) (j : Nat) : W.frozen? ⟨g2, j, none⟩ = false := h.rk.frozenAt j
theorem FSt.setP (h : FSt B g1 c1 n1 g2 c2 n2 w W PS KS) (j : Nat) (q : KV) : FSt B g1 c1 n1 g2 c2 n2 w ((W.setCell ⟨g1, j * 2, none⟩ (.string q.k)).setCell ⟨g1, j * 2 + 1, none⟩ (.string q.v)) (PS.set j q) KS := by
  have s1 := h.rp.stored (j * 2) (.string q.k)
  have s2 := s1.1.stored (j * 2 + 1) (.string q.v)
  have h3 := s2.1
  rw [set_P] at h3
  have hg := s1.2.trans s2.2
  exact ⟨by rw [List.length_set]; exact h.lp, h.lk, h3, h.rk.kept hg (.inr (fun e => h.ne (by have : g2 = g1 := Option.some.inj e; omega))), h.kep.trans (.grown hg (.inl rfl))⟩
theorem FSt.setK (h : FSt B g1 c1 n1 g2 c2 n2 w W PS KS) (j : Nat) (y : Kid) : FSt B g1 c1 n1 g2 c2 n2 w (W.setCell ⟨g2, j, none⟩ (ptrN y.p)) PS (KS.set j y) := by
  have s1 := h.rk.stored j (ptrN y.p)
  have h3 := s1.1
  rw [set_K] at h3
  exact ⟨h.lp, by rw [List.length_set]; exact h.lk, h.rp.kept s1.2 (.inr (fun e => h.ne (by have : g1 = g2 := Option.some.inj e; omega))), h3, h.kep.trans (.grown s1.2 (.inr rfl))⟩
theorem FSt.delP (h : FSt B g1 c1 n1 g2 c2 n2 w W PS KS) {j : Nat} {v : Value} (hj : j < n1) (hv : W'.ownsRow B 63 2 v (n1 - 1) (flatE encKV (PS.eraseIdx j))) (hg : W.grownBy W' (some g1)) (ho : v.ownBlock = some g1) :
    ∃ c, v = .slice (some ⟨g1, 0, none⟩) (n1 - 1) c ∧ FSt B g1 c (n1 - 1) g2 c2 n2 w W' (PS.eraseIdx j) KS := by
  have hp := h.lp
  rcases hv.2 with ⟨rfl, _⟩ | ⟨g, c, cur, rfl, _⟩
  · cases ho
  · have : g = g1 := Option.some.inj ho
    subst this
    exact ⟨c, rfl, by rw [List.length_eraseIdx, if_pos (by omega)]; omega, h.lk, hv, h.rk.kept hg (.inr (fun e => h.ne (by have : g2 = g := Option.some.inj e; omega))), h.kep.trans (.grown hg (.inl rfl))⟩
theorem FSt.delK {n2' : Nat} (h : FSt B g1 c1 n1 g2 c2 n2 w W PS KS) {j : Nat} {v : Value} (hn : n2 = n2' + 1) (hj : j < n2) (hv : W'.ownsRow B 85 1 v (n2 - 1) (flatE encK (KS.eraseIdx j))) (hg : W.grownBy W' (some g2)) (ho : v.ownBlock = some g2) :
    ∃ c, v = .slice (some ⟨g2, 0, none⟩) n2' c ∧ FSt B g1 c1 n1 g2 c n2' w W' PS (KS.eraseIdx j) := by
  have hp := h.lk
  subst hn
  rw [Nat.add_sub_cancel] at hv
  rcases hv.2 with ⟨rfl, _⟩ | ⟨g, c, cur, rfl, _⟩
  · cases ho
  · have : g = g2 := Option.some.inj ho
    subst this
    exact ⟨c, rfl, h.lp, by rw [List.length_eraseIdx, if_pos (by omega)]; omega, h.rp.kept hg (.inr (fun e => h.ne (by have : g1 = g := Option.some.inj e; omega))), hv, h.kep.trans (.grown hg (.inr rfl))⟩
end
/-- what a node of that height may be made of -/
structure Parts (F : Nat → Prop) (h : Nat) (W : World) (PA : List KV) (KA : List Kid) : Prop where
  h0 : h = 0 → KA = []
  h1 : ∀ h', h = h' + 1 → KA.length = PA.length + 1 ∧ ∀ y ∈ KA, IsN F h' W y ∧ 3 ≤ y.n ∧ y.n ≤ 8
section
variable {F : Nat → Prop} {h : Nat} {w W : World} {pa pb : List KV} {ka kb : List Kid}
theorem Node.parts {x : Kid} (hx : Node F h W x pa ka) : Parts F h W pa ka := ⟨hx.leaf, hx.kids⟩
theorem Parts.kep {g1 g2 : Nat} (hp : Parts (offG F g1 g2) h w pa ka) (hk : Kep g1 g2 w W) : Parts (offG F g1 g2) h W pa ka :=
  ⟨hp.h0, fun h' e => ⟨(hp.h1 h' e).1, fun y hy => ⟨hk.kid ((hp.h1 h' e).2 y hy).1, ((hp.h1 h' e).2 y hy).2⟩⟩⟩
theorem Parts.sz (hp : Parts F h W pa ka) : SzOk W ka := by
  cases h with
  | zero => rw [hp.h0 rfl]; exact fun y hy => by cases hy
  | succ h => exact SzOk.of (fun y hy => ((hp.h1 h rfl).2 y hy).1)
theorem Parts.shape (hp : Parts F h W pa ka) : ka = [] ∨ ka.length = pa.length + 1 := by
  cases h with
  | zero => exact .inl (hp.h0 rfl)
  | succ h => exact .inr (hp.h1 h rfl).1
theorem Parts.len (hp : Parts F h W pa ka) : (weave pa (ka.map Kid.l)).length = pa.length + kidsSum ka := kids_len hp.shape
theorem Parts.inner (hp : Parts F h W pa ka) (hk : ka.length ≠ 0) : ka.length = pa.length + 1 := by
  rcases hp.shape with e | e
  · exact absurd (by rw [e]; rfl) hk
  · exact e
theorem Parts.leafs {qa : List KV} {la : List Kid} (hp : Parts F h W pa ka) (hq : Parts F h W qa la) : ka.length = 0 ↔ la.length = 0 := by
  cases h with
  | zero => rw [hp.h0 rfl, hq.h0 rfl]
  | succ h => have := (hp.h1 h rfl).1; have := (hq.h1 h rfl).1; omega
theorem kidsSum_app (a b : List Kid) : kidsSum (a ++ b) = kidsSum a + kidsSum b := by unfold kidsSum; rw [List.map_append, List.sum_append]
theorem kidsSum_cut (a : List Kid) (n : Nat) : kidsSum (a.take n) + kidsSum (a.drop n) = kidsSum a := by rw [← kidsSum_app, List.take_append_drop]
/-- the left neighbour lends -/
theorem Parts.lendL {m q : KV} (ha : Parts F h W pa ka) (hb : Parts F h W pb kb) (hq : pa[pa.length - 1]? = some q) :
    Parts F h W (pa.take (pa.length - 1)) (ka.take pa.length) ∧ Parts F h W (m :: pb) (ka.drop pa.length ++ kb) ∧
    weave (pa.take (pa.length - 1)) ((ka.take pa.length).map Kid.l) ++ q :: weave (m :: pb) ((ka.drop pa.length ++ kb).map Kid.l) = weave pa (ka.map Kid.l) ++ m :: weave pb (kb.map Kid.l) := by
  have hlt := (List.getElem?_eq_some_iff.1 hq).1
  cases h with
  | zero =>
    rw [ha.h0 rfl, hb.h0 rfl]
    refine ⟨⟨fun _ => (by simp), fun h' e => (by cases e)⟩, ⟨fun _ => (by simp), fun h' e => (by cases e)⟩, ?_⟩
    simp only [List.take_nil, List.drop_nil, List.append_nil, List.map_nil, weave_nil]
    exact lend_left0 hq
  | succ h =>
    obtain ⟨a1, a2⟩ := ha.h1 h rfl
    obtain ⟨b1, b2⟩ := hb.h1 h rfl
    obtain ⟨z, hz⟩ : ∃ z, ka[pa.length]? = some z := ⟨_, List.getElem?_eq_getElem (by omega)⟩
    have hd : ka.drop pa.length = [z] := by
      obtain ⟨h3, e3⟩ := List.getElem?_eq_some_iff.1 hz
      rw [List.drop_eq_getElem_cons h3, e3, List.drop_eq_nil_of_le (by omega)]
    rw [hd]
    refine ⟨⟨fun e => (by cases e), fun h' e => ?_⟩, ⟨fun e => (by cases e), fun h' e => ?_⟩, ?_⟩
    · cases e
      exact ⟨by rw [List.length_take, List.length_take]; omega, fun y hy => a2 y (List.mem_of_mem_take hy)⟩
    · cases e
      refine ⟨by simp; omega, fun y hy => ?_⟩
      rcases List.mem_append.1 hy with e | e
      · simp at e; rw [e]; exact a2 z (List.mem_of_getElem? hz)
      · exact b2 y e
    · exact lend_left a1 hq hz
/-- the right neighbour lends -/
theorem Parts.lendR {m q : KV} (ha : Parts F h W pa ka) (hb : Parts F h W pb kb) (hq : pb[0]? = some q) :
    Parts F h W (pa ++ [m]) (ka ++ kb.take 1) ∧ Parts F h W (pb.drop 1) (kb.drop 1) ∧
    weave (pa ++ [m]) ((ka ++ kb.take 1).map Kid.l) ++ q :: weave (pb.drop 1) ((kb.drop 1).map Kid.l) = weave pa (ka.map Kid.l) ++ m :: weave pb (kb.map Kid.l) := by
  obtain ⟨pb', rfl⟩ : ∃ t, pb = q :: t := by
    cases pb with
    | nil => cases hq
    | cons x t => cases hq; exact ⟨t, rfl⟩
  cases h with
  | zero =>
    rw [ha.h0 rfl, hb.h0 rfl]
    refine ⟨⟨fun _ => (by simp), fun h' e => (by cases e)⟩, ⟨fun _ => (by simp), fun h' e => (by cases e)⟩, ?_⟩
    simp [weave_nil]
  | succ h =>
    obtain ⟨a1, a2⟩ := ha.h1 h rfl
    obtain ⟨b1, b2⟩ := hb.h1 h rfl
    obtain ⟨z, kb', rfl⟩ : ∃ z t, kb = z :: t := by
      cases kb with
      | nil => simp at b1
      | cons z t => exact ⟨z, t, rfl⟩
    refine ⟨⟨fun e => (by cases e), fun h' e => ?_⟩, ⟨fun e => (by cases e), fun h' e => ?_⟩, ?_⟩
    · cases e
      refine ⟨by simp; omega, fun y hy => ?_⟩
      rcases List.mem_append.1 hy with e | e
      · exact a2 y e
      · exact b2 y (List.mem_of_mem_take e)
    · cases e
      exact ⟨by simpa using b1, fun y hy => b2 y (List.mem_of_mem_drop hy)⟩
    · exact lend_right a1
/-- two in one -/
theorem Parts.join {m : KV} (ha : Parts F h W pa ka) (hb : Parts F h W pb kb) :
    Parts F h W (pa ++ [m] ++ pb) (ka ++ kb) ∧ weave (pa ++ [m] ++ pb) ((ka ++ kb).map Kid.l) = weave pa (ka.map Kid.l) ++ m :: weave pb (kb.map Kid.l) := by
  cases h with
  | zero =>
    rw [ha.h0 rfl, hb.h0 rfl]
    refine ⟨⟨fun _ => (by simp), fun h' e => (by cases e)⟩, ?_⟩
    simp [weave_nil]
  | succ h =>
    obtain ⟨a1, a2⟩ := ha.h1 h rfl
    obtain ⟨b1, b2⟩ := hb.h1 h rfl
    refine ⟨⟨fun e => (by cases e), fun h' e => ?_⟩, weave_join a1 m pb kb⟩
    cases e
    refine ⟨by simp; omega, fun y hy => ?_⟩
    rcases List.mem_append.1 hy with e | e
    · exact a2 y e
    · exact b2 y e
/-- the node that is made of them -/
abbrev kidOf (q : Nat) (PA : List KV) (KA : List Kid) : Kid := ⟨q, PA.length, weave PA (KA.map Kid.l), q :: allN KA⟩
theorem Parts.kid {q : Nat} (hp : Parts F h W pa ka) (hn : NodeAt F W q pa ka (pa.length + kidsSum ka)) : IsN F h W (kidOf q pa ka) := IsN.make hn hp.h0 hp.h1
end
def FilPost (F : Nat → Prop) (h : Nat) (ps : List KV) (ks : List Kid) (g1 g2 : Nat) (w : World) (e : Ending) (w' : World) : Prop :=
  ∃ y, e = .returned (ptrN y.p) ∧ IsN F (h + 1) w' y ∧ y.l = weave ps (ks.map Kid.l) ∧ ps.length ≤ y.n + 1 ∧ y.n ≤ ps.length ∧
    (∀ B0 N0 c, B0 ≤ w.heap.size → Frm B0 N0 (allN ks) c → Frm B0 N0 y.N (c + 3)) ∧ w.heap.size ≤ y.p ∧ Kep g1 g2 w w'
/-- the last step of filled -/
theorem fil_end {F : Nat → Prop} {h B g1 c1 n1 g2 c2 n2 : Nat} {w W : World} {PS ps : List KV} {KS ks : List Kid} (st : FSt B g1 c1 n1 g2 c2 n2 w W PS KS) (_hB : B ≤ w.heap.size) (hF : ∀ b, B ≤ b → F b)
    (hkid : ∀ t ∈ KS, IsN (offG F g1 g2) h W t ∧ 3 ≤ t.n ∧ t.n ≤ 8) (hlen : n2 = n1 + 1) (hn1 : n1 ≤ 8) (hw : weave PS (KS.map Kid.l) = weave ps (ks.map Kid.l)) (hsum : (weave ps (ks.map Kid.l)).length ≤ 100000) (hp1 : ps.length ≤ n1 + 1) (hp2 : n1 ≤ ps.length)
    (hfr : ∀ B0 N0 c, B0 ≤ w.heap.size → Frm B0 N0 (allN ks) c → Frm B0 N0 (allN KS) (c + 2)) :
    Calls Try.prog 48 #[.slice (some ⟨g1, 0, none⟩) n1 c1, .slice (some ⟨g2, 0, none⟩) n2 c2] W (FilPost F h ps ks g1 g2 w) := by
  have hF1 : F g1 := hF g1 st.lt1.1
  have hF2 : F g2 := hF g2 st.lt2.1
  have e1 := st.lp
  have e2 := st.lk
  have rp := st.rp
  have rk := st.rk
  rw [← e1] at rp
  rw [← e2] at rk
  have hp : Parts F (h + 1) W PS KS := ⟨fun e => (by cases e), fun h' e => (by
    cases e
    exact ⟨by omega, fun y hy => ⟨(hkid y hy).1.mono (fun b hb => hb.1), (hkid y hy).2⟩⟩)⟩
  have hlw := hp.len
  rw [hw] at hlw
  rw [← e1, ← e2]
  refine (made_any (F := F) PS KS _ _ W (IsRow.of_row encKV_len rp (by rw [e1]; unfold maxLen; omega)) (IsRow.of_row encK_len rk (by rw [e2]; unfold maxLen; omega)) hp.sz (by omega) (by omega) (fun b hb => hF b (by have := st.kep.size; omega)) (InF.at hF1 _ _) (InF.at hF2 _ _)).mono ?_
  rintro e w' ⟨q, rfl, hq, hn, hb⟩
  have hp' : Parts F (h + 1) w' PS KS := ⟨hp.h0, fun h' e => ⟨(hp.h1 h' e).1, fun y hy => ⟨((hp.h1 h' e).2 y hy).1.below hb, ((hp.h1 h' e).2 y hy).2⟩⟩⟩
  have hsz := st.kep.size
  refine ⟨kidOf q PS KS, rfl, hp'.kid hn, hw, by show _ ≤ PS.length + 1; omega, by show PS.length ≤ _; omega, fun B0 N0 c h0 h1 => (hfr B0 N0 c h0 h1).one (by omega), by show _ ≤ q; omega, ?_⟩
  exact st.kep.trans (.of hb)
/-- the two children and the pair between them, at the start -/
theorem mem_two {ks : List Kid} {j : Nat} {a b t : Kid} (h : t ∈ (ks.set j a).set (j + 1) b) : t = a ∨ t = b ∨ ∃ k, k ≠ j ∧ k ≠ j + 1 ∧ ks[k]? = some t := by
  obtain ⟨k, hk⟩ := List.mem_iff_getElem?.1 h
  rw [List.getElem?_set] at hk
  split at hk
  · split at hk
    · cases hk; exact .inr (.inl rfl)
    · cases hk
  · rw [List.getElem?_set] at hk
    split at hk
    · split at hk
      · cases hk; exact .inl rfl
      · cases hk
    · exact .inr (.inr ⟨k, by omega, by omega, hk⟩)
theorem mem_one {ks : List Kid} {j : Nat} {a t : Kid} (h : t ∈ (ks.set j a).eraseIdx (j + 1)) : t = a ∨ ∃ k, k ≠ j ∧ k ≠ j + 1 ∧ ks[k]? = some t := by
  obtain ⟨k, hk⟩ := List.mem_iff_getElem?.1 h
  rw [List.getElem?_eraseIdx] at hk
  split at hk
  · rw [List.getElem?_set] at hk
    split at hk
    · split at hk
      · cases hk; exact .inl rfl
      · cases hk
    · exact .inr ⟨k, by omega, by omega, hk⟩
  · rw [List.getElem?_set] at hk
    split at hk
    · omega
    · exact .inr ⟨k + 1, by omega, by omega, hk⟩
/-- a made node, and the worlds behind it -/
theorem made_kid {F : Nat → Prop} {h g1 g2 q : Nat} {w W W' : World} {PA : List KV} {KA : List Kid} (hp : Parts (offG F g1 g2) h w PA KA) (hw : Kep g1 g2 w W) (hn : NodeAt (offG F g1 g2) W q PA KA (PA.length + kidsSum KA)) (hk : Kep g1 g2 W W') : IsN (offG F g1 g2) h W' (kidOf q PA KA) :=
  hk.kid ((hp.kep hw).kid hn)
/-- the room of a row -/
theorem row_cap {w : World} {B E k g n cap : Nat} {xs : List Value} (h : w.ownsRow B E k (.slice (some ⟨g, 0, none⟩) n cap) n xs) : n ≤ cap ∧ cap ≤ 9223372036854775807 := by
  rcases h.2 with ⟨h1, _⟩ | ⟨g', c', cur', h1, _, _, h2, h3, _⟩
  · cases h1
  · cases h1; unfold maxLen at h3; omega
theorem row_p0 {W : World} {B g n c : Nat} {L : List KV} (h : W.ownsRow B 63 2 (.slice (some ⟨g, 0, none⟩) n c) n (flatE encKV L)) {j : Nat} {q : KV} (hq : L[j]? = some q) : W.cell? ⟨g, j * 2, none⟩ = some (.string q.k) ∧ W.cell? ⟨g, j * 2 + 1, none⟩ = some (.string q.v) := by
  have h0 := h.cells (g := g) rfl (j * 2 + 0) _ (flatE_at encKV_len L j q hq 0 _ rfl)
  have h1 := h.cells (g := g) rfl (j * 2 + 1) _ (flatE_at encKV_len L j q hq 1 _ rfl)
  rw [Go.WideShapes.add_plain, Nat.zero_add] at h0 h1
  exact ⟨h0, h1⟩
theorem row_k0 {W : World} {B g n c : Nat} {L : List Kid} (h : W.ownsRow B 85 1 (.slice (some ⟨g, 0, none⟩) n c) n (flatE encK L)) {j : Nat} {y : Kid} (hy : L[j]? = some y) : W.cell? ⟨g, j, none⟩ = some (ptrN y.p) := by
  have := h.cells (g := g) rfl (j * 1 + 0) _ (flatE_at encK_len L j y hy 0 _ rfl)
  rwa [Go.WideShapes.add_plain, Nat.zero_add, Nat.mul_one] at this
/-- a row that lies below a block stays where nothing below it is written -/
theorem row_low {w w' : World} {B X e k n : Nat} {v : Value} {xs : List Value} (h : w.ownsRow B e k v n xs) (hb : Below X w w') (hlt : ∀ r, v.ownBlock = some r → r < X) : w'.ownsRow B e k v n xs := by
  refine ⟨h.1, ?_⟩
  rcases h.2 with h1 | ⟨g, cap', cur, h1, hg, hh, h2⟩
  · exact .inl h1
  · exact .inr ⟨g, cap', cur, h1, hg, (hb.block g (hlt g (by rw [h1]; rfl))).trans hh, h2⟩
theorem FSt.low {B g1 c1 n1 g2 c2 n2 : Nat} {w W W' : World} {PS : List KV} {KS : List Kid} (h : FSt B g1 c1 n1 g2 c2 n2 w W PS KS) (hb : Below w.heap.size W W') (h1 : g1 < w.heap.size) (h2 : g2 < w.heap.size) : FSt B g1 c1 n1 g2 c2 n2 w W' PS KS :=
  ⟨h.lp, h.lk, row_low h.rp hb (fun r e => by have : g1 = r := Option.some.inj e; omega), row_low h.rk hb (fun r e => by have : g2 = r := Option.some.inj e; omega),
    ⟨hb.os.trans h.kep.os, hb.tape.trans h.kep.tape, hb.output.trans h.kep.output, Nat.le_trans h.kep.size hb.size, fun b hlt q1 q2 => (hb.block b hlt).trans (h.kep.block b hlt q1 q2)⟩⟩
theorem FSt.grP {B g1 c1 n1 g2 c2 n2 : Nat} {w W : World} {PS : List KV} {KS : List Kid} (h : FSt B g1 c1 n1 g2 c2 n2 w W PS KS) (j : Nat) (q : KV) : W.grownBy ((W.setCell ⟨g1, j * 2, none⟩ (.string q.k)).setCell ⟨g1, j * 2 + 1, none⟩ (.string q.v)) (some g1) := by
  have s1 := h.rp.stored (j * 2) (.string q.k)
  exact s1.2.trans (s1.1.stored (j * 2 + 1) (.string q.v)).2
theorem allN_lend (ka kb : List Kid) (n : Nat) : allN (ka.take n) ++ allN (ka.drop n ++ kb) = allN ka ++ allN kb := by
  rw [allN_append, ← List.append_assoc, ← allN_append, List.take_append_drop]
theorem allN_lend2 (ka kb : List Kid) (n : Nat) : allN (ka ++ kb.take n) ++ allN (kb.drop n) = allN ka ++ allN kb := by
  rw [allN_append, List.append_assoc, ← allN_append, List.take_append_drop]
end Go.Proofs.Ytmkhnpkbaegchaa
