/- Plain: what a change of one pair, of one child, or the cut of a node into two does to the list of all pairs; how many nodes are new. Conditions: stated at each. -/
import Derived.Test.YtaiiibbnjmjamaaGreatDoorTMem
namespace Go.Proofs.YtaiiibbnjmjamaaGreatDoor
open Go.RowKit

/-- what stands about a pair of the node itself -/
theorem weave_pair : ∀ (ps : List KV) (fs : List (List KV)) (i : Nat) (q : KV), ps[i]? = some q → (fs = [] ∨ fs.length = ps.length + 1) → ∃ U V, weave ps fs = U ++ q :: V ∧ ∀ p, weave (ps.set i p) fs = U ++ p :: V
  | [], _, _, _, h, _ => by simp at h
  | a :: ps, [], i, q, h, _ => by
    obtain ⟨hi, rfl⟩ := List.getElem?_eq_some_iff.1 h
    refine ⟨(a :: ps).take i, (a :: ps).drop (i + 1), ?_, fun p => ?_⟩
    · rw [weave_nil, ← List.drop_eq_getElem_cons hi, List.take_append_drop]
    · rw [weave_nil, List.set_eq_take_append_cons_drop, if_pos hi]
  | a :: ps, f :: fs, 0, q, h, _ => by
    cases h
    exact ⟨f, weave ps fs, rfl, fun p => rfl⟩
  | a :: ps, f :: fs, i + 1, q, h, hl => by
    obtain ⟨U, V, h1, h2⟩ := weave_pair ps fs i q (by simpa using h) (.inr (by rcases hl with e | e <;> simp at e ⊢; omega))
    refine ⟨f ++ a :: U, V, ?_, fun p => ?_⟩
    · show f ++ a :: weave ps fs = _
      rw [h1]; simp
    · show f ++ a :: weave (ps.set i p) fs = _
      rw [h2]; simp
theorem srt_mid {U V : List KV} {q : KV} (h : Srt (U ++ q :: V)) : (∀ x ∈ U, kl x.k q.k = true) ∧ ∀ x ∈ V, kl q.k x.k = true := by
  have h1 := srt_append.1 h
  exact ⟨fun x hx => h1.2.2 x hx q (List.mem_cons_self ..), (srt_cons.1 h1.2.1).1⟩
theorem put_pair {U V : List KV} {q p : KV} (h : Srt (U ++ q :: V)) (e : q.k = p.k) : putL (U ++ q :: V) p = U ++ p :: V := by
  have h1 := srt_mid h
  rw [e] at h1
  have := putL_mid (a := U) (b := [q]) (c := V) (p := p) h1.1 h1.2
  rw [show U ++ q :: V = U ++ ([q] ++ V) by simp, this, putL_same e]
  simp
theorem del_pair {U V : List KV} {q : KV} (h : Srt (U ++ q :: V)) : delL (U ++ q :: V) q.k = U ++ V := by
  have h1 := srt_mid h
  have := delL_mid (a := U) (b := [q]) (c := V) (k := q.k) h1.1 h1.2
  rw [show U ++ q :: V = U ++ ([q] ++ V) by simp, this, delL_same rfl]
  simp
/-- the node has the key itself -/
theorem put_found {ps : List KV} {fs : List (List KV)} {i : Nat} {q p : KV} (hq : ps[i]? = some q) (e : q.k = p.k) (hl : fs = [] ∨ fs.length = ps.length + 1) (hs : Srt (weave ps fs)) : weave (ps.set i p) fs = putL (weave ps fs) p := by
  obtain ⟨U, V, h1, h2⟩ := weave_pair ps fs i q hq hl
  rw [h1] at hs
  rw [h2, h1, put_pair hs e]
/-- a leaf has it not -/
theorem put_leaf {ps : List KV} {i : Nat} {p : KV} (h1 : ∀ x ∈ ps.take i, kl x.k p.k = true) (h2 : ∀ x ∈ ps.drop i, kl p.k x.k = true) : ps.take i ++ p :: ps.drop i = putL ps p := by
  have := putL_mid (a := ps.take i) (b := []) (c := ps.drop i) (p := p) h1 h2
  rw [List.nil_append, List.take_append_drop, putL_nil] at this
  rw [this]; rfl
/-- the list about a child -/
theorem weave_child {ps : List KV} {fs : List (List KV)} {i : Nat} {f : List KV} (hl : fs.length = ps.length + 1) (hi : i ≤ ps.length) (hf : fs[i]? = some f) :
    (∀ g, weave ps (fs.set i g) = wpre (ps.take i) (fs.take i) ++ (g ++ wpost (ps.drop i) (fs.drop (i + 1)))) ∧ weave ps fs = wpre (ps.take i) (fs.take i) ++ (f ++ wpost (ps.drop i) (fs.drop (i + 1))) ∧
    ∀ g m r, weave (ps.take i ++ m :: ps.drop i) (fs.take i ++ g :: r :: fs.drop (i + 1)) = wpre (ps.take i) (fs.take i) ++ ((g ++ m :: r) ++ wpost (ps.drop i) (fs.drop (i + 1))) := by
  obtain ⟨hlt, he⟩ := List.getElem?_eq_some_iff.1 hf
  have l1 : (fs.take i).length = (ps.take i).length := by simp; omega
  have l2 : (fs.drop (i + 1)).length = (ps.drop i).length := by simp; omega
  have key : ∀ g, weave ps (fs.set i g) = wpre (ps.take i) (fs.take i) ++ (g ++ wpost (ps.drop i) (fs.drop (i + 1))) := fun g => by
    rw [List.set_eq_take_append_cons_drop, if_pos hlt]
    have := weave_at (A := ps.take i) (FA := fs.take i) (f := g) (B := ps.drop i) (FB := fs.drop (i + 1)) l1 l2
    rwa [List.take_append_drop] at this
  refine ⟨key, ?_, fun g m r => ?_⟩
  · have := key f
    rwa [← he, List.set_getElem_self, he] at this
  · rw [weave_split _ _ _ _ l1]
    show _ ++ (g ++ m :: weave (ps.drop i) (r :: fs.drop (i + 1))) = _
    rw [weave_post _ _ _ l2]; simp
theorem put_child {ps : List KV} {fs : List (List KV)} {i : Nat} {f : List KV} {p : KV} (hl : fs.length = ps.length + 1) (hi : i ≤ ps.length) (hf : fs[i]? = some f) (hs : Srt (weave ps fs)) (h1 : ∀ x ∈ ps.take i, kl x.k p.k = true) (h2 : ∀ x ∈ ps.drop i, kl p.k x.k = true) :
    putL (weave ps fs) p = wpre (ps.take i) (fs.take i) ++ (putL f p ++ wpost (ps.drop i) (fs.drop (i + 1))) := by
  obtain ⟨_, h3, _⟩ := weave_child hl hi hf
  rw [h3] at hs ⊢
  exact putL_mid (wpre_lt hs h1) (wpost_gt (srt_append.1 (srt_append.1 hs).2.1).2.1 h2)
theorem del_child {ps : List KV} {fs : List (List KV)} {i : Nat} {f : List KV} {k : ByteArray} (hl : fs.length = ps.length + 1) (hi : i ≤ ps.length) (hf : fs[i]? = some f) (hs : Srt (weave ps fs)) (h1 : ∀ x ∈ ps.take i, kl x.k k = true) (h2 : ∀ x ∈ ps.drop i, kl k x.k = true) :
    delL (weave ps fs) k = wpre (ps.take i) (fs.take i) ++ (delL f k ++ wpost (ps.drop i) (fs.drop (i + 1))) := by
  obtain ⟨_, h3, _⟩ := weave_child hl hi hf
  rw [h3] at hs ⊢
  exact delL_mid (wpre_lt hs h1) (wpost_gt (srt_append.1 (srt_append.1 hs).2.1).2.1 h2)
/-- a node is cut into two about a pair -/
theorem weave_cut {ps : List KV} {fs : List (List KV)} {j : Nat} {m : KV} (hm : ps[j]? = some m) (hl : fs = [] ∨ fs.length = ps.length + 1) :
    weave ps fs = weave (ps.take j) (fs.take (j + 1)) ++ m :: weave (ps.drop (j + 1)) (fs.drop (j + 1)) := by
  obtain ⟨hj, he⟩ := List.getElem?_eq_some_iff.1 hm
  rcases hl with rfl | hl
  · simp only [List.take_nil, List.drop_nil, weave_nil]
    rw [← he, ← List.drop_eq_getElem_cons hj, List.take_append_drop]
  · obtain ⟨f, hf⟩ : ∃ f, fs[j]? = some f := ⟨_, List.getElem?_eq_getElem (by omega)⟩
    obtain ⟨hj2, he2⟩ := List.getElem?_eq_some_iff.1 hf
    have e1 : fs.take (j + 1) = fs.take j ++ [f] := by rw [List.take_add_one, hf]; rfl
    have e2 : weave (ps.take j) (fs.take (j + 1)) = wpre (ps.take j) (fs.take j) ++ f := by
      have := weave_at (A := ps.take j) (FA := fs.take j) (f := f) (B := []) (FB := []) (by simp; omega) rfl
      rw [e1]
      simpa [wpost] using this
    have e3 : weave ps fs = wpre (ps.take j) (fs.take j) ++ (f ++ m :: weave (ps.drop (j + 1)) (fs.drop (j + 1))) := by
      have h1 : ps = ps.take j ++ m :: ps.drop (j + 1) := by rw [← he, ← List.drop_eq_getElem_cons hj, List.take_append_drop]
      have h2 : fs = fs.take j ++ f :: fs.drop (j + 1) := by rw [← he2, ← List.drop_eq_getElem_cons hj2, List.take_append_drop]
      have h3 := weave_split (ps.take j) (fs.take j) (m :: ps.drop (j + 1)) (f :: fs.drop (j + 1)) (by simp; omega)
      rw [← h1, ← h2] at h3
      exact h3
    rw [e2, e3]; simp
theorem srt_child {ps : List KV} {fs : List (List KV)} {i : Nat} {f : List KV} (hl : fs.length = ps.length + 1) (hf : fs[i]? = some f) (hs : Srt (weave ps fs)) : Srt f := by
  have hi : i ≤ ps.length := by have := (List.getElem?_eq_some_iff.1 hf).1; omega
  obtain ⟨_, h3, _⟩ := weave_child hl hi hf
  rw [h3] at hs
  exact (srt_append.1 (srt_append.1 hs).2.1).1
/-- the pairs of the node itself are in order -/
theorem weave_sub : ∀ (ps : List KV) (fs : List (List KV)), (fs = [] ∨ fs.length = ps.length + 1) → ps.Sublist (weave ps fs)
  | ps, [], _ => by rw [weave_nil]; exact List.Sublist.refl _
  | [], _ :: _, _ => List.nil_sublist _
  | p :: ps, f :: fs, h => (List.Sublist.cons_cons p (weave_sub ps fs (.inr (by rcases h with h | h <;> simp at h ⊢; omega)))).trans (List.sublist_append_right f _)
theorem srt_own {ps : List KV} {fs : List (List KV)} (hl : fs = [] ∨ fs.length = ps.length + 1) (hs : Srt (weave ps fs)) : Srt ps := List.Pairwise.sublist (weave_sub ps fs hl) hs

/-- of the nodes N' those that are elder than B are among N, and at most c are newer -/
def Frm (B : Nat) (N N' : List Nat) (c : Nat) : Prop := (∀ q ∈ N', q < B → q ∈ N) ∧ (N'.filter fun q => decide (B ≤ q)).length ≤ c
def newC (B : Nat) (N : List Nat) : Nat := (N.filter fun q => decide (B ≤ q)).length
theorem newC_append (B : Nat) (a b : List Nat) : newC B (a ++ b) = newC B a + newC B b := by unfold newC; rw [List.filter_append, List.length_append]
theorem newC_cons (B q : Nat) (a : List Nat) : newC B (q :: a) = (if B ≤ q then 1 else 0) + newC B a := by
  unfold newC
  by_cases h : B ≤ q
  · rw [List.filter_cons_of_pos (by simpa using h), if_pos h, List.length_cons]; omega
  · rw [List.filter_cons_of_neg (by simpa using h), if_neg h]; omega
theorem newC_old {B : Nat} {N : List Nat} (h : ∀ q ∈ N, q < B) : newC B N = 0 := by
  unfold newC
  rw [List.filter_eq_nil_iff.2 fun q hq => by have := h q hq; simp; omega]; rfl
theorem IsN.Nlt {F : Nat → Prop} : ∀ {h : Nat} {w : World} {x : Kid}, IsN F h w x → ∀ q ∈ x.N, q < w.heap.size
  | 0, w, x, hx, q, hq => by
    rw [hx.2.2] at hq
    simp at hq; subst hq
    exact hx.1.lt
  | h + 1, w, x, ⟨ps, ks, h1, h2, h3, h4, h5, h6⟩, q, hq => by
    rw [h5] at hq
    rcases List.mem_cons.1 hq with rfl | hq
    · exact h1.lt
    · obtain ⟨y, hy, hq⟩ := List.mem_flatMap.1 hq
      exact IsN.Nlt (h6 y hy).1 q hq
theorem Frm.weaken {B B' c : Nat} {N N' : List Nat} (h : Frm B' N N' c) (hB : B ≤ B') (hN : ∀ q ∈ N, q < B) : Frm B N N' c := by
  refine ⟨fun q hq hlt => h.1 q hq (by omega), ?_⟩
  have e : N'.filter (fun q => decide (B ≤ q)) = N'.filter (fun q => decide (B' ≤ q)) := by
    refine List.filter_congr fun q hq => ?_
    by_cases h1 : B' ≤ q
    · rw [decide_eq_true h1, decide_eq_true (by omega)]
    · have := hN q (h.1 q hq (by omega))
      rw [decide_eq_false h1, decide_eq_false (by omega)]
  rw [e]; exact h.2
theorem Frm.mono {B c c' : Nat} {N N' : List Nat} (h : Frm B N N' c) (hc : c ≤ c') : Frm B N N' c' := ⟨h.1, Nat.le_trans h.2 hc⟩
theorem Frm.old {B : Nat} {N N' : List Nat} (h : ∀ q ∈ N', q ∈ N) (hN : ∀ q ∈ N', q < B) : Frm B N N' 0 := ⟨fun q hq _ => h q hq, Nat.le_of_eq (newC_old hN)⟩
theorem Frm.app {B c c' : Nat} {N M M' : List Nat} (h : Frm B N M c) (h' : Frm B N M' c') : Frm B N (M ++ M') (c + c') := by
  refine ⟨fun q hq hlt => ?_, ?_⟩
  · rcases List.mem_append.1 hq with e | e
    · exact h.1 q e hlt
    · exact h'.1 q e hlt
  · have h1 : newC B M ≤ c := h.2
    have h2 : newC B M' ≤ c' := h'.2
    show newC B (M ++ M') ≤ c + c'
    rw [newC_append]; omega
theorem Frm.sub {B c : Nat} {N N' M : List Nat} (h : Frm B N M c) (hs : ∀ q ∈ N, q ∈ N') : Frm B N' M c := ⟨fun q hq hlt => hs q (h.1 q hq hlt), h.2⟩
theorem Frm.one {B c q : Nat} {N M : List Nat} (h : Frm B N M c) (hq : B ≤ q) : Frm B N (q :: M) (c + 1) := by
  refine ⟨fun r hr hlt => ?_, ?_⟩
  · rcases List.mem_cons.1 hr with e | e
    · omega
    · exact h.1 r e hlt
  · have h1 : newC B M ≤ c := h.2
    show newC B (q :: M) ≤ c + 1
    rw [newC_cons, if_pos hq]; omega
theorem Frm.two {B c q q' : Nat} {N M M' : List Nat} (h : Frm B N (M ++ M') c) (hq : B ≤ q) (hq' : B ≤ q') : Frm B N ((q :: M) ++ (q' :: M')) (c + 2) := by
  refine ⟨fun r hr hlt => ?_, ?_⟩
  · simp only [List.cons_append, List.mem_cons, List.mem_append] at hr
    rcases hr with e | e | e | e
    · omega
    · exact h.1 r (List.mem_append_left _ e) hlt
    · omega
    · exact h.1 r (List.mem_append_right _ e) hlt
  · have h1 : newC B (M ++ M') ≤ c := h.2
    rw [newC_append] at h1
    show newC B ((q :: M) ++ (q' :: M')) ≤ c + 2
    rw [newC_append, newC_cons, newC_cons, if_pos hq, if_pos hq']; omega
/-- the children's nodes, one child of them exchanged for one or two -/
def allN (ks : List Kid) : List Nat := ks.flatMap Kid.N
theorem allN_append (a b : List Kid) : allN (a ++ b) = allN a ++ allN b := List.flatMap_append
theorem allN_cons (a : Kid) (b : List Kid) : allN (a :: b) = a.N ++ allN b := List.flatMap_cons
theorem mem_allN {ks : List Kid} {q : Nat} : q ∈ allN ks ↔ ∃ y ∈ ks, q ∈ y.N := List.mem_flatMap
theorem Frm.kids {B c i : Nat} {ks ys : List Kid} {y : Kid} (hy : ks[i]? = some y) (hold : ∀ q ∈ allN ks, q < B) (h : Frm B y.N (allN ys) c) : Frm B (allN ks) (allN (ks.take i ++ (ys ++ ks.drop (i + 1)))) c := by
  have hm : y ∈ ks := List.mem_of_getElem? hy
  have h1 : Frm B (allN ks) (allN (ks.take i)) 0 := Frm.old (fun q hq => by obtain ⟨z, hz, hq⟩ := mem_allN.1 hq; exact mem_allN.2 ⟨z, List.mem_of_mem_take hz, hq⟩) (fun q hq => by obtain ⟨z, hz, hq⟩ := mem_allN.1 hq; exact hold q (mem_allN.2 ⟨z, List.mem_of_mem_take hz, hq⟩))
  have h2 : Frm B (allN ks) (allN (ks.drop (i + 1))) 0 := Frm.old (fun q hq => by obtain ⟨z, hz, hq⟩ := mem_allN.1 hq; exact mem_allN.2 ⟨z, List.mem_of_mem_drop hz, hq⟩) (fun q hq => by obtain ⟨z, hz, hq⟩ := mem_allN.1 hq; exact hold q (mem_allN.2 ⟨z, List.mem_of_mem_drop hz, hq⟩))
  have h3 : Frm B (allN ks) (allN ys) c := h.sub (fun q hq => mem_allN.2 ⟨y, hm, hq⟩)
  rw [allN_append, allN_append]
  have := h1.app (h3.app h2)
  rwa [Nat.zero_add, Nat.add_zero] at this
theorem set_parts {α : Type} {l : List α} {i : Nat} {x y : α} (h : l[i]? = some x) : l.set i y = l.take i ++ ([y] ++ l.drop (i + 1)) := by
  obtain ⟨hi, _⟩ := List.getElem?_eq_some_iff.1 h
  rw [List.set_eq_take_append_cons_drop, if_pos hi]; rfl
theorem ins_parts {α : Type} {l : List α} {i : Nat} {x a b : α} (h : l[i]? = some x) : (l.set i a).take (i + 1) ++ b :: (l.set i a).drop (i + 1) = l.take i ++ ([a, b] ++ l.drop (i + 1)) := by
  obtain ⟨hi, _⟩ := List.getElem?_eq_some_iff.1 h
  have hl : (l.take i).length = i := by rw [List.length_take]; omega
  have e : l.set i a = (l.take i ++ [a]) ++ l.drop (i + 1) := by rw [set_parts h]; simp
  have hl2 : (l.take i ++ [a]).length = i + 1 := by rw [List.length_append, hl]; rfl
  rw [e, List.take_append_of_le_length (by omega), List.take_of_length_le (by omega), List.drop_append_of_le_length (by omega), List.drop_eq_nil_of_le (by omega)]
  simp
theorem IsN.make {F : Nat → Prop} {h q : Nat} {w : World} {ps : List KV} {ks : List Kid} (hn : NodeAt F w q ps ks (ps.length + kidsSum ks)) (h0 : h = 0 → ks = []) (h1 : ∀ h', h = h' + 1 → ks.length = ps.length + 1 ∧ ∀ y ∈ ks, IsN F h' w y ∧ 3 ≤ y.n ∧ y.n ≤ 8) :
    IsN F h w ⟨q, ps.length, weave ps (ks.map Kid.l), q :: allN ks⟩ := by
  cases h with
  | zero =>
    have e := h0 rfl
    subst e
    have := IsN.leaf hn (by simp [kidsSum])
    simpa [weave_nil, allN] using this
  | succ h =>
    obtain ⟨h2, h3⟩ := h1 h rfl
    exact IsN.inner hn (kids_len (.inr h2)).symm h2 h3
theorem Node.below {F : Nat → Prop} {h : Nat} {w w' : World} {x : Kid} {ps : List KV} {ks : List Kid} (hx : Node F h w x ps ks) (hb : Below w.heap.size w w') : Node F h w' x ps ks :=
  ⟨hx.at_.below hb, hx.n, hx.l, hx.N, hx.leaf, fun h' e => ⟨(hx.kids h' e).1, fun y hy => ⟨((hx.kids h' e).2 y hy).1.below hb, ((hx.kids h' e).2 y hy).2⟩⟩⟩
theorem Node.kidsLt {F : Nat → Prop} {h : Nat} {w : World} {x : Kid} {ps : List KV} {ks : List Kid} (hx : Node F h w x ps ks) : ∀ q ∈ allN ks, q < w.heap.size := fun q hq => by
  obtain ⟨y, hy, hq⟩ := mem_allN.1 hq
  cases h with
  | zero => rw [hx.leaf rfl] at hy; cases hy
  | succ h => exact ((hx.kids h rfl).2 y hy).1.Nlt q hq
end Go.Proofs.YtaiiibbnjmjamaaGreatDoor
