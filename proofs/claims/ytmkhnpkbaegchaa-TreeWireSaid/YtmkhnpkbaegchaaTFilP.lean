/- Plain: two children side by side and the pair between them: what filling up a child, or joining two, does to the list of all pairs, and how many nodes are new. Conditions: stated at each. -/
import Derived.Test.YtmkhnpkbaegchaaTPutP
namespace Go.Proofs.Ytmkhnpkbaegchaa
open Go.RowKit

/-- a node about the pair j and the children j, j + 1 -/
structure Two (ps : List KV) (ks : List Kid) (j : Nat) (m : KV) (a b : Kid) (A B : List KV) (KA KB : List Kid) : Prop where
  ps : ps = A ++ m :: B
  ks : ks = KA ++ a :: b :: KB
  lA : A.length = j
  lK : KA.length = j
  lB : KB.length = B.length
theorem two_of {ps : List KV} {ks : List Kid} {j : Nat} {m : KV} {a b : Kid} (hl : ks.length = ps.length + 1) (hm : ps[j]? = some m) (ha : ks[j]? = some a) (hb : ks[j + 1]? = some b) :
    Two ps ks j m a b (ps.take j) (ps.drop (j + 1)) (ks.take j) (ks.drop (j + 2)) := by
  obtain ⟨h1, rfl⟩ := List.getElem?_eq_some_iff.1 hm
  obtain ⟨h2, rfl⟩ := List.getElem?_eq_some_iff.1 ha
  obtain ⟨h3, rfl⟩ := List.getElem?_eq_some_iff.1 hb
  refine ⟨?_, ?_, by rw [List.length_take]; omega, by rw [List.length_take]; omega, by rw [List.length_drop, List.length_drop]; omega⟩
  · rw [← List.drop_eq_getElem_cons h1, List.take_append_drop]
  · rw [← List.drop_eq_getElem_cons h3, ← List.drop_eq_getElem_cons h2, List.take_append_drop]
section
variable {ps : List KV} {ks : List Kid} {j : Nat} {m : KV} {a b : Kid} {A B : List KV} {KA KB : List Kid}
theorem set_mid {α : Type} {X Y : List α} {x y : α} {n : Nat} (h : X.length = n) : (X ++ x :: Y).set n y = X ++ y :: Y := by
  subst h; rw [List.set_append_right _ _ (Nat.le_refl _), Nat.sub_self]; rfl
theorem erase_mid {α : Type} {X Y : List α} {x : α} {n : Nat} (h : X.length = n) : (X ++ x :: Y).eraseIdx n = X ++ Y := by
  subst h; rw [List.eraseIdx_append_of_length_le (Nat.le_refl _), Nat.sub_self]; rfl
theorem Two.setP (h : Two ps ks j m a b A B KA KB) (m' : KV) : ps.set j m' = A ++ m' :: B := by rw [h.ps, set_mid h.lA]
theorem Two.setK (h : Two ps ks j m a b A B KA KB) (a' b' : Kid) : (ks.set j a').set (j + 1) b' = KA ++ a' :: b' :: KB := by
  rw [h.ks, set_mid h.lK, show KA ++ a' :: b :: KB = (KA ++ [a']) ++ b :: KB by simp, set_mid (by rw [List.length_append, h.lK]; rfl)]
  simp
theorem Two.eraP (h : Two ps ks j m a b A B KA KB) : ps.eraseIdx j = A ++ B := by rw [h.ps, erase_mid h.lA]
theorem Two.eraK (h : Two ps ks j m a b A B KA KB) (c : Kid) : (ks.set j c).eraseIdx (j + 1) = KA ++ c :: KB := by
  rw [h.ks, set_mid h.lK, show KA ++ c :: b :: KB = (KA ++ [c]) ++ b :: KB by simp, erase_mid (by rw [List.length_append, h.lK]; rfl)]
  simp
theorem two_weave {a b : Kid} (h1 : KA.length = A.length) (h2 : KB.length = B.length) (m : KV) : weave (A ++ m :: B) ((KA ++ a :: b :: KB).map Kid.l) = wpre A (KA.map Kid.l) ++ ((a.l ++ m :: b.l) ++ wpost B (KB.map Kid.l)) := by
  have h3 := weave_split A (KA.map Kid.l) (m :: B) (a.l :: b.l :: KB.map Kid.l) (by rw [List.length_map]; exact h1)
  have h4 := weave_post (m :: B) a.l (b.l :: KB.map Kid.l) (by simp [h2])
  rw [List.map_append, List.map_cons, List.map_cons, h3, h4]
  simp [wpost]
theorem one_weave {c : Kid} (h1 : KA.length = A.length) (h2 : KB.length = B.length) : weave (A ++ B) ((KA ++ c :: KB).map Kid.l) = wpre A (KA.map Kid.l) ++ (c.l ++ wpost B (KB.map Kid.l)) := by
  rw [List.map_append, List.map_cons]
  exact weave_at (by rw [List.length_map]; exact h1) (by rw [List.length_map]; exact h2)
/-- a pair goes over from one child to the other -/
theorem Two.rot (h : Two ps ks j m a b A B KA KB) {m' : KV} {a' b' : Kid} (e : a'.l ++ m' :: b'.l = a.l ++ m :: b.l) : weave (ps.set j m') (((ks.set j a').set (j + 1) b').map Kid.l) = weave ps (ks.map Kid.l) := by
  rw [h.setP, h.setK, two_weave (h.lK.trans h.lA.symm) h.lB, e, ← two_weave (h.lK.trans h.lA.symm) h.lB, ← h.ps, ← h.ks]
/-- two children become one -/
theorem Two.join (h : Two ps ks j m a b A B KA KB) {c : Kid} (e : c.l = a.l ++ m :: b.l) : weave (ps.eraseIdx j) (((ks.set j c).eraseIdx (j + 1)).map Kid.l) = weave ps (ks.map Kid.l) := by
  rw [h.eraP, h.eraK, one_weave (h.lK.trans h.lA.symm) h.lB, e, ← two_weave (h.lK.trans h.lA.symm) h.lB, ← h.ps, ← h.ks]
theorem Two.frm (h : Two ps ks j m a b A B KA KB) {B0 c qa qb : Nat} {N0 : List Nat} {ka kb ka' kb' : List Kid} {a' b' : Kid} (hf : Frm B0 N0 (allN ks) c) (ha : a.N = a.p :: allN ka) (hb : b.N = b.p :: allN kb)
    (ha' : a'.N = qa :: allN ka') (hb' : b'.N = qb :: allN kb') (e : allN ka' ++ allN kb' = allN ka ++ allN kb) (hqa : B0 ≤ qa) (hqb : B0 ≤ qb) : Frm B0 N0 (allN ((ks.set j a').set (j + 1) b')) (c + 2) := by
  have hmem : ∀ q, q ∈ allN ka' ∨ q ∈ allN kb' → q ∈ allN ka ∨ q ∈ allN kb := fun q hq => by
    rw [← List.mem_append, ← e, List.mem_append]; exact hq
  have hcnt : newC B0 (allN ka') + newC B0 (allN kb') = newC B0 (allN ka) + newC B0 (allN kb) := by
    rw [← newC_append, e, newC_append]
  obtain ⟨hf1, hf2⟩ := hf
  have hf2' : newC B0 (allN ks) ≤ c := hf2
  rw [h.ks] at hf1 hf2'
  rw [h.setK]
  simp only [allN_append, allN_cons, ha, hb, ha', hb', newC_append, newC_cons] at hf1 hf2' ⊢
  refine ⟨fun q hq hlt => hf1 q ?_ hlt, ?_⟩
  · simp only [List.mem_append, List.mem_cons] at hq ⊢
    rcases hq with q1 | (q1 | q1) | (q1 | q1) | q1
    · exact .inl q1
    · omega
    · rcases hmem q (.inl q1) with q2 | q2
      · exact .inr (.inl (.inr q2))
      · exact .inr (.inr (.inl (.inr q2)))
    · omega
    · rcases hmem q (.inr q1) with q2 | q2
      · exact .inr (.inl (.inr q2))
      · exact .inr (.inr (.inl (.inr q2)))
    · exact .inr (.inr (.inr q1))
  · show newC B0 _ ≤ _
    simp only [newC_append, newC_cons]
    rw [if_pos hqa, if_pos hqb]
    omega
theorem Two.frm1 (h : Two ps ks j m a b A B KA KB) {B0 c qa : Nat} {N0 : List Nat} {ka kb : List Kid} {d : Kid} (hf : Frm B0 N0 (allN ks) c) (ha : a.N = a.p :: allN ka) (hb : b.N = b.p :: allN kb)
    (hd : d.N = qa :: allN (ka ++ kb)) (hqa : B0 ≤ qa) : Frm B0 N0 (allN ((ks.set j d).eraseIdx (j + 1))) (c + 2) := by
  obtain ⟨hf1, hf2⟩ := hf
  have hf2' : newC B0 (allN ks) ≤ c := hf2
  rw [h.ks] at hf1 hf2'
  rw [h.eraK]
  simp only [allN_append, allN_cons, ha, hb, hd, newC_append, newC_cons] at hf1 hf2' ⊢
  refine ⟨fun q hq hlt => hf1 q ?_ hlt, ?_⟩
  · simp only [List.mem_append, List.mem_cons] at hq ⊢
    rcases hq with q1 | (q1 | q1 | q1) | q1
    · exact .inl q1
    · omega
    · exact .inr (.inl (.inr q1))
    · exact .inr (.inr (.inl (.inr q1)))
    · exact .inr (.inr (.inr q1))
  · show newC B0 _ ≤ _
    simp only [newC_append, newC_cons]
    rw [if_pos hqa]
    omega
end
theorem last_leaf {pa : List KV} {q : KV} (hq : pa[pa.length - 1]? = some q) : pa = pa.take (pa.length - 1) ++ [q] := by
  obtain ⟨h, e⟩ := List.getElem?_eq_some_iff.1 hq
  have h1 := List.take_append_drop (pa.length - 1) pa
  rw [List.drop_eq_getElem_cons h, e, List.drop_eq_nil_of_le (by omega)] at h1
  exact h1.symm
theorem last_inner {pa : List KV} {ka : List Kid} {q : KV} {z : Kid} (hl : ka.length = pa.length + 1) (hq : pa[pa.length - 1]? = some q) (hz : ka[pa.length]? = some z) :
    weave pa (ka.map Kid.l) = weave (pa.take (pa.length - 1)) ((ka.take pa.length).map Kid.l) ++ q :: z.l := by
  obtain ⟨h, _⟩ := List.getElem?_eq_some_iff.1 hq
  have h1 := weave_cut (fs := ka.map Kid.l) hq (.inr (by rw [List.length_map]; exact hl))
  have e1 : pa.length - 1 + 1 = pa.length := by omega
  rw [h1, e1, List.drop_length]
  congr 2
  · rw [List.map_take]
  · congr 1
    have h2 : (ka.map Kid.l).drop pa.length = [z.l] := by
      rw [List.drop_eq_getElem_cons (by rw [List.length_map]; omega), List.drop_eq_nil_of_le (by rw [List.length_map]; omega)]
      obtain ⟨h3, e3⟩ := List.getElem?_eq_some_iff.1 hz
      simp [e3]
    rw [h2]; rfl
/-- the left neighbour lends its last pair -/
theorem lend_left {pa pb : List KV} {ka kb : List Kid} {m q : KV} {z : Kid} (hl : ka.length = pa.length + 1) (hq : pa[pa.length - 1]? = some q) (hz : ka[pa.length]? = some z) :
    weave (pa.take (pa.length - 1)) ((ka.take pa.length).map Kid.l) ++ q :: weave (m :: pb) ((z :: kb).map Kid.l) = weave pa (ka.map Kid.l) ++ m :: weave pb (kb.map Kid.l) := by
  rw [last_inner hl hq hz]
  show _ ++ q :: (z.l ++ m :: weave pb (kb.map Kid.l)) = _
  simp
theorem lend_left0 {pa pb : List KV} {m q : KV} (hq : pa[pa.length - 1]? = some q) : pa.take (pa.length - 1) ++ q :: (m :: pb) = pa ++ m :: pb := by
  have h := last_leaf hq
  generalize pa.take (pa.length - 1) = t at *
  rw [h]; simp
/-- the right neighbour lends its first pair -/
theorem weave_snoc : ∀ {pa : List KV} {ka : List Kid} (_ : ka.length = pa.length + 1) (m : KV) (z : Kid), weave (pa ++ [m]) ((ka ++ [z]).map Kid.l) = weave pa (ka.map Kid.l) ++ m :: z.l
  | [], [y], _, m, z => rfl
  | [], [], h, _, _ => by simp at h
  | [], _ :: _ :: _, h, _, _ => by simp at h
  | p :: pa, [], h, _, _ => by simp at h
  | p :: pa, y :: ka, h, m, z => by
    have ih := weave_snoc (pa := pa) (ka := ka) (by simpa using h) m z
    show y.l ++ p :: weave (pa ++ [m]) ((ka ++ [z]).map Kid.l) = (y.l ++ p :: weave pa (ka.map Kid.l)) ++ m :: z.l
    rw [ih]; simp
theorem lend_right {pa pb : List KV} {ka kb : List Kid} {m q : KV} {z : Kid} (hl : ka.length = pa.length + 1) :
    weave (pa ++ [m]) ((ka ++ [z]).map Kid.l) ++ q :: weave pb (kb.map Kid.l) = weave pa (ka.map Kid.l) ++ m :: weave (q :: pb) ((z :: kb).map Kid.l) := by
  rw [weave_snoc hl]
  show _ = weave pa (ka.map Kid.l) ++ m :: (z.l ++ q :: weave pb (kb.map Kid.l))
  simp
/-- two nodes in one -/
theorem weave_join : ∀ {pa : List KV} {ka : List Kid} (_ : ka.length = pa.length + 1) (m : KV) (pb : List KV) (kb : List Kid), weave (pa ++ [m] ++ pb) ((ka ++ kb).map Kid.l) = weave pa (ka.map Kid.l) ++ m :: weave pb (kb.map Kid.l)
  | [], [y], _, m, pb, kb => rfl
  | [], [], h, _, _, _ => by simp at h
  | [], _ :: _ :: _, h, _, _, _ => by simp at h
  | p :: pa, [], h, _, _, _ => by simp at h
  | p :: pa, y :: ka, h, m, pb, kb => by
    have ih := weave_join (pa := pa) (ka := ka) (by simpa using h) m pb kb
    show y.l ++ p :: weave (pa ++ [m] ++ pb) ((ka ++ kb).map Kid.l) = (y.l ++ p :: weave pa (ka.map Kid.l)) ++ m :: weave pb (kb.map Kid.l)
    rw [ih]; simp
end Go.Proofs.Ytmkhnpkbaegchaa
