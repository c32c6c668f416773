/- Plain: ordered lists of pairs of strings, and how the pairs of a node and those of its children make one list. Conditions: stated at each. -/
import Derived.Lib.Bytealg
namespace Go.Proofs.YtaiiibbnjmjamaaGreatDoor

structure KV where
  k : ByteArray
  v : ByteArray
/-- the one key stands ahead of the other -/
def kl (a b : ByteArray) : Bool := Op.bytesLess a.toList b.toList
theorem toL_inj {a b : ByteArray} (h : a.toList = b.toList) : a = b := by
  rw [ByteArray.toList_eq, ByteArray.toList_eq] at h
  cases a; cases b
  simp at h
  congr
theorem bl_irr : ∀ a : List UInt8, Op.bytesLess a a = false
  | [] => rfl
  | a :: x => by unfold Op.bytesLess; rw [bl_irr x]; simp
theorem bl_trans3 : ∀ {a b c : List UInt8}, Op.bytesLess a b = true → Op.bytesLess b c = true → Op.bytesLess a c = true
  | _, [], _, h, _ => by simp [Op.bytesLess] at h
  | _, _ :: _, [], _, h => by simp [Op.bytesLess] at h
  | [], _ :: _, _ :: _, _, _ => rfl
  | a :: x, b :: y, c :: z, h1, h2 => by
    unfold Op.bytesLess at h1 h2 ⊢
    simp at h1 h2 ⊢
    rcases h1 with h1 | ⟨rfl, h1⟩ <;> rcases h2 with h2 | ⟨rfl, h2⟩
    · exact .inl (UInt8.lt_trans h1 h2)
    · exact .inl h1
    · exact .inl h2
    · exact .inr ⟨rfl, bl_trans3 h1 h2⟩
theorem bl_total : ∀ (a b : List UInt8), Op.bytesLess a b = true ∨ a = b ∨ Op.bytesLess b a = true
  | [], [] => .inr (.inl rfl)
  | [], _ :: _ => .inl rfl
  | _ :: _, [] => .inr (.inr rfl)
  | a :: x, b :: y => by
    unfold Op.bytesLess
    simp
    rcases bl_total x y with h | h | h
    · by_cases e : a = b
      · exact .inl (.inr ⟨e, h⟩)
      · rcases UInt8.lt_or_lt_of_ne e with q | q
        · exact .inl (.inl q)
        · exact .inr (.inr (.inl q))
    · by_cases e : a = b
      · exact .inr (.inl ⟨e, h⟩)
      · rcases UInt8.lt_or_lt_of_ne e with q | q
        · exact .inl (.inl q)
        · exact .inr (.inr (.inl q))
    · by_cases e : a = b
      · exact .inr (.inr (.inr ⟨e.symm, h⟩))
      · rcases UInt8.lt_or_lt_of_ne e with q | q
        · exact .inl (.inl q)
        · exact .inr (.inr (.inl q))
theorem kl_irr (a : ByteArray) : kl a a = false := bl_irr _
theorem kl_trans {a b c : ByteArray} (h1 : kl a b = true) (h2 : kl b c = true) : kl a c = true := bl_trans3 h1 h2
theorem kl_total (a b : ByteArray) : kl a b = true ∨ a = b ∨ kl b a = true := by
  rcases bl_total a.toList b.toList with h | h | h
  · exact .inl h
  · exact .inr (.inl (toL_inj h))
  · exact .inr (.inr h)
theorem kl_asym {a b : ByteArray} (h : kl a b = true) : kl b a = false := by
  cases e : kl b a
  · rfl
  · have := kl_trans h e; rw [kl_irr] at this; cases this
theorem kl_ne {a b : ByteArray} (h : kl a b = true) : a ≠ b := fun e => by subst e; rw [kl_irr] at h; cases h
/-- what strings.Compare answers -/
theorem cmp_kl : ∀ (a b : List UInt8), Lib.compareBytes a b = if Op.bytesLess a b then -1 else if a = b then 0 else 1
  | [], [] => rfl
  | [], _ :: _ => rfl
  | _ :: _, [] => by simp [Lib.compareBytes, Op.bytesLess]
  | a :: x, b :: y => by
    unfold Lib.compareBytes Op.bytesLess
    by_cases h1 : a < b
    · simp [h1]
    · by_cases h2 : b < a
      · have : a ≠ b := fun e => by subst e; exact h1 h2
        simp [h1, h2, this]
      · have e : a = b := Classical.byContradiction fun e => by rcases UInt8.lt_or_lt_of_ne e with q | q <;> contradiction
        subst e
        simp [h1, cmp_kl x y]
theorem cmp_k (a b : ByteArray) : Lib.compareBytes a.data.toList b.data.toList = if kl a b then -1 else if a = b then 0 else 1 := by
  rw [cmp_kl]
  unfold kl
  rw [ByteArray.toList_eq, ByteArray.toList_eq]
  have e : (a.data.toList = b.data.toList) ↔ a = b := ⟨fun h => toL_inj (by rw [ByteArray.toList_eq, ByteArray.toList_eq]; exact h), fun h => by rw [h]⟩
  split
  · rfl
  · by_cases h : a = b
    · rw [if_pos (e.2 h), if_pos h]
    · rw [if_neg (fun q => h (e.1 q)), if_neg h]

/-- in the order of their keys, each key once -/
def Srt (l : List KV) : Prop := l.Pairwise fun x y => kl x.k y.k = true
def lo (k : ByteArray) (l : List KV) : List KV := l.filter fun x => kl x.k k
def hi (k : ByteArray) (l : List KV) : List KV := l.filter fun x => kl k x.k
def putL (l : List KV) (p : KV) : List KV := lo p.k l ++ p :: hi p.k l
def delL (l : List KV) (k : ByteArray) : List KV := lo k l ++ hi k l
def hasK (l : List KV) (k : ByteArray) : Prop := ∃ x ∈ l, x.k = k
theorem lo_append (k : ByteArray) (a b : List KV) : lo k (a ++ b) = lo k a ++ lo k b := List.filter_append ..
theorem hi_append (k : ByteArray) (a b : List KV) : hi k (a ++ b) = hi k a ++ hi k b := List.filter_append ..
theorem lo_all {k : ByteArray} {l : List KV} (h : ∀ x ∈ l, kl x.k k = true) : lo k l = l ∧ hi k l = [] :=
  ⟨List.filter_eq_self.2 h, List.filter_eq_nil_iff.2 fun x hx => by rw [kl_asym (h x hx)]; simp⟩
theorem hi_all {k : ByteArray} {l : List KV} (h : ∀ x ∈ l, kl k x.k = true) : hi k l = l ∧ lo k l = [] :=
  ⟨List.filter_eq_self.2 h, List.filter_eq_nil_iff.2 fun x hx => by rw [kl_asym (h x hx)]; simp⟩
theorem lo_same {k : ByteArray} {x : KV} (h : x.k = k) : lo k [x] = [] ∧ hi k [x] = [] := by
  subst h; unfold lo hi; simp [kl_irr]
/-- what stands between pairs that are ahead of a key and pairs that are behind it -/
theorem putL_mid {a b c : List KV} {p : KV} (ha : ∀ x ∈ a, kl x.k p.k = true) (hc : ∀ x ∈ c, kl p.k x.k = true) : putL (a ++ (b ++ c)) p = a ++ (putL b p ++ c) := by
  unfold putL
  rw [lo_append, lo_append, hi_append, hi_append, (lo_all ha).1, (lo_all ha).2, (hi_all hc).1, (hi_all hc).2]
  simp
theorem delL_mid {a b c : List KV} {k : ByteArray} (ha : ∀ x ∈ a, kl x.k k = true) (hc : ∀ x ∈ c, kl k x.k = true) : delL (a ++ (b ++ c)) k = a ++ (delL b k ++ c) := by
  unfold delL
  rw [lo_append, lo_append, hi_append, hi_append, (lo_all ha).1, (lo_all ha).2, (hi_all hc).1, (hi_all hc).2]
  simp
theorem putL_same {x p : KV} (h : x.k = p.k) : putL [x] p = [p] := by unfold putL; rw [(lo_same h).1, (lo_same h).2]; rfl
theorem delL_same {x : KV} {k : ByteArray} (h : x.k = k) : delL [x] k = [] := by unfold delL; rw [(lo_same h).1, (lo_same h).2]; rfl
theorem putL_nil (p : KV) : putL [] p = [p] := rfl
theorem delL_none {l : List KV} {k : ByteArray} (hs : Srt l) (h : ¬ hasK l k) : delL l k = l := by
  induction l with
  | nil => rfl
  | cons a l ih =>
    have hs' := List.pairwise_cons.1 hs
    have ih' := ih hs'.2 (fun ⟨x, hx, e⟩ => h ⟨x, List.mem_cons_of_mem _ hx, e⟩)
    rcases kl_total a.k k with q | q | q
    · have e : delL (a :: l) k = a :: delL l k := by unfold delL lo hi; simp [q, kl_asym q]
      rw [e, ih']
    · exact absurd ⟨a, List.mem_cons_self .., q⟩ h
    · have : ∀ x ∈ a :: l, kl k x.k = true := fun x hx => by
        rcases List.mem_cons.1 hx with e | e
        · rw [e]; exact q
        · exact kl_trans q (hs'.1 x e)
      unfold delL
      rw [(hi_all this).1, (hi_all this).2]; rfl
theorem srt_append {a b : List KV} : Srt (a ++ b) ↔ Srt a ∧ Srt b ∧ ∀ x ∈ a, ∀ y ∈ b, kl x.k y.k = true := List.pairwise_append
theorem srt_cons {a : KV} {b : List KV} : Srt (a :: b) ↔ (∀ y ∈ b, kl a.k y.k = true) ∧ Srt b := List.pairwise_cons
theorem srt_lo {l : List KV} {k : ByteArray} (h : Srt l) : Srt (lo k l) := h.filter _
theorem srt_hi {l : List KV} {k : ByteArray} (h : Srt l) : Srt (hi k l) := h.filter _
theorem mem_lo {l : List KV} {k : ByteArray} {x : KV} : x ∈ lo k l ↔ x ∈ l ∧ kl x.k k = true := List.mem_filter
theorem mem_hi {l : List KV} {k : ByteArray} {x : KV} : x ∈ hi k l ↔ x ∈ l ∧ kl k x.k = true := List.mem_filter
theorem srt_putL {l : List KV} {p : KV} (h : Srt l) : Srt (putL l p) := by
  unfold putL
  rw [srt_append, srt_cons]
  refine ⟨srt_lo h, ⟨fun y hy => (mem_hi.1 hy).2, srt_hi h⟩, fun x hx y hy => ?_⟩
  rcases List.mem_cons.1 hy with e | e
  · rw [e]; exact (mem_lo.1 hx).2
  · exact kl_trans (mem_lo.1 hx).2 (mem_hi.1 e).2
theorem srt_delL {l : List KV} {k : ByteArray} (h : Srt l) : Srt (delL l k) := by
  unfold delL
  rw [srt_append]
  exact ⟨srt_lo h, srt_hi h, fun x hx y hy => kl_trans (mem_lo.1 hx).2 (mem_hi.1 hy).2⟩
/-- a list that is in order, at a key: what is ahead, the key's own pair, what is behind -/
theorem srt_parts {l : List KV} (hs : Srt l) (k : ByteArray) : l = lo k l ++ (l.filter (fun x => decide (x.k = k)) ++ hi k l) := by
  induction l with
  | nil => rfl
  | cons a l ih =>
    have hs' := srt_cons.1 hs
    have ih' := ih hs'.2
    rcases kl_total a.k k with q | q | q
    · have e1 : lo k (a :: l) = a :: lo k l := by unfold lo; simp [q]
      have e2 : hi k (a :: l) = hi k l := by unfold hi; simp [kl_asym q]
      rw [e1, e2, List.filter_cons_of_neg (by simp [kl_ne q])]
      exact congrArg (a :: ·) ih'
    · have h2 : ∀ x ∈ l, kl k x.k = true := fun x hx => q ▸ hs'.1 x hx
      have h3 : l.filter (fun x => decide (x.k = k)) = [] := List.filter_eq_nil_iff.2 fun x hx => by simp [(kl_ne (h2 x hx)).symm]
      have e1 : lo k (a :: l) = [] := by unfold lo; rw [List.filter_cons_of_neg (by rw [q, kl_irr]; simp)]; exact (hi_all h2).2
      have e2 : hi k (a :: l) = l := by unfold hi; rw [List.filter_cons_of_neg (by rw [q, kl_irr]; simp)]; exact (hi_all h2).1
      rw [e1, e2, List.filter_cons_of_pos (by simp [q]), h3]; rfl
    · have h2 : ∀ x ∈ a :: l, kl k x.k = true := fun x hx => by
        rcases List.mem_cons.1 hx with e | e
        · rw [e]; exact q
        · exact kl_trans q (hs'.1 x e)
      have h3 : (a :: l).filter (fun x => decide (x.k = k)) = [] := List.filter_eq_nil_iff.2 fun x hx => by simp [(kl_ne (h2 x hx)).symm]
      rw [h3, (hi_all h2).1, (hi_all h2).2]; rfl

/-- the pairs of a node and the lists of its children, in order -/
def weave : List KV → List (List KV) → List KV
  | ps, [] => ps
  | [], f :: _ => f
  | p :: ps, f :: fs => f ++ p :: weave ps fs
/-- what stands ahead of a child, and behind it -/
def wpre : List KV → List (List KV) → List KV
  | p :: ps, f :: fs => f ++ p :: wpre ps fs
  | _, _ => []
def wpost : List KV → List (List KV) → List KV
  | p :: ps, f :: fs => p :: f ++ wpost ps fs
  | _, _ => []
theorem weave_nil (ps : List KV) : weave ps [] = ps := by cases ps <;> rfl
theorem weave_post : ∀ (ps : List KV) (f : List KV) (fs : List (List KV)), fs.length = ps.length → weave ps (f :: fs) = f ++ wpost ps fs
  | [], f, [], _ => by simp [weave, wpost]
  | [], _, _ :: _, h => by simp at h
  | _ :: _, _, [], h => by simp at h
  | p :: ps, f, g :: fs, h => by
    have ih := weave_post ps g fs (by simpa using h)
    show f ++ p :: weave ps (g :: fs) = f ++ (p :: g ++ wpost ps fs)
    rw [ih]; simp
theorem weave_split : ∀ (A : List KV) (FA : List (List KV)) (B : List KV) (FB : List (List KV)), FA.length = A.length → weave (A ++ B) (FA ++ FB) = wpre A FA ++ weave B FB
  | [], [], B, FB, _ => rfl
  | [], _ :: _, _, _, h => by simp at h
  | _ :: _, [], _, _, h => by simp at h
  | a :: A, f :: FA, B, FB, h => by
    have ih := weave_split A FA B FB (by simpa using h)
    show f ++ a :: weave (A ++ B) (FA ++ FB) = (f ++ a :: wpre A FA) ++ weave B FB
    rw [ih]; simp
theorem weave_at {A : List KV} {FA : List (List KV)} {f : List KV} {B : List KV} {FB : List (List KV)} (h1 : FA.length = A.length) (h2 : FB.length = B.length) : weave (A ++ B) (FA ++ f :: FB) = wpre A FA ++ (f ++ wpost B FB) := by
  rw [weave_split A FA B _ h1, weave_post B f FB h2]
theorem wpre_lt {k : ByteArray} : ∀ {A : List KV} {FA : List (List KV)} {R : List KV}, Srt (wpre A FA ++ R) → (∀ a ∈ A, kl a.k k = true) → ∀ x ∈ wpre A FA, kl x.k k = true
  | [], _, _, _, _, x, hx => by simp [wpre] at hx
  | _ :: _, [], _, _, _, x, hx => by simp [wpre] at hx
  | a :: A, f :: FA, R, hs, ha, x, hx => by
    have hs2 : Srt (f ++ a :: (wpre A FA ++ R)) := by have := hs; simp only [wpre, List.append_assoc, List.cons_append] at this; exact this
    have h3 := srt_append.1 hs2
    simp only [wpre, List.mem_append, List.mem_cons] at hx
    rcases hx with hx | rfl | hx
    · exact kl_trans (h3.2.2 x hx a (List.mem_cons_self ..)) (ha a (List.mem_cons_self ..))
    · exact ha _ (List.mem_cons_self ..)
    · exact wpre_lt (srt_cons.1 h3.2.1).2 (fun a h => ha a (List.mem_cons_of_mem _ h)) x hx
theorem wpost_gt {k : ByteArray} : ∀ {B : List KV} {FB : List (List KV)}, Srt (wpost B FB) → (∀ b ∈ B, kl k b.k = true) → ∀ x ∈ wpost B FB, kl k x.k = true
  | [], _, _, _, x, hx => by simp [wpost] at hx
  | _ :: _, [], _, _, x, hx => by simp [wpost] at hx
  | b :: B, f :: FB, hs, hb, x, hx => by
    have hs2 : Srt (b :: (f ++ wpost B FB)) := hs
    have h3 := srt_cons.1 hs2
    simp only [wpost, List.cons_append, List.mem_append, List.mem_cons] at hx
    have h0 := hb b (List.mem_cons_self ..)
    rcases hx with rfl | hx | hx
    · exact h0
    · exact kl_trans h0 (h3.1 x (List.mem_append_left _ hx))
    · exact wpost_gt (srt_append.1 h3.2).2.1 (fun b h => hb b (List.mem_cons_of_mem _ h)) x hx
/-- the pairs of a node are among them -/
theorem wpre_sub : ∀ (A : List KV) (FA : List (List KV)), FA.length = A.length → A.Sublist (wpre A FA)
  | [], _, _ => List.nil_sublist _
  | _ :: _, [], h => by simp at h
  | a :: A, f :: FA, h => (List.Sublist.cons_cons a (wpre_sub A FA (by simpa using h))).trans (List.sublist_append_right f _)
theorem wpost_sub : ∀ (B : List KV) (FB : List (List KV)), FB.length = B.length → B.Sublist (wpost B FB)
  | [], _, _ => List.nil_sublist _
  | _ :: _, [], h => by simp at h
  | b :: B, f :: FB, h => List.Sublist.cons_cons b ((wpost_sub B FB (by simpa using h)).trans (List.sublist_append_right f _))
end Go.Proofs.YtaiiibbnjmjamaaGreatDoor
