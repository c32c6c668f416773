/- Insertion sort over an array, from the left: the list that it leaves is the one that inserting each element behind those not greater leaves. No program in sight. Conditions: none. -/
import Derived.Sort.WalkA
namespace Go.Proofs.YtnemgohcjjhfmaaGreatDoor
open Go.Sort

section
variable {α : Type} [Inhabited α] (lt : α → α → Bool)
/-- x goes into a list that is told from its end, past the elements greater than x -/
def insRev (x : α) : List α → List α
  | [] => [x]
  | y :: t => if lt x y then y :: insRev x t else x :: y :: t
theorem get_mid (d : Array α) (A : List α) (y : α) (B : List α) (h : d.toList = A ++ y :: B) (i : Nat) (hi : A.length = i) : d[i]! = y := by
  subst hi
  have hlt : A.length < d.size := by rw [← Array.length_toList, h]; simp
  rw [getElem!_pos d A.length hlt, ← Array.getElem_toList hlt]
  simp only [h]
  rw [List.getElem_append_right (Nat.le_refl _)]
  simp
omit [Inhabited α] in
theorem set_mid (d : Array α) (A : List α) (y : α) (B : List α) (h : d.toList = A ++ y :: B) (i : Nat) (hi : A.length = i) (z : α) : (d.setIfInBounds i z).toList = A ++ z :: B := by
  subst hi
  rw [Array.toList_setIfInBounds, h, List.set_append_right _ _ (Nat.le_refl _)]
  simp
theorem inner_list (x : α) : ∀ (T R : List α) (d : Array α), d.toList = T.reverse ++ x :: R → (insInner lt 0 T.length d).toList = (insRev lt x T).reverse ++ R
  | [], R, d, h => by simpa [insInner, insRev] using h
  | y :: t, R, d, h => by
    have h' : d.toList = t.reverse ++ y :: (x :: R) := by rw [h]; simp
    have e0 : d[t.length]! = y := get_mid d _ y _ h' _ (by simp)
    have e1 : d[t.length + 1]! = x := get_mid d (t.reverse ++ [y]) x R (by rw [h']; simp) _ (by simp)
    show (insInner lt 0 (t.length + 1) d).toList = _
    unfold insInner
    rw [e0, e1]
    by_cases hl : lt x y = true
    · rw [if_pos (by simp [hl])]
      have s : (swp d (t.length + 1) t.length).toList = t.reverse ++ x :: (y :: R) := by
        unfold swp
        rw [e0, e1]
        have := set_mid d (t.reverse ++ [y]) x R (by rw [h']; simp) (t.length + 1) (by simp) y
        exact set_mid _ t.reverse y (y :: R) (by rw [this]; simp) t.length (by simp) x
      rw [inner_list x t (y :: R) _ s, insRev, if_pos hl]
      simp
    · rw [if_neg (by simp [hl]), insRev, if_neg hl, h']
      simp
/-- an element goes in -/
def insL (L : List α) (x : α) : List α := (insRev lt x L.reverse).reverse
omit [Inhabited α] in
theorem insRev_length (x : α) : ∀ T : List α, (insRev lt x T).length = T.length + 1
  | [] => rfl
  | y :: t => by unfold insRev; split <;> simp [insRev_length x t]
theorem outer_list : ∀ (Q P : List α) (d : Array α) (b : Nat), d.toList = P ++ Q → b = P.length + Q.length → (insOuter lt 0 b P.length d).toList = Q.foldl (insL lt) P
  | [], P, d, b, h, hb => by
    rw [insOuter_stop _ _ _ _ _ (by simp at hb; omega)]
    simpa using h
  | x :: Q, P, d, b, h, hb => by
    rw [insOuter_go _ _ _ _ _ (by simp at hb; omega)]
    have e := inner_list lt x P.reverse Q d (by rw [h]; simp)
    rw [List.length_reverse] at e
    have := outer_list Q (insL lt P x) (insInner lt 0 P.length d) b (by rw [e]; rfl) (by unfold insL; rw [List.length_reverse, insRev_length, List.length_reverse]; simp at hb; omega)
    rw [show (insL lt P x).length = P.length + 1 by unfold insL; rw [List.length_reverse, insRev_length, List.length_reverse]] at this
    rw [this]
    rfl
theorem sort_list (d : Array α) : (insertionSort lt d 0 d.size).toList = d.toList.foldl (insL lt) [] := by
  unfold insertionSort
  cases h : d.toList with
  | nil =>
    rw [insOuter_stop _ _ _ _ _ (by rw [← Array.length_toList, h]; simp)]
    simpa using h
  | cons x q => exact outer_list lt q [x] d d.size (by rw [h]; rfl) (by rw [← Array.length_toList, h]; simp; omega)
end

section
variable {α : Type} (key : α → Int)
/-- behind those not greater, ahead of the greater -/
def insG (L : List α) (x : α) : List α := L.filter (fun y => decide (key y ≤ key x)) ++ x :: L.filter (fun y => decide (key x < key y))
def SortK (L : List α) : Prop := L.Pairwise (fun a b => key a ≤ key b)
theorem insRev_eq (x : α) : ∀ T : List α, T.Pairwise (fun a b => key b ≤ key a) → insRev (fun a b => decide (key a < key b)) x T = T.filter (fun y => decide (key x < key y)) ++ x :: T.filter (fun y => decide (key y ≤ key x))
  | [], _ => rfl
  | y :: t, h => by
    rw [List.pairwise_cons] at h
    unfold insRev
    by_cases hl : key x < key y
    · rw [if_pos (by simpa using hl), insRev_eq x t h.2, List.filter_cons_of_pos (by simpa using hl), List.filter_cons_of_neg (by simp; omega)]
      rfl
    · have e1 : (y :: t).filter (fun y => decide (key x < key y)) = [] := by
        rw [List.filter_eq_nil_iff]
        intro z hz
        rcases List.mem_cons.mp hz with rfl | hz
        · simpa using hl
        · have := h.1 z hz
          simp; omega
      have e2 : (y :: t).filter (fun y => decide (key y ≤ key x)) = y :: t := by
        rw [List.filter_eq_self]
        intro z hz
        rcases List.mem_cons.mp hz with rfl | hz
        · simp; omega
        · have := h.1 z hz
          simp; omega
      rw [if_neg (by simpa using hl), e1, e2]
      rfl
theorem insL_eq (L : List α) (x : α) (h : SortK key L) : insL (fun a b => decide (key a < key b)) L x = insG key L x := by
  unfold insL insG
  rw [insRev_eq key x L.reverse (List.pairwise_reverse.mpr h)]
  simp [List.filter_reverse]
theorem insG_sorted (L : List α) (x : α) (h : SortK key L) : SortK key (insG key L x) := by
  unfold SortK insG at *
  rw [List.pairwise_append]
  refine ⟨h.filter _, ?_, ?_⟩
  · rw [List.pairwise_cons]
    exact ⟨fun z hz => by have := (List.mem_filter.mp hz).2; simp at this; omega, h.filter _⟩
  · intro a ha b hb
    have h1 := (List.mem_filter.mp ha).2
    simp at h1
    rcases List.mem_cons.mp hb with rfl | hb
    · exact h1
    · have h2 := (List.mem_filter.mp hb).2
      simp at h2
      omega
theorem foldl_eq : ∀ (Q P : List α), SortK key P → Q.foldl (insL (fun a b => decide (key a < key b))) P = Q.foldl (insG key) P
  | [], _, _ => rfl
  | x :: Q, P, h => by
    rw [List.foldl_cons, List.foldl_cons, insL_eq key P x h]
    exact foldl_eq Q _ (insG_sorted key P x h)
/-- the sorted list, equals in their order -/
def stab (l : List α) : List α := l.foldl (insG key) []
theorem sort_stab [Inhabited α] (d : Array α) : (insertionSort (fun a b => decide (key a < key b)) d 0 d.size).toList = stab key d.toList := by
  rw [sort_list, foldl_eq key _ [] List.Pairwise.nil]; rfl
theorem foldl_sorted : ∀ (Q P : List α), SortK key P → SortK key (Q.foldl (insG key) P)
  | [], _, h => h
  | x :: Q, P, h => foldl_sorted Q _ (insG_sorted key P x h)
theorem stab_sorted (l : List α) : SortK key (stab key l) := foldl_sorted key l [] List.Pairwise.nil
/-- the reference's way in: the number of leading elements not greater -/
def cntLe (x : α) (L : List α) : Nat := (L.takeWhile (fun y => decide (key y ≤ key x))).length
theorem take_cnt (x : α) : ∀ L : List α, SortK key L → L.take (cntLe key x L) = L.filter (fun y => decide (key y ≤ key x)) ∧ L.drop (cntLe key x L) = L.filter (fun y => decide (key x < key y))
  | [], _ => ⟨rfl, rfl⟩
  | y :: t, h => by
    unfold SortK at h
    rw [List.pairwise_cons] at h
    by_cases hl : key y ≤ key x
    · obtain ⟨i1, i2⟩ := take_cnt x t h.2
      have e : cntLe key x (y :: t) = cntLe key x t + 1 := by unfold cntLe; rw [List.takeWhile_cons_of_pos (by simpa using hl)]; rfl
      rw [e, List.take_succ_cons, List.drop_succ_cons, i1, i2, List.filter_cons_of_pos (by simpa using hl), List.filter_cons_of_neg (by simp; omega)]
      exact ⟨rfl, rfl⟩
    · have e : cntLe key x (y :: t) = 0 := by unfold cntLe; rw [List.takeWhile_cons_of_neg (by simpa using hl)]; rfl
      have e1 : (y :: t).filter (fun y => decide (key y ≤ key x)) = [] := by
        rw [List.filter_eq_nil_iff]
        intro z hz
        rcases List.mem_cons.mp hz with rfl | hz
        · simpa using hl
        · have := h.1 z hz
          simp; omega
      have e2 : (y :: t).filter (fun y => decide (key x < key y)) = y :: t := by
        rw [List.filter_eq_self]
        intro z hz
        rcases List.mem_cons.mp hz with rfl | hz
        · simp; omega
        · have := h.1 z hz
          simp; omega
      rw [e, e1, e2]
      exact ⟨rfl, rfl⟩
theorem ref_ins (L : List α) (x : α) (h : SortK key L) : L.take (cntLe key x L) ++ x :: L.drop (cntLe key x L) = insG key L x := by
  obtain ⟨h1, h2⟩ := take_cnt key x L h
  rw [h1, h2]; rfl
theorem insG_len (x : α) (L : List α) : (insG key L x).length = L.length + 1 := by
  unfold insG
  have h : ∀ M : List α, (M.filter (fun y => decide (key y ≤ key x))).length + (M.filter (fun y => decide (key x < key y))).length = M.length := by
    intro M
    induction M with
    | nil => rfl
    | cons a M ih =>
      by_cases c : key a ≤ key x
      · rw [List.filter_cons_of_pos (by simpa using c), List.filter_cons_of_neg (by simp; omega)]
        simp only [List.length_cons]; omega
      · rw [List.filter_cons_of_neg (by simpa using c), List.filter_cons_of_pos (by simp; omega)]
        simp only [List.length_cons]; omega
  rw [List.length_append, List.length_cons, ← h L]; omega
theorem foldl_len : ∀ (Q P : List α), (Q.foldl (insG key) P).length = P.length + Q.length
  | [], P => by simp
  | x :: Q, P => by rw [List.foldl_cons, foldl_len Q, insG_len]; simp; omega
theorem stab_len (l : List α) : (stab key l).length = l.length := by unfold stab; rw [foldl_len]; simp
theorem insG_mem (x y : α) (L : List α) : y ∈ insG key L x ↔ y = x ∨ y ∈ L := by
  unfold insG
  rw [List.mem_append, List.mem_cons, List.mem_filter, List.mem_filter]
  by_cases c : key y ≤ key x
  · simp only [decide_eq_true_eq]
    constructor
    · rintro (⟨h, _⟩ | h | ⟨h, _⟩)
      · exact .inr h
      · exact .inl h
      · exact .inr h
    · rintro (h | h)
      · exact .inr (.inl h)
      · exact .inl ⟨h, c⟩
  · simp only [decide_eq_true_eq]
    constructor
    · rintro (⟨h, _⟩ | h | ⟨h, _⟩)
      · exact .inr h
      · exact .inl h
      · exact .inr h
    · rintro (h | h)
      · exact .inr (.inl h)
      · exact .inr (.inr ⟨h, by omega⟩)
theorem foldl_mem (y : α) : ∀ (Q P : List α), y ∈ Q.foldl (insG key) P ↔ y ∈ P ∨ y ∈ Q
  | [], P => by simp
  | x :: Q, P => by
    rw [List.foldl_cons, foldl_mem y Q, insG_mem, List.mem_cons]
    constructor
    · rintro ((h | h) | h)
      · exact .inr (.inl h)
      · exact .inl h
      · exact .inr (.inr h)
    · rintro (h | h | h)
      · exact .inl (.inr h)
      · exact .inl (.inl h)
      · exact .inr h
theorem stab_mem (y : α) (l : List α) : y ∈ stab key l ↔ y ∈ l := by unfold stab; rw [foldl_mem]; simp
end
end Go.Proofs.YtnemgohcjjhfmaaGreatDoor
