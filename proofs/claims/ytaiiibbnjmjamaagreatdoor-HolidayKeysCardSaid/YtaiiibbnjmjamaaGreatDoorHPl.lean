/- Several texts in one, each with its own word at its head. Conditions: stated there. -/
import Derived.Sort.WalkA
import Derived.Test.YtaiiibbnjmjamaaGreatDoorDPlain
/- Insertion sort over an array, from the left: the list that it leaves is the one that inserting each element behind those not greater leaves. No program in sight. Conditions: none. -/
namespace Go.Proofs.YtaiiibbnjmjamaaGreatDoor
open Go.Sort

section
variable {α : Type} [Inhabited α] (lt : α → α → Bool)
/-- x goes into a list that is told from its end, past the elements greater than x -/
def insRev (x : α) : List α → List α
  | [] => [x]
  | y :: t => if lt x y then y :: insRev x t else x :: y :: t
theorem get_mid (d : Array α) (A : List α) (y : α) (B : List α) (h : d.toList = A ++ y :: B) (i : Nat) (hi : A.length = i) : d[i]! = y := by
  subst hi
  have hlt : A.length < d.size := by rw [← Array.length_toList, h]; simp
  rw [getElem!_pos d A.length hlt, ← Array.getElem_toList hlt]
  simp only [h]
  rw [List.getElem_append_right (Nat.le_refl _)]
  simp
omit [Inhabited α] in
theorem set_mid (d : Array α) (A : List α) (y : α) (B : List α) (h : d.toList = A ++ y :: B) (i : Nat) (hi : A.length = i) (z : α) : (d.setIfInBounds i z).toList = A ++ z :: B := by
  subst hi
  rw [Array.toList_setIfInBounds, h, List.set_append_right _ _ (Nat.le_refl _)]
  simp
theorem inner_list (x : α) : ∀ (T R : List α) (d : Array α), d.toList = T.reverse ++ x :: R → (insInner lt 0 T.length d).toList = (insRev lt x T).reverse ++ R
  | [], R, d, h => by simpa [insInner, insRev] using h
  | y :: t, R, d, h => by
    have h' : d.toList = t.reverse ++ y :: (x :: R) := by rw [h]; simp
    have e0 : d[t.length]! = y := get_mid d _ y _ h' _ (by simp)
    have e1 : d[t.length + 1]! = x := get_mid d (t.reverse ++ [y]) x R (by rw [h']; simp) _ (by simp)
    show (insInner lt 0 (t.length + 1) d).toList = _
    unfold insInner
    rw [e0, e1]
    by_cases hl : lt x y = true
    · rw [if_pos (by simp [hl])]
      have s : (swp d (t.length + 1) t.length).toList = t.reverse ++ x :: (y :: R) := by
        unfold swp
        rw [e0, e1]
        have := set_mid d (t.reverse ++ [y]) x R (by rw [h']; simp) (t.length + 1) (by simp) y
        exact set_mid _ t.reverse y (y :: R) (by rw [this]; simp) t.length (by simp) x
      rw [inner_list x t (y :: R) _ s, insRev, if_pos hl]
      simp
    · rw [if_neg (by simp [hl]), insRev, if_neg hl, h']
      simp
/-- an element goes in -/
def insL (L : List α) (x : α) : List α := (insRev lt x L.reverse).reverse
omit [Inhabited α] in
theorem insRev_length (x : α) : ∀ T : List α, (insRev lt x T).length = T.length + 1
  | [] => rfl
  | y :: t => by unfold insRev; split <;> simp [insRev_length x t]
theorem outer_list : ∀ (Q P : List α) (d : Array α) (b : Nat), d.toList = P ++ Q → b = P.length + Q.length → (insOuter lt 0 b P.length d).toList = Q.foldl (insL lt) P
  | [], P, d, b, h, hb => by
    rw [insOuter_stop _ _ _ _ _ (by simp at hb; omega)]
    simpa using h
  | x :: Q, P, d, b, h, hb => by
    rw [insOuter_go _ _ _ _ _ (by simp at hb; omega)]
    have e := inner_list lt x P.reverse Q d (by rw [h]; simp)
    rw [List.length_reverse] at e
    have := outer_list Q (insL lt P x) (insInner lt 0 P.length d) b (by rw [e]; rfl) (by unfold insL; rw [List.length_reverse, insRev_length, List.length_reverse]; simp at hb; omega)
    rw [show (insL lt P x).length = P.length + 1 by unfold insL; rw [List.length_reverse, insRev_length, List.length_reverse]] at this
    rw [this]
    rfl
theorem sort_list (d : Array α) : (insertionSort lt d 0 d.size).toList = d.toList.foldl (insL lt) [] := by
  unfold insertionSort
  cases h : d.toList with
  | nil =>
    rw [insOuter_stop _ _ _ _ _ (by rw [← Array.length_toList, h]; simp)]
    simpa using h
  | cons x q => exact outer_list lt q [x] d d.size (by rw [h]; rfl) (by rw [← Array.length_toList, h]; simp; omega)
end

section
variable {α : Type} (key : α → Int)
/-- behind those not greater, ahead of the greater -/
def insG (L : List α) (x : α) : List α := L.filter (fun y => decide (key y ≤ key x)) ++ x :: L.filter (fun y => decide (key x < key y))
def SortK (L : List α) : Prop := L.Pairwise (fun a b => key a ≤ key b)
theorem insRev_eq (x : α) : ∀ T : List α, T.Pairwise (fun a b => key b ≤ key a) → insRev (fun a b => decide (key a < key b)) x T = T.filter (fun y => decide (key x < key y)) ++ x :: T.filter (fun y => decide (key y ≤ key x))
  | [], _ => rfl
  | y :: t, h => by
    rw [List.pairwise_cons] at h
    unfold insRev
    by_cases hl : key x < key y
    · rw [if_pos (by simpa using hl), insRev_eq x t h.2, List.filter_cons_of_pos (by simpa using hl), List.filter_cons_of_neg (by simp; omega)]
      rfl
    · have e1 : (y :: t).filter (fun y => decide (key x < key y)) = [] := by
        rw [List.filter_eq_nil_iff]
        intro z hz
        rcases List.mem_cons.mp hz with rfl | hz
        · simpa using hl
        · have := h.1 z hz
          simp; omega
      have e2 : (y :: t).filter (fun y => decide (key y ≤ key x)) = y :: t := by
        rw [List.filter_eq_self]
        intro z hz
        rcases List.mem_cons.mp hz with rfl | hz
        · simp; omega
        · have := h.1 z hz
          simp; omega
      rw [if_neg (by simpa using hl), e1, e2]
      rfl
theorem insL_eq (L : List α) (x : α) (h : SortK key L) : insL (fun a b => decide (key a < key b)) L x = insG key L x := by
  unfold insL insG
  rw [insRev_eq key x L.reverse (List.pairwise_reverse.mpr h)]
  simp [List.filter_reverse]
theorem insG_sorted (L : List α) (x : α) (h : SortK key L) : SortK key (insG key L x) := by
  unfold SortK insG at *
  rw [List.pairwise_append]
  refine ⟨h.filter _, ?_, ?_⟩
  · rw [List.pairwise_cons]
    exact ⟨fun z hz => by have := (List.mem_filter.mp hz).2; simp at this; omega, h.filter _⟩
  · intro a ha b hb
    have h1 := (List.mem_filter.mp ha).2
    simp at h1
    rcases List.mem_cons.mp hb with rfl | hb
    · exact h1
    · have h2 := (List.mem_filter.mp hb).2
      simp at h2
      omega
theorem foldl_eq : ∀ (Q P : List α), SortK key P → Q.foldl (insL (fun a b => decide (key a < key b))) P = Q.foldl (insG key) P
  | [], _, _ => rfl
  | x :: Q, P, h => by
    rw [List.foldl_cons, List.foldl_cons, insL_eq key P x h]
    exact foldl_eq Q _ (insG_sorted key P x h)
/-- the sorted list, equals in their order -/
def stab (l : List α) : List α := l.foldl (insG key) []
theorem sort_stab [Inhabited α] (d : Array α) : (insertionSort (fun a b => decide (key a < key b)) d 0 d.size).toList = stab key d.toList := by
  rw [sort_list, foldl_eq key _ [] List.Pairwise.nil]; rfl
theorem foldl_sorted : ∀ (Q P : List α), SortK key P → SortK key (Q.foldl (insG key) P)
  | [], _, h => h
  | x :: Q, P, h => foldl_sorted Q _ (insG_sorted key P x h)
theorem stab_sorted (l : List α) : SortK key (stab key l) := foldl_sorted key l [] List.Pairwise.nil
/-- the reference's way in: the number of leading elements not greater -/
def cntLe (x : α) (L : List α) : Nat := (L.takeWhile (fun y => decide (key y ≤ key x))).length
theorem take_cnt (x : α) : ∀ L : List α, SortK key L → L.take (cntLe key x L) = L.filter (fun y => decide (key y ≤ key x)) ∧ L.drop (cntLe key x L) = L.filter (fun y => decide (key x < key y))
  | [], _ => ⟨rfl, rfl⟩
  | y :: t, h => by
    unfold SortK at h
    rw [List.pairwise_cons] at h
    by_cases hl : key y ≤ key x
    · obtain ⟨i1, i2⟩ := take_cnt x t h.2
      have e : cntLe key x (y :: t) = cntLe key x t + 1 := by unfold cntLe; rw [List.takeWhile_cons_of_pos (by simpa using hl)]; rfl
      rw [e, List.take_succ_cons, List.drop_succ_cons, i1, i2, List.filter_cons_of_pos (by simpa using hl), List.filter_cons_of_neg (by simp; omega)]
      exact ⟨rfl, rfl⟩
    · have e : cntLe key x (y :: t) = 0 := by unfold cntLe; rw [List.takeWhile_cons_of_neg (by simpa using hl)]; rfl
      have e1 : (y :: t).filter (fun y => decide (key y ≤ key x)) = [] := by
        rw [List.filter_eq_nil_iff]
        intro z hz
        rcases List.mem_cons.mp hz with rfl | hz
        · simpa using hl
        · have := h.1 z hz
          simp; omega
      have e2 : (y :: t).filter (fun y => decide (key x < key y)) = y :: t := by
        rw [List.filter_eq_self]
        intro z hz
        rcases List.mem_cons.mp hz with rfl | hz
        · simp; omega
        · have := h.1 z hz
          simp; omega
      rw [e, e1, e2]
      exact ⟨rfl, rfl⟩
theorem ref_ins (L : List α) (x : α) (h : SortK key L) : L.take (cntLe key x L) ++ x :: L.drop (cntLe key x L) = insG key L x := by
  obtain ⟨h1, h2⟩ := take_cnt key x L h
  rw [h1, h2]; rfl
theorem insG_len (x : α) (L : List α) : (insG key L x).length = L.length + 1 := by
  unfold insG
  have h : ∀ M : List α, (M.filter (fun y => decide (key y ≤ key x))).length + (M.filter (fun y => decide (key x < key y))).length = M.length := by
    intro M
    induction M with
    | nil => rfl
    | cons a M ih =>
      by_cases c : key a ≤ key x
      · rw [List.filter_cons_of_pos (by simpa using c), List.filter_cons_of_neg (by simp; omega)]
        simp only [List.length_cons]; omega
      · rw [List.filter_cons_of_neg (by simpa using c), List.filter_cons_of_pos (by simp; omega)]
        simp only [List.length_cons]; omega
  rw [List.length_append, List.length_cons, ← h L]; omega
theorem foldl_len : ∀ (Q P : List α), (Q.foldl (insG key) P).length = P.length + Q.length
  | [], P => by simp
  | x :: Q, P => by rw [List.foldl_cons, foldl_len Q, insG_len]; simp; omega
theorem stab_len (l : List α) : (stab key l).length = l.length := by unfold stab; rw [foldl_len]; simp
theorem insG_mem (x y : α) (L : List α) : y ∈ insG key L x ↔ y = x ∨ y ∈ L := by
  unfold insG
  rw [List.mem_append, List.mem_cons, List.mem_filter, List.mem_filter]
  by_cases c : key y ≤ key x
  · simp only [decide_eq_true_eq]
    constructor
    · rintro (⟨h, _⟩ | h | ⟨h, _⟩)
      · exact .inr h
      · exact .inl h
      · exact .inr h
    · rintro (h | h)
      · exact .inr (.inl h)
      · exact .inl ⟨h, c⟩
  · simp only [decide_eq_true_eq]
    constructor
    · rintro (⟨h, _⟩ | h | ⟨h, _⟩)
      · exact .inr h
      · exact .inl h
      · exact .inr h
    · rintro (h | h)
      · exact .inr (.inl h)
      · exact .inr (.inr ⟨h, by omega⟩)
theorem foldl_mem (y : α) : ∀ (Q P : List α), y ∈ Q.foldl (insG key) P ↔ y ∈ P ∨ y ∈ Q
  | [], P => by simp
  | x :: Q, P => by
    rw [List.foldl_cons, foldl_mem y Q, insG_mem, List.mem_cons]
    constructor
    · rintro ((h | h) | h)
      · exact .inr (.inl h)
      · exact .inl h
      · exact .inr (.inr h)
    · rintro (h | h | h)
      · exact .inl (.inr h)
      · exact .inl (.inl h)
      · exact .inr h
theorem stab_mem (y : α) (l : List α) : y ∈ stab key l ↔ y ∈ l := by unfold stab; rw [foldl_mem]; simp
end
end Go.Proofs.YtaiiibbnjmjamaaGreatDoor
/- Plain law of the kept days: a rule's nominal day and the day on which it is kept, in one wording that both the program and the reference compute. No program in sight. Conditions: none. -/
namespace Go.Proofs.YtaiiibbnjmjamaaGreatDoor

/-- a rule -/
structure Hol where
  k : Int
  mo : Int
  d : Int
  wd : Int
  nth : Int
  off : Int
  mv : Int
  f : Int
  l : Int
/-- a rule whose fields lie in their ranges -/
def Hol.shape (h : Hol) : Prop :=
  (h.k = 1 ∧ 1 ≤ h.mo ∧ h.mo ≤ 12 ∧ 1 ≤ h.d ∧ h.d ≤ 31) ∨ (h.k = 2 ∧ 1 ≤ h.mo ∧ h.mo ≤ 12 ∧ 0 ≤ h.wd ∧ h.wd ≤ 6 ∧ 1 ≤ h.nth ∧ h.nth ≤ 5) ∨
  (h.k = 3 ∧ 1 ≤ h.mo ∧ h.mo ≤ 12 ∧ 0 ≤ h.wd ∧ h.wd ≤ 6) ∨ (h.k = 4 ∧ -100 ≤ h.off ∧ h.off ≤ 100)
instance (h : Hol) : Decidable h.shape := by unfold Hol.shape; exact inferInstance
def Hol.valid (h : Hol) : Prop := 0 ≤ h.mv ∧ h.mv ≤ 2 ∧ 1 ≤ h.f ∧ h.f ≤ h.l ∧ h.l ≤ 9999 ∧ h.shape
instance (h : Hol) : Decidable h.valid := by unfold Hol.valid; exact inferInstance
/-- the weekday's first date in a month that begins on day b -/
def fwd (b wd : Int) : Int := b + (wd - b) % 7
/-- the weekday's last date up to day c -/
def lwd (c wd : Int) : Int := c - (c - wd) % 7
theorem fwd_bd (b wd : Int) : b ≤ fwd b wd ∧ fwd b wd ≤ b + 6 := by unfold fwd; omega
theorem lwd_bd (c wd : Int) : c - 6 ≤ lwd c wd ∧ lwd c wd ≤ c := by unfold lwd; omega
theorem fwd_day (b wd : Int) (h0 : 0 ≤ wd) (h1 : wd ≤ 6) : fwd b wd % 7 = wd := by unfold fwd; omega
theorem lwd_day (c wd : Int) (h0 : 0 ≤ wd) (h1 : wd ≤ 6) : lwd c wd % 7 = wd := by unfold lwd; omega
/-- the program's last: weeks added to the first -/
theorem last_eq (b c wd : Int) : fwd b wd + (c - fwd b wd) / 7 * 7 = lwd c wd := by unfold fwd lwd; omega
/-- the reference's walk to the first -/
theorem fwd_step (b wd : Int) (h0 : 0 ≤ wd) (h1 : wd ≤ 6) (h : b % 7 ≠ wd) : fwd (b + 1) wd = fwd b wd := by unfold fwd; omega
theorem fwd_stop (b wd : Int) (h : b % 7 = wd) : fwd b wd = b := by unfold fwd; omega
theorem lwd_step (c wd : Int) (h0 : 0 ≤ wd) (h1 : wd ≤ 6) (h : c % 7 ≠ wd) : lwd (c - 1) wd = lwd c wd := by unfold lwd; omega
theorem lwd_stop (c wd : Int) (h : c % 7 = wd) : lwd c wd = c := by unfold lwd; omega

/-- Easter's day and error are words of another text: given here as two functions -/
def nomV (ev : Int → Int) (h : Hol) (y : Int) : Int :=
  if h.k = 1 then dayN y h.mo h.d else if h.k = 2 then fwd (dayN y h.mo 1) h.wd + 7 * (h.nth - 1) else if h.k = 3 then lwd (dayN y h.mo 1 + len y h.mo - 1) h.wd else ev y + h.off
def nomB (ee : Int → Int) (ev : Int → Int) (h : Hol) (y : Int) : Bool :=
  if h.k = 1 then chk y h.mo h.d == 0 else if h.k = 2 then decide (nomV ev h y < dayN y h.mo 1 + len y h.mo) else if h.k = 3 then true else ee y == 0
/-- by how many days a rule moves -/
def movV (mv w : Int) : Int := if mv = 1 ∧ w = 5 then 2 else if mv = 2 ∧ w = 5 then -1 else if mv ≠ 0 ∧ w = 6 then 1 else 0
theorem movV_bd (mv w : Int) : -1 ≤ movV mv w ∧ movV mv w ≤ 2 := by unfold movV; repeat (first | omega | split)
def kepV (ev : Int → Int) (h : Hol) (y : Int) : Int := nomV ev h y + movV h.mv (nomV ev h y % 7)
def kepB (ee ev : Int → Int) (h : Hol) (y : Int) : Bool :=
  decide (h.f ≤ y ∧ y ≤ h.l) && nomB ee ev h y && decide (0 ≤ kepV ev h y ∧ kepV ev h y ≤ 3652058)
/-- the kept days of a year in the rules' order: day and index -/
def kepts (ee ev : Int → Int) (y : Int) : List Hol → Int → List (Int × Int)
  | [], _ => []
  | h :: t, i => if kepB ee ev h y then (kepV ev h y, i) :: kepts ee ev y t (i + 1) else kepts ee ev y t (i + 1)
/-- what Of hands back -/
def ofK (ee ev : Int → Int) (y : Int) (l : List Hol) : List (Int × Int) := stab (fun p : Int × Int => p.1) (kepts ee ev y l 0)
theorem kepts_snoc (ee ev : Int → Int) (y : Int) (h : Hol) : ∀ (l : List Hol) (i : Int), kepts ee ev y (l ++ [h]) i = kepts ee ev y l i ++ if kepB ee ev h y then [(kepV ev h y, i + l.length)] else []
  | [], i => by simp [kepts]
  | g :: t, i => by
    have e := kepts_snoc ee ev y h t (i + 1)
    have e2 : i + 1 + (t.length : Int) = i + ((g :: t).length : Int) := by simp; omega
    rw [e2] at e
    show (if kepB ee ev g y then (kepV ev g y, i) :: kepts ee ev y (t ++ [h]) (i + 1) else kepts ee ev y (t ++ [h]) (i + 1)) = (if kepB ee ev g y then (kepV ev g y, i) :: kepts ee ev y t (i + 1) else kepts ee ev y t (i + 1)) ++ _
    rw [e]
    split <;> simp
/-- a nominal day of a rule in its range is a day of the calendar or near it -/
theorem movV_eq0 (w : Int) : movV 0 w = 0 := by unfold movV; simp
theorem kepV_mod (ev : Int → Int) (h : Hol) (y : Int) (hm : 1 ≤ h.mv ∧ h.mv ≤ 2) : kepV ev h y % 7 ≤ 4 := by
  unfold kepV movV
  split
  · omega
  · split
    · omega
    · split <;> omega
end Go.Proofs.YtaiiibbnjmjamaaGreatDoor
/- Plain law of the cycle: 400 years later a rule that does not depend on Easter is kept 146097 days later. No program in sight. Conditions: the years lie from 2 to 9597, the rule is in force in all years. -/
namespace Go.Proofs.YtaiiibbnjmjamaaGreatDoor

theorem hleap_400 (y : Int) : leapB (y + 400) = leapB y := by
  unfold leapB
  rw [show (y + 400) % 4 = y % 4 by omega, show (y + 400) % 100 = y % 100 by omega, show (y + 400) % 400 = y % 400 by omega]
theorem hlen_400 (y m : Int) : len (y + 400) m = len y m := by unfold len; rw [hleap_400]
theorem hnum_400 (y m d : Int) : num (y + 400) m d = num y m d + 146097 := by unfold num; split <;> omega
theorem hvalid_400 {y : Int} (m d : Int) (h0 : 2 ≤ y) (h1 : y ≤ 9597) : validB (y + 400) m d = validB y m d := by
  unfold validB
  rw [hlen_400]
  exact decide_eq_decide.mpr ⟨fun ⟨_, _, c, d, e, f⟩ => ⟨by omega, by omega, c, d, e, f⟩, fun ⟨_, _, c, d, e, f⟩ => ⟨by omega, by omega, c, d, e, f⟩⟩
theorem hchk_400 {y : Int} (m d : Int) (h0 : 2 ≤ y) (h1 : y ≤ 9597) : chk (y + 400) m d = chk y m d := by unfold chk; rw [hvalid_400 m d h0 h1]
theorem hday_400 {y : Int} (m d : Int) (h0 : 2 ≤ y) (h1 : y ≤ 9597) (hv : validB y m d = true) : dayN (y + 400) m d = dayN y m d + 146097 := by
  unfold dayN
  rw [hvalid_400 m d h0 h1, hv, if_pos rfl, if_pos rfl, hnum_400]
theorem hfirst {y m : Int} (h0 : 1 ≤ y) (h1 : y ≤ 9999) (m1 : 1 ≤ m) (m2 : m ≤ 12) : validB y m 1 = true := by
  rw [valid_iff]
  refine ⟨h0, h1, m1, m2, by omega, ?_⟩
  rcases m_cases m1 m2 with rfl | rfl | rfl | rfl | rfl | rfl | rfl | rfl | rfl | rfl | rfl | rfl <;> simp [len] <;> split <;> omega
theorem hday_bd {y m d : Int} (h0 : 2 ≤ y) (h1 : y ≤ 9997) (hv : validB y m d = true) : 365 ≤ dayN y m d ∧ dayN y m d ≤ 3651328 := by
  have hv' := valid_iff.mp hv
  obtain ⟨_, _, m1, m2, d1, d2⟩ := hv'
  have h := num_in (y := y) m1 m2 d1 d2
  have a : num 2 1 1 ≤ num y 1 1 := by
    rcases Int.lt_or_eq_of_le h0 with g | g
    · have := num_jan_mono g; omega
    · rw [g]; exact Int.le_refl _
  have b : num (y + 1) 1 1 ≤ num 9998 1 1 := by
    rcases Int.lt_or_eq_of_le (show y + 1 ≤ 9998 by omega) with g | g
    · have := num_jan_mono g; omega
    · rw [g]; exact Int.le_refl _
  have e1 : num 2 1 1 = 365 := by decide
  have e2 : num 9998 1 1 = 3651329 := by rw [num_jan]; omega
  unfold dayN
  rw [if_pos hv]
  omega
/-- the law -/
theorem kep_400 (ee ev : Int → Int) (h : Hol) {y : Int} (h0 : 2 ≤ y) (h1 : y ≤ 9597) (hf : h.f = 1) (hl : h.l = 9999) (hs : h.shape) (hk : h.k ≠ 4) :
    kepB ee ev h (y + 400) = kepB ee ev h y ∧ (kepB ee ev h y = true → kepV ev h (y + 400) = kepV ev h y + 146097) := by
  have key : nomB ee ev h (y + 400) = nomB ee ev h y ∧ (nomB ee ev h y = true → nomV ev h (y + 400) = nomV ev h y + 146097 ∧ 365 ≤ nomV ev h y ∧ nomV ev h y ≤ 3505300) := by
    rcases hs with ⟨k, m1, m2, _, _⟩ | ⟨k, m1, m2, _, _, _, _⟩ | ⟨k, m1, m2, _, _⟩ | ⟨k, _, _⟩
    · unfold nomB nomV
      simp only [k, if_true]
      rw [hchk_400 _ _ h0 h1]
      refine ⟨rfl, fun hb => ?_⟩
      have hv : validB y h.mo h.d = true := by
        unfold chk at hb
        by_cases g : validB y h.mo h.d = true
        · exact g
        · rw [if_neg g] at hb; simp at hb
      have b := hday_bd h0 (by omega) hv
      have b2 := hday_bd (y := y + 400) (by omega) (by omega) (by rw [hvalid_400 _ _ h0 h1]; exact hv)
      have e := hday_400 _ _ h0 h1 hv
      omega
    · have hv := hfirst (y := y) (by omega) (by omega) m1 m2
      have b := hday_bd h0 (by omega) hv
      have e := hday_400 _ _ h0 h1 hv
      have b2 := hday_bd (y := y + 400) (by omega) (by omega) (by rw [hvalid_400 _ _ h0 h1]; exact hv)
      have fb := fwd_bd (dayN y h.mo 1) h.wd
      have fe : fwd (dayN y h.mo 1 + 146097) h.wd = fwd (dayN y h.mo 1) h.wd + 146097 := by unfold fwd; omega
      unfold nomB nomV
      simp only [k, if_true, show ¬ ((2 : Int) = 1) by omega, if_false]
      rw [hlen_400, e, fe]
      refine ⟨decide_eq_decide.mpr (by omega), fun hb => ?_⟩
      have hb' := of_decide_eq_true hb
      have hn : len y h.mo ≤ 31 := by
        rcases m_cases m1 m2 with g | g | g | g | g | g | g | g | g | g | g | g <;> rw [g] <;> simp [len] <;> split <;> omega
      omega
    · have hv := hfirst (y := y) (by omega) (by omega) m1 m2
      have b := hday_bd h0 (by omega) hv
      have e := hday_400 _ _ h0 h1 hv
      have b2 := hday_bd (y := y + 400) (by omega) (by omega) (by rw [hvalid_400 _ _ h0 h1]; exact hv)
      have hn : 28 ≤ len y h.mo ∧ len y h.mo ≤ 31 := by
        rcases m_cases m1 m2 with g | g | g | g | g | g | g | g | g | g | g | g <;> rw [g] <;> simp [len] <;> split <;> omega
      unfold nomB nomV
      simp only [k, if_true, show ¬ ((3 : Int) = 1) by omega, show ¬ ((3 : Int) = 2) by omega, if_false]
      rw [hlen_400, e]
      refine ⟨trivial, fun _ => ?_⟩
      unfold lwd
      omega
    · exact absurd k hk
  obtain ⟨k1, k2⟩ := key
  by_cases hb : nomB ee ev h y = true
  · obtain ⟨e, n1, n2⟩ := k2 hb
    have m : kepV ev h (y + 400) = kepV ev h y + 146097 := by
      unfold kepV
      rw [e, show (nomV ev h y + 146097) % 7 = nomV ev h y % 7 by omega]
      omega
    have mb := movV_bd h.mv (nomV ev h y % 7)
    have kv : kepV ev h y = nomV ev h y + movV h.mv (nomV ev h y % 7) := rfl
    refine ⟨?_, fun _ => m⟩
    unfold kepB
    rw [k1, hb, m, hf, hl, decide_eq_true (show (1 : Int) ≤ y + 400 ∧ y + 400 ≤ 9999 by omega), decide_eq_true (show (1 : Int) ≤ y ∧ y ≤ 9999 by omega), decide_eq_true (show 0 ≤ kepV ev h y + 146097 ∧ kepV ev h y + 146097 ≤ 3652058 by omega), decide_eq_true (show 0 ≤ kepV ev h y ∧ kepV ev h y ≤ 3652058 by omega)]
  · have hb0 : nomB ee ev h y = false := by simpa using hb
    refine ⟨?_, fun g => ?_⟩
    · unfold kepB; rw [k1, hb0]; simp
    · unfold kepB at g; rw [hb0] at g; simp at g
end Go.Proofs.YtaiiibbnjmjamaaGreatDoor
