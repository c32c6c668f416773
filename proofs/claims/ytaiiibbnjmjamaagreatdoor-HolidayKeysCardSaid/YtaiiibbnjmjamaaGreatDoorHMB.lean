/- Several texts in one, each with its own word at its head. Conditions: stated there. -/
import Derived.Test.YtaiiibbnjmjamaaGreatDoorHOf
import Derived.Lib.SlicesCompact
import Derived.Lib.RowBridge
/- Plain: what the kept days of a year are, as members of the list; their bounds. No program in sight. Conditions: none. -/
namespace Go.Proofs.YtaiiibbnjmjamaaGreatDoor

theorem kepts_mem {ee ev : Int → Int} {y : Int} {p : Int × Int} : ∀ (l : List Hol) (i : Int), p ∈ kepts ee ev y l i ↔ ∃ (j : Nat) (h : Hol), l[j]? = some h ∧ kepB ee ev h y = true ∧ p = (kepV ev h y, i + j)
  | [], i => by simp [kepts]
  | h :: t, i => by
    have ih := kepts_mem (ee := ee) (ev := ev) (y := y) (p := p) t (i + 1)
    have e : kepts ee ev y (h :: t) i = if kepB ee ev h y then (kepV ev h y, i) :: kepts ee ev y t (i + 1) else kepts ee ev y t (i + 1) := rfl
    rw [e]
    constructor
    · intro hp
      by_cases hb : kepB ee ev h y = true
      · rw [if_pos hb] at hp
        rcases List.mem_cons.1 hp with rfl | hp
        · exact ⟨0, h, rfl, hb, by simp⟩
        · obtain ⟨j, g, h1, h2, h3⟩ := ih.1 hp
          exact ⟨j + 1, g, by simpa using h1, h2, by rw [h3]; congr 1; omega⟩
      · rw [if_neg hb] at hp
        obtain ⟨j, g, h1, h2, h3⟩ := ih.1 hp
        exact ⟨j + 1, g, by simpa using h1, h2, by rw [h3]; congr 1; omega⟩
    · rintro ⟨j, g, h1, h2, h3⟩
      cases j with
      | zero =>
        simp at h1; subst h1
        rw [if_pos h2, h3]; simp
      | succ j =>
        have := ih.2 ⟨j, g, by simpa using h1, h2, by rw [h3]; congr 1; omega⟩
        by_cases hb : kepB ee ev h y = true
        · rw [if_pos hb]; exact List.mem_cons_of_mem _ this
        · rw [if_neg hb]; exact this
theorem ofP_mem {y : Int} {l : List Hol} {p : Int × Int} : p ∈ ofP y l ↔ ∃ (j : Nat) (h : Hol), l[j]? = some h ∧ kB h y = true ∧ p = (kV h y, (j : Int)) := by
  show p ∈ stab _ (kepts eaE eaV y l 0) ↔ _
  rw [stab_mem, kepts_mem]
  simp
theorem kB_bd {h : Hol} {y : Int} (hb : kB h y = true) : (h.f ≤ y ∧ y ≤ h.l) ∧ nB h y = true ∧ 0 ≤ kV h y ∧ kV h y ≤ 3652058 := by
  have e : kB h y = (win y h.f h.l && nB h y && win (kV h y) 0 3652058) := rfl
  rw [e] at hb
  simp only [Bool.and_eq_true, win_iff] at hb
  exact ⟨hb.1.1, hb.1.2, hb.2⟩
theorem ofP_bd {y : Int} {l : List Hol} {p : Int × Int} (h : p ∈ ofP y l) : 0 ≤ p.1 ∧ p.1 ≤ 3652058 ∧ 0 ≤ p.2 ∧ p.2 < l.length := by
  obtain ⟨j, g, h1, h2, rfl⟩ := ofP_mem.1 h
  have := (kB_bd h2).2.2
  have hj := (List.getElem?_eq_some_iff.1 h1).1
  exact ⟨this.1, this.2, by simp, by simp; omega⟩
end Go.Proofs.YtaiiibbnjmjamaaGreatDoor
/- Plain: the days of a range on which a holiday is kept: sorted, each once; what lies in the list. No program in sight. Conditions: stated at each. -/
namespace Go.Proofs.YtaiiibbnjmjamaaGreatDoor
open Go.Lib

theorem comp_inv (zs : List Int) (hs : zs.Pairwise (· ≤ ·)) : ∀ m, m ≤ zs.length → (compactUpTo zs.toArray m).Pairwise (· < ·) ∧ ∀ x, x ∈ compactUpTo zs.toArray m ↔ x ∈ zs.take m := by
  intro m
  induction m with
  | zero => intro _; exact ⟨by simp [compactUpTo], fun x => by simp [compactUpTo]⟩
  | succ m ih =>
    intro hm
    obtain ⟨i1, i2⟩ := ih (by omega)
    have hd : zs.toArray[m]! = zs[m] := by rw [getElem!_pos _ _ (by simp; omega)]; simp
    have ht : zs.take (m + 1) = zs.take m ++ [zs[m]] := by rw [List.take_add_one, List.getElem?_eq_getElem (by omega)]; rfl
    have hle : ∀ x, x ∈ zs.take m → x ≤ zs[m] := by
      intro x hx
      obtain ⟨i, hi, rfl⟩ := List.getElem_of_mem hx
      have him : i < m := by rw [List.length_take] at hi; omega
      rw [List.getElem_take]
      exact List.pairwise_iff_getElem.1 hs i m (by omega) (by omega) him
    rw [compactUpTo_succ, ht]
    by_cases hk : keeps zs.toArray m = true
    · rw [if_pos hk, hd]
      refine ⟨?_, fun x => ?_⟩
      · rw [List.pairwise_append]
        refine ⟨i1, by simp, fun x hx y hy => ?_⟩
        rw [List.mem_singleton] at hy
        subst hy
        have hx' := (i2 x).1 hx
        have h1 := hle x hx'
        rcases Nat.eq_zero_or_pos m with h0 | h0
        · subst h0; simp at hx'
        · have hd1 : zs.toArray[m - 1]! = zs[m - 1] := by rw [getElem!_pos _ _ (by simp; omega)]; simp
          have hne : ¬ zs[m] = zs[m - 1] := by
            unfold keeps at hk
            rw [hd, hd1] at hk
            simp at hk
            rcases hk with e | e
            · omega
            · exact e
          have hx2 : x ≤ zs[m - 1] := by
            obtain ⟨i, hi, rfl⟩ := List.getElem_of_mem hx'
            have him : i < m := by rw [List.length_take] at hi; omega
            rw [List.getElem_take]
            rcases Nat.lt_or_ge i (m - 1) with e | e
            · exact List.pairwise_iff_getElem.1 hs i (m - 1) (by omega) (by omega) e
            · have : i = m - 1 := by omega
              subst this; exact Int.le_refl _
          have h3 := List.pairwise_iff_getElem.1 hs (m - 1) m (by omega) (by omega) (by omega)
          omega
      · rw [List.mem_append, List.mem_append, i2]
    · rw [if_neg hk, List.append_nil]
      refine ⟨i1, fun x => ?_⟩
      rw [i2, List.mem_append]
      constructor
      · exact .inl
      · rintro (h | h)
        · exact h
        · rw [List.mem_singleton] at h
          subst h
          unfold keeps at hk
          rcases Nat.eq_zero_or_pos m with h0 | h0
          · subst h0; simp at hk
          · have hd1 : zs.toArray[m - 1]! = zs[m - 1] := by rw [getElem!_pos _ _ (by simp; omega)]; simp
            rw [hd, hd1] at hk
            simp at hk
            rw [hk.2]
            rw [List.mem_take_iff_getElem]
            exact ⟨m - 1, by omega, rfl⟩
theorem comp_sorted {zs : List Int} (hs : zs.Pairwise (· ≤ ·)) : (compact zs).Pairwise (· < ·) := (comp_inv zs hs zs.length (Nat.le_refl _)).1
theorem comp_mem {zs : List Int} (hs : zs.Pairwise (· ≤ ·)) (x : Int) : x ∈ compact zs ↔ x ∈ zs := by
  have := (comp_inv zs hs zs.length (Nat.le_refl _)).2 x
  rwa [List.take_length] at this
theorem sortI_sorted (zs : List Int) : (sortI zs).Pairwise (· ≤ ·) := by
  have := List.pairwise_mergeSort (le := fun x y : Int => decide (x ≤ y)) (fun a b c h1 h2 => by simp at *; omega) (fun a b => by simp; omega) zs
  exact this.imp (fun h => by simpa using h)
theorem sortI_mem (zs : List Int) (x : Int) : x ∈ sortI zs ↔ x ∈ zs := List.mem_mergeSort
/-- two strictly rising lists with the same members are one -/
theorem rise_eq : ∀ {xs ys : List Int}, xs.Pairwise (· < ·) → ys.Pairwise (· < ·) → (∀ x, x ∈ xs ↔ x ∈ ys) → xs = ys
  | [], [], _, _, _ => rfl
  | [], y :: ys, _, _, h => absurd ((h y).2 (by simp)) (by simp)
  | x :: xs, [], _, _, h => absurd ((h x).1 (by simp)) (by simp)
  | x :: xs, y :: ys, hx, hy, h => by
    rw [List.pairwise_cons] at hx hy
    have e : x = y := by
      rcases List.mem_cons.1 ((h x).1 (by simp)) with e | e
      · exact e
      · rcases List.mem_cons.1 ((h y).2 (by simp)) with e' | e'
        · exact e'.symm
        · have a := hy.1 x e
          have b := hx.1 y e'
          omega
    subst e
    rw [rise_eq hx.2 hy.2]
    intro z
    constructor
    · intro hz
      rcases List.mem_cons.1 ((h z).1 (by simp [hz])) with e | e
      · subst e; have := hx.1 z hz; omega
      · exact e
    · intro hz
      rcases List.mem_cons.1 ((h z).2 (by simp [hz])) with e | e
      · subst e; have := hy.1 z hz; omega
      · exact e
/-- the days of one year that lie in the range -/
def yDays (l : List Hol) (a b y : Int) : List Int := ((ofP y l).map (·.1)).filter (fun d => win d a b)
/-- .. of the years from A on -/
def rawD (l : List Hol) (a b A : Int) (j : Nat) : List Int := (List.range j).flatMap (fun i : Nat => yDays l a b (A + (i : Int)))
theorem rawD_succ (l : List Hol) (a b A : Int) (j : Nat) : rawD l a b A (j + 1) = rawD l a b A j ++ yDays l a b (A + j) := by
  unfold rawD; rw [List.range_succ, List.flatMap_append]; simp
theorem yDays_len (l : List Hol) (a b y : Int) : (yDays l a b y).length ≤ l.length := by
  unfold yDays
  refine Nat.le_trans (List.length_filter_le _ _) ?_
  rw [List.length_map]; exact ofP_len y l
theorem rawD_len (l : List Hol) (a b A : Int) : ∀ j, (rawD l a b A j).length ≤ j * l.length
  | 0 => by simp [rawD]
  | j + 1 => by
    have := rawD_len l a b A j
    have h := yDays_len l a b (A + j)
    rw [rawD_succ, List.length_append, Nat.succ_mul]; omega
theorem yDays_mem {l : List Hol} {a b y d : Int} : d ∈ yDays l a b y ↔ (a ≤ d ∧ d ≤ b) ∧ ∃ h, h ∈ l ∧ kB h y = true ∧ kV h y = d := by
  unfold yDays
  rw [List.mem_filter, List.mem_map, win_iff]
  constructor
  · rintro ⟨⟨p, hp, rfl⟩, h2⟩
    obtain ⟨j, h, h3, h4, rfl⟩ := ofP_mem.1 hp
    exact ⟨h2, h, List.mem_of_getElem? h3, h4, rfl⟩
  · rintro ⟨h2, h, h3, h4, rfl⟩
    obtain ⟨j, hj⟩ := List.mem_iff_getElem?.1 h3
    exact ⟨⟨_, ofP_mem.2 ⟨j, h, hj, h4, rfl⟩, rfl⟩, h2⟩
theorem rawD_mem {l : List Hol} {a b A d : Int} {j : Nat} : d ∈ rawD l a b A j ↔ (a ≤ d ∧ d ≤ b) ∧ ∃ (i : Nat) (h : Hol), i < j ∧ h ∈ l ∧ kB h (A + i) = true ∧ kV h (A + i) = d := by
  unfold rawD
  rw [List.mem_flatMap]
  constructor
  · rintro ⟨i, hi, hd⟩
    obtain ⟨h1, h, h2, h3, h4⟩ := yDays_mem.1 hd
    exact ⟨h1, i, h, List.mem_range.1 hi, h2, h3, h4⟩
  · rintro ⟨h1, i, h, hi, h2, h3, h4⟩
    exact ⟨i, List.mem_range.2 hi, yDays_mem.2 ⟨h1, h, h2, h3, h4⟩⟩
/-- the number of years that are looked at -/
def nYears (a b : Int) : Nat := (ofY b - ofY a + 3).toNat
/-- what Between hands back -/
def btw (l : List Hol) (f u : Int) : List Int :=
  if max f 0 > min u 3652058 then [] else compact (sortI (rawD l (max f 0) (min u 3652058) (ofY (max f 0) - 1) (nYears (max f 0) (min u 3652058))))
theorem btw_rise (l : List Hol) (f u : Int) : (btw l f u).Pairwise (· < ·) := by
  unfold btw
  split
  · simp
  · exact comp_sorted (sortI_sorted _)
theorem ofY_mono {a b : Int} (h0 : 0 ≤ a) (h : a ≤ b) (h1 : b ≤ 3652058) : ofY a ≤ ofY b := by
  obtain ⟨_, _, m1, m2, d1, d2⟩ := valid_of (n := a) h0 (by omega)
  obtain ⟨_, _, m3, m4, d3, d4⟩ := valid_of (n := b) (by omega) h1
  have n1 := num_of (n := a) h0 (by omega)
  have n2 := num_of (n := b) (by omega) h1
  have i1 := num_in (y := ofY a) m1 m2 d1 d2
  have i2 := num_in (y := ofY b) m3 m4 d3 d4
  apply Classical.byContradiction
  intro hn
  rcases Int.lt_or_le (ofY b + 1) (ofY a) with g | g
  · have := num_jan_mono (y := ofY b + 1) (y' := ofY a) g; omega
  · have e : ofY b + 1 = ofY a := by omega
    rw [e] at i2; omega
theorem btw_mem {l : List Hol} {f u d : Int} : d ∈ btw l f u ↔ (max f 0 ≤ d ∧ d ≤ min u 3652058) ∧ ∃ (y : Int) (h : Hol), ofY (max f 0) - 1 ≤ y ∧ y ≤ ofY (min u 3652058) + 1 ∧ h ∈ l ∧ kB h y = true ∧ kV h y = d := by
  unfold btw
  by_cases hc : max f 0 > min u 3652058
  · rw [if_pos hc]
    constructor
    · intro h; cases h
    · rintro ⟨⟨h1, h2⟩, _⟩; omega
  · rw [if_neg hc, comp_mem (sortI_sorted _), sortI_mem, rawD_mem]
    have hm := ofY_mono (a := max f 0) (b := min u 3652058) (by omega) (by omega) (by omega)
    generalize max f 0 = a at *
    generalize min u 3652058 = b at *
    constructor
    · rintro ⟨h1, i, h, hi, h2, h3, h4⟩
      unfold nYears at hi
      exact ⟨h1, ofY a - 1 + i, h, by omega, by omega, h2, h3, h4⟩
    · rintro ⟨h1, y, h, g1, g2, h2, h3, h4⟩
      have e : ofY a - 1 + ((y - (ofY a - 1)).toNat : Int) = y := by omega
      exact ⟨h1, (y - (ofY a - 1)).toNat, h, by unfold nYears; omega, h2, by rw [e]; exact h3, by rw [e]; exact h4⟩
end Go.Proofs.YtaiiibbnjmjamaaGreatDoor
