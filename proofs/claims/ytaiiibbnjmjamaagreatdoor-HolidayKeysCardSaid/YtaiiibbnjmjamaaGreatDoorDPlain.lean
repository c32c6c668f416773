/- Plain calendar arithmetic: leap years, lengths of months, numbers of days, and the date of a day. No program in sight. -/
namespace Go.Proofs.YtaiiibbnjmjamaaGreatDoor

def leapB (y : Int) : Bool := y % 4 == 0 && (y % 100 != 0 || y % 400 == 0)
def len (y m : Int) : Int :=
  if m < 1 ∨ 12 < m then 0 else if m = 2 ∧ leapB y = true then 29 else [0, 31, 28, 31, 30, 31, 30, 31, 31, 30, 31, 30, 31].getD m.toNat 0
def validB (y m d : Int) : Bool := decide (1 ≤ y ∧ y ≤ 9999 ∧ 1 ≤ m ∧ m ≤ 12 ∧ 1 ≤ d ∧ d ≤ len y m)
def chk (y m d : Int) : Int := if validB y m d then 0 else 5
/-- the day's number of a valid date, years beginning in March -/
def num (y m d : Int) : Int :=
  if m - 3 < 0 then 365 * (y - 1) + (y - 1) / 4 - (y - 1) / 100 + (y - 1) / 400 + (153 * (m + 9) + 2) / 5 + d - 307
  else 365 * y + y / 4 - y / 100 + y / 400 + (153 * (m - 3) + 2) / 5 + d - 307
/-- Day: the number of a valid date, or 0 -/
def dayN (y m d : Int) : Int := if validB y m d then num y m d else 0

theorem valid_iff {y m d : Int} : validB y m d = true ↔ (1 ≤ y ∧ y ≤ 9999 ∧ 1 ≤ m ∧ m ≤ 12 ∧ 1 ≤ d ∧ d ≤ len y m) := by unfold validB; simp
theorem chk_no {y m d : Int} (h : ¬ (1 ≤ y ∧ y ≤ 9999 ∧ 1 ≤ m ∧ m ≤ 12 ∧ 1 ≤ d ∧ d ≤ len y m)) : 5 = chk y m d := by
  unfold chk validB; rw [decide_eq_false h]; rfl
theorem chk_yes {y m d : Int} (h : 1 ≤ y ∧ y ≤ 9999 ∧ 1 ≤ m ∧ m ≤ 12 ∧ 1 ≤ d ∧ d ≤ len y m) : 0 = chk y m d := by
  unfold chk validB; rw [decide_eq_true h]; rfl
theorem leap_iff (y : Int) : leapB y = true ↔ (y % 4 = 0 ∧ (¬ y % 100 = 0 ∨ y % 400 = 0)) := by unfold leapB; simp

theorem m_cases {m : Int} (h1 : 1 ≤ m) (h2 : m ≤ 12) : m = 1 ∨ m = 2 ∨ m = 3 ∨ m = 4 ∨ m = 5 ∨ m = 6 ∨ m = 7 ∨ m = 8 ∨ m = 9 ∨ m = 10 ∨ m = 11 ∨ m = 12 := by omega
theorem len1 (y : Int) : len y 1 = 31 := by simp [len]
theorem len2 (y : Int) : len y 2 = if leapB y = true then 29 else 28 := by simp [len]
theorem len3 (y : Int) : len y 3 = 31 := by simp [len]
theorem len4 (y : Int) : len y 4 = 30 := by simp [len]
theorem len5 (y : Int) : len y 5 = 31 := by simp [len]
theorem len6 (y : Int) : len y 6 = 30 := by simp [len]
theorem len7 (y : Int) : len y 7 = 31 := by simp [len]
theorem len8 (y : Int) : len y 8 = 31 := by simp [len]
theorem len9 (y : Int) : len y 9 = 30 := by simp [len]
theorem len10 (y : Int) : len y 10 = 31 := by simp [len]
theorem len11 (y : Int) : len y 11 = 30 := by simp [len]
theorem len12 (y : Int) : len y 12 = 31 := by simp [len]
theorem len_out {y m : Int} (h : m < 1 ∨ 12 < m) : len y m = 0 := by unfold len; rw [if_pos h]
theorem len_in {y m : Int} (h1 : 1 ≤ m) (h2 : m ≤ 12) : 28 ≤ len y m ∧ len y m ≤ 31 := by
  rcases m_cases h1 h2 with h | h | h | h | h | h | h | h | h | h | h | h <;> subst h <;>
    simp only [len1, len2, len3, len4, len5, len6, len7, len8, len9, len10, len11, len12] <;> (try split) <;> omega
theorem len_le (y m : Int) : 0 ≤ len y m ∧ len y m ≤ 31 := by
  by_cases h : 1 ≤ m ∧ m ≤ 12
  · have := len_in (y := y) h.1 h.2; omega
  · rw [len_out (by omega)]; omega

/-- a month later -/
theorem num_succ {y m d : Int} (h1 : 1 ≤ m) (h2 : m ≤ 11) : num y (m + 1) d = num y m d + len y m := by
  have hl := leap_iff y
  rcases m_cases h1 (by omega) with h | h | h | h | h | h | h | h | h | h | h | h <;> subst h <;>
    (try simp only [len1, len2, len3, len4, len5, len6, len7, len8, len9, len10, len11]) <;> simp only [num] <;> (try omega)
  by_cases hb : leapB y = true
  · simp [hb]; rw [hl] at hb; omega
  · simp [hb]; rw [hl] at hb; omega
/-- the next year's first day -/
theorem num_year {y : Int} : num (y + 1) 1 1 = num y 12 1 + 31 := by
  simp [num]; omega
theorem num_d {y m d : Int} : num y m d = num y m 1 + (d - 1) := by
  unfold num; split <;> omega
theorem num_jan {y : Int} : num y 1 1 = 365 * (y - 1) + (y - 1) / 4 - (y - 1) / 100 + (y - 1) / 400 := by
  simp [num]; omega
/-- the first day of a month is not before the first day of an earlier one -/
theorem num_mono_m {y : Int} : ∀ (k : Nat) {m : Int}, 1 ≤ m → m + k ≤ 12 → num y m 1 + 28 * k ≤ num y (m + k) 1 := by
  intro k
  induction k with
  | zero => intro m _ _; simp
  | succ k ih =>
    intro m h1 h2
    have a := ih (m := m) h1 (by omega)
    have b := num_succ (y := y) (m := m + k) (d := 1) (by omega) (by omega)
    have c := len_in (y := y) (m := m + k) (by omega) (by omega)
    have e : m + ((k + 1 : Nat) : Int) = m + k + 1 := by omega
    rw [e]
    omega
theorem num_le_m {y m m' : Int} (h1 : 1 ≤ m) (h : m ≤ m') (h2 : m' ≤ 12) : num y m 1 + 28 * (m' - m) ≤ num y m' 1 := by
  have := num_mono_m (y := y) (m' - m).toNat (m := m) h1 (by omega)
  have e : m + ((m' - m).toNat : Int) = m' := by omega
  rw [e] at this
  omega
theorem num_jan_mono {y y' : Int} (h : y < y') : num y 1 1 + 365 ≤ num y' 1 1 := by
  rw [num_jan, num_jan]; omega
/-- a valid date lies in its month -/
theorem num_in {y m d : Int} (h1 : 1 ≤ m) (h2 : m ≤ 12) (h3 : 1 ≤ d) (h4 : d ≤ len y m) : num y 1 1 ≤ num y m d ∧ num y m d < num (y + 1) 1 1 := by
  have a := num_le_m (y := y) (m := 1) (m' := m) (by omega) h1 h2
  have b := num_d (y := y) (m := m) (d := d)
  refine ⟨by omega, ?_⟩
  rw [num_year]
  by_cases h : m = 12
  · subst h; rw [len12] at h4; omega
  · have c := num_succ (y := y) (m := m) (d := 1) h1 (by omega)
    have e := num_le_m (y := y) (m := m + 1) (m' := 12) (by omega) (by omega) (by omega)
    omega
/-- dates with one number are one -/
theorem num_inj {y m d y' m' d' : Int} (h1 : 1 ≤ m) (h2 : m ≤ 12) (h3 : 1 ≤ d) (h4 : d ≤ len y m) (g1 : 1 ≤ m') (g2 : m' ≤ 12) (g3 : 1 ≤ d') (g4 : d' ≤ len y' m') (h : num y m d = num y' m' d') : y = y' ∧ m = m' ∧ d = d' := by
  have a := num_in (y := y) h1 h2 h3 h4
  have b := num_in (y := y') g1 g2 g3 g4
  have hy : y = y' := by
    rcases Int.lt_trichotomy y y' with c | c | c
    · by_cases e : y + 1 = y'
      · subst e; omega
      · have := num_jan_mono (y := y + 1) (y' := y') (by omega); omega
    · exact c
    · by_cases e : y' + 1 = y
      · subst e; omega
      · have := num_jan_mono (y := y' + 1) (y' := y) (by omega); omega
  subst hy
  have p := num_d (y := y) (m := m) (d := d)
  have q := num_d (y := y) (m := m') (d := d')
  have hm : m = m' := by
    rcases Int.lt_trichotomy m m' with c | c | c
    · have u := num_succ (y := y) (m := m) (d := 1) h1 (by omega)
      have v := num_le_m (y := y) (m := m + 1) (m' := m') (by omega) (by omega) g2
      omega
    · exact c
    · have u := num_succ (y := y) (m := m') (d := 1) g1 (by omega)
      have v := num_le_m (y := y) (m := m' + 1) (m' := m) (by omega) (by omega) h2
      omega
  subst hm
  exact ⟨rfl, rfl, by omega⟩

/- THE DATE OF A DAY. -/
def yoeOf (D : Int) : Int := (D - D / 1460 + D / 36524 - D / 146096) / 365
def doyOf (D : Int) : Int := D - (365 * yoeOf D + yoeOf D / 4 - yoeOf D / 100)
def mpOf (Q : Int) : Int := (5 * Q + 2) / 153
def ofY (n : Int) : Int := yoeOf ((n + 306) % 146097) + 400 * ((n + 306) / 146097) + if 10 ≤ mpOf (doyOf ((n + 306) % 146097)) then 1 else 0
def ofM (n : Int) : Int := if 10 ≤ mpOf (doyOf ((n + 306) % 146097)) then mpOf (doyOf ((n + 306) % 146097)) - 9 else mpOf (doyOf ((n + 306) % 146097)) + 3
def ofD (n : Int) : Int := doyOf ((n + 306) % 146097) - (153 * mpOf (doyOf ((n + 306) % 146097)) + 2) / 5 + 1

theorem yoe_bd {D : Int} (h0 : 0 ≤ D) (h1 : D ≤ 146096) : 0 ≤ yoeOf D ∧ yoeOf D ≤ 399 := by unfold yoeOf; omega
theorem yoe_split {c q r : Int} (c0 : 0 ≤ c) (c1 : c ≤ 3) (q0 : 0 ≤ q) (q1 : q ≤ 24) (r0 : 0 ≤ r) (r1 : r ≤ 1460) (qr : q = 24 → r ≤ 1459) : yoeOf (36524 * c + 1461 * q + r) = 100 * c + 4 * q + (if r = 1460 then 3 else r / 365) := by
  unfold yoeOf
  have e1 : (36524 * c + 1461 * q + r) / 36524 = c := by omega
  have e2 : (36524 * c + 1461 * q + r) / 146096 = 0 := by omega
  rw [e1, e2]
  split <;> omega
/-- the day within a year that begins in March -/
theorem doy_bd {D : Int} (h0 : 0 ≤ D) (h1 : D ≤ 146096) : 0 ≤ doyOf D ∧ doyOf D ≤ 364 + if leapB (yoeOf D + 1) = true then 1 else 0 := by
  by_cases hD : D = 146096
  · subst hD; decide
  · obtain ⟨c, q, r, hc0, hc1, hq0, hq1, hr0, hr1, hqr, rfl⟩ : ∃ c q r : Int, 0 ≤ c ∧ c ≤ 3 ∧ 0 ≤ q ∧ q ≤ 24 ∧ 0 ≤ r ∧ r ≤ 1460 ∧ (q = 24 → r ≤ 1459) ∧ D = 36524 * c + 1461 * q + r :=
      ⟨D / 36524, (D % 36524) / 1461, (D % 36524) % 1461, by omega, by omega, by omega, by omega, by omega, by omega, by omega, by omega⟩
    have hl := leap_iff (yoeOf (36524 * c + 1461 * q + r) + 1)
    unfold doyOf
    rw [yoe_split hc0 hc1 hq0 hq1 hr0 hr1 hqr] at hl ⊢
    by_cases h : r = 1460
    · subst h
      rw [if_pos rfl] at hl ⊢
      rw [if_pos (hl.2 (by omega))]
      omega
    · rw [if_neg h] at hl ⊢
      have hi : r / 365 ≤ 3 := by omega
      have e4 : (100 * c + 4 * q + r / 365) / 4 = 25 * c + q := by omega
      have e5 : (100 * c + 4 * q + r / 365) / 100 = c := by omega
      rw [e4, e5]
      split <;> omega
theorem mp_bd {Q : Int} (h0 : 0 ≤ Q) (h1 : Q ≤ 365) : 0 ≤ mpOf Q ∧ mpOf Q ≤ 11 := by unfold mpOf; omega
/-- the number of the date of a day -/
theorem num_of {n : Int} (_h0 : 0 ≤ n) (_h1 : n ≤ 3652058) : num (ofY n) (ofM n) (ofD n) = n := by
  unfold ofY ofM ofD num
  have hY := yoe_bd (D := (n + 306) % 146097) (by omega) (by omega)
  have hQ := doy_bd (D := (n + 306) % 146097) (by omega) (by omega)
  have hq : doyOf ((n + 306) % 146097) ≤ 365 := by have := hQ.2; split at this <;> omega
  have hM := mp_bd hQ.1 hq
  have e : doyOf ((n + 306) % 146097) = (n + 306) % 146097 - (365 * yoeOf ((n + 306) % 146097) + yoeOf ((n + 306) % 146097) / 4 - yoeOf ((n + 306) % 146097) / 100) := rfl
  generalize mpOf (doyOf ((n + 306) % 146097)) = M at *
  generalize doyOf ((n + 306) % 146097) = Q at *
  generalize yoeOf ((n + 306) % 146097) = Y at *
  have hE : n = 146097 * ((n + 306) / 146097) + (n + 306) % 146097 - 306 := by omega
  generalize (n + 306) / 146097 = E at *
  have e4 : (Y + 400 * E) / 4 = Y / 4 + 100 * E := by omega
  have e5 : (Y + 400 * E) / 100 = Y / 100 + 4 * E := by omega
  have e6 : (Y + 400 * E) / 400 = E := by omega
  by_cases h : 10 ≤ M
  · simp only [if_pos h]
    rw [if_pos (by omega), show Y + 400 * E + 1 - 1 = Y + 400 * E from by omega, show M - 9 + 9 = M from by omega, e4, e5, e6]
    omega
  · simp only [if_neg h]
    rw [if_neg (by omega), show Y + 400 * E + 0 = Y + 400 * E from by omega, show M + 3 - 3 = M from by omega, e4, e5, e6]
    omega
/-- .. and that date is valid -/
theorem valid_of {n : Int} (h0 : 0 ≤ n) (h1 : n ≤ 3652058) : 1 ≤ ofY n ∧ ofY n ≤ 9999 ∧ 1 ≤ ofM n ∧ ofM n ≤ 12 ∧ 1 ≤ ofD n ∧ ofD n ≤ len (ofY n) (ofM n) := by
  have hY := yoe_bd (D := (n + 306) % 146097) (by omega) (by omega)
  have hQ := doy_bd (D := (n + 306) % 146097) (by omega) (by omega)
  have hq : doyOf ((n + 306) % 146097) ≤ 365 := by have := hQ.2; split at this <;> omega
  have hM := mp_bd hQ.1 hq
  have eM : mpOf (doyOf ((n + 306) % 146097)) = (5 * doyOf ((n + 306) % 146097) + 2) / 153 := rfl
  have e : doyOf ((n + 306) % 146097) = (n + 306) % 146097 - (365 * yoeOf ((n + 306) % 146097) + yoeOf ((n + 306) % 146097) / 4 - yoeOf ((n + 306) % 146097) / 100) := rfl
  unfold ofY ofM ofD
  generalize mpOf (doyOf ((n + 306) % 146097)) = M at *
  generalize doyOf ((n + 306) % 146097) = Q at *
  generalize yoeOf ((n + 306) % 146097) = Y at *
  by_cases h : 10 ≤ M
  · simp only [if_pos h]
    refine ⟨by omega, by omega, by omega, by omega, by omega, ?_⟩
    by_cases h10 : M = 10
    · subst h10; rw [show (10 : Int) - 9 = 1 from rfl, len1]; omega
    · obtain rfl : M = 11 := by omega
      rw [show (11 : Int) - 9 = 2 from rfl, len2]
      have l1 := leap_iff (Y + 1)
      have l2 := leap_iff (Y + 400 * ((n + 306) / 146097) + 1)
      have hb : leapB (Y + 1) = true ↔ leapB (Y + 400 * ((n + 306) / 146097) + 1) = true := by rw [l1, l2]; omega
      split at hQ <;> rename_i g
      · rw [if_pos (hb.1 g)]; omega
      · rw [if_neg (fun k => g (hb.2 k))]; omega
  · simp only [if_neg h]
    refine ⟨by omega, by omega, by omega, by omega, by omega, ?_⟩
    have hc : M = 0 ∨ M = 1 ∨ M = 2 ∨ M = 3 ∨ M = 4 ∨ M = 5 ∨ M = 6 ∨ M = 7 ∨ M = 8 ∨ M = 9 := by omega
    rcases hc with h | h | h | h | h | h | h | h | h | h <;> subst h <;>
      simp only [Int.reduceAdd, len3, len4, len5, len6, len7, len8, len9, len10, len11, len12] <;> omega
/-- the one valid date with a number -/
theorem of_unique {n y m d : Int} (h0 : 0 ≤ n) (h1 : n ≤ 3652058) (g1 : 1 ≤ m) (g2 : m ≤ 12) (g3 : 1 ≤ d) (g4 : d ≤ len y m) (h : num y m d = n) : y = ofY n ∧ m = ofM n ∧ d = ofD n := by
  have v := valid_of h0 h1
  exact num_inj g1 g2 g3 g4 v.2.2.1 v.2.2.2.1 v.2.2.2.2.1 v.2.2.2.2.2 (by rw [h, num_of h0 h1])
/-- a valid date's number is a day -/
theorem num_range {y m d : Int} (y1 : 1 ≤ y) (y2 : y ≤ 9999) (h1 : 1 ≤ m) (h2 : m ≤ 12) (h3 : 1 ≤ d) (h4 : d ≤ len y m) : 0 ≤ num y m d ∧ num y m d ≤ 3652058 := by
  have a := num_in (y := y) h1 h2 h3 h4
  rw [num_jan, num_jan] at a
  omega
end Go.Proofs.YtaiiibbnjmjamaaGreatDoor
