/- Plain: adding months in two steps, back again, and the order of the results. -/
import Derived.Test.YtefapmdgodfpeaaDoorDSt
namespace Go.Proofs.YtefapmdgodfpeaaDoor

theorem num_next (T : Int) : num ((T + 1) / 12) ((T + 1) % 12 + 1) 1 = num (T / 12) (T % 12 + 1) 1 + len (T / 12) (T % 12 + 1) := by
  by_cases h : T % 12 = 11
  · rw [show (T + 1) / 12 = T / 12 + 1 from by omega, show (T + 1) % 12 = 0 from by omega, h, show (11 : Int) + 1 = 12 from rfl, show (0 : Int) + 1 = 1 from rfl, num_year, len12]
  · have hs := num_succ (y := T / 12) (m := T % 12 + 1) (d := 1) (by omega) (by omega)
    rw [show (T + 1) / 12 = T / 12 from by omega, show (T + 1) % 12 = T % 12 + 1 from by omega, hs]
theorem amE_zero {n k : Int} (h : amE n k = 0) : -200000 ≤ k ∧ k ≤ 200000 ∧ 0 ≤ n ∧ n ≤ 3652058 ∧ 12 ≤ amT n k ∧ amT n k < 120000 := by
  unfold amE at h
  split at h
  · omega
  · split at h
    · omega
    · split at h
      · omega
      · rename_i h1 h2 h3
        rw [Classical.not_not] at h2
        omega
theorem amE_ok {n k : Int} (h1 : -200000 ≤ k) (h2 : k ≤ 200000) (h3 : 0 ≤ n) (h4 : n ≤ 3652058) (h5 : 12 ≤ amT n k) (h6 : amT n k < 120000) : amE n k = 0 := by
  unfold amE
  rw [if_neg (by omega), if_neg (by rw [Classical.not_not]; exact ⟨h3, h4⟩), if_neg (by omega)]
theorem amV_eq {n k : Int} : amV n k = num (amT n k / 12) (amT n k % 12 + 1) 1 + (min (ofD n) (len (amT n k / 12) (amT n k % 12 + 1)) - 1) := by
  unfold amV amMin; rw [num_d]
/-- a later day does not lead to an earlier result -/
theorem am_mono {a x : Int} (h1 : amE a x = 0) (h2 : amE (min (a + 1) 3652058) x = 0) : amN a x ≤ amN (min (a + 1) 3652058) x := by
  unfold amN
  rw [if_pos h1, if_pos h2]
  obtain ⟨p1, p2, p3, p4, p5, p6⟩ := amE_zero h1
  by_cases h : a = 3652058
  · subst h; exact Int.le_of_eq rfl
  · have e : min (a + 1) 3652058 = a + 1 := by omega
    rw [e]
    obtain ⟨v1, v2, v3, v4, v5, v6⟩ := valid_of p3 p4
    have hl := len_in (y := amT a x / 12) (m := amT a x % 12 + 1) (by omega) (by omega)
    rw [amV_eq, amV_eq]
    by_cases c1 : ofD a + 1 ≤ len (ofY a) (ofM a)
    · obtain ⟨s1, s2, s3⟩ := step_in p3 (by omega) c1
      have eT : amT (a + 1) x = amT a x := by unfold amT; rw [s1, s2]
      rw [eT, s3]; omega
    · have eT : amT (a + 1) x = amT a x + 1 ∧ ofD (a + 1) = 1 := by
        by_cases c2 : ofM a + 1 ≤ 12
        · obtain ⟨s1, s2, s3⟩ := step_month p3 (by omega) (by omega) c2
          exact ⟨by unfold amT; rw [s1, s2]; omega, s3⟩
        · obtain ⟨s1, s2, s3⟩ := step_year p3 (by omega) (by omega) (by omega)
          exact ⟨by unfold amT; rw [s1, s2]; omega, s3⟩
      rw [eT.1, eT.2, num_next]
      have hl2 := len_in (y := (amT a x + 1) / 12) (m := (amT a x + 1) % 12 + 1) (by omega) (by omega)
      omega
/-- behind a first step by months from a day of the month up to 28 -/
theorem am_step {a x : Int} (h1 : amE a x = 0) (hd : ofD a ≤ 28) : 0 ≤ amN a x ∧ amN a x ≤ 3652058 ∧ ofD (amN a x) = ofD a ∧ ∀ y, amT (amN a x) y = amT a (x + y) := by
  obtain ⟨p1, p2, p3, p4, p5, p6⟩ := amE_zero h1
  obtain ⟨v1, v2, v3, v4, v5, v6⟩ := valid_of p3 p4
  have hl := len_in (y := amT a x / 12) (m := amT a x % 12 + 1) (by omega) (by omega)
  have e : amN a x = num (amT a x / 12) (amT a x % 12 + 1) (ofD a) := by
    unfold amN; rw [if_pos h1]; unfold amV amMin
    rw [show min (ofD a) (len (amT a x / 12) (amT a x % 12 + 1)) = ofD a from by omega]
  have r := num_range (y := amT a x / 12) (m := amT a x % 12 + 1) (d := ofD a) (by omega) (by omega) (by omega) (by omega) v5 (by omega)
  have u := of_unique (n := amN a x) (y := amT a x / 12) (m := amT a x % 12 + 1) (d := ofD a) (by omega) (by omega) (by omega) (by omega) v5 (by omega) e.symm
  refine ⟨by omega, by omega, u.2.2.symm, fun y => ?_⟩
  have eT : amT a (x + y) = amT a x + y := by unfold amT; omega
  rw [eT]
  show 12 * ofY (amN a x) + ofM (amN a x) - 1 + y = _
  rw [← u.1, ← u.2.1]; omega
/-- two steps are one -/
theorem am_two {a x y : Int} (hx : -600 ≤ x ∧ x ≤ 600) (hy : -600 ≤ y ∧ y ≤ 600) (h1 : amE a x = 0) (hd : ofD a ≤ 28) : amE (amN a x) y = amE a (x + y) ∧ amN (amN a x) y = amN a (x + y) := by
  obtain ⟨p1, p2, p3, p4, p5, p6⟩ := amE_zero h1
  obtain ⟨s1, s2, s3, s4⟩ := am_step h1 hd
  have e : amE (amN a x) y = amE a (x + y) := by
    unfold amE
    rw [s4 y, if_neg (show ¬ (y < -200000 ∨ 200000 < y) by omega), if_neg (show ¬ ¬ (0 ≤ amN a x ∧ amN a x ≤ 3652058) by rw [Classical.not_not]; exact ⟨s1, s2⟩),
      if_neg (show ¬ (x + y < -200000 ∨ 200000 < x + y) by omega), if_neg (show ¬ ¬ (0 ≤ a ∧ a ≤ 3652058) by rw [Classical.not_not]; exact ⟨p3, p4⟩)]
  refine ⟨e, ?_⟩
  show (if amE (amN a x) y = 0 then amV (amN a x) y else 0) = (if amE a (x + y) = 0 then amV a (x + y) else 0)
  rw [e]
  have ev : amV (amN a x) y = amV a (x + y) := by unfold amV; rw [s4 y, s3]
  rw [ev]
/-- and back -/
theorem am_back {a x : Int} (hx : -600 ≤ x ∧ x ≤ 600) (h1 : amE a x = 0) (hd : ofD a ≤ 28) : amE (amN a x) (-x) = 0 ∧ amN (amN a x) (-x) = a := by
  obtain ⟨p1, p2, p3, p4, p5, p6⟩ := amE_zero h1
  obtain ⟨v1, v2, v3, v4, v5, v6⟩ := valid_of p3 p4
  have t := am_two (y := -x) hx (by omega) h1 hd
  have z : x + -x = 0 := by omega
  rw [z] at t
  have eT : amT a 0 = 12 * ofY a + ofM a - 1 := by unfold amT; omega
  have e0 : amE a 0 = 0 := amE_ok (by omega) (by omega) p3 p4 (by omega) (by omega)
  rw [t.1, t.2]
  refine ⟨e0, ?_⟩
  unfold amN
  rw [if_pos e0]
  unfold amV amMin
  rw [eT, show (12 * ofY a + ofM a - 1) / 12 = ofY a from by omega, show (12 * ofY a + ofM a - 1) % 12 + 1 = ofM a from by omega, show min (ofD a) (len (ofY a) (ofM a)) = ofD a from by omega]
  exact num_of p3 p4
end Go.Proofs.YtefapmdgodfpeaaDoor
