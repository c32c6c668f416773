/- Plain law of the cycle: 400 years later a rule that does not depend on Easter is kept 146097 days later. No program in sight. Conditions: the years lie from 2 to 9597, the rule is in force in all years. -/
import Derived.Test.YtnemgohcjjhfmaaGreatDoorHPlain
namespace Go.Proofs.YtnemgohcjjhfmaaGreatDoor

theorem hleap_400 (y : Int) : leapB (y + 400) = leapB y := by
  unfold leapB
  rw [show (y + 400) % 4 = y % 4 by omega, show (y + 400) % 100 = y % 100 by omega, show (y + 400) % 400 = y % 400 by omega]
theorem hlen_400 (y m : Int) : len (y + 400) m = len y m := by unfold len; rw [hleap_400]
theorem hnum_400 (y m d : Int) : num (y + 400) m d = num y m d + 146097 := by unfold num; split <;> omega
theorem hvalid_400 {y : Int} (m d : Int) (h0 : 2 ≤ y) (h1 : y ≤ 9597) : validB (y + 400) m d = validB y m d := by
  unfold validB
  rw [hlen_400]
  exact decide_eq_decide.mpr ⟨fun ⟨_, _, c, d, e, f⟩ => ⟨by omega, by omega, c, d, e, f⟩, fun ⟨_, _, c, d, e, f⟩ => ⟨by omega, by omega, c, d, e, f⟩⟩
theorem hchk_400 {y : Int} (m d : Int) (h0 : 2 ≤ y) (h1 : y ≤ 9597) : chk (y + 400) m d = chk y m d := by unfold chk; rw [hvalid_400 m d h0 h1]
theorem hday_400 {y : Int} (m d : Int) (h0 : 2 ≤ y) (h1 : y ≤ 9597) (hv : validB y m d = true) : dayN (y + 400) m d = dayN y m d + 146097 := by
  unfold dayN
  rw [hvalid_400 m d h0 h1, hv, if_pos rfl, if_pos rfl, hnum_400]
theorem hfirst {y m : Int} (h0 : 1 ≤ y) (h1 : y ≤ 9999) (m1 : 1 ≤ m) (m2 : m ≤ 12) : validB y m 1 = true := by
  rw [valid_iff]
  refine ⟨h0, h1, m1, m2, by omega, ?_⟩
  rcases m_cases m1 m2 with rfl | rfl | rfl | rfl | rfl | rfl | rfl | rfl | rfl | rfl | rfl | rfl <;> simp [len] <;> split <;> omega
theorem hday_bd {y m d : Int} (h0 : 2 ≤ y) (h1 : y ≤ 9997) (hv : validB y m d = true) : 365 ≤ dayN y m d ∧ dayN y m d ≤ 3651328 := by
  have hv' := valid_iff.mp hv
  obtain ⟨_, _, m1, m2, d1, d2⟩ := hv'
  have h := num_in (y := y) m1 m2 d1 d2
  have a : num 2 1 1 ≤ num y 1 1 := by
    rcases Int.lt_or_eq_of_le h0 with g | g
    · have := num_jan_mono g; omega
    · rw [g]; exact Int.le_refl _
  have b : num (y + 1) 1 1 ≤ num 9998 1 1 := by
    rcases Int.lt_or_eq_of_le (show y + 1 ≤ 9998 by omega) with g | g
    · have := num_jan_mono g; omega
    · rw [g]; exact Int.le_refl _
  have e1 : num 2 1 1 = 365 := by decide
  have e2 : num 9998 1 1 = 3651329 := by rw [num_jan]; omega
  unfold dayN
  rw [if_pos hv]
  omega
/-- the law -/
theorem kep_400 (ee ev : Int → Int) (h : Hol) {y : Int} (h0 : 2 ≤ y) (h1 : y ≤ 9597) (hf : h.f = 1) (hl : h.l = 9999) (hs : h.shape) (hk : h.k ≠ 4) :
    kepB ee ev h (y + 400) = kepB ee ev h y ∧ (kepB ee ev h y = true → kepV ev h (y + 400) = kepV ev h y + 146097) := by
  have key : nomB ee ev h (y + 400) = nomB ee ev h y ∧ (nomB ee ev h y = true → nomV ev h (y + 400) = nomV ev h y + 146097 ∧ 365 ≤ nomV ev h y ∧ nomV ev h y ≤ 3505300) := by
    rcases hs with ⟨k, m1, m2, _, _⟩ | ⟨k, m1, m2, _, _, _, _⟩ | ⟨k, m1, m2, _, _⟩ | ⟨k, _, _⟩
    · unfold nomB nomV
      simp only [k, if_true]
      rw [hchk_400 _ _ h0 h1]
      refine ⟨rfl, fun hb => ?_⟩
      have hv : validB y h.mo h.d = true := by
        unfold chk at hb
        by_cases g : validB y h.mo h.d = true
        · exact g
        · rw [if_neg g] at hb; simp at hb
      have b := hday_bd h0 (by omega) hv
      have b2 := hday_bd (y := y + 400) (by omega) (by omega) (by rw [hvalid_400 _ _ h0 h1]; exact hv)
      have e := hday_400 _ _ h0 h1 hv
      omega
    · have hv := hfirst (y := y) (by omega) (by omega) m1 m2
      have b := hday_bd h0 (by omega) hv
      have e := hday_400 _ _ h0 h1 hv
      have b2 := hday_bd (y := y + 400) (by omega) (by omega) (by rw [hvalid_400 _ _ h0 h1]; exact hv)
      have fb := fwd_bd (dayN y h.mo 1) h.wd
      have fe : fwd (dayN y h.mo 1 + 146097) h.wd = fwd (dayN y h.mo 1) h.wd + 146097 := by unfold fwd; omega
      unfold nomB nomV
      simp only [k, if_true, show ¬ ((2 : Int) = 1) by omega, if_false]
      rw [hlen_400, e, fe]
      refine ⟨decide_eq_decide.mpr (by omega), fun hb => ?_⟩
      have hb' := of_decide_eq_true hb
      have hn : len y h.mo ≤ 31 := by
        rcases m_cases m1 m2 with g | g | g | g | g | g | g | g | g | g | g | g <;> rw [g] <;> simp [len] <;> split <;> omega
      omega
    · have hv := hfirst (y := y) (by omega) (by omega) m1 m2
      have b := hday_bd h0 (by omega) hv
      have e := hday_400 _ _ h0 h1 hv
      have b2 := hday_bd (y := y + 400) (by omega) (by omega) (by rw [hvalid_400 _ _ h0 h1]; exact hv)
      have hn : 28 ≤ len y h.mo ∧ len y h.mo ≤ 31 := by
        rcases m_cases m1 m2 with g | g | g | g | g | g | g | g | g | g | g | g <;> rw [g] <;> simp [len] <;> split <;> omega
      unfold nomB nomV
      simp only [k, if_true, show ¬ ((3 : Int) = 1) by omega, show ¬ ((3 : Int) = 2) by omega, if_false]
      rw [hlen_400, e]
      refine ⟨trivial, fun _ => ?_⟩
      unfold lwd
      omega
    · exact absurd k hk
  obtain ⟨k1, k2⟩ := key
  by_cases hb : nomB ee ev h y = true
  · obtain ⟨e, n1, n2⟩ := k2 hb
    have m : kepV ev h (y + 400) = kepV ev h y + 146097 := by
      unfold kepV
      rw [e, show (nomV ev h y + 146097) % 7 = nomV ev h y % 7 by omega]
      omega
    have mb := movV_bd h.mv (nomV ev h y % 7)
    have kv : kepV ev h y = nomV ev h y + movV h.mv (nomV ev h y % 7) := rfl
    refine ⟨?_, fun _ => m⟩
    unfold kepB
    rw [k1, hb, m, hf, hl, decide_eq_true (show (1 : Int) ≤ y + 400 ∧ y + 400 ≤ 9999 by omega), decide_eq_true (show (1 : Int) ≤ y ∧ y ≤ 9999 by omega), decide_eq_true (show 0 ≤ kepV ev h y + 146097 ∧ kepV ev h y + 146097 ≤ 3652058 by omega), decide_eq_true (show 0 ≤ kepV ev h y ∧ kepV ev h y ≤ 3652058 by omega)]
  · have hb0 : nomB ee ev h y = false := by simpa using hb
    refine ⟨?_, fun g => ?_⟩
    · unfold kepB; rw [k1, hb0]; simp
    · unfold kepB at g; rw [hb0] at g; simp at g
end Go.Proofs.YtnemgohcjjhfmaaGreatDoor
