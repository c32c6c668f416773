/- Plain: the weekday and the part of the month of a kept day whose rule does not move. No program in sight. Conditions: the rule is valid and kept. -/
import Derived.Test.YtnemgohcjjhfmaaDoorHLoc
namespace Go.Proofs.YtnemgohcjjhfmaaDoor

theorem in_month {y mo D : Int} (m1 : 1 ≤ mo) (m2 : mo ≤ 12) (h0 : 0 ≤ D) (h1 : D ≤ 3652058) (d1 : num y mo 1 ≤ D) (d2 : D < num y mo 1 + len y mo) : ofY D = y ∧ ofM D = mo ∧ ofD D = D - num y mo 1 + 1 := by
  have e := num_d (y := y) (m := mo) (d := D - num y mo 1 + 1)
  obtain ⟨a, b, c⟩ := of_unique (n := D) (y := y) (m := mo) (d := D - num y mo 1 + 1) h0 h1 m1 m2 (by omega) (by omega) (by omega)
  exact ⟨a.symm, b.symm, c.symm⟩
theorem still_kV {h : Hol} {y : Int} (hm : h.mv = 0) : kV h y = nV h y := by
  show nV h y + movV h.mv _ = _
  rw [hm, movV_eq0]; omega
theorem wk_nth {h : Hol} {y : Int} (hv : hvB h = true) (hk : kB h y = true) (k2 : h.k = 2) (hm : h.mv = 0) : ofM (kV h y) = h.mo ∧ kV h y % 7 = h.wd ∧ 7 * h.nth - 6 ≤ ofD (kV h y) ∧ ofD (kV h y) ≤ 7 * h.nth ∧ 1 ≤ h.nth ∧ h.nth ≤ 5 := by
  obtain ⟨hf, hb, k0, k1⟩ := kB_bd hk
  rw [still_kV hm] at *
  obtain ⟨_, _, f1, _, l9, hkk⟩ := hvB_spec hv
  have y1 : 1 ≤ y := by omega
  have y9 : y ≤ 9999 := by omega
  unfold vldK at hkk
  rw [if_neg (by omega), if_pos k2] at hkk
  unfold vld2 at hkk
  simp only [Bool.and_eq_true, win_iff] at hkk
  obtain ⟨⟨m1, m2⟩, ⟨w1, w2⟩, n1, n2⟩ := hkk
  have hd : dayN y h.mo 1 = num y h.mo 1 := by unfold dayN; rw [if_pos (hfirst y1 y9 m1 m2)]
  have e0 : nV h y = nomV eaV h y := rfl
  have e1 : nB h y = nomB eaE eaV h y := rfl
  have ev : nV h y = fwd (num y h.mo 1) h.wd + 7 * (h.nth - 1) := by rw [e0]; unfold nomV; rw [if_neg (by omega), if_pos k2, hd]
  rw [e1] at hb
  unfold nomB at hb
  rw [if_neg (by omega), if_pos k2, hd] at hb
  have hlt : nV h y < num y h.mo 1 + len y h.mo := of_decide_eq_true hb
  have hw := fwd_bd (num y h.mo 1) h.wd
  have hwd := fwd_day (num y h.mo 1) h.wd w1 w2
  obtain ⟨a, b, c⟩ := in_month m1 m2 k0 k1 (by omega) hlt
  refine ⟨b, by omega, by omega, by omega, n1, n2⟩
theorem wk_last {h : Hol} {y : Int} (hv : hvB h = true) (hk : kB h y = true) (k3 : h.k = 3) (hm : h.mv = 0) : ofM (kV h y) = h.mo ∧ kV h y % 7 = h.wd ∧ len (ofY (kV h y)) (ofM (kV h y)) - 7 < ofD (kV h y) := by
  obtain ⟨hf, hb, k0, k1⟩ := kB_bd hk
  rw [still_kV hm] at *
  obtain ⟨_, _, f1, _, l9, hkk⟩ := hvB_spec hv
  have y1 : 1 ≤ y := by omega
  have y9 : y ≤ 9999 := by omega
  unfold vldK at hkk
  rw [if_neg (by omega), if_neg (by omega), if_pos k3] at hkk
  unfold vld3 at hkk
  simp only [Bool.and_eq_true, win_iff] at hkk
  obtain ⟨⟨m1, m2⟩, w1, w2⟩ := hkk
  have hd : dayN y h.mo 1 = num y h.mo 1 := by unfold dayN; rw [if_pos (hfirst y1 y9 m1 m2)]
  have e0 : nV h y = nomV eaV h y := rfl
  have ev : nV h y = lwd (num y h.mo 1 + len y h.mo - 1) h.wd := by rw [e0]; unfold nomV; rw [if_neg (by omega), if_neg (by omega), if_pos k3, hd]
  have hl := len_in (y := y) m1 m2
  have hw := lwd_bd (num y h.mo 1 + len y h.mo - 1) h.wd
  have hwd := lwd_day (num y h.mo 1 + len y h.mo - 1) h.wd w1 w2
  obtain ⟨a, b, c⟩ := in_month (y := y) m1 m2 k0 k1 (by omega) (by omega)
  refine ⟨b, by omega, ?_⟩
  rw [a, b]; omega
theorem move_wk {h : Hol} {y : Int} (hv : hvB h = true) (hm : ¬ h.mv = 0) : kV h y % 7 ≤ 4 := by
  obtain ⟨_, ⟨a, b⟩, _⟩ := hvB_spec hv
  exact kepV_mod eaV h y (by omega)
end Go.Proofs.YtnemgohcjjhfmaaDoor
