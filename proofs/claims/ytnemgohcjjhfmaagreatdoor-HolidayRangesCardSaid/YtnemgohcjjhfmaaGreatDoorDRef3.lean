/- The walks of the reference's Easter. -/
import Derived.Test.YtnemgohcjjhfmaaGreatDoorDRef2
import Derived.Test.YtnemgohcjjhfmaaGreatDoorDEasPlain
namespace Go.Proofs.YtnemgohcjjhfmaaGreatDoor
open Go.RowKit

theorem e0_neg {r : Int} (h : r.tmod 30 < 0) : r.tmod 30 + 30 = r % 30 := by
  have h1 := Int.tmod_add_mul_tdiv r 30
  have h2 : -30 < r.tmod 30 := Int.lt_tmod_of_pos r (by omega)
  omega
theorem e0_pos {r : Int} (h : ¬ r.tmod 30 < 0) : r.tmod 30 = r % 30 := by
  have h1 := Int.tmod_add_mul_tdiv r 30
  have h2 : r.tmod 30 < 30 := Int.tmod_lt_of_pos r (by omega)
  omega
theorem re_a {y : Int} (h : reE0 y = 24) : reE y = reE0 y + 1 := by unfold reE; rw [if_pos h, h]; rfl
theorem re_b {y : Int} (h : reE0 y = 25) (g : 11 < reG y) : reE y = reE0 y + 1 := by unfold reE; rw [if_neg (by omega), if_pos ⟨h, g⟩, h]; rfl
theorem re_c {y : Int} (h : ¬ reE0 y = 24) (g : ¬ (reE0 y = 25 ∧ 11 < reG y)) : reE y = reE0 y := by unfold reE; rw [if_neg h, if_neg g]

set_option maxHeartbeats 4000000 in
theorem reaster_yes (y : Int) (w : World) (h0 : 1583 ≤ y) (h1 : y ≤ 9999) : Calls Tryz.prog 82 #[.int .i64 y] w (Ret (.tuple #[.int .i64 (reasN y), .int .i64 0]) w) := by
  obtain ⟨g0, g1, c0, c1, x0, x1, z0, z1, d0, d1, r0, r1, e0, e1, f0, f1, m0, m1, n0, n1⟩ := re_bd h0 h1
  have hj := jan_bd (y := y) (by omega) (by omega)
  have hk := num_le_m (y := y) (m := 1) (m' := 3) (by omega) (by omega) (by omega)
  have hq := num_le_m (y := y) (m := 3) (m' := 12) (by omega) (by omega) (by omega)
  have hr := num_year (y := y)
  have hs := jan_bd (y := y + 1) (by omega) (by omega)
  have b0 : 0 ≤ num y 3 1 := by omega
  have b1 : num y 3 1 ≤ 4000000 := by omega
  clear hj hk hq hr hs
  have rG : reG y = y % 19 + 1 := rfl
  have rC : reC y = y / 100 + 1 := rfl
  have rX : reX y = 3 * reC y / 4 - 12 := rfl
  have rZ : reZ y = (8 * reC y + 5) / 25 - 5 := rfl
  have rD : reD y = 5 * y / 4 - reX y - 10 := rfl
  have rR : reR y = 11 * reG y + 20 + reZ y - reX y := rfl
  have rE0 : reE0 y = reR y % 30 := rfl
  have ra := @re_a y
  have rb := @re_b y
  have rc := @re_c y
  have rN0 : reN0 y = if 44 - reE y < 21 then 44 - reE y + 30 else 44 - reE y := rfl
  have rN : reN y = reN0 y + 7 - (reD y + reN0 y) % 7 := rfl
  have rF : reasN y = num y 3 1 + reN y - 1 := rfl
  generalize reN y = N at *
  generalize reN0 y = M at *
  generalize reE y = F at *
  generalize reE0 y = E at *
  generalize reR y = R at *
  generalize reD y = D at *
  generalize reZ y = Z at *
  generalize reX y = X at *
  generalize reC y = C at *
  generalize reG y = G at *
  have HG := Lib.hid rG; have HC := Lib.hid rC; have HX := Lib.hid rX; have HZ := Lib.hid rZ; have HD := Lib.hid rD; have HR := Lib.hid rR; have HE0 := Lib.hid rE0
  have HA := Lib.hid ra; have HB := Lib.hid rb; have HCC := Lib.hid rc; have HN0 := Lib.hid rN0; have HN := Lib.hid rN; have HF := Lib.hid rF
  clear rG rC rX rZ rD rR rE0 ra rb rc rN0 rN rF
  go_enter Tryz.func82, Tryz.ntmps82
  go_upto_region 4 with (fail)
  rw [← HG.out]
  go_upto_region 5 with (fail)
  rw [← HC.out]
  go_upto_region 6 with (fail)
  rw [← HX.out]
  go_upto_region 7 with (fail)
  rw [← HZ.out]
  go_upto_region 8 with (fail)
  rw [← HD.out]
  by_cases hs : R.tmod 30 < 0
  all_goals
    have hs' := hs
    have HS := Lib.hid hs'; clear hs'
    have t1 : -30 < R.tmod 30 := Int.lt_tmod_of_pos R (by omega)
    have t2 : R.tmod 30 < 30 := Int.tmod_lt_of_pos R (by omega)
    rw [HR.out] at hs t1 t2
    go_upto_region 11 with (fail)
    rw [← HR.out]
    clear t1 t2
    first | rw [e0_neg HS.out] | rw [e0_pos HS.out]
    rw [← HE0.out]
    clear hs
    by_cases q1 : E = 24
    · subst q1
      have hF : F = 25 := HA.out rfl
      subst hF
      have hM : M = 49 := by rw [HN0.out]; rfl
      subst hM
      go_upto_region 17 with (fail)
      rw [show 56 - (D + 49) % 7 = N from by rw [HN.out]; omega]
      go_wp2_with fail
      refine (rnumber_any _ _ _ _ (by omega) (by omega) (by omega)).mono ?_
      rintro e w2 ⟨rfl, hb2⟩
      go_wp2
      go_ret2
      exact ⟨by rw [HF.out]; rfl, hb2⟩
    · by_cases q2 : E = 25
      · subst q2
        by_cases q3 : 11 < G
        · have hF : F = 26 := HB.out rfl q3
          subst hF
          have hM : M = 48 := by rw [HN0.out]; rfl
          subst hM
          go_upto_region 17 with (fail)
          rw [show 55 - (D + 48) % 7 = N from by rw [HN.out]; omega]
          go_wp2_with fail
          refine (rnumber_any _ _ _ _ (by omega) (by omega) (by omega)).mono ?_
          rintro e w2 ⟨rfl, hb2⟩
          go_wp2
          go_ret2
          exact ⟨by rw [HF.out]; rfl, hb2⟩
        · have hF : F = 25 := HCC.out (by omega) (fun h => q3 h.2)
          subst hF
          have hM : M = 49 := by rw [HN0.out]; rfl
          subst hM
          go_upto_region 17 with (fail)
          rw [show 56 - (D + 49) % 7 = N from by rw [HN.out]; omega]
          go_wp2_with fail
          refine (rnumber_any _ _ _ _ (by omega) (by omega) (by omega)).mono ?_
          rintro e w2 ⟨rfl, hb2⟩
          go_wp2
          go_ret2
          exact ⟨by rw [HF.out]; rfl, hb2⟩
      · have hF : F = E := HCC.out q1 (fun h => q2 h.1)
        subst hF
        by_cases q4 : 44 - F < 21
        · have hM : M = 44 - F + 30 := by rw [HN0.out, if_pos q4]
          have HM := Lib.hid hM; clear hM
          go_upto_region 16 with (fail)
          rw [← HM.out]
          go_upto_region 17 with (fail)
          rw [← HN.out]
          go_wp2_with fail
          refine (rnumber_any _ _ _ _ (by omega) (by omega) (by omega)).mono ?_
          rintro e w2 ⟨rfl, hb2⟩
          go_wp2
          go_ret2
          exact ⟨by rw [HF.out]; rfl, hb2⟩
        · have hM : M = 44 - F := by rw [HN0.out, if_neg q4]
          have HM := Lib.hid hM; clear hM
          go_upto_region 16 with (fail)
          rw [← HM.out]
          go_upto_region 17 with (fail)
          rw [← HN.out]
          go_wp2_with fail
          refine (rnumber_any _ _ _ _ (by omega) (by omega) (by omega)).mono ?_
          rintro e w2 ⟨rfl, hb2⟩
          go_wp2
          go_ret2
          exact ⟨by rw [HF.out]; rfl, hb2⟩

set_option maxHeartbeats 400000 in
theorem reaster_no (y : Int) (w : World) (h : y < 1583 ∨ 9999 < y) : Calls Tryz.prog 82 #[.int .i64 y] w (Ret (.tuple #[.int .i64 0, .int .i64 5]) w) := by
  by_cases h0 : y < 1583
  · go_enter Tryz.func82, Tryz.ntmps82
    go_wp2
    go_ret2
    exact ⟨rfl, bl_refl _⟩
  · have h1 : 9999 < y := by omega
    go_enter Tryz.func82, Tryz.ntmps82
    go_wp2
    go_ret2
    exact ⟨rfl, bl_refl _⟩

/-- Easter, or 0 and the error -/
def eaV (y : Int) : Int := if 1583 ≤ y ∧ y ≤ 9999 then easN y else 0
def eaE (y : Int) : Int := if 1583 ≤ y ∧ y ≤ 9999 then 0 else 5
theorem easter_any (y : Int) (w : World) : Calls Tryz.prog 63 #[.int .i64 y] w (Ret (.tuple #[.int .i64 (eaV y), .int .i64 (eaE y)]) w) := by
  by_cases h : 1583 ≤ y ∧ y ≤ 9999
  · unfold eaV eaE; rw [if_pos h, if_pos h]; exact easter_yes y w h.1 h.2
  · unfold eaV eaE; rw [if_neg h, if_neg h]; exact easter_no y w (by omega)
theorem reaster_any (y : Int) (w : World) : Calls Tryz.prog 82 #[.int .i64 y] w (Ret (.tuple #[.int .i64 (eaV y), .int .i64 (eaE y)]) w) := by
  by_cases h : 1583 ≤ y ∧ y ≤ 9999
  · unfold eaV eaE; rw [if_pos h, if_pos h, eas_eq h.1 h.2]; exact reaster_yes y w h.1 h.2
  · unfold eaV eaE; rw [if_neg h, if_neg h]; exact reaster_no y w (by omega)
end Go.Proofs.YtnemgohcjjhfmaaGreatDoor
