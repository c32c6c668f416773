/- Several texts in one, each with its own word at its head. Conditions: stated there. -/
import Derived.Test.YtaiiibbnjmjamaaGreatDoorDBase
import Derived.Test.YtaiiibbnjmjamaaGreatDoorDPlain
/- The walks of date.Leap, date.Length: what they return, at every world. -/
namespace Go.Proofs.YtaiiibbnjmjamaaGreatDoor
open Go.RowKit

theorem tmod0 (y : Int) (k : Int) : y.tmod k = 0 ↔ y % k = 0 :=
  ⟨fun h => Int.emod_eq_zero_of_dvd (Int.dvd_of_tmod_eq_zero h), fun h => Int.tmod_eq_zero_of_dvd (Int.dvd_of_emod_eq_zero h)⟩
theorem leap_a {y : Int} (h : y.tmod 4 = 0) (h2 : y.tmod 100 = 0) : (y.tmod 400 == 0) = leapB y := by
  have e3 := tmod0 y 400
  rw [tmod0] at h h2
  unfold leapB
  rw [Bool.eq_iff_iff]
  simp [h, h2, e3]
theorem leap_b {y : Int} (h : y.tmod 4 = 0) (h2 : ¬ y.tmod 100 = 0) : true = leapB y := by
  rw [tmod0] at h h2
  unfold leapB
  simp [h, h2]
theorem leap_c {y : Int} (h : ¬ y.tmod 4 = 0) : false = leapB y := by
  rw [tmod0] at h
  unfold leapB
  simp [h]

set_option maxHeartbeats 400000 in
theorem leap_any (y : Int) (w : World) : Calls Tryz.prog 64 #[.int .i64 y] w (Pur (.bool (leapB y)) w) := by
  by_cases h : y.tmod 4 = 0
  · by_cases h2 : y.tmod 100 = 0
    · go_enter Tryz.func64, Tryz.ntmps64
      go_wp2
      go_ret
      exact ⟨ret_bool (leap_a h h2), rfl⟩
    · go_enter Tryz.func64, Tryz.ntmps64
      go_wp2
      go_ret
      exact ⟨ret_bool (leap_b h h2), rfl⟩
  · go_enter Tryz.func64, Tryz.ntmps64
    go_wp2
    go_ret
    exact ⟨ret_bool (leap_c h), rfl⟩

set_option maxHeartbeats 400000 in
theorem len_any (y m : Int) (w : World) (hG : Good w) : Calls Tryz.prog 39 #[.int .i64 y, .int .i64 m] w (Pur (.int .i64 (len y m)) w) := by
  by_cases h1 : m < 1
  · go_enter Tryz.func39, Tryz.ntmps39
    go_wp2
    go_ret
    exact ⟨ret_int (by simp [len, h1]), rfl⟩
  · by_cases h2 : 12 < m
    · go_enter Tryz.func39, Tryz.ntmps39
      go_wp2
      go_ret
      exact ⟨ret_int (by simp [len, h2]), rfl⟩
    · by_cases h3 : m = 2
      · subst h3
        cases hl : leapB y
        · have hc := hG.2 2 (by omega)
          have H := Lib.hid hl; clear hl
          go_enter Tryz.func39, Tryz.ntmps39
          go_wp2_with (go_at_call 64; refine (leap_any _ _).mono ?_; rintro e w' ⟨rfl, rfl⟩; rw [H.out])
          go_ret
          exact ⟨ret_int (by simp [len, H.out]), rfl⟩
        · have H := Lib.hid hl; clear hl
          go_enter Tryz.func39, Tryz.ntmps39
          go_wp2_with (go_at_call 64; refine (leap_any _ _).mono ?_; rintro e w' ⟨rfl, rfl⟩; rw [H.out])
          go_ret
          exact ⟨ret_int (by simp [len, H.out]), rfl⟩
      · obtain ⟨k, rfl⟩ := Int.eq_ofNat_of_zero_le (a := m) (by omega)
        have hc := hG.2 k (by omega)
        go_enter Tryz.func39, Tryz.ntmps39
        go_wp2
        go_ret
        exact ⟨ret_int (by simp [len, h3]; omega), rfl⟩
end Go.Proofs.YtaiiibbnjmjamaaGreatDoor
/- The walks of date.Check, date.number, date.Day: what they return, at every world. -/
namespace Go.Proofs.YtaiiibbnjmjamaaGreatDoor
open Go.RowKit

set_option maxHeartbeats 2000000 in
theorem check_any (y m d : Int) (w : World) (hG : Good w) : Calls Tryz.prog 60 #[.agg #[.int .i64 y, .int .i64 m, .int .i64 d]] w (Ret (.int .i64 (chk y m d)) w) := by
  have hG1 := hG.alloc (.cells #[.int .i64 y, .int .i64 m, .int .i64 d] 67)
  by_cases h1 : y < 1
  · have d1 : decide (y < 1) = true := decide_eq_true h1
    go_enter Tryz.func60, Tryz.ntmps60
    go_wp2
    go_big_quiet (fail)
    go_wp2
    go_ret
    exact ⟨ret_int (chk_no (by omega)), bl_drewN (bl_alloc _ _) _⟩
  have d1 : decide (y < 1) = false := decide_eq_false h1
  by_cases h2 : 9999 < y
  · have d2 : decide (9999 < y) = true := decide_eq_true h2
    go_enter Tryz.func60, Tryz.ntmps60
    go_wp2
    go_big_quiet (fail)
    go_wp2
    go_ret
    exact ⟨ret_int (chk_no (by omega)), bl_drewN (bl_alloc _ _) _⟩
  have d2 : decide (9999 < y) = false := decide_eq_false h2
  by_cases h3 : m < 1
  · have d3 : decide (m < 1) = true := decide_eq_true h3
    go_enter Tryz.func60, Tryz.ntmps60
    go_wp2
    go_big_quiet (fail)
    go_wp2
    go_ret
    exact ⟨ret_int (chk_no (by omega)), bl_drewN (bl_alloc _ _) _⟩
  have d3 : decide (m < 1) = false := decide_eq_false h3
  by_cases h4 : 12 < m
  · have d4 : decide (12 < m) = true := decide_eq_true h4
    go_enter Tryz.func60, Tryz.ntmps60
    go_wp2
    go_big_quiet (fail)
    go_wp2
    go_ret
    exact ⟨ret_int (chk_no (by omega)), bl_drewN (bl_alloc _ _) _⟩
  have d4 : decide (12 < m) = false := decide_eq_false h4
  by_cases h5 : d < 1
  · have d5 : decide (d < 1) = true := decide_eq_true h5
    go_enter Tryz.func60, Tryz.ntmps60
    go_wp2
    go_big_quiet (fail)
    go_wp2
    go_ret
    exact ⟨ret_int (chk_no (by omega)), bl_drewN (bl_alloc _ _) _⟩
  have d5 : decide (d < 1) = false := decide_eq_false h5
  by_cases h6 : len y m < d
  · have d6 : decide (len y m < d) = true := decide_eq_true h6
    go_enter Tryz.func60, Tryz.ntmps60
    go_wp2
    go_big_quiet ((go_at_call 39; exact Pur.quiet (len_any _ _ _ (hG1.drewN _))))
    go_wp2
    go_ret
    exact ⟨ret_int (chk_no (by omega)), bl_drewN (bl_alloc _ _) _⟩
  have d6 : decide (len y m < d) = false := decide_eq_false h6
  go_enter Tryz.func60, Tryz.ntmps60
  go_wp2
  go_big_quiet ((go_at_call 39; exact Pur.quiet (len_any _ _ _ (hG1.drewN _))))
  go_wp2
  go_ret
  exact ⟨ret_int (chk_yes (by omega)), bl_drewN (bl_alloc _ _) _⟩

set_option maxHeartbeats 400000 in
theorem number_any (y m d : Int) (w : World) (hy : 1 ≤ y ∧ y ≤ 10000) (hm : 1 ≤ m ∧ m ≤ 12) (hd : 0 ≤ d ∧ d ≤ 40) : Calls Tryz.prog 61 #[.agg #[.int .i64 y, .int .i64 m, .int .i64 d]] w (Ret (.int .i64 (num y m d)) w) := by
  obtain ⟨hy1, hy2⟩ := hy
  obtain ⟨hm1, hm2⟩ := hm
  obtain ⟨hd1, hd2⟩ := hd
  by_cases h : m - 3 < 0
  · go_enter Tryz.func61, Tryz.ntmps61
    go_wp2
    go_quiet (fail)
    go_wp2
    go_ret
    exact ⟨ret_int (by unfold num; omega), bl_drewN (bl_alloc _ _) _⟩
  · go_enter Tryz.func61, Tryz.ntmps61
    go_wp2
    go_quiet (fail)
    go_wp2
    go_ret
    exact ⟨ret_int (by unfold num; omega), bl_drewN (bl_alloc _ _) _⟩

set_option maxHeartbeats 400000 in
theorem day_any (y m d : Int) (w : World) (hG : Good w) : Calls Tryz.prog 29 #[.agg #[.int .i64 y, .int .i64 m, .int .i64 d]] w (Ret (.tuple #[.int .i64 (dayN y m d), .int .i64 (chk y m d)]) w) := by
  have hG1 := hG.alloc (.cells #[.int .i64 y, .int .i64 m, .int .i64 d] 67)
  cases hv : validB y m d
  · have hc : chk y m d = 5 := by unfold chk; rw [hv]; rfl
    have hd : dayN y m d = 0 := by unfold dayN; rw [hv]; rfl
    have HC := Lib.hid hc; have HD := Lib.hid hd; clear hc hd hv
    go_enter Tryz.func29, Tryz.ntmps29
    go_wp2_with (go_at_call 60; refine (check_any _ _ _ _ hG1).mono ?_; rintro e w1 ⟨rfl, hb1⟩; rw [HC.out])
    go_ret2
    exact ⟨by rw [HC.out, HD.out]; rfl, bl_trans (bl_alloc _ _) hb1⟩
  · have hc : chk y m d = 0 := by unfold chk; rw [hv]; rfl
    have hd : dayN y m d = num y m d := by unfold dayN; rw [hv]; rfl
    rw [valid_iff] at hv
    have hl := len_le y m
    have HC := Lib.hid hc; have HD := Lib.hid hd; clear hc hd
    go_enter Tryz.func29, Tryz.ntmps29
    go_wp2_with fail
    refine (check_any _ _ _ _ hG1).mono ?_
    rintro e w1 ⟨rfl, hb1⟩
    rw [HC.out]
    have hc1 : w1.cell? ⟨w.heap.size, 0, none⟩ = some (.int .i64 y) := (hb1.cell (p := ⟨w.heap.size, 0, none⟩) (by simp)).trans (by simp)
    have hc2 : w1.cell? ⟨w.heap.size, 1, none⟩ = some (.int .i64 m) := (hb1.cell (p := ⟨w.heap.size, 1, none⟩) (by simp)).trans (by simp)
    have hc3 : w1.cell? ⟨w.heap.size, 2, none⟩ = some (.int .i64 d) := (hb1.cell (p := ⟨w.heap.size, 2, none⟩) (by simp)).trans (by simp)
    go_wp2_with fail
    refine (number_any _ _ _ _ (by omega) (by omega) (by omega)).mono ?_
    rintro e w2 ⟨rfl, hb2⟩
    go_wp2
    go_ret2
    exact ⟨by rw [HC.out, HD.out]; rfl, bl_trans (bl_trans (bl_alloc _ _) hb1) hb2⟩
end Go.Proofs.YtaiiibbnjmjamaaGreatDoor
/- Nothing: this seat holds none of the reference's dates. -/
namespace Go.Proofs.YtaiiibbnjmjamaaGreatDoor
end Go.Proofs.YtaiiibbnjmjamaaGreatDoor
/- Plain: the program's Easter and the reference's Easter are one, for every year of the range, by the kernel's reckoning. No program in sight. -/
namespace Go.Proofs.YtaiiibbnjmjamaaGreatDoor

/- Easter by the cycle: the golden number, the century, and so on -/
def eaA (y : Int) : Int := y % 19
def eaB (y : Int) : Int := y / 100
def eaC (y : Int) : Int := y % 100
def eaG (y : Int) : Int := (eaB y - (eaB y + 8) / 25 + 1) / 3
def eaH (y : Int) : Int := (19 * eaA y + eaB y - eaB y / 4 - eaG y + 15) % 30
def eaL (y : Int) : Int := (32 + 2 * (eaB y % 4) + 2 * (eaC y / 4) - eaH y - eaC y % 4) % 7
def eaN (y : Int) : Int := eaH y + eaL y - 7 * ((eaA y + 11 * eaH y + 22 * eaL y) / 451) + 114
def easN (y : Int) : Int := num y (eaN y / 31) (eaN y % 31 + 1)

theorem ea_bd {y : Int} (h0 : 1583 ≤ y) (h1 : y ≤ 9999) : 0 ≤ eaA y ∧ eaA y ≤ 18 ∧ 15 ≤ eaB y ∧ eaB y ≤ 99 ∧ 0 ≤ eaC y ∧ eaC y ≤ 99 ∧ 0 ≤ eaG y ∧ eaG y ≤ 33 ∧ 0 ≤ eaH y ∧ eaH y ≤ 29 ∧ 0 ≤ eaL y ∧ eaL y ≤ 6 ∧ 107 ≤ eaN y ∧ eaN y ≤ 149 ∧ 0 ≤ 19 * eaA y + eaB y - eaB y / 4 - eaG y + 15 := by
  have a : 0 ≤ eaA y ∧ eaA y ≤ 18 := by unfold eaA; omega
  have b : 15 ≤ eaB y ∧ eaB y ≤ 99 := by unfold eaB; omega
  have c : 0 ≤ eaC y ∧ eaC y ≤ 99 := by unfold eaC; omega
  have g : 0 ≤ eaG y ∧ eaG y ≤ 33 := by unfold eaG; omega
  have h : 0 ≤ eaH y ∧ eaH y ≤ 29 := by unfold eaH; omega
  have l : 0 ≤ eaL y ∧ eaL y ≤ 6 := by unfold eaL; omega
  have n : 107 ≤ eaN y ∧ eaN y ≤ 149 := by unfold eaN; omega
  have p : 0 ≤ 19 * eaA y + eaB y - eaB y / 4 - eaG y + 15 := by unfold eaG; omega
  omega

/- Easter by the epact -/
def reG (y : Int) : Int := y % 19 + 1
def reC (y : Int) : Int := y / 100 + 1
def reX (y : Int) : Int := 3 * reC y / 4 - 12
def reZ (y : Int) : Int := (8 * reC y + 5) / 25 - 5
def reD (y : Int) : Int := 5 * y / 4 - reX y - 10
def reR (y : Int) : Int := 11 * reG y + 20 + reZ y - reX y
def reE0 (y : Int) : Int := reR y % 30
def reE (y : Int) : Int := if reE0 y = 24 then 25 else if reE0 y = 25 ∧ 11 < reG y then 26 else reE0 y
def reN0 (y : Int) : Int := if 44 - reE y < 21 then 44 - reE y + 30 else 44 - reE y
def reN (y : Int) : Int := reN0 y + 7 - (reD y + reN0 y) % 7
def reasN (y : Int) : Int := num y 3 1 + reN y - 1

theorem re_bd {y : Int} (h0 : 1583 ≤ y) (h1 : y ≤ 9999) : 1 ≤ reG y ∧ reG y ≤ 19 ∧ 16 ≤ reC y ∧ reC y ≤ 100 ∧ 0 ≤ reX y ∧ reX y ≤ 63 ∧ 0 ≤ reZ y ∧ reZ y ≤ 27 ∧ 1900 ≤ reD y ∧ reD y ≤ 12500 ∧ -40 ≤ reR y ∧ reR y ≤ 260 ∧ 0 ≤ reE0 y ∧ reE0 y ≤ 29 ∧ 0 ≤ reE y ∧ reE y ≤ 29 ∧ 15 ≤ reN0 y ∧ reN0 y ≤ 53 ∧ 16 ≤ reN y ∧ reN y ≤ 60 := by
  have a : 1 ≤ reG y ∧ reG y ≤ 19 := by unfold reG; omega
  have b : 16 ≤ reC y ∧ reC y ≤ 100 := by unfold reC; omega
  have c : 0 ≤ reX y ∧ reX y ≤ 63 := by unfold reX; omega
  have d : 0 ≤ reZ y ∧ reZ y ≤ 27 := by unfold reZ; omega
  have e : 1900 ≤ reD y ∧ reD y ≤ 12500 := by unfold reD; omega
  have f : -40 ≤ reR y ∧ reR y ≤ 260 := by unfold reR; omega
  have g : 0 ≤ reE0 y ∧ reE0 y ≤ 29 := by unfold reE0; omega
  have h : 0 ≤ reE y ∧ reE y ≤ 29 := by unfold reE; split <;> (try split) <;> omega
  have i : 15 ≤ reN0 y ∧ reN0 y ≤ 53 := by unfold reN0; split <;> omega
  have j : 16 ≤ reN y ∧ reN y ≤ 60 := by unfold reN; omega
  omega

/-- one year: the two agree, on a Sunday from March 22 to April 25 -/
def easOk (y : Int) : Bool := decide (reN y = eaN y - 92) && decide (easN y % 7 = 6) && decide (22 ≤ reN y) && decide (reN y ≤ 56)
def easAll : Nat → Bool
  | 0 => true
  | k + 1 => easOk (1583 + k) && easAll k
theorem easAll_spec : ∀ (k : Nat), easAll k = true → ∀ i : Nat, i < k → easOk (1583 + i) = true
  | 0, _, i, hi => by omega
  | k + 1, h, i, hi => by
    unfold easAll at h
    rw [Bool.and_eq_true] at h
    by_cases e : i = k
    · subst e; exact h.1
    · exact easAll_spec k h.2 i (by omega)
theorem easAll_run : easAll 8417 = true := by decide +kernel
theorem eas_year {y : Int} (h0 : 1583 ≤ y) (h1 : y ≤ 9999) : reN y = eaN y - 92 ∧ easN y % 7 = 6 ∧ 22 ≤ reN y ∧ reN y ≤ 56 := by
  have h := easAll_spec 8417 easAll_run (y - 1583).toNat (by omega)
  have e : (1583 : Int) + ((y - 1583).toNat : Nat) = y := by omega
  rw [e] at h
  unfold easOk at h
  simp only [Bool.and_eq_true, decide_eq_true_eq] at h
  omega
theorem eas_eq {y : Int} (h0 : 1583 ≤ y) (h1 : y ≤ 9999) : easN y = reasN y := by
  have a := eas_year h0 h1
  have b := ea_bd h0 h1
  unfold easN reasN
  have s := num_succ (y := y) (m := 3) (d := eaN y % 31 + 1) (by omega) (by omega)
  rw [len3] at s
  have p := num_d (y := y) (m := 3) (d := eaN y % 31 + 1)
  have q : eaN y / 31 = 3 ∨ eaN y / 31 = 4 := by omega
  rcases q with q | q
  · rw [q]; omega
  · rw [q, show (4 : Int) = 3 + 1 from rfl]; omega
end Go.Proofs.YtaiiibbnjmjamaaGreatDoor
/- The walks of date.Weekday and date.Easter. -/
namespace Go.Proofs.YtaiiibbnjmjamaaGreatDoor
open Go.RowKit

theorem wd_bd (n : Int) : -7 < n.tmod 7 ∧ n.tmod 7 < 7 := ⟨Int.lt_tmod_of_pos n (by omega), Int.tmod_lt_of_pos n (by omega)⟩
theorem wd_eq (n : Int) : (n.tmod 7 + 7) % 7 = n % 7 := by
  have h := Int.tmod_add_mul_tdiv n 7
  omega

set_option maxHeartbeats 400000 in
theorem weekday_any (n : Int) (w : World) : Calls Tryz.prog 17 #[.int .i64 n] w (Pur (.int .i64 (n % 7)) w) := by
  obtain ⟨h1, h2⟩ := wd_bd n
  go_enter Tryz.func17, Tryz.ntmps17
  go_wp2
  go_ret
  exact ⟨ret_int (wd_eq n), rfl⟩

set_option maxHeartbeats 1000000 in
theorem easter_yes (y : Int) (w : World) (h0 : 1583 ≤ y) (h1 : y ≤ 9999) : Calls Tryz.prog 44 #[.int .i64 y] w (Ret (.tuple #[.int .i64 (easN y), .int .i64 0]) w) := by
  obtain ⟨a0, a1, b0, b1, c0, c1, g0, g1, k0, k1, l0, l1, n0, n1, p0⟩ := ea_bd h0 h1
  have rA : eaA y = y % 19 := rfl
  have rB : eaB y = y / 100 := rfl
  have rC : eaC y = y % 100 := rfl
  have rG : eaG y = (eaB y - (eaB y + 8) / 25 + 1) / 3 := rfl
  have rH : eaH y = (19 * eaA y + eaB y - eaB y / 4 - eaG y + 15) % 30 := rfl
  have rL : eaL y = (32 + 2 * (eaB y % 4) + 2 * (eaC y / 4) - eaH y - eaC y % 4) % 7 := rfl
  have rN : eaN y = eaH y + eaL y - 7 * ((eaA y + 11 * eaH y + 22 * eaL y) / 451) + 114 := rfl
  have rE : easN y = num y (eaN y / 31) (eaN y % 31 + 1) := rfl
  generalize eaN y = N at *
  generalize eaL y = L at *
  generalize eaH y = H at *
  generalize eaG y = G at *
  generalize eaC y = C at *
  generalize eaB y = B at *
  generalize eaA y = A at *
  have HA := Lib.hid rA; have HB := Lib.hid rB; have HC := Lib.hid rC; have HG := Lib.hid rG; have HH := Lib.hid rH; have HL := Lib.hid rL; have HN := Lib.hid rN; have HE := Lib.hid rE
  clear rA rB rC rG rH rL rN rE
  go_enter Tryz.func44, Tryz.ntmps44
  go_upto_region 4 with (fail)
  rw [← HA.out, ← HB.out, ← HC.out]
  go_upto_region 5 with (fail)
  rw [← HG.out]
  go_upto_region 6 with (fail)
  rw [← HH.out]
  go_upto_region 7 with (fail)
  rw [← HL.out]
  go_upto_region 8 with (fail)
  rw [← HN.out]
  go_wp2_with fail
  refine (number_any _ _ _ _ (by omega) (by omega) (by omega)).mono ?_
  rintro e w2 ⟨rfl, hb2⟩
  go_wp2
  go_ret2
  exact ⟨by rw [HE.out]; rfl, hb2⟩

set_option maxHeartbeats 400000 in
theorem easter_no (y : Int) (w : World) (h : y < 1583 ∨ 9999 < y) : Calls Tryz.prog 44 #[.int .i64 y] w (Ret (.tuple #[.int .i64 0, .int .i64 5]) w) := by
  by_cases h0 : y < 1583
  · go_enter Tryz.func44, Tryz.ntmps44
    go_wp2
    go_ret2
    exact ⟨rfl, bl_refl _⟩
  · have h1 : 9999 < y := by omega
    go_enter Tryz.func44, Tryz.ntmps44
    go_wp2
    go_ret2
    exact ⟨rfl, bl_refl _⟩
end Go.Proofs.YtaiiibbnjmjamaaGreatDoor
/- Plain words on years. Conditions: stated at each. -/
namespace Go.Proofs.YtaiiibbnjmjamaaGreatDoor
open Go.RowKit

theorem year_guess {n : Int} (h0 : 0 ≤ n) (h1 : n ≤ 3652058) : num (n / 366 + 1) 1 1 ≤ n ∧ 1 ≤ n / 366 + 1 ∧ n / 366 + 1 ≤ 9999 := by rw [num_jan]; omega
theorem year_last {y n : Int} (h1 : n ≤ 3652058) (h : num (y + 1) 1 1 ≤ n) : y + 1 ≤ 9999 := by rw [num_jan] at h; omega
theorem jan_bd {y : Int} (h0 : 1 ≤ y) (h1 : y ≤ 10001) : 0 ≤ num y 1 1 ∧ num y 1 1 ≤ 4000000 := by rw [num_jan]; omega
end Go.Proofs.YtaiiibbnjmjamaaGreatDoor
/- Easter of any year. Conditions: none. -/
namespace Go.Proofs.YtaiiibbnjmjamaaGreatDoor
open Go.RowKit

/-- Easter, or 0 and the error -/
def eaV (y : Int) : Int := if 1583 ≤ y ∧ y ≤ 9999 then easN y else 0
def eaE (y : Int) : Int := if 1583 ≤ y ∧ y ≤ 9999 then 0 else 5
theorem easter_any (y : Int) (w : World) : Calls Tryz.prog 44 #[.int .i64 y] w (Ret (.tuple #[.int .i64 (eaV y), .int .i64 (eaE y)]) w) := by
  by_cases h : 1583 ≤ y ∧ y ≤ 9999
  · unfold eaV eaE; rw [if_pos h, if_pos h]; exact easter_yes y w h.1 h.2
  · unfold eaV eaE; rw [if_neg h, if_neg h]; exact easter_no y w (by omega)
end Go.Proofs.YtaiiibbnjmjamaaGreatDoor
/- The walk of date.Of: the date of a day, at every number. -/
namespace Go.Proofs.YtaiiibbnjmjamaaGreatDoor
open Go.RowKit
set_option maxHeartbeats 1000000 in
theorem of_yes (n : Int) (w : World) (h0 : 0 ≤ n) (h1 : n ≤ 3652058) : Calls Tryz.prog 23 #[.int .i64 n] w (Ret (.tuple #[.agg #[.int .i64 (ofY n), .int .i64 (ofM n), .int .i64 (ofD n)], .int .i64 0]) w) := by
  go_enter Tryz.func23, Tryz.ntmps23
  go_upto_region 6 with (fail)
  have b1 : 0 ≤ (n + 306) % 146097 := by omega
  have b2 : (n + 306) % 146097 ≤ 146096 := by omega
  have b3 : 0 ≤ (n + 306) / 146097 := by omega
  have b4 : (n + 306) / 146097 ≤ 24 := by omega
  have bY := yoe_bd b1 b2
  have bQ := doy_bd b1 b2
  have bq : doyOf ((n + 306) % 146097) ≤ 365 := by have := bQ.2; split at this <;> omega
  have bM := mp_bd bQ.1 bq
  have eY : yoeOf ((n + 306) % 146097) = ((n + 306) % 146097 - (n + 306) % 146097 / 1460 + (n + 306) % 146097 / 36524 - (n + 306) % 146097 / 146096) / 365 := rfl
  have eQ : doyOf ((n + 306) % 146097) = (n + 306) % 146097 - (365 * yoeOf ((n + 306) % 146097) + yoeOf ((n + 306) % 146097) / 4 - yoeOf ((n + 306) % 146097) / 100) := rfl
  have eM : mpOf (doyOf ((n + 306) % 146097)) = (5 * doyOf ((n + 306) % 146097) + 2) / 153 := rfl
  have rY : ofY n = yoeOf ((n + 306) % 146097) + 400 * ((n + 306) / 146097) + if 10 ≤ mpOf (doyOf ((n + 306) % 146097)) then 1 else 0 := rfl
  have rM : ofM n = if 10 ≤ mpOf (doyOf ((n + 306) % 146097)) then mpOf (doyOf ((n + 306) % 146097)) - 9 else mpOf (doyOf ((n + 306) % 146097)) + 3 := rfl
  have rD : ofD n = doyOf ((n + 306) % 146097) - (153 * mpOf (doyOf ((n + 306) % 146097)) + 2) / 5 + 1 := rfl
  generalize mpOf (doyOf ((n + 306) % 146097)) = M at eM rY rM rD bM
  generalize doyOf ((n + 306) % 146097) = Q at eQ eM rD bQ bq
  generalize yoeOf ((n + 306) % 146097) = Y at eY eQ rY bY bQ
  generalize (n + 306) % 146097 = D at *
  generalize (n + 306) / 146097 = E at *
  have HY := Lib.hid eY; have HQ := Lib.hid eQ; have HM := Lib.hid eM; have HrY := Lib.hid rY; have HrM := Lib.hid rM; have HrD := Lib.hid rD
  clear eY eQ eM rY rM rD
  obtain ⟨c1, c2⟩ := bY
  obtain ⟨c3, c4⟩ := bM
  have c5 := bQ.1
  clear bQ
  go_upto_region 7 with (fail)
  rw [← HY.out]
  go_upto_region 8 with (fail)
  rw [← HQ.out]
  go_upto_region 9 with (fail)
  rw [← HM.out]
  by_cases h : 10 ≤ M
  · go_wp2
    rw [HrY.out, HrM.out, HrD.out, if_pos h, if_pos h]
    exact bodyPost_ret (v := .tuple #[.agg #[.int .i64 (Y + 400 * E + 1), .int .i64 (M - 9), .int .i64 (Q - (153 * M + 2) / 5 + 1)], .int .i64 0]) (by simp [results, Tryz.results23, go_sem]) rfl ⟨rfl, bl_trans (bl_alloc _ _) (bl_alloc _ _)⟩
  · go_wp2
    rw [HrY.out, HrM.out, HrD.out, if_neg (by omega), if_neg (by omega), Int.add_zero]
    exact bodyPost_ret (v := .tuple #[.agg #[.int .i64 (Y + 400 * E), .int .i64 (M + 3), .int .i64 (Q - (153 * M + 2) / 5 + 1)], .int .i64 0]) (by simp [results, Tryz.results23, go_sem]) rfl ⟨rfl, bl_trans (bl_alloc _ _) (bl_alloc _ _)⟩

set_option maxHeartbeats 400000 in
theorem of_no (n : Int) (w : World) (h : n < 0 ∨ 3652058 < n) : Calls Tryz.prog 23 #[.int .i64 n] w (Ret (.tuple #[.agg #[.int .i64 0, .int .i64 0, .int .i64 0], .int .i64 5]) w) := by
  by_cases h0 : n < 0
  · go_enter Tryz.func23, Tryz.ntmps23
    go_wp2
    exact bodyPost_ret (v := .tuple #[.agg #[.int .i64 0, .int .i64 0, .int .i64 0], .int .i64 5]) (by simp [results, Tryz.results23, go_sem]) rfl ⟨rfl, bl_alloc _ _⟩
  · have h1 : 3652058 < n := by omega
    go_enter Tryz.func23, Tryz.ntmps23
    go_wp2
    exact bodyPost_ret (v := .tuple #[.agg #[.int .i64 0, .int .i64 0, .int .i64 0], .int .i64 5]) (by simp [results, Tryz.results23, go_sem]) rfl ⟨rfl, bl_alloc _ _⟩

/-- what Of returns: the date of the day, or the zero date and the error -/
def okB (n : Int) : Bool := decide (0 ≤ n ∧ n ≤ 3652058)
def oY (n : Int) : Int := if okB n then ofY n else 0
def oM (n : Int) : Int := if okB n then ofM n else 0
def oD (n : Int) : Int := if okB n then ofD n else 0
def oE (n : Int) : Int := if okB n then 0 else 5
theorem of_any (n : Int) (w : World) : Calls Tryz.prog 23 #[.int .i64 n] w (Ret (.tuple #[.agg #[.int .i64 (oY n), .int .i64 (oM n), .int .i64 (oD n)], .int .i64 (oE n)]) w) := by
  by_cases h : 0 ≤ n ∧ n ≤ 3652058
  · have e : okB n = true := decide_eq_true h
    unfold oY oM oD oE
    rw [e]
    exact of_yes n w h.1 h.2
  · have e : okB n = false := decide_eq_false h
    unfold oY oM oD oE
    rw [e]
    exact of_no n w (by omega)

end Go.Proofs.YtaiiibbnjmjamaaGreatDoor
