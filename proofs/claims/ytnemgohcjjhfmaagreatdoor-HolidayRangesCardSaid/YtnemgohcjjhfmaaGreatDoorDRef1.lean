/- The walks of the reference's Leap, Length, Check, start, number, Day. -/
import Derived.Test.YtnemgohcjjhfmaaGreatDoorDCheck
namespace Go.Proofs.YtnemgohcjjhfmaaGreatDoor
open Go.RowKit

theorem rleap_a {y : Int} (h : y.tmod 4 = 0) (h2 : ¬ y.tmod 100 = 0) : true = leapB y := leap_b h h2
theorem rleap_c {y : Int} (h : ¬ y.tmod 4 = 0) : (y.tmod 400 == 0) = leapB y := by
  rw [← leap_c h]
  rw [tmod0] at h
  rw [beq_eq_false_iff_ne]
  intro e
  rw [tmod0] at e
  omega
set_option maxHeartbeats 400000 in
theorem rleap_any (y : Int) (w : World) : Calls Tryz.prog 81 #[.int .i64 y] w (Pur (.bool (leapB y)) w) := by
  by_cases h : y.tmod 4 = 0
  · by_cases h2 : y.tmod 100 = 0
    · go_enter Tryz.func81, Tryz.ntmps81
      go_wp2
      go_ret
      exact ⟨ret_bool (leap_a h h2), rfl⟩
    · go_enter Tryz.func81, Tryz.ntmps81
      go_wp2
      go_ret
      exact ⟨ret_bool (leap_b h h2), rfl⟩
  · go_enter Tryz.func81, Tryz.ntmps81
    go_wp2
    go_ret
    exact ⟨ret_bool (rleap_c h), rfl⟩

set_option maxHeartbeats 2000000 in
theorem rlen_any (y m : Int) (w : World) : Calls Tryz.prog 47 #[.int .i64 y, .int .i64 m] w (Pur (.int .i64 (len y m)) w) := by
  by_cases ha : m < 1
  · go_enter Tryz.func47, Tryz.ntmps47
    go_wp2
    go_ret
    exact ⟨ret_int (len_out (by omega)).symm, rfl⟩
  by_cases hb : 12 < m
  · go_enter Tryz.func47, Tryz.ntmps47
    go_wp2
    go_ret
    exact ⟨ret_int (len_out (by omega)).symm, rfl⟩
  rcases m_cases (m := m) (by omega) (by omega) with h | h | h | h | h | h | h | h | h | h | h | h <;> subst h
  · go_enter Tryz.func47, Tryz.ntmps47
    go_wp2
    go_ret
    exact ⟨ret_int (len1 y).symm, rfl⟩
  · cases hl : leapB y
    all_goals
      have H := Lib.hid hl; clear hl
      go_enter Tryz.func47, Tryz.ntmps47
      go_wp2_with (go_at_call 81; refine (rleap_any _ _).mono ?_; rintro e w' ⟨rfl, rfl⟩; rw [H.out])
      go_ret
      exact ⟨ret_int (by rw [len2, H.out]; rfl), rfl⟩
  · go_enter Tryz.func47, Tryz.ntmps47
    go_wp2
    go_ret
    exact ⟨ret_int (len3 y).symm, rfl⟩
  · go_enter Tryz.func47, Tryz.ntmps47
    go_wp2
    go_ret
    exact ⟨ret_int (len4 y).symm, rfl⟩
  · go_enter Tryz.func47, Tryz.ntmps47
    go_wp2
    go_ret
    exact ⟨ret_int (len5 y).symm, rfl⟩
  · go_enter Tryz.func47, Tryz.ntmps47
    go_wp2
    go_ret
    exact ⟨ret_int (len6 y).symm, rfl⟩
  · go_enter Tryz.func47, Tryz.ntmps47
    go_wp2
    go_ret
    exact ⟨ret_int (len7 y).symm, rfl⟩
  · go_enter Tryz.func47, Tryz.ntmps47
    go_wp2
    go_ret
    exact ⟨ret_int (len8 y).symm, rfl⟩
  · go_enter Tryz.func47, Tryz.ntmps47
    go_wp2
    go_ret
    exact ⟨ret_int (len9 y).symm, rfl⟩
  · go_enter Tryz.func47, Tryz.ntmps47
    go_wp2
    go_ret
    exact ⟨ret_int (len10 y).symm, rfl⟩
  · go_enter Tryz.func47, Tryz.ntmps47
    go_wp2
    go_ret
    exact ⟨ret_int (len11 y).symm, rfl⟩
  · go_enter Tryz.func47, Tryz.ntmps47
    go_wp2
    go_ret
    exact ⟨ret_int (len12 y).symm, rfl⟩

set_option maxHeartbeats 2000000 in
theorem rcheck_any (y m d : Int) (w : World) : Calls Tryz.prog 114 #[.agg #[.int .i64 y, .int .i64 m, .int .i64 d]] w (Ret (.int .i64 (chk y m d)) w) := by
  by_cases h1 : y < 1
  · have d1 : decide (y < 1) = true := decide_eq_true h1
    go_enter Tryz.func114, Tryz.ntmps114
    go_wp2
    go_big_quiet (fail)
    go_wp2
    go_ret
    exact ⟨ret_int (chk_no (by omega)), bl_drewN (bl_alloc _ _) _⟩
  have d1 : decide (y < 1) = false := decide_eq_false h1
  by_cases h2 : 9999 < y
  · have d2 : decide (9999 < y) = true := decide_eq_true h2
    go_enter Tryz.func114, Tryz.ntmps114
    go_wp2
    go_big_quiet (fail)
    go_wp2
    go_ret
    exact ⟨ret_int (chk_no (by omega)), bl_drewN (bl_alloc _ _) _⟩
  have d2 : decide (9999 < y) = false := decide_eq_false h2
  by_cases h3 : m < 1
  · have d3 : decide (m < 1) = true := decide_eq_true h3
    go_enter Tryz.func114, Tryz.ntmps114
    go_wp2
    go_big_quiet (fail)
    go_wp2
    go_ret
    exact ⟨ret_int (chk_no (by omega)), bl_drewN (bl_alloc _ _) _⟩
  have d3 : decide (m < 1) = false := decide_eq_false h3
  by_cases h4 : 12 < m
  · have d4 : decide (12 < m) = true := decide_eq_true h4
    go_enter Tryz.func114, Tryz.ntmps114
    go_wp2
    go_big_quiet (fail)
    go_wp2
    go_ret
    exact ⟨ret_int (chk_no (by omega)), bl_drewN (bl_alloc _ _) _⟩
  have d4 : decide (12 < m) = false := decide_eq_false h4
  by_cases h5 : d < 1
  · have d5 : decide (d < 1) = true := decide_eq_true h5
    go_enter Tryz.func114, Tryz.ntmps114
    go_wp2
    go_big_quiet (fail)
    go_wp2
    go_ret
    exact ⟨ret_int (chk_no (by omega)), bl_drewN (bl_alloc _ _) _⟩
  have d5 : decide (d < 1) = false := decide_eq_false h5
  by_cases h6 : len y m < d
  · have d6 : decide (len y m < d) = true := decide_eq_true h6
    go_enter Tryz.func114, Tryz.ntmps114
    go_wp2
    go_big_quiet ((go_at_call 47; exact Pur.quiet (rlen_any _ _ _)))
    go_wp2
    go_ret
    exact ⟨ret_int (chk_no (by omega)), bl_drewN (bl_alloc _ _) _⟩
  have d6 : decide (len y m < d) = false := decide_eq_false h6
  go_enter Tryz.func114, Tryz.ntmps114
  go_wp2
  go_big_quiet ((go_at_call 47; exact Pur.quiet (rlen_any _ _ _)))
  go_wp2
  go_ret
  exact ⟨ret_int (chk_yes (by omega)), bl_drewN (bl_alloc _ _) _⟩

set_option maxHeartbeats 400000 in
theorem rstart_any (y : Int) (w : World) (h0 : 1 ≤ y) (h1 : y ≤ 10001) : Calls Tryz.prog 46 #[.int .i64 y] w (Pur (.int .i64 (num y 1 1)) w) := by
  go_enter Tryz.func46, Tryz.ntmps46
  go_wp2
  go_ret
  exact ⟨ret_int (by rw [num_jan]), rfl⟩

set_option maxHeartbeats 1000000 in
theorem rnumber_any (y m d : Int) (w : World) (hy : 1 ≤ y ∧ y ≤ 10000) (hm : 1 ≤ m ∧ m ≤ 12) (hd : 0 ≤ d ∧ d ≤ 40) : Calls Tryz.prog 113 #[.agg #[.int .i64 y, .int .i64 m, .int .i64 d]] w (Ret (.int .i64 (num y m d)) w) := by
  obtain ⟨hy1, hy2⟩ := hy
  obtain ⟨hm1, hm2⟩ := hm
  obtain ⟨hd1, hd2⟩ := hd
  have hs : 0 ≤ num y 1 1 ∧ num y 1 1 ≤ 4000000 := by rw [num_jan]; omega
  obtain ⟨hs1, hs2⟩ := hs
  go_enter Tryz.func113, Tryz.ntmps113
  go_wp2
  go_big_quiet ((go_at_call 46; exact Pur.quiet (rstart_any _ _ hy1 (by omega))))
  go_wp2
  go_loop [3, 4] (fun t i => ∃ k : Int, 1 ≤ k ∧ k ≤ m ∧ i = .int .i64 k ∧ t = .int .i64 (num y k d)) (fun _ i => (m - intOf i).toNat)
  case atStart => exact ⟨1, by omega, hm1, rfl, by rw [num_d (m := 1) (d := d)]; go_num⟩
  case round =>
    obtain ⟨k, hk1, hk2, rfl, rfl⟩ := hrel
    have hl := len_le y k
    have hn1 := num_le_m (y := y) (m := 1) (m' := k) (by omega) hk1 (by omega)
    have hn2 := num_le_m (y := y) (m := k) (m' := 12) (by omega) (by omega) (by omega)
    have hn3 := num_year (y := y)
    have hn4 := num_jan (y := y + 1)
    have hn5 := num_d (y := y) (m := k) (d := d)
    by_cases hlt : k < m
    · have hsn := num_succ (y := y) (m := k) (d := d) hk1 (by omega)
      have HS := Lib.hid hsn; clear hsn
      go_wp2_with (go_at_call 47; refine (rlen_any _ _ _).mono ?_; rintro e w' ⟨rfl, rfl⟩)
      go_round
      case rel => exact ⟨k + 1, by omega, by omega, rfl, by rw [HS.out]; go_num⟩
      case measure => simp [intOf]; omega
    · obtain rfl : k = m := by omega
      go_wp2
      go_ret
      exact ⟨rfl, bl_drewN (bl_alloc _ _) _⟩

set_option maxHeartbeats 400000 in
theorem rday_any (y m d : Int) (w : World) : Calls Tryz.prog 83 #[.agg #[.int .i64 y, .int .i64 m, .int .i64 d]] w (Ret (.tuple #[.int .i64 (dayN y m d), .int .i64 (chk y m d)]) w) := by
  cases hv : validB y m d
  · have hc : chk y m d = 5 := by unfold chk; rw [hv]; rfl
    have hd : dayN y m d = 0 := by unfold dayN; rw [hv]; rfl
    have HC := Lib.hid hc; have HD := Lib.hid hd; clear hc hd hv
    go_enter Tryz.func83, Tryz.ntmps83
    go_wp2_with (go_at_call 114; refine (rcheck_any _ _ _ _).mono ?_; rintro e w1 ⟨rfl, hb1⟩; rw [HC.out])
    go_ret2
    exact ⟨by rw [HC.out, HD.out]; rfl, bl_trans (bl_alloc _ _) hb1⟩
  · have hc : chk y m d = 0 := by unfold chk; rw [hv]; rfl
    have hd : dayN y m d = num y m d := by unfold dayN; rw [hv]; rfl
    rw [valid_iff] at hv
    have hl := len_le y m
    have HC := Lib.hid hc; have HD := Lib.hid hd; clear hc hd
    go_enter Tryz.func83, Tryz.ntmps83
    go_wp2_with fail
    refine (rcheck_any _ _ _ _).mono ?_
    rintro e w1 ⟨rfl, hb1⟩
    rw [HC.out]
    have hc1 : w1.cell? ⟨w.heap.size, 0, none⟩ = some (.int .i64 y) := (hb1.cell (p := ⟨w.heap.size, 0, none⟩) (by simp)).trans (by simp)
    have hc2 : w1.cell? ⟨w.heap.size, 1, none⟩ = some (.int .i64 m) := (hb1.cell (p := ⟨w.heap.size, 1, none⟩) (by simp)).trans (by simp)
    have hc3 : w1.cell? ⟨w.heap.size, 2, none⟩ = some (.int .i64 d) := (hb1.cell (p := ⟨w.heap.size, 2, none⟩) (by simp)).trans (by simp)
    go_wp2_with fail
    refine (rnumber_any _ _ _ _ (by omega) (by omega) (by omega)).mono ?_
    rintro e w2 ⟨rfl, hb2⟩
    go_wp2
    go_ret2
    exact ⟨by rw [HC.out, HD.out]; rfl, bl_trans (bl_trans (bl_alloc _ _) hb1) hb2⟩
end Go.Proofs.YtnemgohcjjhfmaaGreatDoor
