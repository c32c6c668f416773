/- The walks of date.Leap, date.Length: what they return, at every world. -/
import Derived.Test.YtiefjnhnceipmaaDoorDBase
namespace Go.Proofs.YtiefjnhnceipmaaDoor
open Go.RowKit

theorem tmod0 (y : Int) (k : Int) : y.tmod k = 0 ↔ y % k = 0 :=
  ⟨fun h => Int.emod_eq_zero_of_dvd (Int.dvd_of_tmod_eq_zero h), fun h => Int.tmod_eq_zero_of_dvd (Int.dvd_of_emod_eq_zero h)⟩
theorem leap_a {y : Int} (h : y.tmod 4 = 0) (h2 : y.tmod 100 = 0) : (y.tmod 400 == 0) = leapB y := by
  have e3 := tmod0 y 400
  rw [tmod0] at h h2
  unfold leapB
  rw [Bool.eq_iff_iff]
  simp [h, h2, e3]
theorem leap_b {y : Int} (h : y.tmod 4 = 0) (h2 : ¬ y.tmod 100 = 0) : true = leapB y := by
  rw [tmod0] at h h2
  unfold leapB
  simp [h, h2]
theorem leap_c {y : Int} (h : ¬ y.tmod 4 = 0) : false = leapB y := by
  rw [tmod0] at h
  unfold leapB
  simp [h]

set_option maxHeartbeats 400000 in
theorem leap_any (y : Int) (w : World) : Calls Tryd.prog 58 #[.int .i64 y] w (Pur (.bool (leapB y)) w) := by
  by_cases h : y.tmod 4 = 0
  · by_cases h2 : y.tmod 100 = 0
    · go_enter Tryd.func58, Tryd.ntmps58
      go_wp2
      go_ret
      exact ⟨ret_bool (leap_a h h2), rfl⟩
    · go_enter Tryd.func58, Tryd.ntmps58
      go_wp2
      go_ret
      exact ⟨ret_bool (leap_b h h2), rfl⟩
  · go_enter Tryd.func58, Tryd.ntmps58
    go_wp2
    go_ret
    exact ⟨ret_bool (leap_c h), rfl⟩

set_option maxHeartbeats 400000 in
theorem len_any (y m : Int) (w : World) (hG : Good w) : Calls Tryd.prog 44 #[.int .i64 y, .int .i64 m] w (Pur (.int .i64 (len y m)) w) := by
  by_cases h1 : m < 1
  · go_enter Tryd.func44, Tryd.ntmps44
    go_wp2
    go_ret
    exact ⟨ret_int (by simp [len, h1]), rfl⟩
  · by_cases h2 : 12 < m
    · go_enter Tryd.func44, Tryd.ntmps44
      go_wp2
      go_ret
      exact ⟨ret_int (by simp [len, h2]), rfl⟩
    · by_cases h3 : m = 2
      · subst h3
        cases hl : leapB y
        · have hc := hG.2 2 (by omega)
          have H := Lib.hid hl; clear hl
          go_enter Tryd.func44, Tryd.ntmps44
          go_wp2_with (go_at_call 58; refine (leap_any _ _).mono ?_; rintro e w' ⟨rfl, rfl⟩; rw [H.out])
          go_ret
          exact ⟨ret_int (by simp [len, H.out]), rfl⟩
        · have H := Lib.hid hl; clear hl
          go_enter Tryd.func44, Tryd.ntmps44
          go_wp2_with (go_at_call 58; refine (leap_any _ _).mono ?_; rintro e w' ⟨rfl, rfl⟩; rw [H.out])
          go_ret
          exact ⟨ret_int (by simp [len, H.out]), rfl⟩
      · obtain ⟨k, rfl⟩ := Int.eq_ofNat_of_zero_le (a := m) (by omega)
        have hc := hG.2 k (by omega)
        go_enter Tryd.func44, Tryd.ntmps44
        go_wp2
        go_ret
        exact ⟨ret_int (by simp [len, h3]; omega), rfl⟩
end Go.Proofs.YtiefjnhnceipmaaDoor
