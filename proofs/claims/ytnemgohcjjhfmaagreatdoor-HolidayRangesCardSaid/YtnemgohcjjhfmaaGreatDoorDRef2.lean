/- The walks of the reference's Weekday. -/
import Derived.Test.YtnemgohcjjhfmaaGreatDoorDRef1
import Derived.Test.YtnemgohcjjhfmaaGreatDoorDEaster
namespace Go.Proofs.YtnemgohcjjhfmaaGreatDoor
open Go.RowKit

theorem rwd_a {n : Int} (h : n.tmod 7 < 0) : n.tmod 7 + 7 = n % 7 := by
  have h1 := Int.tmod_add_mul_tdiv n 7
  have h2 := wd_bd n
  omega
theorem rwd_b {n : Int} (h : ¬ n.tmod 7 < 0) : n.tmod 7 = n % 7 := by
  have h1 := Int.tmod_add_mul_tdiv n 7
  have h2 := wd_bd n
  omega
set_option maxHeartbeats 400000 in
theorem rweekday_any (n : Int) (w : World) : Calls Tryz.prog 49 #[.int .i64 n] w (Pur (.int .i64 (n % 7)) w) := by
  obtain ⟨h1, h2⟩ := wd_bd n
  by_cases h : n.tmod 7 < 0
  · go_enter Tryz.func49, Tryz.ntmps49
    go_wp2
    go_ret
    exact ⟨ret_int (rwd_a h), rfl⟩
  · go_enter Tryz.func49, Tryz.ntmps49
    go_wp2
    go_ret
    exact ⟨ret_int (rwd_b (by omega)), rfl⟩
theorem year_guess {n : Int} (h0 : 0 ≤ n) (h1 : n ≤ 3652058) : num (n / 366 + 1) 1 1 ≤ n ∧ 1 ≤ n / 366 + 1 ∧ n / 366 + 1 ≤ 9999 := by rw [num_jan]; omega
theorem year_last {y n : Int} (h1 : n ≤ 3652058) (h : num (y + 1) 1 1 ≤ n) : y + 1 ≤ 9999 := by rw [num_jan] at h; omega
theorem jan_bd {y : Int} (h0 : 1 ≤ y) (h1 : y ≤ 10001) : 0 ≤ num y 1 1 ∧ num y 1 1 ≤ 4000000 := by rw [num_jan]; omega
end Go.Proofs.YtnemgohcjjhfmaaGreatDoor
