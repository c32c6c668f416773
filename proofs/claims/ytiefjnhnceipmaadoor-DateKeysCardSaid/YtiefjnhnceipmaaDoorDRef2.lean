/- Plain words on years. Conditions: stated at each. -/
import Derived.Test.YtiefjnhnceipmaaDoorDRef1
import Derived.Test.YtiefjnhnceipmaaDoorDEaster
namespace Go.Proofs.YtiefjnhnceipmaaDoor
open Go.RowKit

theorem year_guess {n : Int} (h0 : 0 ≤ n) (h1 : n ≤ 3652058) : num (n / 366 + 1) 1 1 ≤ n ∧ 1 ≤ n / 366 + 1 ∧ n / 366 + 1 ≤ 9999 := by rw [num_jan]; omega
theorem year_last {y n : Int} (h1 : n ≤ 3652058) (h : num (y + 1) 1 1 ≤ n) : y + 1 ≤ 9999 := by rw [num_jan] at h; omega
theorem jan_bd {y : Int} (h0 : 1 ≤ y) (h1 : y ≤ 10001) : 0 ≤ num y 1 1 ∧ num y 1 1 ≤ 4000000 := by rw [num_jan]; omega
end Go.Proofs.YtiefjnhnceipmaaDoor
