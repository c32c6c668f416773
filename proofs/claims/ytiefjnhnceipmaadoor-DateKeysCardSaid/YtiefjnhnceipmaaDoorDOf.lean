/- The walk of date.Of: the date of a day, at every number. -/
import Derived.Test.YtiefjnhnceipmaaDoorDCheck
namespace Go.Proofs.YtiefjnhnceipmaaDoor
open Go.RowKit
set_option maxHeartbeats 1000000 in
theorem of_yes (n : Int) (w : World) (h0 : 0 ≤ n) (h1 : n ≤ 3652058) : Calls Tryd.prog 16 #[.int .i64 n] w (Ret (.tuple #[.agg #[.int .i64 (ofY n), .int .i64 (ofM n), .int .i64 (ofD n)], .int .i64 0]) w) := by
  go_enter Tryd.func16, Tryd.ntmps16
  go_upto_region 6 with (fail)
  have b1 : 0 ≤ (n + 306) % 146097 := by omega
  have b2 : (n + 306) % 146097 ≤ 146096 := by omega
  have b3 : 0 ≤ (n + 306) / 146097 := by omega
  have b4 : (n + 306) / 146097 ≤ 24 := by omega
  have bY := yoe_bd b1 b2
  have bQ := doy_bd b1 b2
  have bq : doyOf ((n + 306) % 146097) ≤ 365 := by have := bQ.2; split at this <;> omega
  have bM := mp_bd bQ.1 bq
  have eY : yoeOf ((n + 306) % 146097) = ((n + 306) % 146097 - (n + 306) % 146097 / 1460 + (n + 306) % 146097 / 36524 - (n + 306) % 146097 / 146096) / 365 := rfl
  have eQ : doyOf ((n + 306) % 146097) = (n + 306) % 146097 - (365 * yoeOf ((n + 306) % 146097) + yoeOf ((n + 306) % 146097) / 4 - yoeOf ((n + 306) % 146097) / 100) := rfl
  have eM : mpOf (doyOf ((n + 306) % 146097)) = (5 * doyOf ((n + 306) % 146097) + 2) / 153 := rfl
  have rY : ofY n = yoeOf ((n + 306) % 146097) + 400 * ((n + 306) / 146097) + if 10 ≤ mpOf (doyOf ((n + 306) % 146097)) then 1 else 0 := rfl
  have rM : ofM n = if 10 ≤ mpOf (doyOf ((n + 306) % 146097)) then mpOf (doyOf ((n + 306) % 146097)) - 9 else mpOf (doyOf ((n + 306) % 146097)) + 3 := rfl
  have rD : ofD n = doyOf ((n + 306) % 146097) - (153 * mpOf (doyOf ((n + 306) % 146097)) + 2) / 5 + 1 := rfl
  generalize mpOf (doyOf ((n + 306) % 146097)) = M at eM rY rM rD bM
  generalize doyOf ((n + 306) % 146097) = Q at eQ eM rD bQ bq
  generalize yoeOf ((n + 306) % 146097) = Y at eY eQ rY bY bQ
  generalize (n + 306) % 146097 = D at *
  generalize (n + 306) / 146097 = E at *
  have HY := Lib.hid eY; have HQ := Lib.hid eQ; have HM := Lib.hid eM; have HrY := Lib.hid rY; have HrM := Lib.hid rM; have HrD := Lib.hid rD
  clear eY eQ eM rY rM rD
  obtain ⟨c1, c2⟩ := bY
  obtain ⟨c3, c4⟩ := bM
  have c5 := bQ.1
  clear bQ
  go_upto_region 7 with (fail)
  rw [← HY.out]
  go_upto_region 8 with (fail)
  rw [← HQ.out]
  go_upto_region 9 with (fail)
  rw [← HM.out]
  by_cases h : 10 ≤ M
  · go_wp2
    rw [HrY.out, HrM.out, HrD.out, if_pos h, if_pos h]
    exact bodyPost_ret (v := .tuple #[.agg #[.int .i64 (Y + 400 * E + 1), .int .i64 (M - 9), .int .i64 (Q - (153 * M + 2) / 5 + 1)], .int .i64 0]) (by simp [results, Tryd.results16, go_sem]) rfl ⟨rfl, bl_trans (bl_alloc _ _) (bl_alloc _ _)⟩
  · go_wp2
    rw [HrY.out, HrM.out, HrD.out, if_neg (by omega), if_neg (by omega), Int.add_zero]
    exact bodyPost_ret (v := .tuple #[.agg #[.int .i64 (Y + 400 * E), .int .i64 (M + 3), .int .i64 (Q - (153 * M + 2) / 5 + 1)], .int .i64 0]) (by simp [results, Tryd.results16, go_sem]) rfl ⟨rfl, bl_trans (bl_alloc _ _) (bl_alloc _ _)⟩

set_option maxHeartbeats 400000 in
theorem of_no (n : Int) (w : World) (h : n < 0 ∨ 3652058 < n) : Calls Tryd.prog 16 #[.int .i64 n] w (Ret (.tuple #[.agg #[.int .i64 0, .int .i64 0, .int .i64 0], .int .i64 5]) w) := by
  by_cases h0 : n < 0
  · go_enter Tryd.func16, Tryd.ntmps16
    go_wp2
    exact bodyPost_ret (v := .tuple #[.agg #[.int .i64 0, .int .i64 0, .int .i64 0], .int .i64 5]) (by simp [results, Tryd.results16, go_sem]) rfl ⟨rfl, bl_alloc _ _⟩
  · have h1 : 3652058 < n := by omega
    go_enter Tryd.func16, Tryd.ntmps16
    go_wp2
    exact bodyPost_ret (v := .tuple #[.agg #[.int .i64 0, .int .i64 0, .int .i64 0], .int .i64 5]) (by simp [results, Tryd.results16, go_sem]) rfl ⟨rfl, bl_alloc _ _⟩

/-- what Of returns: the date of the day, or the zero date and the error -/
def okB (n : Int) : Bool := decide (0 ≤ n ∧ n ≤ 3652058)
def oY (n : Int) : Int := if okB n then ofY n else 0
def oM (n : Int) : Int := if okB n then ofM n else 0
def oD (n : Int) : Int := if okB n then ofD n else 0
def oE (n : Int) : Int := if okB n then 0 else 5
theorem of_any (n : Int) (w : World) : Calls Tryd.prog 16 #[.int .i64 n] w (Ret (.tuple #[.agg #[.int .i64 (oY n), .int .i64 (oM n), .int .i64 (oD n)], .int .i64 (oE n)]) w) := by
  by_cases h : 0 ≤ n ∧ n ≤ 3652058
  · have e : okB n = true := decide_eq_true h
    unfold oY oM oD oE
    rw [e]
    exact of_yes n w h.1 h.2
  · have e : okB n = false := decide_eq_false h
    unfold oY oM oD oE
    rw [e]
    exact of_no n w (by omega)

end Go.Proofs.YtiefjnhnceipmaaDoor
