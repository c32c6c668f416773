/- The walk of the law DateWeekdays: it returns true at every two numbers. -/
import Derived.Test.YtefapmdgodfpeaaDoorDLives
import Derived.Test.YtefapmdgodfpeaaDoorDRef2
namespace Go.Proofs.YtefapmdgodfpeaaDoor
open Go.RowKit

set_option maxHeartbeats 2000000 in
theorem law_weekdays (n m : Int) (w : World) (hG : Good w) (_h1 : -9223372036854775808 ≤ n) (_h2 : n ≤ 9223372036854775807) (h3 : -9223372036854775808 ≤ m) (h4 : m ≤ 9223372036854775807) :
    Calls Tryd.prog 5 #[.int .i64 n, .int .i64 m] w (Ret (.bool true) w) := by
  obtain ⟨a1, a2⟩ := around_bd m (m := 15) (by omega)
  generalize hs : around m 15 = s at *
  have HS := Lib.hid hs; clear hs
  go_enter Tryd.func5, Tryd.ntmps5
  go_wp2_with fail
  refine (around_any _ _ _ h3 h4 (by omega) (by omega)).mono ?_
  rintro e w' ⟨rfl, rfl⟩
  rw [HS.out]
  go_wp2_with fail
  refine (weekday_any _ _).mono ?_
  rintro e w' ⟨rfl, rfl⟩
  go_wp2_with fail
  refine (rweekday_any _ _).mono ?_
  rintro e w' ⟨rfl, rfl⟩
  go_wp2_with fail
  refine (leap_any _ _).mono ?_
  rintro e w' ⟨rfl, rfl⟩
  go_wp2_with fail
  refine (rleap_any _ _).mono ?_
  rintro e w' ⟨rfl, rfl⟩
  go_wp2_with fail
  refine (len_any _ _ _ hG).mono ?_
  rintro e w' ⟨rfl, rfl⟩
  go_wp2_with fail
  refine (rlen_any _ _ _).mono ?_
  rintro e w' ⟨rfl, rfl⟩
  go_wp2_with fail
  refine (len_any _ _ _ hG).mono ?_
  rintro e w' ⟨rfl, rfl⟩
  go_wp2_with fail
  refine (rlen_any _ _ _).mono ?_
  rintro e w' ⟨rfl, rfl⟩
  go_wp2_with fail
  refine (lives_any _ hG).mono ?_
  rintro e w1 ⟨rfl, hb1⟩
  go_wp2
  go_ret
  exact ⟨rfl, hb1⟩
end Go.Proofs.YtefapmdgodfpeaaDoor
