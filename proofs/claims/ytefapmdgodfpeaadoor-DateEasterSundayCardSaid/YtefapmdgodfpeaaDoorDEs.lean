/- The walk of the law DateEasterSunday: it returns true at every number. -/
import Derived.Test.YtefapmdgodfpeaaDoorDLives
namespace Go.Proofs.YtefapmdgodfpeaaDoor
open Go.RowKit

set_option maxHeartbeats 2000000 in
theorem law_eastersunday (n : Int) (w : World) (hG : Good w) (h1 : -9223372036854775808 ≤ n) (h2 : n ≤ 9223372036854775807) :
    Calls Tryd.prog 12 #[.int .i64 n] w (Ret (.bool true) w) := by
  obtain ⟨a1, a2⟩ := around_bd n (m := 8417) (by omega)
  have hy := eas_year (y := 1583 + around n 8417) (by omega) (by omega)
  have hq := eas_eq (y := 1583 + around n 8417) (by omega) (by omega)
  have y1 : 1583 ≤ 1583 + around n 8417 := by omega
  have y2 : 1583 + around n 8417 ≤ 9999 := by omega
  generalize hs : around n 8417 = s at *
  have HS := Lib.hid hs; clear hs
  generalize hY : 1583 + s = Y at *
  have HY := Lib.hid hY; clear hY
  have v1 : validB Y 3 22 = true := valid_iff.2 ⟨by omega, y2, by omega, by omega, by omega, by rw [len3]; omega⟩
  have v2 : validB Y 4 25 = true := valid_iff.2 ⟨by omega, y2, by omega, by omega, by omega, by rw [len4]; omega⟩
  have e1 : dayN Y 3 22 = num Y 3 22 := by unfold dayN; rw [v1]; rfl
  have e2 : dayN Y 4 25 = num Y 4 25 := by unfold dayN; rw [v2]; rfl
  have f1 : chk Y 3 22 = 0 := by unfold chk; rw [v1]; rfl
  have f2 : chk Y 4 25 = 0 := by unfold chk; rw [v2]; rfl
  have g1 : easN Y % 7 = 6 := hy.2.1
  have hr : reasN Y = num Y 3 1 + reN Y - 1 := rfl
  have p1 := num_d (y := Y) (m := 3) (d := 22)
  have p2 := num_d (y := Y) (m := 4) (d := 25)
  have p3 := num_succ (y := Y) (m := 3) (d := 1) (by omega) (by omega)
  rw [len3, show (3 : Int) + 1 = 4 from rfl] at p3
  have g2 : num Y 3 22 ≤ easN Y := by omega
  have g3 : easN Y ≤ num Y 4 25 := by omega
  have E1 := Lib.hid e1; have E2 := Lib.hid e2; have F1 := Lib.hid f1; have F2 := Lib.hid f2; have G1 := Lib.hid g1
  clear e1 e2 f1 f2 g1 hr p1 p2 p3 hq hy v1 v2
  go_enter Tryd.func12, Tryd.ntmps12
  go_wp2_with fail
  refine (around_any _ _ _ h1 h2 (by omega) (by omega)).mono ?_
  rintro e w' ⟨rfl, rfl⟩
  rw [HS.out]
  go_upto_region 2 with (fail)
  rw [HY.out]
  go_wp2_with fail
  refine (easter_yes _ _ y1 y2).mono ?_
  rintro e w1 ⟨rfl, hb1⟩
  have hG1 := hG.below hb1
  go_wp2_with fail
  refine (day_any _ _ _ _ hG1).mono ?_
  rintro e w2 ⟨rfl, hb2⟩
  have hG2 := hG1.below hb2
  rw [E1.out, F1.out]
  go_wp2_with fail
  refine (day_any _ _ _ _ hG2).mono ?_
  rintro e w3 ⟨rfl, hb3⟩
  have hG3 := hG2.below hb3
  rw [E2.out, F2.out]
  go_wp2_with fail
  refine (weekday_any _ _).mono ?_
  rintro e w' ⟨rfl, rfl⟩
  rw [G1.out]
  go_wp2_with fail
  refine (lives_any _ hG3).mono ?_
  rintro e w4 ⟨rfl, hb4⟩
  go_wp2
  go_ret
  exact ⟨rfl, bl_trans (bl_trans (bl_trans hb1 hb2) hb3) hb4⟩
end Go.Proofs.YtefapmdgodfpeaaDoor
