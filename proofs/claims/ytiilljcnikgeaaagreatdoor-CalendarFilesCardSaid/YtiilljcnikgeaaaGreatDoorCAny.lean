/- The walk of the laws' own helper any. Conditions: the numbers are ints. -/
import Derived.Test.YtiilljcnikgeaaaGreatDoorCLvs
namespace Go.Proofs.YtiilljcnikgeaaaGreatDoor
open Go.RowKit

def anyL (n h : Int) : Int := if around h 4 = 0 then n else if around h 4 = 1 then around n 2200 - 1100 else if around h 4 = 2 then 3650958 + around n 2200 else dayL n
theorem anyL_bd (n h : Int) (h1 : -9223372036854775808 ≤ n) (h2 : n ≤ 9223372036854775807) : -9223372036854775808 ≤ anyL n h ∧ anyL n h ≤ 9223372036854775807 := by
  have a := around_bd n (m := 2200) (by omega)
  have b := dayL_bd n
  unfold anyL
  split
  · omega
  · split
    · omega
    · split <;> omega
set_option maxHeartbeats 1000000 in
theorem lany_any (n h : Int) (w : World) (h1 : -9223372036854775808 ≤ n) (h2 : n ≤ 9223372036854775807) (h3 : -9223372036854775808 ≤ h) (h4 : h ≤ 9223372036854775807) : Calls Tryz.prog 7 #[.int .i64 n, .int .i64 h] w (Pur (.int .i64 (anyL n h)) w) := by
  have hA := fun w => around01 h 4 w h3 h4 (by omega) (by omega)
  have hN := fun w => around01 n 2200 w h1 h2 (by omega) (by omega)
  have hD := fun w => lday_any n w h1 h2
  obtain ⟨a1, a2⟩ := around_bd h (m := 4) (by omega)
  obtain ⟨n1, n2⟩ := around_bd n (m := 2200) (by omega)
  have he : anyL n h = if around h 4 = 0 then n else if around h 4 = 1 then around n 2200 - 1100 else if around h 4 = 2 then 3650958 + around n 2200 else dayL n := rfl
  generalize anyL n h = V at *
  generalize around h 4 = a at *
  generalize around n 2200 = r at *
  generalize dayL n = dl at *
  have HA := Lib.hid hA; have HN := Lib.hid hN; have HD := Lib.hid hD; have HE := Lib.hid he
  clear hA hN hD he h3 h4
  have hc : a = 0 ∨ a = 1 ∨ a = 2 ∨ a = 3 := by omega
  have HC := Lib.hid hc; clear hc
  rcases HC.out with e | e | e | e
  · obtain rfl := e
    have hv : Hid (V = n) := by show _ = _; rw [HE.out, if_pos rfl]
    clear HC HE
    go_enter Tryz.func7, Tryz.ntmps7
    go_wp2_with fail
    refine (HA.out _).mono ?_
    rintro e w1 ⟨rfl, rfl⟩
    go_wp2
    go_ret
    exact ⟨ret_int hv.out.symm, rfl⟩
  · obtain rfl := e
    have hv : Hid (V = r - 1100) := by show _ = _; rw [HE.out, if_neg (by omega), if_pos rfl]
    clear HC HE
    go_enter Tryz.func7, Tryz.ntmps7
    go_wp2_with fail
    refine (HA.out _).mono ?_
    rintro e w1 ⟨rfl, rfl⟩
    go_wp2_with fail
    refine (HN.out _).mono ?_
    rintro e w1 ⟨rfl, rfl⟩
    go_wp2
    go_ret
    exact ⟨ret_int hv.out.symm, rfl⟩
  · obtain rfl := e
    have hv : Hid (V = 3650958 + r) := by show _ = _; rw [HE.out, if_neg (by omega), if_neg (by omega), if_pos rfl]
    clear HC HE
    go_enter Tryz.func7, Tryz.ntmps7
    go_wp2_with fail
    refine (HA.out _).mono ?_
    rintro e w1 ⟨rfl, rfl⟩
    go_wp2_with fail
    refine (HN.out _).mono ?_
    rintro e w1 ⟨rfl, rfl⟩
    go_wp2
    go_ret
    exact ⟨ret_int hv.out.symm, rfl⟩
  · obtain rfl := e
    have hv : Hid (V = dl) := by show _ = _; rw [HE.out, if_neg (by omega), if_neg (by omega), if_neg (by omega)]
    clear HC HE
    go_enter Tryz.func7, Tryz.ntmps7
    go_wp2_with fail
    refine (HA.out _).mono ?_
    rintro e w1 ⟨rfl, rfl⟩
    go_wp2_with fail
    refine (HD.out _).mono ?_
    rintro e w1 ⟨rfl, rfl⟩
    go_wp2
    go_ret
    exact ⟨ret_int hv.out.symm, rfl⟩
end Go.Proofs.YtiilljcnikgeaaaGreatDoor
