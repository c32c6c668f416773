/- The walks of date.Weekday and date.Easter. -/
import Derived.Test.YtiefjnhnceipmaaDoorDCheck
import Derived.Test.YtiefjnhnceipmaaDoorDEasPlain
namespace Go.Proofs.YtiefjnhnceipmaaDoor
open Go.RowKit

theorem wd_bd (n : Int) : -7 < n.tmod 7 ∧ n.tmod 7 < 7 := ⟨Int.lt_tmod_of_pos n (by omega), Int.tmod_lt_of_pos n (by omega)⟩
theorem wd_eq (n : Int) : (n.tmod 7 + 7) % 7 = n % 7 := by
  have h := Int.tmod_add_mul_tdiv n 7
  omega

set_option maxHeartbeats 400000 in
theorem weekday_any (n : Int) (w : World) : Calls Tryd.prog 26 #[.int .i64 n] w (Pur (.int .i64 (n % 7)) w) := by
  obtain ⟨h1, h2⟩ := wd_bd n
  go_enter Tryd.func26, Tryd.ntmps26
  go_wp2
  go_ret
  exact ⟨ret_int (wd_eq n), rfl⟩

set_option maxHeartbeats 1000000 in
theorem easter_yes (y : Int) (w : World) (h0 : 1583 ≤ y) (h1 : y ≤ 9999) : Calls Tryd.prog 24 #[.int .i64 y] w (Ret (.tuple #[.int .i64 (easN y), .int .i64 0]) w) := by
  obtain ⟨a0, a1, b0, b1, c0, c1, g0, g1, k0, k1, l0, l1, n0, n1, p0⟩ := ea_bd h0 h1
  have rA : eaA y = y % 19 := rfl
  have rB : eaB y = y / 100 := rfl
  have rC : eaC y = y % 100 := rfl
  have rG : eaG y = (eaB y - (eaB y + 8) / 25 + 1) / 3 := rfl
  have rH : eaH y = (19 * eaA y + eaB y - eaB y / 4 - eaG y + 15) % 30 := rfl
  have rL : eaL y = (32 + 2 * (eaB y % 4) + 2 * (eaC y / 4) - eaH y - eaC y % 4) % 7 := rfl
  have rN : eaN y = eaH y + eaL y - 7 * ((eaA y + 11 * eaH y + 22 * eaL y) / 451) + 114 := rfl
  have rE : easN y = num y (eaN y / 31) (eaN y % 31 + 1) := rfl
  generalize eaN y = N at *
  generalize eaL y = L at *
  generalize eaH y = H at *
  generalize eaG y = G at *
  generalize eaC y = C at *
  generalize eaB y = B at *
  generalize eaA y = A at *
  have HA := Lib.hid rA; have HB := Lib.hid rB; have HC := Lib.hid rC; have HG := Lib.hid rG; have HH := Lib.hid rH; have HL := Lib.hid rL; have HN := Lib.hid rN; have HE := Lib.hid rE
  clear rA rB rC rG rH rL rN rE
  go_enter Tryd.func24, Tryd.ntmps24
  go_upto_region 4 with (fail)
  rw [← HA.out, ← HB.out, ← HC.out]
  go_upto_region 5 with (fail)
  rw [← HG.out]
  go_upto_region 6 with (fail)
  rw [← HH.out]
  go_upto_region 7 with (fail)
  rw [← HL.out]
  go_upto_region 8 with (fail)
  rw [← HN.out]
  go_wp2_with fail
  refine (number_any _ _ _ _ (by omega) (by omega) (by omega)).mono ?_
  rintro e w2 ⟨rfl, hb2⟩
  go_wp2
  go_ret2
  exact ⟨by rw [HE.out]; rfl, hb2⟩

set_option maxHeartbeats 400000 in
theorem easter_no (y : Int) (w : World) (h : y < 1583 ∨ 9999 < y) : Calls Tryd.prog 24 #[.int .i64 y] w (Ret (.tuple #[.int .i64 0, .int .i64 5]) w) := by
  by_cases h0 : y < 1583
  · go_enter Tryd.func24, Tryd.ntmps24
    go_wp2
    go_ret2
    exact ⟨rfl, bl_refl _⟩
  · have h1 : 9999 < y := by omega
    go_enter Tryd.func24, Tryd.ntmps24
    go_wp2
    go_ret2
    exact ⟨rfl, bl_refl _⟩
end Go.Proofs.YtiefjnhnceipmaaDoor
