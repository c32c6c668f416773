/- The walk of the law's lives: the examples of the section hold. -/
import Derived.Test.YtiefjnhnceipmaaDoorDPrPlain
import Derived.Test.YtiefjnhnceipmaaDoorDParse2
import Derived.Test.YtiefjnhnceipmaaDoorDMonths
import Derived.Test.YtiefjnhnceipmaaDoorDRef3
namespace Go.Proofs.YtiefjnhnceipmaaDoor
open Go.RowKit

theorem cday (y m d : Int) (a b : Int) (ha : dayN y m d = a) (hb : chk y m d = b) (w : World) (hG : Good w) : Calls Tryd.prog 22 #[.agg #[.int .i64 y, .int .i64 m, .int .i64 d]] w (Ret (.tuple #[.int .i64 a, .int .i64 b]) w) := by
  rw [← ha, ← hb]; exact day_any y m d w hG
theorem cparse (s : ByteArray) (a b : Int) (ha : paN s = a) (hb : paE s = b) (w : World) (hG : Good w) : Calls Tryd.prog 10 #[.string s] w (Ret (.tuple #[.int .i64 a, .int .i64 b]) w) := by
  rw [← ha, ← hb]; exact parse_any s w hG
theorem cmonths (n k a b : Int) (ha : amN n k = a) (hb : amE n k = b) (w : World) (hG : Good w) : Calls Tryd.prog 25 #[.int .i64 n, .int .i64 k] w (Ret (.tuple #[.int .i64 a, .int .i64 b]) w) := by
  rw [← ha, ← hb]; exact am_any n k w hG
theorem ceaster (y a b : Int) (ha : eaV y = a) (hb : eaE y = b) (w : World) : Calls Tryd.prog 24 #[.int .i64 y] w (Ret (.tuple #[.int .i64 a, .int .i64 b]) w) := by
  rw [← ha, ← hb]; exact easter_any y w
theorem cprint (n : Int) (l : List UInt8) (h0 : 0 ≤ n) (h1 : n ≤ 3652058) (h : d4 (ofY n).toNat ++ [45] ++ d2 (ofM n).toNat ++ [45] ++ d2 (ofD n).toNat = l) (w : World) (hG : Good w) : Calls Tryd.prog 7 #[.int .i64 n] w (Ret (.string ⟨l.toArray⟩) w) := by
  rw [← h, ← prS_eq h0 h1]; exact print_any n w hG
theorem cweek (n a : Int) (h : n % 7 = a) (w : World) : Calls Tryd.prog 26 #[.int .i64 n] w (Pur (.int .i64 a) w) := by
  rw [← h]; exact weekday_any n w

set_option maxRecDepth 100000 in
set_option maxHeartbeats 4000000 in
theorem lives_any (w : World) (hG : Good w) : Calls Tryd.prog 12 #[] w (Ret (.bool true) w) := by
  go_enter Tryd.func12, Tryd.ntmps12
  go_wp2_with fail
  refine (cday 2000 2 29 730178 0 (by decide) (by decide) _ hG).mono ?_
  rintro e w1 ⟨rfl, hb1⟩
  have hG1 := hG.below hb1
  go_wp2_with fail
  refine (cday 9999 12 31 3652058 0 (by decide) (by decide) _ hG1).mono ?_
  rintro e w2 ⟨rfl, hb2⟩
  have hG2 := hG1.below hb2
  go_wp2_with fail
  refine (ceaster 2026 739710 0 (by decide) (by decide) _).mono ?_
  rintro e w3 ⟨rfl, hb3⟩
  have hG3 := hG2.below hb3
  go_wp2_with fail
  refine (cparse ⟨#[50, 48, 50, 54, 45, 48, 49, 45, 51, 49]⟩ 739646 0 (by decide +kernel) (by decide +kernel) _ hG3).mono ?_
  rintro e w4 ⟨rfl, hb4⟩
  have hG4 := hG3.below hb4
  go_wp2_with fail
  refine (cmonths 739646 1 739674 0 (by decide) (by decide) _ hG4).mono ?_
  rintro e w5 ⟨rfl, hb5⟩
  have hG5 := hG4.below hb5
  go_wp2_with fail
  refine (cparse ⟨#[50, 48, 50, 52, 45, 48, 51, 45, 51, 49]⟩ 738975 0 (by decide +kernel) (by decide +kernel) _ hG5).mono ?_
  rintro e w6 ⟨rfl, hb6⟩
  have hG6 := hG5.below hb6
  go_wp2_with fail
  refine (cmonths 738975 (-13) 738578 0 (by decide) (by decide) _ hG6).mono ?_
  rintro e w7 ⟨rfl, hb7⟩
  have hG7 := hG6.below hb7
  go_wp2_with fail
  refine (cparse ⟨#[50, 48, 50, 54, 45, 48, 50, 45, 50, 57]⟩ 0 5 (by decide +kernel) (by decide +kernel) _ hG7).mono ?_
  rintro e w8 ⟨rfl, hb8⟩
  have hG8 := hG7.below hb8
  go_wp2_with fail
  refine (cparse ⟨#[50, 48, 50, 54, 45, 50, 45, 57]⟩ 0 7 (by decide +kernel) (by decide +kernel) _ hG8).mono ?_
  rintro e w9 ⟨rfl, hb9⟩
  have hG9 := hG8.below hb9
  go_wp2_with fail
  refine (cweek 730178 1 (by decide) _).mono ?_
  rintro e w10 ⟨rfl, rfl⟩
  go_wp2_with fail
  refine (cprint 739710 [50, 48, 50, 54, 45, 48, 52, 45, 48, 53] (by decide) (by decide) (by decide +kernel) _ hG9).mono ?_
  rintro e w10 ⟨rfl, hb10⟩
  have hG10 := hG9.below hb10
  go_wp2_with fail
  refine (cprint 739674 [50, 48, 50, 54, 45, 48, 50, 45, 50, 56] (by decide) (by decide) (by decide +kernel) _ hG10).mono ?_
  rintro e w11 ⟨rfl, hb11⟩
  have hG11 := hG10.below hb11
  go_wp2_with fail
  refine (cprint 738578 [50, 48, 50, 51, 45, 48, 50, 45, 50, 56] (by decide) (by decide) (by decide +kernel) _ hG11).mono ?_
  rintro e w12 ⟨rfl, hb12⟩
  have hG12 := hG11.below hb12
  go_wp2_with fail
  refine (cprint 0 [48, 48, 48, 49, 45, 48, 49, 45, 48, 49] (by decide) (by decide) (by decide +kernel) _ hG12).mono ?_
  rintro e w13 ⟨rfl, hb13⟩
  have hG13 := hG12.below hb13
  go_wp2
  go_ret
  exact ⟨rfl, (bl_trans (bl_trans (bl_trans (bl_trans (bl_trans (bl_trans (bl_trans (bl_trans (bl_trans (bl_trans (bl_trans (bl_trans hb1 hb2) hb3) hb4) hb5) hb6) hb7) hb8) hb9) hb10) hb11) hb12) hb13)⟩
end Go.Proofs.YtiefjnhnceipmaaDoor
