/- The walk of the law ZoneOrders: it returns true at every slice of ints, two numbers and a bool. Conditions: the slice lies in memory. -/
import Derived.Test.YtioenakhkkejmaaZCv
namespace Go.Proofs.Ytioenakhkkejmaa
open Go.RowKit

theorem zres_at (o k D : Int) (late : Bool) (v : Value) (sh : Sh) (w : World) (hI : IsSh w v sh) (hok : Ok o sh) (hlen : sh.length ≤ 1000000000) (h1 : -100000000000 ≤ D) (h2 : D ≤ 100000000000) (h3 : 0 ≤ k - 1440 * D) (h4 : k - 1440 * D < 1440) :
    Calls Try.prog 24 #[.agg #[.int .i64 o, v], .int .i64 D, .int .i64 (k - 1440 * D), .bool late] w (Ret (.int .i64 (res late o sh k)) w) := by
  have := zres_any o D (k - 1440 * D) late v sh w hI hok h1 h2 h3 h4 hlen
  rwa [show D * 1440 + (k - 1440 * D) = k from by omega] at this

set_option maxHeartbeats 4000000 in
theorem law_zorders (v : Value) (zs : List Int) (n later : Int) (late : Bool) (w : World) (hI : IsInts w v zs) (hz : InR zs) (h1 : -9223372036854775808 ≤ n) (h2 : n ≤ 9223372036854775807) (h3 : -9223372036854775808 ≤ later) (h4 : later ≤ 9223372036854775807) :
    Calls Try.prog 7 #[v, .int .i64 n, .int .i64 later, .bool late] w (Ret (.bool true) w) := by
  have hok := zone_ok zs
  have hzl := zone_len zs
  have hk := fun w => bound03 n 400000 w h1 h2 (by omega) (by omega)
  have hm := fun w => around03 later 4000 w h3 h4 (by omega) (by omega)
  obtain ⟨m1, m2⟩ := around_bd later (m := 4000) (by omega)
  obtain ⟨k1, k2⟩ := around_bd n (m := 2 * 400000 + 1) (by omega)
  have hzn := fun w h => zone_any v zs w h hz
  have k3 : -400000 ≤ around n (2 * 400000 + 1) - 400000 := by omega
  have k4 : around n (2 * 400000 + 1) - 400000 ≤ 400000 := by omega
  clear k1 k2
  generalize around n (2 * 400000 + 1) - 400000 = k at *
  generalize around later 4000 = m at *
  generalize zoneO zs = o at *
  generalize zoneSh zs = sh at *
  have a1 : res late o sh k ≤ res late o sh (k + m) := res_mono late hok (by omega) (by omega) (by omega)
  have a2 : res false o sh k ≤ res true o sh k := res_late hok (by omega)
  obtain ⟨D, hD⟩ : ∃ D, D = k / 1440 := ⟨_, rfl⟩
  obtain ⟨E, hE⟩ : ∃ E, E = (k + m) / 1440 := ⟨_, rfl⟩
  have d1 : 0 ≤ k - 1440 * D := by omega
  have d2 : k - 1440 * D < 1440 := by omega
  have d3 : 0 ≤ k + m - 1440 * E := by omega
  have d4 : k + m - 1440 * E < 1440 := by omega
  have d5 : -1000000 ≤ D := by omega
  have d6 : D ≤ 1000000 := by omega
  have d7 : -1000000 ≤ E := by omega
  have d8 : E ≤ 1000000 := by omega
  have c1 := fun sv w' h => zres_at o k D late sv sh w' h hok (by omega) (by omega) (by omega) d1 d2
  have c2 := fun sv w' h => zres_at o (k + m) E late sv sh w' h hok (by omega) (by omega) (by omega) d3 d4
  have c3 := fun sv w' h => zres_at o k D false sv sh w' h hok (by omega) (by omega) (by omega) d1 d2
  have c4 := fun sv w' h => zres_at o k D true sv sh w' h hok (by omega) (by omega) (by omega) d1 d2
  generalize res late o sh k = R1 at *
  generalize res late o sh (k + m) = R2 at *
  generalize res false o sh k = R3 at *
  generalize res true o sh k = R4 at *
  have g1 : decide (R1 ≤ R2) = true := decide_eq_true a1
  have g2 : decide (R3 ≤ R4) = true := decide_eq_true a2
  have s1 : IntKind.i64.wrap (1440 * D) = 1440 * D := IntWalk.i64_in _ (by omega)
  have s2 : IntKind.i64.wrap (k - 1440 * D) = k - 1440 * D := IntWalk.i64_in _ (by omega)
  have HK := Lib.hid hk; have HM := Lib.hid hm; have HZ := Lib.hid hzn; have C1 := Lib.hid c1; have C2 := Lib.hid c2; have C3 := Lib.hid c3; have C4 := Lib.hid c4
  have HI := Lib.hid hI; have HD := Lib.hid hD; have HE := Lib.hid hE; have S1 := Lib.hid s1; have S2 := Lib.hid s2; have G1 := Lib.hid g1; have G2 := Lib.hid g2
  clear hk hm hzn c1 c2 c3 c4 hI hD hE s1 s2 g1 g2 a1 a2
  go_enter Try.func7, Try.ntmps7
  go_wp2_with fail
  refine (HZ.out _ HI.out).mono ?_
  rintro e w1 ⟨sv, rfl, hs, hb1⟩
  obtain ⟨sa, sc, rfl, _⟩ := hs.slice
  have hzb := ZBox.new (o := o) hs
  have hB := bl_trans hb1 (bl_alloc w1 (.cells #[.int .i64 o, .slice sa sh.length sc] 24))
  go_wp2_with fail
  refine (HK.out _).mono ?_
  rintro e w' ⟨rfl, rfl⟩
  go_wp2_with fail
  refine (HM.out _).mono ?_
  rintro e w' ⟨rfl, rfl⟩
  go_wp2_with fail
  refine (floor03 _ _ _ (by omega) (by omega) (by omega) (by omega)).mono ?_
  rintro e w' ⟨rfl, rfl⟩
  rw [← HD.out]
  go_wp2_with fail
  refine (floor03 _ _ _ (by omega) (by omega) (by omega) (by omega)).mono ?_
  rintro e w' ⟨rfl, rfl⟩
  rw [← HE.out]
  obtain ⟨⟨c0, c1⟩, hlt, hI⟩ := hzb
  have hzb : ZBox _ w1.heap.size o _ sh := ⟨⟨c0, c1⟩, hlt, hI⟩
  go_wp2_with fail
  refine (C1.out _ _ hI).mono ?_
  rintro e w2 ⟨rfl, hb⟩
  have hzb := hzb.below hb
  have hB := bl_trans hB hb
  obtain ⟨⟨c0, c1⟩, hlt, hI⟩ := hzb
  have hzb : ZBox _ w1.heap.size o _ sh := ⟨⟨c0, c1⟩, hlt, hI⟩
  go_wp2_with fail
  refine (C2.out _ _ hI).mono ?_
  rintro e w3 ⟨rfl, hb⟩
  have hzb := hzb.below hb
  have hB := bl_trans hB hb
  obtain ⟨u0, u1, u2⟩ := hzb.up
  have U2 := Lib.hid u2
  clear c0 c1 hlt hI hb u2
  go_wp2_with fail
  have s1 := S1.out; have s2 := S2.out; have g1 := G1.out; have g2 := G2.out
  refine wp_region_up (by kernel_rfl) (by kernel_rfl) ?_
  repeat (go_big_quiet_step (fail))
  go_big_quiet_step (exact Ret.up (C3.out _ _ (U2.out _)))
  repeat (go_big_quiet_step (fail))
  go_big_quiet_step (exact Ret.up (C4.out _ _ (U2.out _)))
  repeat (go_big_quiet_step (fail))
  go_big_quiet_step (exact Ret.up (zlives_any _))
  repeat (go_big_quiet_step (fail))
  refine wpQuiet_nil ?_
  rintro w4 ⟨⟨_, hb4⟩, rfl⟩
  clear u0 u1 s1 s2 g1 g2
  go_wp2_with fail
  go_ret
  exact ⟨rfl, bl_trans hB hb4⟩
end Go.Proofs.Ytioenakhkkejmaa
