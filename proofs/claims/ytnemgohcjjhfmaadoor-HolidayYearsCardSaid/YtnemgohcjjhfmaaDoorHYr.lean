/- The walk of the law HolidayYears: it returns true at every input. Conditions: the numbers are ints that lie in memory, the listed tables lie in memory. -/
import Derived.Test.YtnemgohcjjhfmaaDoorHLives
import Derived.Test.YtnemgohcjjhfmaaDoorHMk
import Derived.Test.YtnemgohcjjhfmaaDoorHROf
import Derived.Test.YtnemgohcjjhfmaaDoorHSame
namespace Go.Proofs.YtnemgohcjjhfmaaDoor
open Go.RowKit

set_option maxHeartbeats 4000000 in
theorem law_hyears (v : Value) (zs : List Int) (y : Int) (w : World) (hI : IsInts w v zs) (hz : InR zs) (hG : GoodH w) (h1 : -9223372036854775808 ≤ y) (h2 : y ≤ 9223372036854775807) :
    Calls Tryd.prog 4 #[v, .int .i64 y] w (Ret (.bool true) w) := by
  have hmk := mk_any v zs w hI hz
  have hl6 := mkHols_len zs
  have hval := mkHols_valid zs
  generalize mkHols zs = l at *
  have hl20 : l.length < 20 := by omega
  have hlm : l.length ≤ maxLen := by unfold maxLen; omega
  have hof := fun v y w hG h => hof_any v l y w hG h hl20 hval
  have hrof := fun v y w h => rhof_any v l y w h hl20 hval
  have hln := fun y => Nat.le_trans (ofP_len y l) hlm
  have hA := fun w => around01 y 160 w h1 h2 (by omega) (by omega)
  obtain ⟨a1, a2⟩ := around_bd y (m := 160) (by omega)
  generalize around y 160 = a at *
  have HMK := Lib.hid hmk; have HOF := Lib.hid hof; have HROF := Lib.hid hrof; have HLN := Lib.hid hln; have HA := Lib.hid hA
  clear hmk hof hrof hln hA hval hI hz
  go_enter Tryd.func4, Tryd.ntmps4
  go_wp2_with fail
  refine HMK.out.mono ?_
  intro e w1 hp
  obtain ⟨p, cap, rfl, hl, hb1⟩ := HolsPost.hs hp hlm
  have hB := hb1
  have hG := hG.below hb1
  clear hp hb1
  go_wp2_with fail
  refine (HA.out _).mono ?_
  rintro e w2 ⟨rfl, rfl⟩
  go_wp2_with fail
  refine (HOF.out _ _ _ hG hl).mono ?_
  intro e w2 hp
  obtain ⟨p2, cap2, rfl, hn2, hb⟩ := OfPost.ns hp (HLN.out _)
  have hB := bl_trans hB hb
  have hG := hG.below hb
  have hl := hl.below hb
  clear hp hb
  go_wp2_with fail
  refine (HROF.out _ _ _ hl).mono ?_
  intro e w3 hp
  obtain ⟨p3, cap3, rfl, hn3, hb⟩ := OfPost.ns hp (HLN.out _)
  have hB := bl_trans hB hb
  have hG := hG.below hb
  have hl := hl.below hb
  have hn2 := hn2.below hb
  have hsa := fun w h1 h2 => samen_any (.slice p2 (ofP (1950 + a) l).length cap2) (.slice p3 (ofP (1950 + a) l).length cap3) (ofP (1950 + a) l) (ofP (1950 + a) l) w h1 h2
  rw [decide_eq_true rfl] at hsa
  have HS := Lib.hid hsa
  clear hp hb hsa
  go_wp2_with fail
  refine (HS.out _ hn2 hn3).mono ?_
  rintro e w4 ⟨rfl, hb⟩
  have hB := bl_trans hB hb
  have hG := hG.below hb
  have hl := hl.below hb
  clear hb HS hn2 hn3
  go_wp2_with fail
  refine (HOF.out _ _ _ hG hl).mono ?_
  intro e w5 hp
  obtain ⟨p5, cap5, rfl, hn2, hb⟩ := OfPost.ns hp (HLN.out _)
  have hB := bl_trans hB hb
  have hG := hG.below hb
  have hl := hl.below hb
  clear hp hb
  go_wp2_with fail
  refine (HROF.out _ _ _ hl).mono ?_
  intro e w6 hp
  obtain ⟨p6, cap6, rfl, hn3, hb⟩ := OfPost.ns hp (HLN.out _)
  have hB := bl_trans hB hb
  have hG := hG.below hb
  have hn2 := hn2.below hb
  have hsa := fun w h1 h2 => samen_any (.slice p5 (ofP y l).length cap5) (.slice p6 (ofP y l).length cap6) (ofP y l) (ofP y l) w h1 h2
  rw [decide_eq_true rfl] at hsa
  have HS := Lib.hid hsa
  clear hp hb hsa hl
  go_wp2_with fail
  refine (HS.out _ hn2 hn3).mono ?_
  rintro e w7 ⟨rfl, hb⟩
  have hB := bl_trans hB hb
  have hG := hG.below hb
  clear hb HS hn2 hn3
  go_wp2_with fail
  refine (hlives_any _ hG).mono ?_
  rintro e w8 ⟨rfl, hb⟩
  have hB := bl_trans hB hb
  go_wp2
  go_ret
  exact ⟨rfl, hB⟩
end Go.Proofs.YtnemgohcjjhfmaaDoor
