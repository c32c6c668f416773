/- The walk of the law ZoneDates: it returns true at every slice of ints and number. Conditions: the slice lies in memory; the tables read as the program's text lays them. -/
import Derived.Test.YtioenakhkkejmaaDoorZLives
import Derived.Test.YtioenakhkkejmaaDoorDRoPlain
namespace Go.Proofs.YtioenakhkkejmaaDoor
open Go.RowKit

theorem ZBox.new {w : World} {o : Int} {v : Value} {sh : Sh} (hI : IsSh w v sh) : ZBox (w.alloc (.cells #[.int .i64 o, v] 25)) w.heap.size o v sh :=
  ⟨⟨(Blk.new _ _ _).cell 0, (Blk.new _ _ _).cell 1⟩, by simp, hI.below (bl_alloc _ _)⟩

/-- a day's printed date -/
def PS (n : Int) : ByteArray := ⟨(prS n).toArray⟩
theorem printPS (n : Int) (w : World) (hG : Good w) : Calls Tryd.prog 7 #[.int .i64 n] w (Ret (.string (PS n)) w) := print_any n w hG
set_option maxRecDepth 100000 in
set_option maxHeartbeats 8000000 in
theorem law_zdates (v : Value) (zs : List Int) (n : Int) (w : World) (hI : IsInts w v zs) (hz : InR zs) (hG : Good w) (h1 : -9223372036854775808 ≤ n) (h2 : n ≤ 9223372036854775807) :
    Calls Tryd.prog 3 #[v, .int .i64 n] w (Ret (.bool true) w) := by
  have hok := zone_ok zs
  have hzn := fun w h => zone_any v zs w h hz
  have ha := fun w => around03 n 432000 w h1 h2 (by omega) (by omega)
  obtain ⟨a1, a2⟩ := around_bd n (m := 432000) (by omega)
  generalize around n 432000 = r at *
  generalize zoneO zs = o at *
  generalize zoneSh zs = sh at *
  have e1 : offS (segsOf o sh) (1440 + r) = off o sh (1440 + r) := offS_segs (1440 + r) (by omega) sh _ o o
  obtain ⟨b1, b2⟩ := off_bd (t := 1440 + r) hok.ch hok.1 hok.2.1
  have c1 := fun sv w' h => zlocal_any o (1440 + r) sv sh w' h (by rw [e1]; omega) (by rw [e1]; omega)
  rw [e1] at c1
  generalize off o sh (1440 + r) = q at *
  obtain ⟨D, hD⟩ : ∃ D, D = (1440 + r + q) / 1440 := ⟨_, rfl⟩
  obtain ⟨T, hT⟩ : ∃ T, T = (1440 + r) / 1440 := ⟨_, rfl⟩
  rw [← hD] at c1
  have d1 : 0 ≤ D := by omega
  have d2 : D ≤ 400 := by omega
  have d3 : D = T - 1 ∨ D = T ∨ D = T + 1 := by omega
  have d4 : 0 ≤ T := by omega
  have d5 : T ≤ 400 := by omega
  have dq : (1440 + r).tdiv 1440 = T := by rw [hT]; exact Int.tdiv_eq_ediv_of_nonneg (by omega)
  generalize (1440 + r + q) % 1440 = Y at *
  have pp : paN (PS D) = D ∧ paE (PS D) = 0 := parse_print (n := D) d1 (by omega)
  have HZ := Lib.hid hzn; have HA := Lib.hid ha; have C1 := Lib.hid c1; have HI := Lib.hid hI; have HDQ := Lib.hid dq; have HPP := Lib.hid pp; have HT := Lib.hid hT
  clear hzn ha c1 hI hok e1 hD dq pp hT hz
  go_enter Tryd.func3, Tryd.ntmps3
  go_wp2_with fail
  refine (HZ.out _ HI.out).mono ?_
  rintro e w1 ⟨sv, rfl, hs, hb1⟩
  obtain ⟨sa, sc, rfl, _⟩ := hs.slice
  have hzb := ZBox.new (o := o) hs
  have hB := bl_trans hb1 (bl_alloc w1 (.cells #[.int .i64 o, .slice sa sh.length sc] 25))
  go_wp2_with fail
  refine (HA.out _).mono ?_
  rintro e w' ⟨rfl, rfl⟩
  obtain ⟨⟨c0, c1⟩, hlt, hIs⟩ := hzb
  go_wp2_with fail
  refine (C1.out _ _ hIs).mono ?_
  rintro e w2 ⟨rfl, hb⟩
  have hB2 := bl_trans hB hb
  clear c0 c1 hlt hIs hb hB
  have hG2 := hG.below hB2
  go_wp2_with fail
  refine (printPS _ _ hG2).mono ?_
  rintro e w3 ⟨rfl, hb3⟩
  have hG3 := hG2.below hb3
  go_wp2_with fail
  refine (parse_any _ _ hG3).mono ?_
  rintro e w4 ⟨rfl, hb4⟩
  rw [HPP.out.1, HPP.out.2]
  have hG4 := hG3.below hb4
  have hB4 := bl_trans (bl_trans hB2 hb3) hb4
  have gD : (D == D) = true := beq_self_eq_true D
  clear hB2 hb3 hb4 hG2 hG3
  go_wp2_with fail
  rw [← HT.out]
  refine (printPS _ _ hG4).mono ?_
  rintro e w5 ⟨rfl, hb5⟩
  have hG5 := hG4.below hb5
  have hB5 := bl_trans hB4 hb5
  by_cases hq : (PS D).toList = (PS (T - 1)).toList
  · clear d3
    go_wp2_with fail
    refine (zlives_any _).mono ?_
    rintro e w9 ⟨rfl, hb9⟩
    go_wp2_with fail
    go_ret
    exact ⟨rfl, bl_trans hB5 hb9⟩
  · have hne : D ≠ T - 1 := fun h => hq (by rw [h])
    go_wp2_with fail
    rw [← HT.out]
    refine (printPS _ _ hG5).mono ?_
    rintro e w6 ⟨rfl, hb6⟩
    have hG6 := hG5.below hb6
    have hB6 := bl_trans hB5 hb6
    go_wp2_with fail
    · refine (zlives_any _).mono ?_
      rintro e w9 ⟨rfl, hb9⟩
      go_wp2_with fail
      go_ret
      exact ⟨rfl, bl_trans hB6 hb9⟩
    · have hq2 : ¬ (PS D).toList = (PS T).toList := by assumption
      have hne2 : D ≠ T := fun h => hq2 (by rw [h])
      have hq3 : (PS D).toList = (PS (T + 1)).toList := by rw [show D = T + 1 from by omega]
      have HQ3 := Lib.hid hq3
      clear d3 hne hne2 hq3
      rw [← HT.out]
      refine (printPS _ _ hG6).mono ?_
      rintro e w7 ⟨rfl, hb7⟩
      have hB7 := bl_trans hB6 hb7
      go_wp2_with fail
      · refine (zlives_any _).mono ?_
        rintro e w9 ⟨rfl, hb9⟩
        go_wp2_with fail
        go_ret
        exact ⟨rfl, bl_trans hB7 hb9⟩
end Go.Proofs.YtioenakhkkejmaaDoor
