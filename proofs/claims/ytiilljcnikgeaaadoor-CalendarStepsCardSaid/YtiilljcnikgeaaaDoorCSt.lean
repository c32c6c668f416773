/- The walk of the law CalendarSteps: it returns true at every input. Conditions: the numbers are ints that lie in memory, the listed tables lie in memory. -/
import Derived.Test.YtiilljcnikgeaaaDoorCLvs
namespace Go.Proofs.YtiilljcnikgeaaaDoor
open Go.RowKit

theorem add_of {c : Cal} {k d n e : Int} (hd : inD d = true) (h1 : -1000 ≤ n) (h2 : n ≤ 1000) (h : addO c k (addS n) n.natAbs d = some e) : addV c k d n = e ∧ addE c k d n = 0 := by
  unfold addV addE
  rw [if_pos hd, if_pos hd, if_neg (by omega), if_neg (by omega), h]; exact ⟨rfl, rfl⟩
def StepsOk (c : Cal) (k d x y e1 e2 : Int) : Prop := (addV c k d x = e1 ∧ addE c k d x = 0) ∧ (addV c k e1 y = e2 ∧ addE c k e1 y = 0) ∧ (addV c k d (x + y) = e2 ∧ addE c k d (x + y) = 0) ∧ (d ≤ e1 ∧ e1 ≤ d + 1710) ∧ (0 < x → openB c k e1 = true ∧ cntV c k (d + 1) e1 = x) ∧ (openB c k d = true → addV c k e1 (-x) = d ∧ addE c k e1 (-x) = 0)
theorem steps_ok {c : Cal} (h : Reg c 18) {k d x y : Int} (d1 : 700000 ≤ d) (d2 : d ≤ 800000) (x1 : 0 ≤ x) (x2 : x ≤ 30) (y1 : 0 ≤ y) (y2 : y ≤ 30) : ∃ e1 e2, StepsOk c k d x y e1 e2 := by
  obtain ⟨X, rfl⟩ : ∃ X : Nat, x = X := ⟨x.toNat, by omega⟩
  obtain ⟨Y, rfl⟩ : ∃ Y : Nat, y = Y := ⟨y.toNat, by omega⟩
  obtain ⟨e1, h1, u1⟩ := addO_ex h k 8 (by omega) (by omega) (by omega) X d (by omega) (by omega)
  have l1 := addO_up h1
  obtain ⟨e2, h2, u2⟩ := addO_ex h k 8 (by omega) (by omega) (by omega) Y e1 (by omega) (by omega)
  have l2 := addO_up h2
  have s1 : ∀ n : Nat, addS (n : Int) = 1 := fun n => by unfold addS; rw [if_neg (by omega)]
  have h3 : addO c k 1 (X + Y) d = some e2 := by rw [addO_add, h1]; exact h2
  have b1 : inD d = true := inD_iff.2 (by omega)
  have b2 : inD e1 = true := inD_iff.2 (by omega)
  refine ⟨e1, e2, ?_, ?_, ?_, ⟨by omega, by omega⟩, fun hx => ⟨addO_open h1 (by omega), ?_⟩, fun ho => ?_⟩
  · exact add_of b1 (by omega) (by omega) (by rw [s1]; exact h1)
  · exact add_of b2 (by omega) (by omega) (by rw [s1]; exact h2)
  · refine add_of b1 (by omega) (by omega) ?_
    rw [show ((X : Int) + (Y : Int)) = ((X + Y : Nat) : Int) by omega, s1]; exact h3
  · unfold cntV
    rw [cntN_cnt, show (e1 - (d + 1) + 1).toNat = (e1 - d).toNat by omega, cnt_way h1]
  · refine add_of b2 (by omega) (by omega) ?_
    have hb := addO_back h1 ho
    by_cases h0 : X = 0
    · subst h0
      cases h1
      rfl
    · have : addS (-(X : Int)) = -1 := by unfold addS; rw [if_pos (by omega)]
      rw [this, show (-(X : Int)).natAbs = X by omega]; exact hb

set_option maxRecDepth 100000 in
set_option maxHeartbeats 8000000 in
theorem law_csteps (v : Value) (zs : List Int) (n a b kn : Int) (w : World) (hI : IsIntsC w v zs) (hz : InR zs) (hG : GoodH w) (b0 : -9223372036854775808 ≤ n) (t0 : n ≤ 9223372036854775807) (b1 : -9223372036854775808 ≤ a) (t1 : a ≤ 9223372036854775807) (b2 : -9223372036854775808 ≤ b) (t2 : b ≤ 9223372036854775807) (b3 : -9223372036854775808 ≤ kn) (t3 : kn ≤ 9223372036854775807) :
    Calls Tryd.prog 6 #[v, .int .i64 n, .int .i64 a, .int .i64 b, .int .i64 kn] w (Ret (.bool true) w) := by
  have hck := cal_any v zs w hI hz
  have hpost := fun e w' h => @CalPost.in zs w e w' h
  have hreg := mkCal_reg zs
  have hok := mkCal_ok zs
  have hlen := mkCal_len zs
  have hhr := mkCal_hr zs
  generalize mkCal zs = c at *
  have HCK := Lib.hid hck; have HPOST := Lib.hid hpost; have HREG := Lib.hid hreg; have HOK := Lib.hid hok
  clear hck hpost hreg hok hI hz
  obtain ⟨d1, d2⟩ := dayL_bd n
  have hd := fun w => lday_any n w b0 t0
  have hk := fun w => lday_any kn w b3 t3
  obtain ⟨x1, x2⟩ := around_bd a (m := 31) (by omega)
  obtain ⟨y1, y2⟩ := around_bd b (m := 31) (by omega)
  have hx := fun w => around01 a 31 w b1 t1 (by omega) (by omega)
  have hy := fun w => around01 b 31 w b2 t2 (by omega) (by omega)
  generalize dayL n = d at *
  generalize dayL kn = k at *
  generalize around a 31 = x at *
  generalize around b 31 = y at *
  obtain ⟨e1, e2, ⟨g1, g2⟩, ⟨g3, g4⟩, ⟨g5, g6⟩, ⟨u1, u2⟩, hop, hback⟩ := steps_ok HREG.out (k := k) (d := d) (x := x) (y := y) (by omega) (by omega) x1 (by omega) y1 (by omega)
  have m1 := fun vh vc vs w hG hc => add_any c vh vc vs d x k w hG hc
  have m2 := fun vh vc vs w hG hc => add_any c vh vc vs e1 y k w hG hc
  have m3 := fun vh vc vs w hG hc => add_any c vh vc vs d (x + y) k w hG hc
  have m4 := fun vh vc vs w hG hc => add_any c vh vc vs e1 (-x) k w hG hc
  have m5 := fun vh vc vs w hG hc => open_any c vh vc vs d k w hG hc
  have m6 := fun vh vc vs w hG hc => open_any c vh vc vs e1 k w hG hc
  have m7 := fun vh vc vs w hG hc => count_any c vh vc vs (d + 1) e1 k w hG hc (by omega) (by omega) (by omega) (by omega)
  rw [g1, g2] at m1
  rw [g3, g4] at m2
  rw [g5, g6] at m3
  have HD := Lib.hid hd; have HK := Lib.hid hk; have HX := Lib.hid hx; have HY := Lib.hid hy
  have M1 := Lib.hid m1; have M2 := Lib.hid m2; have M3 := Lib.hid m3; have HOP := Lib.hid hop; have HBK := Lib.hid hback
  clear hd hk hx hy m1 m2 m3 hop hback g1 g2 g3 g4 g5 g6
  by_cases hx0 : 0 < x
  · obtain ⟨o1, o2⟩ := HOP.out hx0
    rw [o1] at m6
    rw [o2] at m7
    have M6 := Lib.hid m6; have M7 := Lib.hid m7
    clear m6 m7 o1 o2
    cases ho : openB c k d
    · rw [ho] at m5
      have M5 := Lib.hid m5
      have M4 := Lib.hid m4
      generalize addV c k e1 (-x) = z1 at *
      generalize addE c k e1 (-x) = z2 at *
      clear ho m4 m5
      go_enter Tryd.func6, Tryd.ntmps6
      go_wp2_with fail
      refine HCK.out.mono ?_
      intro e w1 hp
      obtain ⟨vh, vc, vs, rfl, hc, ⟨hr1, hr2⟩, hb1⟩ := HPOST.out _ _ hp
      clear hp
      obtain ⟨ha, hcp, rfl⟩ := row_slice hr1
      obtain ⟨ca, ccp, rfl⟩ := row_slice hr2
      obtain ⟨sa, scp, rfl, hsl⟩ := hc.is.slice
      have bX := Blk.new w1 30 (cellsC c (.slice ha c.hs.length hcp) (.slice ca c.cl.length ccp) (.slice sa c.sh.length scp))
      have hB := bl_trans hb1 (bl_alloc w1 (.cells (cellsC c (.slice ha c.hs.length hcp) (.slice ca c.cl.length ccp) (.slice sa c.sh.length scp)) 30))
      have HC := Lib.hid (hc.alloc (.cells (cellsC c (.slice ha c.hs.length hcp) (.slice ca c.cl.length ccp) (.slice sa c.sh.length scp)) 30))
      go_wp2_with fail
      obtain ⟨X, hX⟩ : ∃ X, X = w1.heap.size := ⟨_, rfl⟩
      rw [← hX] at bX ⊢
      clear hX hc hr1 hr2 hb1
      obtain ⟨V0, hV0⟩ : ∃ V0, w1.alloc (.cells (cellsC c (.slice ha c.hs.length hcp) (.slice ca c.cl.length ccp) (.slice sa c.sh.length scp)) 30) = V0 := ⟨_, rfl⟩
      rw [hV0] at bX hB HC ⊢
      clear hV0 w1
      obtain ⟨c0, c1, c2, c3, c4, c5, c6, c7, c8, c9, c10, c11⟩ := bX.cal
      refine (HD.out _).mono ?_
      rintro e q ⟨rfl, rfl⟩
      go_wp2_with fail
      refine (HK.out _).mono ?_
      rintro e q ⟨rfl, rfl⟩
      go_wp2_with fail
      refine (HX.out _).mono ?_
      rintro e q ⟨rfl, rfl⟩
      go_wp2_with fail
      refine (HY.out _).mono ?_
      rintro e q ⟨rfl, rfl⟩
      go_wp2_with fail
      refine (M1.out _ _ _ _ (hG.below hB) HC.out).mono ?_
      rintro e v1 ⟨rfl, hb⟩
      have bY := bX.below hb bX.lt
      have hB2 := bl_trans hB hb
      have HC2 := Lib.hid (HC.out.below hb)
      clear c0 c1 c2 c3 c4 c5 c6 c7 c8 c9 c10 c11 bX hB HC hb
      have bX := bY
      have hB := hB2
      have HC := HC2
      clear bY hB2 HC2
      obtain ⟨c0, c1, c2, c3, c4, c5, c6, c7, c8, c9, c10, c11⟩ := bX.cal
      go_wp2_with fail
      refine (M2.out _ _ _ _ (hG.below hB) HC.out).mono ?_
      rintro e v2 ⟨rfl, hb⟩
      have bY := bX.below hb bX.lt
      have hB2 := bl_trans hB hb
      have HC2 := Lib.hid (HC.out.below hb)
      clear c0 c1 c2 c3 c4 c5 c6 c7 c8 c9 c10 c11 bX hB HC hb
      have bX := bY
      have hB := hB2
      have HC := HC2
      clear bY hB2 HC2
      obtain ⟨c0, c1, c2, c3, c4, c5, c6, c7, c8, c9, c10, c11⟩ := bX.cal
      go_wp2_with fail
      refine (M3.out _ _ _ _ (hG.below hB) HC.out).mono ?_
      rintro e v3 ⟨rfl, hb⟩
      have bY := bX.below hb bX.lt
      have hB2 := bl_trans hB hb
      have HC2 := Lib.hid (HC.out.below hb)
      clear c0 c1 c2 c3 c4 c5 c6 c7 c8 c9 c10 c11 bX hB HC hb
      have bX := bY
      have hB := hB2
      have HC := HC2
      clear bY hB2 HC2
      obtain ⟨c0, c1, c2, c3, c4, c5, c6, c7, c8, c9, c10, c11⟩ := bX.cal
      go_wp2_with fail
      refine (M6.out _ _ _ _ (hG.below hB) HC.out).mono ?_
      rintro e v4 ⟨rfl, hb⟩
      have bY := bX.below hb bX.lt
      have hB2 := bl_trans hB hb
      have HC2 := Lib.hid (HC.out.below hb)
      clear c0 c1 c2 c3 c4 c5 c6 c7 c8 c9 c10 c11 bX hB HC hb
      have bX := bY
      have hB := hB2
      have HC := HC2
      clear bY hB2 HC2
      obtain ⟨c0, c1, c2, c3, c4, c5, c6, c7, c8, c9, c10, c11⟩ := bX.cal
      go_wp2_with fail
      refine (M7.out _ _ _ _ (hG.below hB) HC.out).mono ?_
      rintro e v5 ⟨rfl, hb⟩
      have bY := bX.below hb bX.lt
      have hB2 := bl_trans hB hb
      have HC2 := Lib.hid (HC.out.below hb)
      clear c0 c1 c2 c3 c4 c5 c6 c7 c8 c9 c10 c11 bX hB HC hb
      have bX := bY
      have hB := hB2
      have HC := HC2
      clear bY hB2 HC2
      obtain ⟨c0, c1, c2, c3, c4, c5, c6, c7, c8, c9, c10, c11⟩ := bX.cal
      go_wp2_with fail
      refine (M4.out _ _ _ _ (hG.below hB) HC.out).mono ?_
      rintro e v6 ⟨rfl, hb⟩
      have bY := bX.below hb bX.lt
      have hB2 := bl_trans hB hb
      have HC2 := Lib.hid (HC.out.below hb)
      clear c0 c1 c2 c3 c4 c5 c6 c7 c8 c9 c10 c11 bX hB HC hb
      have bX := bY
      have hB := hB2
      have HC := HC2
      clear bY hB2 HC2
      obtain ⟨c0, c1, c2, c3, c4, c5, c6, c7, c8, c9, c10, c11⟩ := bX.cal
      go_wp2_with fail
      refine (M5.out _ _ _ _ (hG.below hB) HC.out).mono ?_
      rintro e v7 ⟨rfl, hb⟩
      have bY := bX.below hb bX.lt
      have hB2 := bl_trans hB hb
      have HC2 := Lib.hid (HC.out.below hb)
      clear c0 c1 c2 c3 c4 c5 c6 c7 c8 c9 c10 c11 bX hB HC hb
      have bX := bY
      have hB := hB2
      have HC := HC2
      clear bY hB2 HC2
      obtain ⟨c0, c1, c2, c3, c4, c5, c6, c7, c8, c9, c10, c11⟩ := bX.cal
      go_wp2_with fail
      refine (clives_any _ (hG.below hB)).mono ?_
      rintro e vz ⟨rfl, hb⟩
      go_wp2
      go_ret
      exact ⟨rfl, bl_trans hB hb⟩
    · rw [ho] at m5
      have M5 := Lib.hid m5
      obtain ⟨k1, k2⟩ := HBK.out ho
      rw [k1, k2] at m4
      have M4 := Lib.hid m4
      clear k1 k2 ho m4 m5
      go_enter Tryd.func6, Tryd.ntmps6
      go_wp2_with fail
      refine HCK.out.mono ?_
      intro e w1 hp
      obtain ⟨vh, vc, vs, rfl, hc, ⟨hr1, hr2⟩, hb1⟩ := HPOST.out _ _ hp
      clear hp
      obtain ⟨ha, hcp, rfl⟩ := row_slice hr1
      obtain ⟨ca, ccp, rfl⟩ := row_slice hr2
      obtain ⟨sa, scp, rfl, hsl⟩ := hc.is.slice
      have bX := Blk.new w1 30 (cellsC c (.slice ha c.hs.length hcp) (.slice ca c.cl.length ccp) (.slice sa c.sh.length scp))
      have hB := bl_trans hb1 (bl_alloc w1 (.cells (cellsC c (.slice ha c.hs.length hcp) (.slice ca c.cl.length ccp) (.slice sa c.sh.length scp)) 30))
      have HC := Lib.hid (hc.alloc (.cells (cellsC c (.slice ha c.hs.length hcp) (.slice ca c.cl.length ccp) (.slice sa c.sh.length scp)) 30))
      go_wp2_with fail
      obtain ⟨X, hX⟩ : ∃ X, X = w1.heap.size := ⟨_, rfl⟩
      rw [← hX] at bX ⊢
      clear hX hc hr1 hr2 hb1
      obtain ⟨V0, hV0⟩ : ∃ V0, w1.alloc (.cells (cellsC c (.slice ha c.hs.length hcp) (.slice ca c.cl.length ccp) (.slice sa c.sh.length scp)) 30) = V0 := ⟨_, rfl⟩
      rw [hV0] at bX hB HC ⊢
      clear hV0 w1
      obtain ⟨c0, c1, c2, c3, c4, c5, c6, c7, c8, c9, c10, c11⟩ := bX.cal
      refine (HD.out _).mono ?_
      rintro e q ⟨rfl, rfl⟩
      go_wp2_with fail
      refine (HK.out _).mono ?_
      rintro e q ⟨rfl, rfl⟩
      go_wp2_with fail
      refine (HX.out _).mono ?_
      rintro e q ⟨rfl, rfl⟩
      go_wp2_with fail
      refine (HY.out _).mono ?_
      rintro e q ⟨rfl, rfl⟩
      go_wp2_with fail
      refine (M1.out _ _ _ _ (hG.below hB) HC.out).mono ?_
      rintro e v8 ⟨rfl, hb⟩
      have bY := bX.below hb bX.lt
      have hB2 := bl_trans hB hb
      have HC2 := Lib.hid (HC.out.below hb)
      clear c0 c1 c2 c3 c4 c5 c6 c7 c8 c9 c10 c11 bX hB HC hb
      have bX := bY
      have hB := hB2
      have HC := HC2
      clear bY hB2 HC2
      obtain ⟨c0, c1, c2, c3, c4, c5, c6, c7, c8, c9, c10, c11⟩ := bX.cal
      go_wp2_with fail
      refine (M2.out _ _ _ _ (hG.below hB) HC.out).mono ?_
      rintro e v9 ⟨rfl, hb⟩
      have bY := bX.below hb bX.lt
      have hB2 := bl_trans hB hb
      have HC2 := Lib.hid (HC.out.below hb)
      clear c0 c1 c2 c3 c4 c5 c6 c7 c8 c9 c10 c11 bX hB HC hb
      have bX := bY
      have hB := hB2
      have HC := HC2
      clear bY hB2 HC2
      obtain ⟨c0, c1, c2, c3, c4, c5, c6, c7, c8, c9, c10, c11⟩ := bX.cal
      go_wp2_with fail
      refine (M3.out _ _ _ _ (hG.below hB) HC.out).mono ?_
      rintro e v10 ⟨rfl, hb⟩
      have bY := bX.below hb bX.lt
      have hB2 := bl_trans hB hb
      have HC2 := Lib.hid (HC.out.below hb)
      clear c0 c1 c2 c3 c4 c5 c6 c7 c8 c9 c10 c11 bX hB HC hb
      have bX := bY
      have hB := hB2
      have HC := HC2
      clear bY hB2 HC2
      obtain ⟨c0, c1, c2, c3, c4, c5, c6, c7, c8, c9, c10, c11⟩ := bX.cal
      go_wp2_with fail
      refine (M6.out _ _ _ _ (hG.below hB) HC.out).mono ?_
      rintro e v11 ⟨rfl, hb⟩
      have bY := bX.below hb bX.lt
      have hB2 := bl_trans hB hb
      have HC2 := Lib.hid (HC.out.below hb)
      clear c0 c1 c2 c3 c4 c5 c6 c7 c8 c9 c10 c11 bX hB HC hb
      have bX := bY
      have hB := hB2
      have HC := HC2
      clear bY hB2 HC2
      obtain ⟨c0, c1, c2, c3, c4, c5, c6, c7, c8, c9, c10, c11⟩ := bX.cal
      go_wp2_with fail
      refine (M7.out _ _ _ _ (hG.below hB) HC.out).mono ?_
      rintro e v12 ⟨rfl, hb⟩
      have bY := bX.below hb bX.lt
      have hB2 := bl_trans hB hb
      have HC2 := Lib.hid (HC.out.below hb)
      clear c0 c1 c2 c3 c4 c5 c6 c7 c8 c9 c10 c11 bX hB HC hb
      have bX := bY
      have hB := hB2
      have HC := HC2
      clear bY hB2 HC2
      obtain ⟨c0, c1, c2, c3, c4, c5, c6, c7, c8, c9, c10, c11⟩ := bX.cal
      go_wp2_with fail
      refine (M4.out _ _ _ _ (hG.below hB) HC.out).mono ?_
      rintro e v13 ⟨rfl, hb⟩
      have bY := bX.below hb bX.lt
      have hB2 := bl_trans hB hb
      have HC2 := Lib.hid (HC.out.below hb)
      clear c0 c1 c2 c3 c4 c5 c6 c7 c8 c9 c10 c11 bX hB HC hb
      have bX := bY
      have hB := hB2
      have HC := HC2
      clear bY hB2 HC2
      obtain ⟨c0, c1, c2, c3, c4, c5, c6, c7, c8, c9, c10, c11⟩ := bX.cal
      go_wp2_with fail
      refine (M5.out _ _ _ _ (hG.below hB) HC.out).mono ?_
      rintro e v14 ⟨rfl, hb⟩
      have bY := bX.below hb bX.lt
      have hB2 := bl_trans hB hb
      have HC2 := Lib.hid (HC.out.below hb)
      clear c0 c1 c2 c3 c4 c5 c6 c7 c8 c9 c10 c11 bX hB HC hb
      have bX := bY
      have hB := hB2
      have HC := HC2
      clear bY hB2 HC2
      obtain ⟨c0, c1, c2, c3, c4, c5, c6, c7, c8, c9, c10, c11⟩ := bX.cal
      go_wp2_with fail
      refine (clives_any _ (hG.below hB)).mono ?_
      rintro e vz ⟨rfl, hb⟩
      go_wp2
      go_ret
      exact ⟨rfl, bl_trans hB hb⟩
  · clear m6 m7
    cases ho : openB c k d
    · rw [ho] at m5
      have M5 := Lib.hid m5
      have M4 := Lib.hid m4
      generalize addV c k e1 (-x) = z1 at *
      generalize addE c k e1 (-x) = z2 at *
      clear ho m4 m5
      go_enter Tryd.func6, Tryd.ntmps6
      go_wp2_with fail
      refine HCK.out.mono ?_
      intro e w1 hp
      obtain ⟨vh, vc, vs, rfl, hc, ⟨hr1, hr2⟩, hb1⟩ := HPOST.out _ _ hp
      clear hp
      obtain ⟨ha, hcp, rfl⟩ := row_slice hr1
      obtain ⟨ca, ccp, rfl⟩ := row_slice hr2
      obtain ⟨sa, scp, rfl, hsl⟩ := hc.is.slice
      have bX := Blk.new w1 30 (cellsC c (.slice ha c.hs.length hcp) (.slice ca c.cl.length ccp) (.slice sa c.sh.length scp))
      have hB := bl_trans hb1 (bl_alloc w1 (.cells (cellsC c (.slice ha c.hs.length hcp) (.slice ca c.cl.length ccp) (.slice sa c.sh.length scp)) 30))
      have HC := Lib.hid (hc.alloc (.cells (cellsC c (.slice ha c.hs.length hcp) (.slice ca c.cl.length ccp) (.slice sa c.sh.length scp)) 30))
      go_wp2_with fail
      obtain ⟨X, hX⟩ : ∃ X, X = w1.heap.size := ⟨_, rfl⟩
      rw [← hX] at bX ⊢
      clear hX hc hr1 hr2 hb1
      obtain ⟨V0, hV0⟩ : ∃ V0, w1.alloc (.cells (cellsC c (.slice ha c.hs.length hcp) (.slice ca c.cl.length ccp) (.slice sa c.sh.length scp)) 30) = V0 := ⟨_, rfl⟩
      rw [hV0] at bX hB HC ⊢
      clear hV0 w1
      obtain ⟨c0, c1, c2, c3, c4, c5, c6, c7, c8, c9, c10, c11⟩ := bX.cal
      refine (HD.out _).mono ?_
      rintro e q ⟨rfl, rfl⟩
      go_wp2_with fail
      refine (HK.out _).mono ?_
      rintro e q ⟨rfl, rfl⟩
      go_wp2_with fail
      refine (HX.out _).mono ?_
      rintro e q ⟨rfl, rfl⟩
      go_wp2_with fail
      refine (HY.out _).mono ?_
      rintro e q ⟨rfl, rfl⟩
      go_wp2_with fail
      refine (M1.out _ _ _ _ (hG.below hB) HC.out).mono ?_
      rintro e v15 ⟨rfl, hb⟩
      have bY := bX.below hb bX.lt
      have hB2 := bl_trans hB hb
      have HC2 := Lib.hid (HC.out.below hb)
      clear c0 c1 c2 c3 c4 c5 c6 c7 c8 c9 c10 c11 bX hB HC hb
      have bX := bY
      have hB := hB2
      have HC := HC2
      clear bY hB2 HC2
      obtain ⟨c0, c1, c2, c3, c4, c5, c6, c7, c8, c9, c10, c11⟩ := bX.cal
      go_wp2_with fail
      refine (M2.out _ _ _ _ (hG.below hB) HC.out).mono ?_
      rintro e v16 ⟨rfl, hb⟩
      have bY := bX.below hb bX.lt
      have hB2 := bl_trans hB hb
      have HC2 := Lib.hid (HC.out.below hb)
      clear c0 c1 c2 c3 c4 c5 c6 c7 c8 c9 c10 c11 bX hB HC hb
      have bX := bY
      have hB := hB2
      have HC := HC2
      clear bY hB2 HC2
      obtain ⟨c0, c1, c2, c3, c4, c5, c6, c7, c8, c9, c10, c11⟩ := bX.cal
      go_wp2_with fail
      refine (M3.out _ _ _ _ (hG.below hB) HC.out).mono ?_
      rintro e v17 ⟨rfl, hb⟩
      have bY := bX.below hb bX.lt
      have hB2 := bl_trans hB hb
      have HC2 := Lib.hid (HC.out.below hb)
      clear c0 c1 c2 c3 c4 c5 c6 c7 c8 c9 c10 c11 bX hB HC hb
      have bX := bY
      have hB := hB2
      have HC := HC2
      clear bY hB2 HC2
      obtain ⟨c0, c1, c2, c3, c4, c5, c6, c7, c8, c9, c10, c11⟩ := bX.cal
      go_wp2_with fail
      refine (M4.out _ _ _ _ (hG.below hB) HC.out).mono ?_
      rintro e v18 ⟨rfl, hb⟩
      have bY := bX.below hb bX.lt
      have hB2 := bl_trans hB hb
      have HC2 := Lib.hid (HC.out.below hb)
      clear c0 c1 c2 c3 c4 c5 c6 c7 c8 c9 c10 c11 bX hB HC hb
      have bX := bY
      have hB := hB2
      have HC := HC2
      clear bY hB2 HC2
      obtain ⟨c0, c1, c2, c3, c4, c5, c6, c7, c8, c9, c10, c11⟩ := bX.cal
      go_wp2_with fail
      refine (M5.out _ _ _ _ (hG.below hB) HC.out).mono ?_
      rintro e v19 ⟨rfl, hb⟩
      have bY := bX.below hb bX.lt
      have hB2 := bl_trans hB hb
      have HC2 := Lib.hid (HC.out.below hb)
      clear c0 c1 c2 c3 c4 c5 c6 c7 c8 c9 c10 c11 bX hB HC hb
      have bX := bY
      have hB := hB2
      have HC := HC2
      clear bY hB2 HC2
      obtain ⟨c0, c1, c2, c3, c4, c5, c6, c7, c8, c9, c10, c11⟩ := bX.cal
      go_wp2_with fail
      refine (clives_any _ (hG.below hB)).mono ?_
      rintro e vz ⟨rfl, hb⟩
      go_wp2
      go_ret
      exact ⟨rfl, bl_trans hB hb⟩
    · rw [ho] at m5
      have M5 := Lib.hid m5
      obtain ⟨k1, k2⟩ := HBK.out ho
      rw [k1, k2] at m4
      have M4 := Lib.hid m4
      clear k1 k2 ho m4 m5
      go_enter Tryd.func6, Tryd.ntmps6
      go_wp2_with fail
      refine HCK.out.mono ?_
      intro e w1 hp
      obtain ⟨vh, vc, vs, rfl, hc, ⟨hr1, hr2⟩, hb1⟩ := HPOST.out _ _ hp
      clear hp
      obtain ⟨ha, hcp, rfl⟩ := row_slice hr1
      obtain ⟨ca, ccp, rfl⟩ := row_slice hr2
      obtain ⟨sa, scp, rfl, hsl⟩ := hc.is.slice
      have bX := Blk.new w1 30 (cellsC c (.slice ha c.hs.length hcp) (.slice ca c.cl.length ccp) (.slice sa c.sh.length scp))
      have hB := bl_trans hb1 (bl_alloc w1 (.cells (cellsC c (.slice ha c.hs.length hcp) (.slice ca c.cl.length ccp) (.slice sa c.sh.length scp)) 30))
      have HC := Lib.hid (hc.alloc (.cells (cellsC c (.slice ha c.hs.length hcp) (.slice ca c.cl.length ccp) (.slice sa c.sh.length scp)) 30))
      go_wp2_with fail
      obtain ⟨X, hX⟩ : ∃ X, X = w1.heap.size := ⟨_, rfl⟩
      rw [← hX] at bX ⊢
      clear hX hc hr1 hr2 hb1
      obtain ⟨V0, hV0⟩ : ∃ V0, w1.alloc (.cells (cellsC c (.slice ha c.hs.length hcp) (.slice ca c.cl.length ccp) (.slice sa c.sh.length scp)) 30) = V0 := ⟨_, rfl⟩
      rw [hV0] at bX hB HC ⊢
      clear hV0 w1
      obtain ⟨c0, c1, c2, c3, c4, c5, c6, c7, c8, c9, c10, c11⟩ := bX.cal
      refine (HD.out _).mono ?_
      rintro e q ⟨rfl, rfl⟩
      go_wp2_with fail
      refine (HK.out _).mono ?_
      rintro e q ⟨rfl, rfl⟩
      go_wp2_with fail
      refine (HX.out _).mono ?_
      rintro e q ⟨rfl, rfl⟩
      go_wp2_with fail
      refine (HY.out _).mono ?_
      rintro e q ⟨rfl, rfl⟩
      go_wp2_with fail
      refine (M1.out _ _ _ _ (hG.below hB) HC.out).mono ?_
      rintro e v20 ⟨rfl, hb⟩
      have bY := bX.below hb bX.lt
      have hB2 := bl_trans hB hb
      have HC2 := Lib.hid (HC.out.below hb)
      clear c0 c1 c2 c3 c4 c5 c6 c7 c8 c9 c10 c11 bX hB HC hb
      have bX := bY
      have hB := hB2
      have HC := HC2
      clear bY hB2 HC2
      obtain ⟨c0, c1, c2, c3, c4, c5, c6, c7, c8, c9, c10, c11⟩ := bX.cal
      go_wp2_with fail
      refine (M2.out _ _ _ _ (hG.below hB) HC.out).mono ?_
      rintro e v21 ⟨rfl, hb⟩
      have bY := bX.below hb bX.lt
      have hB2 := bl_trans hB hb
      have HC2 := Lib.hid (HC.out.below hb)
      clear c0 c1 c2 c3 c4 c5 c6 c7 c8 c9 c10 c11 bX hB HC hb
      have bX := bY
      have hB := hB2
      have HC := HC2
      clear bY hB2 HC2
      obtain ⟨c0, c1, c2, c3, c4, c5, c6, c7, c8, c9, c10, c11⟩ := bX.cal
      go_wp2_with fail
      refine (M3.out _ _ _ _ (hG.below hB) HC.out).mono ?_
      rintro e v22 ⟨rfl, hb⟩
      have bY := bX.below hb bX.lt
      have hB2 := bl_trans hB hb
      have HC2 := Lib.hid (HC.out.below hb)
      clear c0 c1 c2 c3 c4 c5 c6 c7 c8 c9 c10 c11 bX hB HC hb
      have bX := bY
      have hB := hB2
      have HC := HC2
      clear bY hB2 HC2
      obtain ⟨c0, c1, c2, c3, c4, c5, c6, c7, c8, c9, c10, c11⟩ := bX.cal
      go_wp2_with fail
      refine (M4.out _ _ _ _ (hG.below hB) HC.out).mono ?_
      rintro e v23 ⟨rfl, hb⟩
      have bY := bX.below hb bX.lt
      have hB2 := bl_trans hB hb
      have HC2 := Lib.hid (HC.out.below hb)
      clear c0 c1 c2 c3 c4 c5 c6 c7 c8 c9 c10 c11 bX hB HC hb
      have bX := bY
      have hB := hB2
      have HC := HC2
      clear bY hB2 HC2
      obtain ⟨c0, c1, c2, c3, c4, c5, c6, c7, c8, c9, c10, c11⟩ := bX.cal
      go_wp2_with fail
      refine (M5.out _ _ _ _ (hG.below hB) HC.out).mono ?_
      rintro e v24 ⟨rfl, hb⟩
      have bY := bX.below hb bX.lt
      have hB2 := bl_trans hB hb
      have HC2 := Lib.hid (HC.out.below hb)
      clear c0 c1 c2 c3 c4 c5 c6 c7 c8 c9 c10 c11 bX hB HC hb
      have bX := bY
      have hB := hB2
      have HC := HC2
      clear bY hB2 HC2
      obtain ⟨c0, c1, c2, c3, c4, c5, c6, c7, c8, c9, c10, c11⟩ := bX.cal
      go_wp2_with fail
      refine (clives_any _ (hG.below hB)).mono ?_
      rintro e vz ⟨rfl, hb⟩
      go_wp2
      go_ret
      exact ⟨rfl, bl_trans hB hb⟩
end Go.Proofs.YtiilljcnikgeaaaDoor
