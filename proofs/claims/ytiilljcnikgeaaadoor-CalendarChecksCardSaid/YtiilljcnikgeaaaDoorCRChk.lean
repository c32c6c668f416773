/- The walk of the reference's Check of a calendar. Conditions: the calendar lies in memory. -/
import Derived.Test.YtiilljcnikgeaaaDoorCChk
import Derived.Test.YtiilljcnikgeaaaDoorHRVal
import Derived.Laws.StructEq
namespace Go.Proofs.YtiilljcnikgeaaaDoor
open Go.RowKit

theorem eqW (b0 b1 b2 b3 b4 b5 b6 : Bool) (w : World) : (binOp .eql 23 (.agg #[.bool b0, .bool b1, .bool b2, .bool b3, .bool b4, .bool b5, .bool b6]) (.agg #[.bool true, .bool true, .bool true, .bool true, .bool true, .bool true, .bool true])).run Tryd.prog w = .ok (.bool (b0 && (b1 && (b2 && (b3 && (b4 && (b5 && (b6 && true)))))))) w := by
  cases b0 <;> cases b1 <;> cases b2 <;> cases b3 <;> cases b4 <;> cases b5 <;> cases b6 <;> kernel_rfl
theorem guardW (x y : Operand) (xs ys : Array Value) (w : World) : (eqGuard .eql 23 x y (.agg xs) (.agg ys)).run Tryd.prog w = .ok () w := run_eqGuard_agg w .eql 23 x y xs ys (by kernel_rfl)
set_option maxRecDepth 100000 in
set_option maxHeartbeats 8000000 in
theorem rccheck_any (c : Cal) (vh vc vs : Value) (w : World) (hc : CalAt w vh vc vs c) :
    Calls Tryd.prog 13 #[aggC c vh vc vs] w (Ret (.int .i64 (cchk c)) w) := by
  obtain ⟨pa, cap, rfl, hm, hcl⟩ := hc.ic.open
  unfold maxLen at hm
  have hv : cchk c = if allW c then 1 else if hchk c.hs ≠ 0 then hchk c.hs else if 200 < c.cl.length then 2 else if c.cl.all cloOk = false then 5 else if zchk c.o c.sh ≠ 0 then zchk c.o c.sh else if c.hr < 0 ∨ 1440 ≤ c.hr then 5 else 0 := rfl
  have hq := fun w => eqW (c.we 0) (c.we 1) (c.we 2) (c.we 3) (c.we 4) (c.we 5) (c.we 6) w
  have hg := guardW
  have hqa : (c.we 0 && (c.we 1 && (c.we 2 && (c.we 3 && (c.we 4 && (c.we 5 && (c.we 6 && true))))))) = allW c := rfl
  rw [hqa] at hq
  clear hqa
  have hho := fun w h => rhcheck_any vh c.hs w h
  have hzo := fun w h => zrcheck_any c.o vs c.sh w h
  generalize cchk c = V at *
  generalize allW c = aw at *
  generalize hchk c.hs = he at *
  generalize zchk c.o c.sh = ze at *
  have HV := Lib.hid hv; have HHO := Lib.hid hho; have HZO := Lib.hid hzo; have HC := Lib.hid hc; have HCL := Lib.hid hcl
  clear hv hho hzo hc hcl
  have bX := Blk.new w 30 (cellsC c vh (.slice pa c.cl.length cap) vs)
  have hB0 := bl_alloc w (.cells (cellsC c vh (.slice pa c.cl.length cap) vs) 30)
  cases aw
  · -- the weekend is one
    have HV2 : Hid (V = if he ≠ 0 then he else if 200 < c.cl.length then 2 else if c.cl.all cloOk = false then 5 else if ze ≠ 0 then ze else if c.hr < 0 ∨ 1440 ≤ c.hr then 5 else 0) := by show _ = _; rw [HV.out]; rfl
    clear HV
    by_cases h0 : he = 0
    · obtain rfl := h0
      by_cases h200 : 200 < c.cl.length
      · have HV3 : Hid (V = 2) := by show _ = _; rw [HV2.out, if_neg (by simp), if_pos h200]
        clear HV2
        go_enter Tryd.func13, Tryd.ntmps13
        go_wp2_with fail
        refine (HHO.out _ (HC.out.below hB0).ih).mono ?_
        rintro e w1 ⟨rfl, hb1⟩
        have hB1 := bl_trans hB0 hb1
        have bX1 := bX.below hb1 (by simp)
        obtain ⟨c0, c1, c2, c3, c4, c5, c6, c7, c8, c9, c10, c11⟩ := bX1.cal
        go_wp2
        go_ret
        exact ⟨ret_int HV3.out.symm, hB1⟩
      · have HV3 : Hid (V = if c.cl.all cloOk = false then 5 else if ze ≠ 0 then ze else if c.hr < 0 ∨ 1440 ≤ c.hr then 5 else 0) := by show _ = _; rw [HV2.out, if_neg (by simp), if_neg h200]
        clear HV2
        go_enter Tryd.func13, Tryd.ntmps13
        go_wp2_with fail
        refine (HHO.out _ (HC.out.below hB0).ih).mono ?_
        rintro e w1 ⟨rfl, hb1⟩
        have hB1 := bl_trans hB0 hb1
        have bX1 := bX.below hb1 (by simp)
        obtain ⟨c0, c1, c2, c3, c4, c5, c6, c7, c8, c9, c10, c11⟩ := bX1.cal
        go_wp2
        clear c0 c1 c2 c3 c4 c5 c6 c7 c8 c9 c10 c11
        have hbz := hB1.size
        have hxl := bX1.lt
        go_loopw [4, 5] (fun i _ wr => ∃ j : Nat, j ≤ c.cl.length ∧ i = .int .i64 j ∧ Hid ((c.cl.take j).all cloOk = true) ∧ Below w1.heap.size w1 wr) (fun i _ _ => c.cl.length - (intOf i).toNat)
        case atStart => exact ⟨0, Nat.zero_le _, rfl, rfl, bl_refl _⟩
        case round =>
          obtain ⟨j, hj, rfl, hal, hbw⟩ := hrel
          have hBw := bl_trans hB1 hbw
          have k8 := (bX1.below hbw hxl).cell 8
          simp at k8
          have hxl2 : w.heap.size < wr.heap.size := (bX1.below hbw hxl).lt
          by_cases hlt : j < c.cl.length
          · obtain ⟨x, hx⟩ : ∃ x, c.cl[j]? = some x := ⟨_, List.getElem?_eq_getElem hlt⟩
            obtain ⟨b, off, rfl, hbl, hcc⟩ := HCL.out (by omega)
            have hbl2 : b < wr.heap.size := Nat.lt_of_lt_of_le hbl hBw.size
            have hcw : ∀ j x, c.cl[j]? = some x → ∀ i u, (encC x)[i]? = some u → wr.cell? ⟨b, off + j * 3 + i, none⟩ = some u := fun j x hx i u hu => (hBw.cell (p := ⟨b, off + j * 3 + i, none⟩) hbl).trans (hcc j x hx i u hu)
            obtain ⟨d0, d1, d2⟩ := IsClos.at hcw hx
            have htk := cl_take hx
            rw [hal.out, Bool.true_and] at htk
            have hbad : cloOk x = false → c.cl.all cloOk = false := fun h => by
              rw [List.all_eq_false]; exact ⟨x, List.mem_of_getElem? hx, by rw [h]; simp⟩
            have hok : cloOk x = (!decide (x.fr > x.un) && (inD x.fr && (inD x.un && inD x.kn))) := rfl
            have hyes : cloOk x = true → Hid ((c.cl.take (j + 1)).all cloOk = true) := fun h => by show _ = _; rw [htk, h]
            have hno : cloOk x = false → Hid (V = 5) := fun h => by show _ = _; rw [HV3.out, if_pos (hbad h)]
            have HOK := Lib.hid hok; have HY := Lib.hid hyes; have HN := Lib.hid hno
            have w1' := fun w => crwithin_any x.fr w
            have w2' := fun w => crwithin_any x.un w
            have w3' := fun w => crwithin_any x.kn w
            clear hx hcw htk hbad hok hyes hno hcc hal
            go_upto_region 12 with (fail)
            have bL := Blk.new wr 36 #[.int .i64 x.fr, .int .i64 x.un, .int .i64 x.kn]
            have hbw2 := bl_trans hbw (bl_alloc wr (.cells #[.int .i64 x.fr, .int .i64 x.un, .int .i64 x.kn] 36))
            have hBw2 := bl_trans hBw (bl_alloc wr (.cells #[.int .i64 x.fr, .int .i64 x.un, .int .i64 x.kn] 36))
            obtain ⟨W2, hW2⟩ : ∃ W2, W2 = wr.alloc (.cells #[.int .i64 x.fr, .int .i64 x.un, .int .i64 x.kn] 36) := ⟨_, rfl⟩
            obtain ⟨B, hB⟩ : ∃ B, B = wr.heap.size := ⟨_, rfl⟩
            rw [← hW2] at bL hbw2 hBw2 ⊢
            rw [← hB] at bL ⊢
            have x0 := bL.cell 0
            have x1 := bL.cell 1
            have x2 := bL.cell 2
            simp at x0 x1 x2
            clear hW2 hB d0 d1 d2
            by_cases g1 : x.un < x.fr
            · have HN2 := HN.out (by rw [HOK.out, decide_eq_true g1]; rfl)
              clear w1' w2' w3'
              go_wp2
              go_ret
              exact ⟨ret_int HN2.out.symm, hBw2⟩
            · have e1 : decide (x.un < x.fr) = false := decide_eq_false g1
              cases g2 : inD x.fr
              · rw [g2] at w1'
                have HN2 := HN.out (by rw [HOK.out, g2]; simp)
                have H1 := Lib.hid w1'
                clear w1' w2' w3' g2
                go_wp2_with fail
                refine (H1.out _).mono ?_
                rintro e w3 ⟨rfl, rfl⟩
                go_wp2
                go_ret
                exact ⟨ret_int HN2.out.symm, hBw2⟩
              · rw [g2] at w1'
                have H1 := Lib.hid w1'
                cases g3 : inD x.un
                · rw [g3] at w2'
                  have HN2 := HN.out (by rw [HOK.out, g3]; simp)
                  have H2 := Lib.hid w2'
                  clear w1' w2' w3' g2 g3
                  go_wp2_with fail
                  refine (H1.out _).mono ?_
                  rintro e w3 ⟨rfl, rfl⟩
                  go_wp2_with fail
                  refine (H2.out _).mono ?_
                  rintro e w3 ⟨rfl, rfl⟩
                  go_wp2
                  go_ret
                  exact ⟨ret_int HN2.out.symm, hBw2⟩
                · rw [g3] at w2'
                  have H2 := Lib.hid w2'
                  cases g4 : inD x.kn
                  · rw [g4] at w3'
                    have HN2 := HN.out (by rw [HOK.out, g4]; simp)
                    have H3 := Lib.hid w3'
                    clear w1' w2' w3' g2 g3 g4
                    go_wp2_with fail
                    refine (H1.out _).mono ?_
                    rintro e w3 ⟨rfl, rfl⟩
                    go_wp2_with fail
                    refine (H2.out _).mono ?_
                    rintro e w3 ⟨rfl, rfl⟩
                    go_wp2_with fail
                    refine (H3.out _).mono ?_
                    rintro e w3 ⟨rfl, rfl⟩
                    go_wp2
                    go_ret
                    exact ⟨ret_int HN2.out.symm, hBw2⟩
                  · rw [g4] at w3'
                    have HY2 := HY.out (by rw [HOK.out, decide_eq_false (by omega), g2, g3, g4]; rfl)
                    have H3 := Lib.hid w3'
                    clear w1' w2' w3' g2 g3 g4
                    go_wp2_with fail
                    refine (H1.out _).mono ?_
                    rintro e w3 ⟨rfl, rfl⟩
                    go_wp2_with fail
                    refine (H2.out _).mono ?_
                    rintro e w3 ⟨rfl, rfl⟩
                    go_wp2_with fail
                    refine (H3.out _).mono ?_
                    rintro e w3 ⟨rfl, rfl⟩
                    go_wp2
                    go_roundw
                    case rel => exact ⟨j + 1, by omega, by go_num, HY2, hbw2⟩
                    case measure => simp [intOf]; omega
          · obtain rfl : j = c.cl.length := by omega
            have hal2 := hal.out
            rw [List.take_length] at hal2
            have HV4 : Hid (V = if ze ≠ 0 then ze else if c.hr < 0 ∨ 1440 ≤ c.hr then 5 else 0) := by show _ = _; rw [HV3.out, if_neg (by rw [hal2]; simp)]
            have bX2 := bX1.below hbw hxl
            obtain ⟨c0, c1, c2, c3, c4, c5, c6, c7, c8, c9, c10, c11⟩ := bX2.cal
            have hI := (HC.out.below hBw).is
            clear hal hal2 HV3
            by_cases hz : ze = 0
            · obtain rfl := hz
              by_cases g1 : c.hr < 0
              · have HV5 : Hid (V = 5) := by show _ = _; rw [HV4.out, if_neg (by simp), if_pos (.inl g1)]
                clear HV4
                go_wp2_with fail
                refine (HZO.out _ hI).mono ?_
                rintro e w3 ⟨rfl, hb3⟩
                obtain ⟨d0, d1, d2, d3, d4, d5, d6, d7, d8, d9, d10, d11⟩ := (bX2.below hb3 bX2.lt).cal
                go_wp2
                go_ret
                exact ⟨ret_int HV5.out.symm, bl_trans hBw hb3⟩
              · by_cases g2 : 1440 ≤ c.hr
                · have HV5 : Hid (V = 5) := by show _ = _; rw [HV4.out, if_neg (by simp), if_pos (.inr g2)]
                  clear HV4
                  go_wp2_with fail
                  refine (HZO.out _ hI).mono ?_
                  rintro e w3 ⟨rfl, hb3⟩
                  obtain ⟨d0, d1, d2, d3, d4, d5, d6, d7, d8, d9, d10, d11⟩ := (bX2.below hb3 bX2.lt).cal
                  go_wp2
                  go_ret
                  exact ⟨ret_int HV5.out.symm, bl_trans hBw hb3⟩
                · have HV5 : Hid (V = 0) := by show _ = _; rw [HV4.out, if_neg (by simp), if_neg (by omega)]
                  clear HV4
                  go_wp2_with fail
                  refine (HZO.out _ hI).mono ?_
                  rintro e w3 ⟨rfl, hb3⟩
                  obtain ⟨d0, d1, d2, d3, d4, d5, d6, d7, d8, d9, d10, d11⟩ := (bX2.below hb3 bX2.lt).cal
                  go_wp2
                  go_ret
                  exact ⟨ret_int HV5.out.symm, bl_trans hBw hb3⟩
            · have HV5 : Hid (V = ze) := by show _ = _; rw [HV4.out, if_pos hz]
              have q1 : (ze != 0) = true := by simpa using hz
              have q2 : (ze == 0) = false := by simpa using hz
              clear HV4 hz
              go_wp2_with fail
              refine (HZO.out _ hI).mono ?_
              rintro e w3 ⟨rfl, hb3⟩
              go_wp2
              go_ret
              exact ⟨ret_int HV5.out.symm, bl_trans hBw hb3⟩
    · have HV3 : Hid (V = he) := by show _ = _; rw [HV2.out, if_pos h0]
      have q1 : (he != 0) = true := by simpa using h0
      have q2 : (he == 0) = false := by simpa using h0
      clear HV2 h0
      go_enter Tryd.func13, Tryd.ntmps13
      go_wp2_with fail
      refine (HHO.out _ (HC.out.below hB0).ih).mono ?_
      rintro e w1 ⟨rfl, hb1⟩
      go_wp2
      go_ret
      exact ⟨ret_int HV3.out.symm, bl_trans hB0 hb1⟩
  · have HV2 : Hid (V = 1) := by show _ = _; rw [HV.out]; rfl
    clear HV
    go_enter Tryd.func13, Tryd.ntmps13
    go_wp2
    go_ret
    exact ⟨ret_int HV2.out.symm, hB0⟩
end Go.Proofs.YtiilljcnikgeaaaDoor
