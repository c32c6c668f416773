/- The walk of the law HolidayEaster: it returns true at every input. Conditions: the listed tables lie in memory. -/
import Derived.Test.YtnemgohcjjhfmaaDoorHLives
import Derived.Test.YtnemgohcjjhfmaaDoorHLoc
import Derived.Test.YtnemgohcjjhfmaaDoorHNum
namespace Go.Proofs.YtnemgohcjjhfmaaDoor
open Go.RowKit

/-- the rule of an offset -/
def eaX (o : Int) : Hol := ⟨4, 0, 0, 0, 0, o, 0, 1, 9999⟩
theorem eaX_valid {o : Int} (h0 : -100 ≤ o) (h1 : o ≤ 100) : hvB (eaX o) = true := by
  have e : vldK (eaX o) = true := win_iff.2 ⟨h0, h1⟩
  unfold hvB
  rw [e]; rfl
theorem eaX_no {o y : Int} (h : ¬ (1583 ≤ y ∧ y ≤ 9999)) : kB (eaX o) y = false := by
  have e : nB (eaX o) y = false := by
    show nomB eaE eaV (eaX o) y = false
    unfold nomB eaX eaE
    rw [if_neg h]; rfl
  show (win y 1 9999 && nB (eaX o) y && win (kV (eaX o) y) 0 3652058) = false
  rw [e]; simp
theorem eaX_yes {o y : Int} (h : 1583 ≤ y ∧ y ≤ 9999) (h0 : -100 ≤ o) (h1 : o ≤ 100) : kB (eaX o) y = true ∧ kV (eaX o) y = eaV y + o := by
  have ev : kV (eaX o) y = eaV y + o := by
    show nV (eaX o) y + movV 0 _ = _
    rw [movV_eq0]
    show nomV eaV (eaX o) y + 0 = _
    unfold nomV eaX
    simp
  have hs := eas_year h.1 h.2
  have hev : eaV y = reasN y := by unfold eaV; rw [if_pos h]; exact eas_eq h.1 h.2
  have g1 := num_range (y := y) (m := 3) (d := 1) (by omega) h.2 (by omega) (by omega) (by omega) (by rw [len3]; omega)
  have g2 := num_le_m (y := y) (m := 1) (m' := 3) (by omega) (by omega) (by omega)
  have g4 := num_range (y := y) (m := 12) (d := 1) (by omega) h.2 (by omega) (by omega) (by omega) (by rw [len12]; omega)
  have g3 := num_le_m (y := y) (m := 3) (m' := 12) (by omega) (by omega) (by omega)
  have g5 := num_range (y := y) (m := 1) (d := 1) (by omega) h.2 (by omega) (by omega) (by omega) (by rw [len1]; omega)
  have g6 : num 2 1 1 ≤ num y 1 1 := by have := num_jan_mono (y := 2) (y' := y) (by omega); omega
  have g7 : num 2 1 1 = 365 := by decide
  have en : nB (eaX o) y = true := by
    show nomB eaE eaV (eaX o) y = true
    unfold nomB eaX eaE
    rw [if_pos h]; rfl
  refine ⟨?_, ev⟩
  show (win y 1 9999 && nB (eaX o) y && win (kV (eaX o) y) 0 3652058) = true
  rw [en, ev, hev, win_iff.2 (show 1 ≤ y ∧ y ≤ 9999 by omega), win_iff.2 (show 0 ≤ reasN y + o ∧ reasN y + o ≤ 3652058 by unfold reasN; omega)]
  rfl
theorem eaV_sun {y : Int} (h : 1583 ≤ y ∧ y ≤ 9999) : eaV y % 7 = 6 := by unfold eaV; rw [if_pos h]; exact (eas_year h.1 h.2).2.1
theorem tmod7 (o : Int) : o.tmod 7 = 0 ↔ o % 7 = 0 := tmod0 o 7

set_option maxRecDepth 100000 in
set_option maxHeartbeats 8000000 in
theorem law_heaster (n yr : Int) (w : World) (hG : GoodH w) (h1 : -9223372036854775808 ≤ n) (h2 : n ≤ 9223372036854775807) (h3 : -9223372036854775808 ≤ yr) (h4 : yr ≤ 9223372036854775807) :
    Calls Tryd.prog 9 #[.int .i64 n, .int .i64 yr] w (Ret (.bool true) w) := by
  have hb := fun w => bound01 n 100 w h1 h2 (by omega) (by omega)
  obtain ⟨o1, o2⟩ := around_bd n (m := 2 * 100 + 1) (by omega)
  have o3 : -100 ≤ around n (2 * 100 + 1) - 100 := by omega
  have o4 : around n (2 * 100 + 1) - 100 ≤ 100 := by omega
  clear o1 o2
  generalize around n (2 * 100 + 1) - 100 = o at *
  have hA := fun w => around01 yr 8500 w h3 h4 (by omega) (by omega)
  obtain ⟨a1, a2⟩ := around_bd yr (m := 8500) (by omega)
  generalize around yr 8500 = a at *
  have hal : ∀ w, Calls Tryd.prog 12 #[aggH ⟨4, 0, 0, 0, 0, o, 0, 0, 0⟩] w (Ret (aggH (eaX o)) w) := fun w => alw_any ⟨4, 0, 0, 0, 0, o, 0, 0, 0⟩ w
  have hval := eaX_valid o3 o4
  have hvl : ∀ x, x ∈ [eaX o] → hvB x = true := fun x hx => by rw [List.mem_singleton.1 hx]; exact hval
  have hof := fun v y w hG h => hof_any v [eaX o] y w hG h (by simp) hvl
  have his := fun v d w hG h => is_any v d [eaX o] w hG h (by simp) hvl
  have hisb := fun d => isB_iff hvl (d := d)
  have HB := Lib.hid hb; have HA := Lib.hid hA; have HAL := Lib.hid hal; have HOF := Lib.hid hof; have HIS := Lib.hid his; have HISB := Lib.hid hisb
  clear hb hA hal hof his hisb hval hvl
  go_enter Tryd.func9, Tryd.ntmps9
  go_wp2_with fail
  refine (HB.out _).mono ?_
  rintro e w1 ⟨rfl, rfl⟩
  go_wp2_with fail
  refine (HAL.out _).mono ?_
  rintro e w1 ⟨rfl, hb1⟩
  have hl := one_row w1 (eaX o) 1
  have hB := bl_trans hb1 (bl_alloc w1 (.cells (cellsH (eaX o)) 27))
  have hz := hB.size
  have hG1 := hG.below hB
  go_wp2_with fail
  refine (HA.out _).mono ?_
  rintro e w2 ⟨rfl, rfl⟩
  have bY := Blk.at (show w1.heap.size + 1 = (w1.alloc (.cells (cellsH (eaX o)) 27)).heap.size by simp) 3 #[.int .i64 yr, .int .i64 (1500 + a)]
  have hl := hl.below (bl_alloc _ (.cells #[.int .i64 yr, .int .i64 (1500 + a)] 3))
  have hB := bl_trans hB (bl_alloc _ (.cells #[.int .i64 yr, .int .i64 (1500 + a)] 3))
  have hG1 := hG1.alloc (.cells #[.int .i64 yr, .int .i64 (1500 + a)] 3)
  go_wp2
  obtain ⟨g, hg⟩ : ∃ g, g = w1.heap.size := ⟨_, rfl⟩
  obtain ⟨W, hW⟩ : ∃ W, W = (w1.alloc (.cells (cellsH (eaX o)) 27)).alloc (.cells #[.int .i64 yr, .int .i64 (1500 + a)] 3) := ⟨_, rfl⟩
  rw [← hg, ← hW]
  rw [← hg] at bY hl
  rw [← hW] at bY hl hB hG1
  clear hg hW hz hb1
  have hgW := bY.lt
  have HL := Lib.hid hl
  clear hl
  go_loopw [8] (fun i wr => ∃ k : Nat, k ≤ 2 ∧ i = .int .i64 k ∧ Below W.heap.size W wr) (fun i _ => 2 - (intOf i).toNat)
  case atStart => exact ⟨0, by omega, rfl, bl_refl _⟩
  case round =>
    obtain ⟨k, hk, rfl, hbw⟩ := hrel
    have bYw := bY.below hbw hgW
    by_cases hlt : k < 2
    · obtain ⟨y, hy1, hy2, hcy⟩ : ∃ y : Int, -9223372036854775808 ≤ y ∧ y ≤ 9223372036854775807 ∧ ∀ w', Below wr.heap.size wr w' → w'.cell? ⟨g + 1, k, none⟩ = some (.int .i64 y) := by
        rcases (show k = 0 ∨ k = 1 by omega) with rfl | rfl
        · exact ⟨yr, h3, h4, fun w' hb => (bYw.below hb bYw.lt).cell 0⟩
        · exact ⟨1500 + a, by omega, by omega, fun w' hb => (bYw.below hb bYw.lt).cell 1⟩
      have c0 := hcy _ (bl_refl _)
      have HCY := Lib.hid hcy
      have hof1 := of_one y (eaX o)
      have hea := fun w => easter_any y w
      have HEA := Lib.hid hea
      have hGw := hG1.below hbw
      clear hcy hea bYw
      by_cases hE : 1583 ≤ y ∧ y ≤ 9999
      · obtain ⟨k1, k2⟩ := eaX_yes hE o3 o4
        rw [k1, if_pos rfl, k2] at hof1
        have hE0 : eaE y = 0 := by unfold eaE; rw [if_pos hE]
        have hsun := eaV_sun hE
        obtain ⟨v1, v2⟩ := eaV_bd y
        have his : isB [eaX o] (eaV y + o) = true := (HISB.out (eaV y + o)).2 ⟨y, eaX o, by simp, k1, k2⟩
        generalize eaV y = d at *
        have hwk : ∀ w, Calls Tryd.prog 20 #[.int .i64 (d + o)] w (Pur (.int .i64 ((d + o) % 7)) w) := fun w => weekday_any _ w
        have q3 : ((d + o) != (d + o)) = false := by simp
        have HOF1 := Lib.hid hof1; have HE0 := Lib.hid hE0; have HISD := Lib.hid his; have HWK := Lib.hid hwk
        have hcase : (((d + o) % 7 == 6) = true ∧ (o.tmod 7 == 0) = true) ∨ (((d + o) % 7 == 6) = false ∧ (o.tmod 7 == 0) = false) := by
          simp only [beq_iff_eq, beq_eq_false_iff_ne, ne_eq, tmod7]
          omega
        clear hof1 hE0 his hwk k1 k2 hsun hE
        rcases hcase with ⟨q1, q2⟩ | ⟨q1, q2⟩
        all_goals
          go_wp2_with fail
          refine (HOF.out _ _ _ hGw (HL.out.below hbw)).mono ?_
          intro e w3 hp
          rw [HOF1.out] at hp
          obtain ⟨pa, ca, rfl, hns, hb3⟩ := OfPost.ns hp (by simp [maxLen])
          obtain ⟨bn, on, rfl, -, hln, hcn⟩ := ns_get hns (by simp)
          have c1 := HCY.out _ hb3
          have hG3 := hGw.below hb3
          have hbw3 := bl_trans hbw hb3
          clear hp hns hb3 c0
          go_wp2_with fail
          refine (HEA.out _).mono ?_
          rintro e w4 ⟨rfl, hb4⟩
          have n0 := (hb4.cell (p := ⟨bn, on + 0 * 2 + 0, none⟩) hln).trans (hcn 0 _ rfl 0 _ rfl)
          have hG4 := hG3.below hb4
          have hbw4 := bl_trans hbw3 hb4
          simp only [Nat.zero_mul, Nat.add_zero] at n0
          rw [HE0.out]
          clear c1 hb4 hcn hln
          go_wp2_with fail
          refine (HWK.out _).mono ?_
          rintro e w5 ⟨rfl, rfl⟩
          go_wp2_with fail
          refine (HIS.out _ _ _ hG4 (HL.out.below hbw4)).mono ?_
          rintro e w5 ⟨rfl, hb5⟩
          rw [HISD.out]
          go_wp2
          go_roundw
          case rel => exact ⟨k + 1, by omega, by go_num, bl_trans hbw4 hb5⟩
          case measure => simp [intOf]; omega
      · rw [eaX_no hE, if_neg (by simp)] at hof1
        have hE0 : eaE y = 5 := by unfold eaE; rw [if_neg hE]
        have HOF1 := Lib.hid hof1; have HE0 := Lib.hid hE0
        clear hof1 hE0 hE
        go_wp2_with fail
        refine (HOF.out _ _ _ hGw (HL.out.below hbw)).mono ?_
        intro e w3 hp
        rw [HOF1.out] at hp
        obtain ⟨pa, ca, rfl, hns, hb3⟩ := OfPost.ns hp (by simp)
        have c1 := HCY.out _ hb3
        have hbw3 := bl_trans hbw hb3
        clear hp hns hb3 c0
        simp only [List.length_nil]
        go_wp2_with fail
        refine (HEA.out _).mono ?_
        rintro e w4 ⟨rfl, hb4⟩
        rw [HE0.out]
        go_wp2
        go_roundw
        case rel => exact ⟨k + 1, by omega, by go_num, bl_trans hbw3 hb4⟩
        case measure => simp [intOf]; omega
    · obtain rfl : k = 2 := by omega
      go_wp2_with fail
      refine (hlives_any _ (hG1.below hbw)).mono ?_
      rintro e w5 ⟨rfl, hb5⟩
      go_wp2
      go_ret
      exact ⟨rfl, bl_trans hB (bl_trans hbw hb5)⟩
end Go.Proofs.YtnemgohcjjhfmaaDoor
