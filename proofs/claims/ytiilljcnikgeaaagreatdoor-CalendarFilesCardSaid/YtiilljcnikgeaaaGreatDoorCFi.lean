/- The walk of the law CalendarFiles: it returns true at every input. Conditions: the numbers are ints that lie in memory, the listed tables lie in memory. -/
import Derived.Test.YtiilljcnikgeaaaGreatDoorCAny
import Derived.Test.YtiilljcnikgeaaaGreatDoorCRf
import Derived.Test.YtiilljcnikgeaaaGreatDoorKRow
namespace Go.Proofs.YtiilljcnikgeaaaGreatDoor
open Go.RowKit

theorem locT_lt {c : Cal} {t : Int} (h : t < 1125899906842624) : locT c t = lt c.o c.sh t := by
  show t + offS (segsOf c.o c.sh) t = t + off c.o c.sh t
  unfold segsOf
  rw [offS_segs t h]
def FilB (c : Cal) (z : Int) : Prop := (-4000000000000000 ≤ locT c z ∧ locT c z ≤ 4000000000000000) ∧ z < 1125899906842624
theorem filB_of {c : Cal} (hok : Ok c.o c.sh) {z : Int} (h1 : -2000000000000 ≤ z) (h2 : z ≤ 2000000000000) : FilB c z := by
  have ho := off_bd (t := z) hok.ch hok.1 hok.2.1
  unfold FilB
  rw [locT_lt (by omega)]
  unfold lt
  omega
set_option maxRecDepth 100000 in
set_option maxHeartbeats 8000000 in
theorem law_cfiles (v : Value) (zs : List Int) (n mi kn : Int) (w : World) (hI : IsIntsC w v zs) (hz : InR zs) (hG : GoodH w) (b0 : -9223372036854775808 ≤ n) (t0 : n ≤ 9223372036854775807) (b1 : -9223372036854775808 ≤ mi) (t1 : mi ≤ 9223372036854775807) (b2 : -9223372036854775808 ≤ kn) (t2 : kn ≤ 9223372036854775807) :
    Calls Tryz.prog 4 #[v, .int .i64 n, .int .i64 mi, .int .i64 kn] w (Ret (.bool true) w) := by
  have hck := cal_any v zs w hI hz
  have hpost := fun e w' h => @CalPost.in zs w e w' h
  have hreg := mkCal_reg zs
  have hok := mkCal_ok zs
  have hlen := mkCal_len zs
  have hhr := mkCal_hr zs
  generalize mkCal zs = c at *
  have HCK := Lib.hid hck; have HPOST := Lib.hid hpost; have HREG := Lib.hid hreg; have HOK := Lib.hid hok
  clear hck hpost hreg hok hI hz
  obtain ⟨d1, d2⟩ := dayL_bd n
  have hd := fun w => lday_any n w b0 t0
  have hk := fun w => lday_any kn w b2 t2
  obtain ⟨x1, x2⟩ := around_bd mi (m := 1440) (by omega)
  have hx := fun w => around01 mi 1440 w b1 t1 (by omega) (by omega)
  obtain ⟨y1, y2⟩ := around_bd n (m := 2199023255553) (by omega)
  have hy := fun w => around01 n 2199023255553 w b0 t0 (by omega) (by omega)
  generalize dayL n = d at *
  generalize dayL kn = k at *
  generalize around mi 1440 = x at *
  generalize around n 2199023255553 = y at *
  have hf1 : FilB c (1440 * d + x) := filB_of HOK.out (by omega) (by omega)
  have hf2 : FilB c (y - 1099511627776) := filB_of HOK.out (by omega) (by omega)
  have m1 := fun z (h : FilB c z) vh vc vs w hG hc => filed_any c vh vc vs z k w hG hc h.1.1 h.1.2
  have m2 := fun z (h : FilB c z) vh vc vs w hc => rfiled_any c vh vc vs z k w hc h.1.1 h.1.2 HOK.out h.2
  have m3 := fun vh vc vs w hc => last_any c vh vc vs d w hc HOK.out (by omega) (by omega) (by omega) hhr.1 hhr.2
  have m4 := fun vh vc vs w hc => rlast_any c vh vc vs d w hc HOK.out (by omega) (by omega) (by omega) hhr.1 hhr.2
  generalize lasV c d = lv at *
  have HD := Lib.hid hd; have HK := Lib.hid hk; have HX := Lib.hid hx; have HY := Lib.hid hy; have M1 := Lib.hid m1; have M2 := Lib.hid m2; have M3 := Lib.hid m3; have M4 := Lib.hid m4; have HF1 := Lib.hid hf1; have HF2 := Lib.hid hf2
  clear hd hk hx hy m1 m2 m3 m4 hf1 hf2 hhr
  go_enter Tryz.func4, Tryz.ntmps4
  go_wp2_with fail
  refine HCK.out.mono ?_
  intro e w1 hp
  obtain ⟨vh, vc, vs, rfl, hc, ⟨hr1, hr2⟩, hb1⟩ := HPOST.out _ _ hp
  clear hp
  obtain ⟨ha, hcp, rfl⟩ := row_slice hr1
  obtain ⟨ca, ccp, rfl⟩ := row_slice hr2
  obtain ⟨sa, scp, rfl, hsl⟩ := hc.is.slice
  have bX := Blk.new w1 30 (cellsC c (.slice ha c.hs.length hcp) (.slice ca c.cl.length ccp) (.slice sa c.sh.length scp))
  have hB := bl_trans hb1 (bl_alloc w1 (.cells (cellsC c (.slice ha c.hs.length hcp) (.slice ca c.cl.length ccp) (.slice sa c.sh.length scp)) 30))
  have HC := Lib.hid (hc.alloc (.cells (cellsC c (.slice ha c.hs.length hcp) (.slice ca c.cl.length ccp) (.slice sa c.sh.length scp)) 30))
  go_wp2_with fail
  obtain ⟨X, hX⟩ : ∃ X, X = w1.heap.size := ⟨_, rfl⟩
  rw [← hX] at bX ⊢
  clear hX hc hr1 hr2 hb1
  obtain ⟨V0, hV0⟩ : ∃ V0, w1.alloc (.cells (cellsC c (.slice ha c.hs.length hcp) (.slice ca c.cl.length ccp) (.slice sa c.sh.length scp)) 30) = V0 := ⟨_, rfl⟩
  rw [hV0] at bX hB HC ⊢
  clear hV0 w1
  obtain ⟨c0, c1, c2, c3, c4, c5, c6, c7, c8, c9, c10, c11⟩ := bX.cal
  refine (HK.out _).mono ?_
  rintro e q ⟨rfl, rfl⟩
  go_wp2_with fail
  refine (HD.out _).mono ?_
  rintro e q ⟨rfl, rfl⟩
  go_wp2_with fail
  refine (HX.out _).mono ?_
  rintro e q ⟨rfl, rfl⟩
  go_wp2_with fail
  refine (HY.out _).mono ?_
  rintro e q ⟨rfl, rfl⟩
  clear c0 c1 c2 c3 c4 c5 c6 c7 c8 c9 c10 c11
  go_wp2
  have bA := Blk.new V0 3 #[.int .i64 (1440 * d + x), .int .i64 (y - 1099511627776)]
  have bl := bl_alloc V0 (.cells #[.int .i64 (1440 * d + x), .int .i64 (y - 1099511627776)] 3)
  have bX1 := bX.below bl bX.lt
  have hB1 := bl_trans hB bl
  have HC1 := Lib.hid (HC.out.below bl)
  obtain ⟨A, hA⟩ : ∃ A, A = V0.heap.size := ⟨_, rfl⟩
  rw [← hA] at bA ⊢
  obtain ⟨V1, hV1⟩ : ∃ V1, V1 = V0.alloc (.cells #[.int .i64 (1440 * d + x), .int .i64 (y - 1099511627776)] 3) := ⟨_, rfl⟩
  rw [← hV1] at bA bX1 hB1 HC1 ⊢
  have hcell : ∀ j : Nat, j < 2 → ∃ z, FilB c z ∧ V1.cell? ⟨A, j, none⟩ = some (.int .i64 z) := fun j hj => by
    have e0 := bA.cell 0
    have e1 := bA.cell 1
    have : j = 0 ∨ j = 1 := by omega
    rcases this with rfl | rfl
    · exact ⟨_, HF1.out, e0⟩
    · exact ⟨_, HF2.out, e1⟩
  have hAl := bA.lt
  have HCELL := Lib.hid hcell
  clear hA hV1 bX hB HC bl hcell bA
  go_loopw [12] (fun i wr => ∃ j : Nat, j ≤ 2 ∧ i = .int .i64 j ∧ Below V1.heap.size V1 wr) (fun i _ => 2 - (intOf i).toNat)
  case atStart => exact ⟨0, Nat.zero_le _, rfl, bl_refl _⟩
  case round =>
    obtain ⟨j, hj, rfl, hbw⟩ := hrel
    have bX := bX1.below hbw bX1.lt
    have hB := bl_trans hB1 hbw
    have HC := Lib.hid (HC1.out.below hbw)
    by_cases hlt : j < 2
    · obtain ⟨z, hfb, hz⟩ := HCELL.out j (by omega)
      have xk : ∀ u : UpW wr, u.w.cell? ⟨A, j, none⟩ = some (.int .i64 z) := fun u => ((bl_trans hbw u.h).cell (p := ⟨A, j, none⟩) hAl).trans hz
      have bU : ∀ u : UpW wr, Blk u.w X 30 (cellsC c (.slice ha c.hs.length hcp) (.slice ca c.cl.length ccp) (.slice sa c.sh.length scp)) := fun u => bX.below u.h bX.lt
      have x0 : ∀ u : UpW wr, u.w.cell? ⟨X, 0, none⟩ = some (.bool (c.we 0)) := fun u => (bU u).cell 0
      have x1 : ∀ u : UpW wr, u.w.cell? ⟨X, 1, none⟩ = some (.bool (c.we 1)) := fun u => (bU u).cell 1
      have x2 : ∀ u : UpW wr, u.w.cell? ⟨X, 2, none⟩ = some (.bool (c.we 2)) := fun u => (bU u).cell 2
      have x3 : ∀ u : UpW wr, u.w.cell? ⟨X, 3, none⟩ = some (.bool (c.we 3)) := fun u => (bU u).cell 3
      have x4 : ∀ u : UpW wr, u.w.cell? ⟨X, 4, none⟩ = some (.bool (c.we 4)) := fun u => (bU u).cell 4
      have x5 : ∀ u : UpW wr, u.w.cell? ⟨X, 5, none⟩ = some (.bool (c.we 5)) := fun u => (bU u).cell 5
      have x6 : ∀ u : UpW wr, u.w.cell? ⟨X, 6, none⟩ = some (.bool (c.we 6)) := fun u => (bU u).cell 6
      have x7 : ∀ u : UpW wr, u.w.cell? ⟨X, 7, none⟩ = some (.slice ha c.hs.length hcp) := fun u => (bU u).cell 7
      have x8 : ∀ u : UpW wr, u.w.cell? ⟨X, 8, none⟩ = some (.slice ca c.cl.length ccp) := fun u => (bU u).cell 8
      have x9 : ∀ u : UpW wr, u.w.cell? ⟨X, 9, none⟩ = some (.int .i64 c.o) := fun u => (bU u).cell 9
      have x10 : ∀ u : UpW wr, u.w.cell? ⟨X, 10, none⟩ = some (.slice sa c.sh.length scp) := fun u => (bU u).cell 10
      have x11 : ∀ u : UpW wr, u.w.cell? ⟨X, 11, none⟩ = some (.int .i64 c.hr) := fun u => (bU u).cell 11
      have HU := Lib.hid bU
      clear bU
      go_wp2
      refine wp_region_up (by kernel_rfl) (by kernel_rfl) ?_
      repeat (go_big_quiet_step (fail))
      go_big_quiet_step (exact Ret.up (M1.out z hfb _ _ _ _ (hG.below (bl_trans hB (UpW.h _))) (HC.out.below (UpW.h _))))
      repeat (go_big_quiet_step (fail))
      refine wpQuiet_nil ?_
      rintro vr ⟨⟨_, hb⟩, rfl⟩
      clear x0 x1 x2 x3 x4 x5 x6 x7 x8 x9 x10 x11 HU
      have yk : ∀ u : UpW vr, u.w.cell? ⟨A, j, none⟩ = some (.int .i64 z) := fun u => ((bl_trans (bl_trans hbw hb) u.h).cell (p := ⟨A, j, none⟩) hAl).trans hz
      have hbw3 := bl_trans hbw hb
      have bY := bX.below hb bX.lt
      have hB2 := bl_trans hB hb
      have HC2 := Lib.hid (HC.out.below hb)
      clear bX hB HC hb
      have bX := bY
      have hB := hB2
      have HC := HC2
      clear bY hB2 HC2
      clear xk hbw
      have bU : ∀ u : UpW vr, Blk u.w X 30 (cellsC c (.slice ha c.hs.length hcp) (.slice ca c.cl.length ccp) (.slice sa c.sh.length scp)) := fun u => bX.below u.h bX.lt
      have x0 : ∀ u : UpW vr, u.w.cell? ⟨X, 0, none⟩ = some (.bool (c.we 0)) := fun u => (bU u).cell 0
      have x1 : ∀ u : UpW vr, u.w.cell? ⟨X, 1, none⟩ = some (.bool (c.we 1)) := fun u => (bU u).cell 1
      have x2 : ∀ u : UpW vr, u.w.cell? ⟨X, 2, none⟩ = some (.bool (c.we 2)) := fun u => (bU u).cell 2
      have x3 : ∀ u : UpW vr, u.w.cell? ⟨X, 3, none⟩ = some (.bool (c.we 3)) := fun u => (bU u).cell 3
      have x4 : ∀ u : UpW vr, u.w.cell? ⟨X, 4, none⟩ = some (.bool (c.we 4)) := fun u => (bU u).cell 4
      have x5 : ∀ u : UpW vr, u.w.cell? ⟨X, 5, none⟩ = some (.bool (c.we 5)) := fun u => (bU u).cell 5
      have x6 : ∀ u : UpW vr, u.w.cell? ⟨X, 6, none⟩ = some (.bool (c.we 6)) := fun u => (bU u).cell 6
      have x7 : ∀ u : UpW vr, u.w.cell? ⟨X, 7, none⟩ = some (.slice ha c.hs.length hcp) := fun u => (bU u).cell 7
      have x8 : ∀ u : UpW vr, u.w.cell? ⟨X, 8, none⟩ = some (.slice ca c.cl.length ccp) := fun u => (bU u).cell 8
      have x9 : ∀ u : UpW vr, u.w.cell? ⟨X, 9, none⟩ = some (.int .i64 c.o) := fun u => (bU u).cell 9
      have x10 : ∀ u : UpW vr, u.w.cell? ⟨X, 10, none⟩ = some (.slice sa c.sh.length scp) := fun u => (bU u).cell 10
      have x11 : ∀ u : UpW vr, u.w.cell? ⟨X, 11, none⟩ = some (.int .i64 c.hr) := fun u => (bU u).cell 11
      have HU := Lib.hid bU
      clear bU
      go_wp2
      refine wp_region_up (by kernel_rfl) (by kernel_rfl) ?_
      repeat (go_big_quiet_step (fail))
      go_big_quiet_step (exact Ret.up (M2.out z hfb _ _ _ _ (HC.out.below (UpW.h _))))
      repeat (go_big_quiet_step (fail))
      refine wpQuiet_nil ?_
      rintro vr ⟨⟨_, hb⟩, rfl⟩
      clear x0 x1 x2 x3 x4 x5 x6 x7 x8 x9 x10 x11 HU yk
      go_wp2
      go_roundw
      case rel => exact ⟨j + 1, by omega, by go_num, bl_trans hbw3 hb⟩
      case measure => simp [intOf]; omega
    · skip
      have bU : ∀ u : UpW wr, Blk u.w X 30 (cellsC c (.slice ha c.hs.length hcp) (.slice ca c.cl.length ccp) (.slice sa c.sh.length scp)) := fun u => bX.below u.h bX.lt
      have x0 : ∀ u : UpW wr, u.w.cell? ⟨X, 0, none⟩ = some (.bool (c.we 0)) := fun u => (bU u).cell 0
      have x1 : ∀ u : UpW wr, u.w.cell? ⟨X, 1, none⟩ = some (.bool (c.we 1)) := fun u => (bU u).cell 1
      have x2 : ∀ u : UpW wr, u.w.cell? ⟨X, 2, none⟩ = some (.bool (c.we 2)) := fun u => (bU u).cell 2
      have x3 : ∀ u : UpW wr, u.w.cell? ⟨X, 3, none⟩ = some (.bool (c.we 3)) := fun u => (bU u).cell 3
      have x4 : ∀ u : UpW wr, u.w.cell? ⟨X, 4, none⟩ = some (.bool (c.we 4)) := fun u => (bU u).cell 4
      have x5 : ∀ u : UpW wr, u.w.cell? ⟨X, 5, none⟩ = some (.bool (c.we 5)) := fun u => (bU u).cell 5
      have x6 : ∀ u : UpW wr, u.w.cell? ⟨X, 6, none⟩ = some (.bool (c.we 6)) := fun u => (bU u).cell 6
      have x7 : ∀ u : UpW wr, u.w.cell? ⟨X, 7, none⟩ = some (.slice ha c.hs.length hcp) := fun u => (bU u).cell 7
      have x8 : ∀ u : UpW wr, u.w.cell? ⟨X, 8, none⟩ = some (.slice ca c.cl.length ccp) := fun u => (bU u).cell 8
      have x9 : ∀ u : UpW wr, u.w.cell? ⟨X, 9, none⟩ = some (.int .i64 c.o) := fun u => (bU u).cell 9
      have x10 : ∀ u : UpW wr, u.w.cell? ⟨X, 10, none⟩ = some (.slice sa c.sh.length scp) := fun u => (bU u).cell 10
      have x11 : ∀ u : UpW wr, u.w.cell? ⟨X, 11, none⟩ = some (.int .i64 c.hr) := fun u => (bU u).cell 11
      have HU := Lib.hid bU
      clear bU
      go_wp2
      refine wp_region_up (by kernel_rfl) (by kernel_rfl) ?_
      repeat (go_big_quiet_step (fail))
      go_big_quiet_step (exact Ret.up (pur_ret (HD.out _)))
      repeat (go_big_quiet_step (fail))
      go_big_quiet_step (exact Ret.up (M3.out _ _ _ _ (HC.out.below (UpW.h _))))
      repeat (go_big_quiet_step (fail))
      go_big_quiet_step (exact Ret.up (pur_ret (HD.out _)))
      repeat (go_big_quiet_step (fail))
      go_big_quiet_step (exact Ret.up (M4.out _ _ _ _ (HC.out.below (UpW.h _))))
      repeat (go_big_quiet_step (fail))
      go_big_quiet_step (exact Ret.up (clives_any _ (hG.below (bl_trans hB (UpW.h _)))))
      repeat (go_big_quiet_step (fail))
      refine wpQuiet_nil ?_
      rintro vr ⟨⟨_, hb⟩, rfl⟩
      clear x0 x1 x2 x3 x4 x5 x6 x7 x8 x9 x10 x11 HU
      go_wp2
      go_ret
      exact ⟨rfl, bl_trans hB hb⟩
end Go.Proofs.YtiilljcnikgeaaaGreatDoor
