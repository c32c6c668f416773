/- The walk of the law CalendarOpens: it returns true at every input. Conditions: the numbers are ints that lie in memory, the listed tables lie in memory. -/
import Derived.Test.YtiilljcnikgeaaaGreatDoorCAny
import Derived.Test.YtiilljcnikgeaaaGreatDoorCRef
import Derived.Test.YtiilljcnikgeaaaGreatDoorKRow
namespace Go.Proofs.YtiilljcnikgeaaaGreatDoor
open Go.RowKit

set_option maxRecDepth 100000 in
set_option maxHeartbeats 8000000 in
theorem law_copens (v : Value) (zs : List Int) (n how kn le : Int) (w : World) (hI : IsIntsC w v zs) (hz : InR zs) (hG : GoodH w) (b0 : -9223372036854775808 ≤ n) (t0 : n ≤ 9223372036854775807) (b1 : -9223372036854775808 ≤ how) (t1 : how ≤ 9223372036854775807) (b2 : -9223372036854775808 ≤ kn) (t2 : kn ≤ 9223372036854775807) (b3 : -9223372036854775808 ≤ le) (t3 : le ≤ 9223372036854775807) :
    Calls Tryz.prog 5 #[v, .int .i64 n, .int .i64 how, .int .i64 kn, .int .i64 le] w (Ret (.bool true) w) := by
  have hck := cal_any v zs w hI hz
  have hpost := fun e w' h => @CalPost.in zs w e w' h
  have hreg := mkCal_reg zs
  have hok := mkCal_ok zs
  have hlen := mkCal_len zs
  have hhr := mkCal_hr zs
  generalize mkCal zs = c at *
  have HCK := Lib.hid hck; have HPOST := Lib.hid hpost; have HREG := Lib.hid hreg; have HOK := Lib.hid hok
  clear hck hpost hreg hok hI hz
  obtain ⟨ww, hww⟩ : ∃ ww, ww = wrap64 (how + 2) := ⟨_, rfl⟩
  have hw2 : -9223372036854775808 ≤ ww ∧ ww ≤ 9223372036854775807 := by rw [hww]; exact i64_bd (wrap64_wf _)
  have hd := fun w => lany_any n how w b0 t0 b1 t1
  have hk := fun w => lany_any kn ww w b2 t2 hw2.1 hw2.2
  obtain ⟨l1, l2⟩ := around_bd le (m := 60) (by omega)
  have hl := fun w => around01 le 60 w b3 t3 (by omega) (by omega)
  have hdb := anyL_bd n how b0 t0
  generalize anyL n how = d at *
  generalize anyL kn ww = k at *
  generalize around le 60 = r at *
  obtain ⟨f, hf⟩ : ∃ f, f = max 0 (min d 3652058) := ⟨_, rfl⟩
  obtain ⟨u, hu⟩ : ∃ u, u = max 0 (min 3652058 (f - 3 + r)) := ⟨_, rfl⟩
  have m1 := fun vh vc vs w hG hc => open_any c vh vc vs d k w hG hc
  have m2 := fun vh vc vs w hc => ropen_any c vh vc vs d k w hc
  have m3 := fun vh vc vs w hG hc => count_any c vh vc vs f u k w hG hc (by omega) (by omega) (by omega) (by omega)
  have m4 := fun vh vc vs w hc => rcount_any c vh vc vs f u k w hc (by omega) (by omega) (by omega) (by omega)
  generalize openB c k d = ob at *
  generalize cntV c k f u = cv at *
  have hfb : 0 ≤ f ∧ f ≤ 3652058 := by omega
  obtain ⟨fb1, fb2⟩ := hfb
  have HD := Lib.hid hd; have HK := Lib.hid hk; have HL := Lib.hid hl; have M1 := Lib.hid m1; have M2 := Lib.hid m2; have M3 := Lib.hid m3; have M4 := Lib.hid m4; have HF := Lib.hid hf; have HUU := Lib.hid hu
  have HWW := Lib.hid hww
  clear hd hk hl m1 m2 m3 m4 hf hu hhr hww hw2
  go_enter Tryz.func5, Tryz.ntmps5
  go_wp2_with fail
  refine HCK.out.mono ?_
  intro e w1 hp
  obtain ⟨vh, vc, vs, rfl, hc, ⟨hr1, hr2⟩, hb1⟩ := HPOST.out _ _ hp
  clear hp
  obtain ⟨ha, hcp, rfl⟩ := row_slice hr1
  obtain ⟨ca, ccp, rfl⟩ := row_slice hr2
  obtain ⟨sa, scp, rfl, hsl⟩ := hc.is.slice
  have bX := Blk.new w1 30 (cellsC c (.slice ha c.hs.length hcp) (.slice ca c.cl.length ccp) (.slice sa c.sh.length scp))
  have hB := bl_trans hb1 (bl_alloc w1 (.cells (cellsC c (.slice ha c.hs.length hcp) (.slice ca c.cl.length ccp) (.slice sa c.sh.length scp)) 30))
  have HC := Lib.hid (hc.alloc (.cells (cellsC c (.slice ha c.hs.length hcp) (.slice ca c.cl.length ccp) (.slice sa c.sh.length scp)) 30))
  go_wp2_with fail
  obtain ⟨X, hX⟩ : ∃ X, X = w1.heap.size := ⟨_, rfl⟩
  rw [← hX] at bX ⊢
  clear hX hc hr1 hr2 hb1
  obtain ⟨V0, hV0⟩ : ∃ V0, w1.alloc (.cells (cellsC c (.slice ha c.hs.length hcp) (.slice ca c.cl.length ccp) (.slice sa c.sh.length scp)) 30) = V0 := ⟨_, rfl⟩
  rw [hV0] at bX hB HC ⊢
  clear hV0 w1
  obtain ⟨c0, c1, c2, c3, c4, c5, c6, c7, c8, c9, c10, c11⟩ := bX.cal
  refine (HD.out _).mono ?_
  rintro e q ⟨rfl, rfl⟩
  go_wp2_with fail
  rw [← HWW.out]
  refine (HK.out _).mono ?_
  rintro e q ⟨rfl, rfl⟩
  clear c0 c1 c2 c3 c4 c5 c6 c7 c8 c9 c10 c11
  have bU : ∀ u : UpW V0, Blk u.w X 30 (cellsC c (.slice ha c.hs.length hcp) (.slice ca c.cl.length ccp) (.slice sa c.sh.length scp)) := fun u => bX.below u.h bX.lt
  have x0 : ∀ u : UpW V0, u.w.cell? ⟨X, 0, none⟩ = some (.bool (c.we 0)) := fun u => (bU u).cell 0
  have x1 : ∀ u : UpW V0, u.w.cell? ⟨X, 1, none⟩ = some (.bool (c.we 1)) := fun u => (bU u).cell 1
  have x2 : ∀ u : UpW V0, u.w.cell? ⟨X, 2, none⟩ = some (.bool (c.we 2)) := fun u => (bU u).cell 2
  have x3 : ∀ u : UpW V0, u.w.cell? ⟨X, 3, none⟩ = some (.bool (c.we 3)) := fun u => (bU u).cell 3
  have x4 : ∀ u : UpW V0, u.w.cell? ⟨X, 4, none⟩ = some (.bool (c.we 4)) := fun u => (bU u).cell 4
  have x5 : ∀ u : UpW V0, u.w.cell? ⟨X, 5, none⟩ = some (.bool (c.we 5)) := fun u => (bU u).cell 5
  have x6 : ∀ u : UpW V0, u.w.cell? ⟨X, 6, none⟩ = some (.bool (c.we 6)) := fun u => (bU u).cell 6
  have x7 : ∀ u : UpW V0, u.w.cell? ⟨X, 7, none⟩ = some (.slice ha c.hs.length hcp) := fun u => (bU u).cell 7
  have x8 : ∀ u : UpW V0, u.w.cell? ⟨X, 8, none⟩ = some (.slice ca c.cl.length ccp) := fun u => (bU u).cell 8
  have x9 : ∀ u : UpW V0, u.w.cell? ⟨X, 9, none⟩ = some (.int .i64 c.o) := fun u => (bU u).cell 9
  have x10 : ∀ u : UpW V0, u.w.cell? ⟨X, 10, none⟩ = some (.slice sa c.sh.length scp) := fun u => (bU u).cell 10
  have x11 : ∀ u : UpW V0, u.w.cell? ⟨X, 11, none⟩ = some (.int .i64 c.hr) := fun u => (bU u).cell 11
  have HU := Lib.hid bU
  clear bU
  go_upto_region 4 with (fail)
  refine wp_region_up (by kernel_rfl) (by kernel_rfl) ?_
  repeat (go_big_quiet_step (fail))
  go_big_quiet_step (exact Ret.up (M1.out _ _ _ _ (hG.below (bl_trans hB (UpW.h _))) (HC.out.below (UpW.h _))))
  repeat (go_big_quiet_step (fail))
  go_big_quiet_step (exact Ret.up (M2.out _ _ _ _ (HC.out.below (UpW.h _))))
  repeat (go_big_quiet_step (fail))
  refine wpQuiet_nil ?_
  rintro vr ⟨⟨_, hb⟩, rfl⟩
  clear x0 x1 x2 x3 x4 x5 x6 x7 x8 x9 x10 x11 HU
  have bY := bX.below hb bX.lt
  have hB2 := bl_trans hB hb
  have HC2 := Lib.hid (HC.out.below hb)
  clear bX hB HC hb
  have bX := bY
  have hB := hB2
  have HC := HC2
  clear bY hB2 HC2
  obtain ⟨c0, c1, c2, c3, c4, c5, c6, c7, c8, c9, c10, c11⟩ := bX.cal
  go_wp2_with fail
  rw [← HF.out]
  refine (HL.out _).mono ?_
  rintro e q ⟨rfl, rfl⟩
  clear c0 c1 c2 c3 c4 c5 c6 c7 c8 c9 c10 c11
  have bU : ∀ u : UpW vr, Blk u.w X 30 (cellsC c (.slice ha c.hs.length hcp) (.slice ca c.cl.length ccp) (.slice sa c.sh.length scp)) := fun u => bX.below u.h bX.lt
  have x0 : ∀ u : UpW vr, u.w.cell? ⟨X, 0, none⟩ = some (.bool (c.we 0)) := fun u => (bU u).cell 0
  have x1 : ∀ u : UpW vr, u.w.cell? ⟨X, 1, none⟩ = some (.bool (c.we 1)) := fun u => (bU u).cell 1
  have x2 : ∀ u : UpW vr, u.w.cell? ⟨X, 2, none⟩ = some (.bool (c.we 2)) := fun u => (bU u).cell 2
  have x3 : ∀ u : UpW vr, u.w.cell? ⟨X, 3, none⟩ = some (.bool (c.we 3)) := fun u => (bU u).cell 3
  have x4 : ∀ u : UpW vr, u.w.cell? ⟨X, 4, none⟩ = some (.bool (c.we 4)) := fun u => (bU u).cell 4
  have x5 : ∀ u : UpW vr, u.w.cell? ⟨X, 5, none⟩ = some (.bool (c.we 5)) := fun u => (bU u).cell 5
  have x6 : ∀ u : UpW vr, u.w.cell? ⟨X, 6, none⟩ = some (.bool (c.we 6)) := fun u => (bU u).cell 6
  have x7 : ∀ u : UpW vr, u.w.cell? ⟨X, 7, none⟩ = some (.slice ha c.hs.length hcp) := fun u => (bU u).cell 7
  have x8 : ∀ u : UpW vr, u.w.cell? ⟨X, 8, none⟩ = some (.slice ca c.cl.length ccp) := fun u => (bU u).cell 8
  have x9 : ∀ u : UpW vr, u.w.cell? ⟨X, 9, none⟩ = some (.int .i64 c.o) := fun u => (bU u).cell 9
  have x10 : ∀ u : UpW vr, u.w.cell? ⟨X, 10, none⟩ = some (.slice sa c.sh.length scp) := fun u => (bU u).cell 10
  have x11 : ∀ u : UpW vr, u.w.cell? ⟨X, 11, none⟩ = some (.int .i64 c.hr) := fun u => (bU u).cell 11
  have HU := Lib.hid bU
  clear bU
  go_upto_region 8 with (fail)
  rw [← HUU.out]
  refine wp_region_up (by kernel_rfl) (by kernel_rfl) ?_
  repeat (go_big_quiet_step (fail))
  go_big_quiet_step (exact Ret.up (M3.out _ _ _ _ (hG.below (bl_trans hB (UpW.h _))) (HC.out.below (UpW.h _))))
  repeat (go_big_quiet_step (fail))
  go_big_quiet_step (exact Ret.up (M4.out _ _ _ _ (HC.out.below (UpW.h _))))
  repeat (go_big_quiet_step (fail))
  go_big_quiet_step (exact Ret.up (clives_any _ (hG.below (bl_trans hB (UpW.h _)))))
  repeat (go_big_quiet_step (fail))
  refine wpQuiet_nil ?_
  rintro vr ⟨⟨_, hb⟩, rfl⟩
  clear x0 x1 x2 x3 x4 x5 x6 x7 x8 x9 x10 x11 HU
  go_wp2
  go_ret
  exact ⟨rfl, bl_trans hB hb⟩
end Go.Proofs.YtiilljcnikgeaaaGreatDoor
