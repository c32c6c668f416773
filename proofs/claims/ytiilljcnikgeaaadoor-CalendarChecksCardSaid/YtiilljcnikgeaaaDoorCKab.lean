/- Several texts in one, each with its own word at its head. Conditions: stated there. -/
import Derived.Test.YtiilljcnikgeaaaDoorCKp
/- The walk of the law CalendarChecks, some of its nine ways: it returns true. Conditions: the numbers are ints that lie in memory, the listed tables lie in memory. -/
namespace Go.Proofs.YtiilljcnikgeaaaDoor
open Go.RowKit

set_option maxRecDepth 100000 in
set_option maxHeartbeats 8000000 in
theorem law_cchecks0 (v : Value) (zs : List Int) (how n m : Int) (w : World) (hI : IsIntsC w v zs) (hz : InR zs) (hG : GoodH w) (b0 : -9223372036854775808 ≤ how) (t0 : how ≤ 9223372036854775807) (b1 : -9223372036854775808 ≤ n) (t1 : n ≤ 9223372036854775807) (b2 : -9223372036854775808 ≤ m) (t2 : m ≤ 9223372036854775807) (hq : around how 9 = 0) :
    Calls Tryd.prog 3 #[v, .int .i64 how, .int .i64 n, .int .i64 m] w (Ret (.bool true) w) := by
  have hck := cal_any v zs w hI hz
  have hpost := fun e w' h => @CalPost.in3 zs w e w' h
  have hcc := cchk_mk zs
  have hcl3 : (mkCal zs).cl.length ≤ 3 := by show (cClos _ _).length ≤ 3; rw [cClos_len]; exact cN_le _ _
  have hhl := (mkCal_reg zs).hl
  have hlen := mkCal_len zs
  generalize mkCal zs = c at *
  obtain ⟨d1, d2⟩ := dayL_bd n
  obtain ⟨f1, f2⟩ := dayL_bd m
  have hd := fun w => lday_any n w b1 t1
  have hf := fun w => lday_any m w b2 t2
  have hx := fun w => around01 how 9 w b0 t0 (by omega) (by omega)
  obtain ⟨y1, y2⟩ := around_bd n (m := 10) (by omega)
  have hy := fun w => around01 n 10 w b1 t1 (by omega) (by omega)
  rw [hq] at hx
  generalize dayL n = d at *
  generalize dayL m = f at *
  generalize around n 10 = yy at *
  have m1 := fun vh vc vs w hc => ccheck_any c vh vc vs w hc
  rw [hcc] at m1
  have HCK := Lib.hid hck; have HPOST := Lib.hid hpost; have HD := Lib.hid hd; have HF := Lib.hid hf; have HX := Lib.hid hx; have HY := Lib.hid hy; have M1 := Lib.hid m1
  clear hck hpost hcc hd hf hx hy m1 hI hz hq
  obtain ⟨i1, hi', hy0, hy1, hy2⟩ := info_parts infoClo
  have hms : maxLen = 9223372036854775807 := rfl
  have HMS := Lib.hid hms; clear hms
  go_enter Tryd.func3, Tryd.ntmps3
  go_wp2_with fail
  refine HCK.out.mono ?_
  intro e w1 hp
  obtain ⟨vh, vc, vs, rfl, hc, ⟨hr1, hr2, hr3⟩, hb1⟩ := HPOST.out _ _ hp
  clear hp
  obtain ⟨ha, hcp, rfl⟩ := row_slice hr1
  obtain ⟨ca, ccp, rfl⟩ := row_slice hr2
  obtain ⟨sa, scp, rfl⟩ := row_slice hr3
  have bX := Blk.new w1 30 (cellsC c (.slice ha c.hs.length hcp) (.slice ca c.cl.length ccp) (.slice sa c.sh.length scp))
  have hB := bl_trans hb1 (bl_alloc w1 (.cells (cellsC c (.slice ha c.hs.length hcp) (.slice ca c.cl.length ccp) (.slice sa c.sh.length scp)) 30))
  have HC := Lib.hid (hc.alloc (.cells (cellsC c (.slice ha c.hs.length hcp) (.slice ca c.cl.length ccp) (.slice sa c.sh.length scp)) 30)).at
  have r1 := hr1.alloc (.cells (cellsC c (.slice ha c.hs.length hcp) (.slice ca c.cl.length ccp) (.slice sa c.sh.length scp)) 30)
  have r2 := hr2.alloc (.cells (cellsC c (.slice ha c.hs.length hcp) (.slice ca c.cl.length ccp) (.slice sa c.sh.length scp)) 30)
  have r3 := hr3.alloc (.cells (cellsC c (.slice ha c.hs.length hcp) (.slice ca c.cl.length ccp) (.slice sa c.sh.length scp)) 30)
  go_upto_region 2 with (fail)
  obtain ⟨X, hX⟩ : ∃ X, X = w1.heap.size := ⟨_, rfl⟩
  have hwX : w.heap.size ≤ X := by rw [hX]; exact hb1.size
  have hrX : ∀ (B e k n : Nat) (v : Value) (xs : List Value), w1.ownsRow B e k v n xs → v.ownBlock ≠ some X := fun B e k n v xs h q => by have := (h.lt _ q).2; omega
  have x1 := hrX _ _ _ _ _ _ hr1
  have x2 := hrX _ _ _ _ _ _ hr2
  have x3 := hrX _ _ _ _ _ _ hr3
  rw [← hX] at bX ⊢
  obtain ⟨V0, hV0⟩ : ∃ V0, w1.alloc (.cells (cellsC c (.slice ha c.hs.length hcp) (.slice ca c.cl.length ccp) (.slice sa c.sh.length scp)) 30) = V0 := ⟨_, rfl⟩
  rw [hV0] at bX hB HC r1 r2 r3 ⊢
  clear hX hc hr1 hr2 hr3 hb1 hrX hV0 w1
  obtain ⟨c0, c1, c2, c3, c4, c5, c6, c7, c8, c9, c10, c11⟩ := bX.cal
  go_wp2_with fail
  refine (M1.out _ _ _ _ HC.out).mono ?_
  rintro e V1 ⟨rfl, hb⟩
  have bX1 := bX.below hb bX.lt
  have hB1 := bl_trans hB hb
  have q1 := row_below r1 hb
  have q2 := row_below r2 hb
  have q3 := row_below r3 hb
  clear c0 c1 c2 c3 c4 c5 c6 c7 c8 c9 c10 c11 bX hB HC hb r1 r2 r3 M1
  go_wp2_with fail
  refine (HD.out _).mono ?_
  rintro e q ⟨rfl, rfl⟩
  go_wp2_with fail
  refine (HF.out _).mono ?_
  rintro e q ⟨rfl, rfl⟩
  go_wp2_with fail
  refine (HD.out _).mono ?_
  rintro e q ⟨rfl, rfl⟩
  go_wp2_with fail
  refine (HX.out _).mono ?_
  rintro e q ⟨rfl, rfl⟩
  have bZ := Blk.new V1 36 #[.int .i64 d, .int .i64 f, .int .i64 d]
  have bX2 := bX1.alloc (.cells #[.int .i64 d, .int .i64 f, .int .i64 d] 36)
  have hB2 := bl_trans hB1 (bl_alloc V1 (.cells #[.int .i64 d, .int .i64 f, .int .i64 d] 36))
  have r1 := q1.alloc (.cells #[.int .i64 d, .int .i64 f, .int .i64 d] 36)
  have r2 := q2.alloc (.cells #[.int .i64 d, .int .i64 f, .int .i64 d] 36)
  have r3 := q3.alloc (.cells #[.int .i64 d, .int .i64 f, .int .i64 d] 36)
  obtain ⟨Z, hZ⟩ : ∃ Z, Z = V1.heap.size := ⟨_, rfl⟩
  have hwZ : w.heap.size ≤ Z := by rw [hZ]; exact hB1.size
  have z1 : (Value.slice ha c.hs.length hcp).ownBlock ≠ some Z := fun q => by have := (q1.lt _ q).2; omega
  have z2 : (Value.slice ca c.cl.length ccp).ownBlock ≠ some Z := fun q => by have := (q2.lt _ q).2; omega
  have z3 : (Value.slice sa c.sh.length scp).ownBlock ≠ some Z := fun q => by have := (q3.lt _ q).2; omega
  have hXZ : X ≠ Z := by have := bX1.lt; omega
  have hZX : Z ≠ X := Ne.symm hXZ
  rw [← hZ] at bZ ⊢
  obtain ⟨V2, hV2⟩ : ∃ V2, V2 = V1.alloc (.cells #[.int .i64 d, .int .i64 f, .int .i64 d] 36) := ⟨_, rfl⟩
  rw [← hV2] at bZ bX2 hB2 r1 r2 r3 ⊢
  clear hZ hV2 q1 q2 q3 bX1 hB1 HX
  have cx0 := bX2.cell 0
  have cx1 := bX2.cell 1
  have cx2 := bX2.cell 2
  have cx3 := bX2.cell 3
  have cx4 := bX2.cell 4
  have cx5 := bX2.cell 5
  have cx6 := bX2.cell 6
  have cx7 := bX2.cell 7
  have cx8 := bX2.cell 8
  have cx9 := bX2.cell 9
  have cx10 := bX2.cell 10
  have cx11 := bX2.cell 11
  have fx0 := bX2.frozen 0
  have fx1 := bX2.frozen 1
  have fx2 := bX2.frozen 2
  have fx3 := bX2.frozen 3
  have fx4 := bX2.frozen 4
  have fx5 := bX2.frozen 5
  have fx6 := bX2.frozen 6
  have fx7 := bX2.frozen 7
  have fx8 := bX2.frozen 8
  have fx9 := bX2.frozen 9
  have fx10 := bX2.frozen 10
  have fx11 := bX2.frozen 11
  have cz0 := bZ.cell 0
  have fz0 := bZ.frozen 0
  have cz1 := bZ.cell 1
  have fz1 := bZ.frozen 1
  have cz2 := bZ.cell 2
  have fz2 := bZ.frozen 2
  simp only [List.getElem?_toArray, List.getElem?_cons_zero, List.getElem?_cons_succ] at cx0 cx1 cx2 cx3 cx4 cx5 cx6 cx7 cx8 cx9 cx10 cx11 cz0 cz1 cz2
  have o1 := (r1.kept (grown_setAt V2 X 11 (.int .i64 n)) (.inr x1))
  have o2 := (r2.kept (grown_setAt V2 X 11 (.int .i64 n)) (.inr x2))
  have o3 := (r3.kept (grown_setAt V2 X 11 (.int .i64 n)) (.inr x3))
  have hB3 := (hB2.setCell (p := ⟨X, 11, none⟩) hwX (.int .i64 n))
  have bX3 : Blk (V2.setCell ⟨X, 11, none⟩ (.int .i64 n)) X 30 (cellsC ⟨c.we, c.hs, c.cl, c.o, c.sh, n⟩ (.slice ha c.hs.length hcp) (.slice ca c.cl.length ccp) (.slice sa c.sh.length scp)) := (bX2.set 11 (.int .i64 n))
  have bZ3 : Blk (V2.setCell ⟨X, 11, none⟩ (.int .i64 n)) Z 36 #[.int .i64 d, .int .i64 f, .int .i64 d] := (bZ.far (p := ⟨X, 11, none⟩) hZX (.int .i64 n))
  obtain ⟨V3, hV3⟩ : ∃ V3, V3 = (V2.setCell ⟨X, 11, none⟩ (.int .i64 n)) := ⟨_, rfl⟩
  rw [← hV3] at o1 o2 o3 hB3 bX3 bZ3
  have HV3 := Lib.hid hV3
  clear hV3 r1 r2 r3 hB2 bX2 bZ
  go_upto_region 25 with (fail)
  rw [← HV3.out]
  clear cx0 cx1 cx2 cx3 cx4 cx5 cx6 cx7 cx8 cx9 cx10 cx11 fx0 fx1 fx2 fx3 fx4 fx5 fx6 fx7 fx8 fx9 fx10 fx11 cz0 cz1 cz2 fz0 fz1 fz2
  have k0 := bX3.cell 8
  have f8 := bX3.frozen 8
  have z0 := bZ3.cell 0
  have z4 := bZ3.cell 1
  have z5 := bZ3.cell 2
  simp at k0 z0 z4 z5
  have bV := Blk.new V3 36 #[.int .i64 d, .int .i64 f, .int .i64 d]
  have hsrc : SrcIs (V3.alloc (.cells #[.int .i64 d, .int .i64 f, .int .i64 d] 36)) (.slice (some ⟨V3.heap.size, 0, none⟩) 1 1) 3 1 [.int .i64 d, .int .i64 f, .int .i64 d] := .inr ⟨⟨V3.heap.size, 0, none⟩, 1, rfl, rfl, fun j u hj => by
    rw [Go.WideShapes.add_plain, Nat.zero_add, bV.cell, List.getElem?_toArray]; exact hj⟩
  have hone : ∀ u ∈ [Value.int .i64 d, .int .i64 f, .int .i64 d], u.oneCell' = true := fun u hu => by simp at hu; rcases hu with rfl | rfl | rfl <;> rfl
  have HSRC := Lib.hid hsrc; have H1 := Lib.hid hone; have HO := Lib.hid (o2.alloc (.cells #[.int .i64 d, .int .i64 f, .int .i64 d] 36)); have HR1 := Lib.hid o1; have HR3 := Lib.hid o3; have BX := Lib.hid bX3; have HB := Lib.hid hB3; have HR2 := Lib.hid o2
  have hsz3 : w.heap.size ≤ V3.heap.size := hB3.size
  have hXV3 := bX3.lt
  clear bV hsrc hone o1 o2 o3 bX3 hB3 bZ3
  go_wp2_with (at_builtin; refine wpList_append_any_at rfl _ _ 25 rfl w.heap.size 36 i1 _ 3 24 Tryd.underlying25 hi' hy0 hy1 hy2 (by rfl) (by decide) _ c.cl.length (flatE encC c.cl) rfl HO.out _ 1 _ rfl HSRC.out H1.out (by have := HMS.out; omega) (by omega) (by simp; omega) ?_)
  intro v' W4 ho4 hg4 hv4
  have bX4 := (BX.out.alloc (.cells #[.int .i64 d, .int .i64 f, .int .i64 d] 36)).kept hg4 (fun e => x2 e.symm)
  have cw8 := bX4.cell 8
  have fw8 := bX4.frozen 8
  simp at cw8
  have bX5 : Blk (W4.setCell ⟨X, 8, none⟩ v') X 30 (cellsC ⟨c.we, c.hs, c.cl ++ [⟨d, f, d⟩], c.o, c.sh, n⟩ (.slice ha c.hs.length hcp) v' (.slice sa c.sh.length scp)) := bX4.set 8 v'
  have g1 := (((HR1.out.alloc (.cells #[.int .i64 d, .int .i64 f, .int .i64 d] 36)).kept hg4 (rows_ne HR1.out HR2.out (by decide))).kept (grown_setAt W4 X 8 v') (.inr x1))
  have g3 := (((HR3.out.alloc (.cells #[.int .i64 d, .int .i64 f, .int .i64 d] 36)).kept hg4 (rows_ne HR3.out HR2.out (by decide))).kept (grown_setAt W4 X 8 v') (.inr x3))
  have hvX : v'.ownBlock ≠ some X := fun e => by
    rcases hv4 with q | q
    · exact x2 (q ▸ e)
    · rw [q] at e; simp at e; omega
  have g2 := ho4.kept (grown_setAt W4 X 8 v') (.inr hvX)
  have hb5 : Below w.heap.size w (W4.setCell ⟨X, 8, none⟩ v') := ((HB.out.alloc hsz3 (.cells #[.int .i64 d, .int .i64 f, .int .i64 d] 36)).grown hg4 (by simp; omega) (fun k e => (HR2.out.lt k e).1)).setCell (p := ⟨X, 8, none⟩) hwX v'
  obtain ⟨va, vcp, rfl⟩ := row_slice ho4
  obtain ⟨W5, hW5⟩ : ∃ W5, W5 = W4.setCell ⟨X, 8, none⟩ (.slice va (c.cl.length + 1) vcp) := ⟨_, rfl⟩
  rw [← hW5] at bX5 g1 g2 g3 hb5
  have hat : CalAt W5 (.slice ha c.hs.length hcp) (.slice va (c.cl.length + 1) vcp) (.slice sa c.sh.length scp) ⟨c.we, c.hs, c.cl ++ [⟨d, f, d⟩], c.o, c.sh, n⟩ := by
    refine ⟨IsRow.of_row encH_len g1 (by have := HMS.out; simp; omega), IsRow.of_row (B := w.heap.size) (e := 36) encC_len ?_ (by have := HMS.out; simp; omega), IsSh.of_row (e := 57) (B := w.heap.size) g3 (by have := HMS.out; show c.sh.length ≤ maxLen; omega)⟩
    show W5.ownsRow w.heap.size 36 3 _ (c.cl ++ [(⟨d, f, d⟩ : Clo)]).length (flatE encC (c.cl ++ [(⟨d, f, d⟩ : Clo)]))
    rw [List.length_append, flatE_snoc]
    exact g2
  have m2 := fun w h => ccheck_any ⟨c.we, c.hs, c.cl ++ [⟨d, f, d⟩], c.o, c.sh, n⟩ (.slice ha c.hs.length hcp) (.slice va (c.cl.length + 1) vcp) (.slice sa c.sh.length scp) w h
  have m3 := fun w h => rccheck_any ⟨c.we, c.hs, c.cl ++ [⟨d, f, d⟩], c.o, c.sh, n⟩ (.slice ha c.hs.length hcp) (.slice va (c.cl.length + 1) vcp) (.slice sa c.sh.length scp) w h
  generalize cchk ⟨c.we, c.hs, c.cl ++ [⟨d, f, d⟩], c.o, c.sh, n⟩ = cv at *
  have M2 := Lib.hid m2; have M3 := Lib.hid m3; have HAT := Lib.hid hat; have HW5 := Lib.hid hW5
  clear m2 m3 hat hW5 g1 g2 g3 bX4 ho4 hg4 hv4 hvX HR1 HR2 HR3 BX HB HO HSRC H1 k0 f8 z0 z4 z5
  go_upto_region 26 with (fail)
  rw [← HW5.out]
  have bU : ∀ u : UpW W5, Blk u.w X 30 _ := fun u => bX5.below u.h bX5.lt
  have xx0 : ∀ u : UpW W5, u.w.cell? ⟨X, 0, none⟩ = some (.bool (c.we 0)) := fun u => (bU u).cell 0
  have xx1 : ∀ u : UpW W5, u.w.cell? ⟨X, 1, none⟩ = some (.bool (c.we 1)) := fun u => (bU u).cell 1
  have xx2 : ∀ u : UpW W5, u.w.cell? ⟨X, 2, none⟩ = some (.bool (c.we 2)) := fun u => (bU u).cell 2
  have xx3 : ∀ u : UpW W5, u.w.cell? ⟨X, 3, none⟩ = some (.bool (c.we 3)) := fun u => (bU u).cell 3
  have xx4 : ∀ u : UpW W5, u.w.cell? ⟨X, 4, none⟩ = some (.bool (c.we 4)) := fun u => (bU u).cell 4
  have xx5 : ∀ u : UpW W5, u.w.cell? ⟨X, 5, none⟩ = some (.bool (c.we 5)) := fun u => (bU u).cell 5
  have xx6 : ∀ u : UpW W5, u.w.cell? ⟨X, 6, none⟩ = some (.bool (c.we 6)) := fun u => (bU u).cell 6
  have xx7 : ∀ u : UpW W5, u.w.cell? ⟨X, 7, none⟩ = some (.slice ha c.hs.length hcp) := fun u => (bU u).cell 7
  have xx8 : ∀ u : UpW W5, u.w.cell? ⟨X, 8, none⟩ = some (.slice va (c.cl.length + 1) vcp) := fun u => (bU u).cell 8
  have xx9 : ∀ u : UpW W5, u.w.cell? ⟨X, 9, none⟩ = some (.int .i64 c.o) := fun u => (bU u).cell 9
  have xx10 : ∀ u : UpW W5, u.w.cell? ⟨X, 10, none⟩ = some (.slice sa c.sh.length scp) := fun u => (bU u).cell 10
  have xx11 : ∀ u : UpW W5, u.w.cell? ⟨X, 11, none⟩ = some (.int .i64 n) := fun u => (bU u).cell 11
  have HU := Lib.hid bU
  clear bU
  refine wp_region_up (by kernel_rfl) (by kernel_rfl) ?_
  repeat (go_big_quiet_step (fail))
  go_big_quiet_step (exact Ret.up (M2.out _ (HAT.out.below (UpW.h _))))
  repeat (go_big_quiet_step (fail))
  go_big_quiet_step (exact Ret.up (M3.out _ (HAT.out.below (UpW.h _))))
  repeat (go_big_quiet_step (fail))
  go_big_quiet_step (exact Ret.up (clives_any _ (hG.below (bl_trans hb5 (UpW.h _)))))
  repeat (go_big_quiet_step (fail))
  refine wpQuiet_nil ?_
  rintro vr ⟨⟨_, hb⟩, rfl⟩
  clear xx0 xx1 xx2 xx3 xx4 xx5 xx6 xx7 xx8 xx9 xx10 xx11 HU
  go_wp2
  go_ret
  exact ⟨rfl, bl_trans hb5 hb⟩
end Go.Proofs.YtiilljcnikgeaaaDoor
/- The walk of the law CalendarChecks, some of its nine ways: it returns true. Conditions: the numbers are ints that lie in memory, the listed tables lie in memory. -/
namespace Go.Proofs.YtiilljcnikgeaaaDoor
open Go.RowKit

set_option maxRecDepth 100000 in
set_option maxHeartbeats 8000000 in
theorem law_cchecks1 (v : Value) (zs : List Int) (how n m : Int) (w : World) (hI : IsIntsC w v zs) (hz : InR zs) (hG : GoodH w) (b0 : -9223372036854775808 ≤ how) (t0 : how ≤ 9223372036854775807) (b1 : -9223372036854775808 ≤ n) (t1 : n ≤ 9223372036854775807) (b2 : -9223372036854775808 ≤ m) (t2 : m ≤ 9223372036854775807) (hq : around how 9 = 1) :
    Calls Tryd.prog 3 #[v, .int .i64 how, .int .i64 n, .int .i64 m] w (Ret (.bool true) w) := by
  have hck := cal_any v zs w hI hz
  have hpost := fun e w' h => @CalPost.in3 zs w e w' h
  have hcc := cchk_mk zs
  have hcl3 : (mkCal zs).cl.length ≤ 3 := by show (cClos _ _).length ≤ 3; rw [cClos_len]; exact cN_le _ _
  have hhl := (mkCal_reg zs).hl
  have hlen := mkCal_len zs
  generalize mkCal zs = c at *
  obtain ⟨d1, d2⟩ := dayL_bd n
  obtain ⟨f1, f2⟩ := dayL_bd m
  have hd := fun w => lday_any n w b1 t1
  have hf := fun w => lday_any m w b2 t2
  have hx := fun w => around01 how 9 w b0 t0 (by omega) (by omega)
  obtain ⟨y1, y2⟩ := around_bd n (m := 10) (by omega)
  have hy := fun w => around01 n 10 w b1 t1 (by omega) (by omega)
  rw [hq] at hx
  generalize dayL n = d at *
  generalize dayL m = f at *
  generalize around n 10 = yy at *
  have m1 := fun vh vc vs w hc => ccheck_any c vh vc vs w hc
  rw [hcc] at m1
  have HCK := Lib.hid hck; have HPOST := Lib.hid hpost; have HD := Lib.hid hd; have HF := Lib.hid hf; have HX := Lib.hid hx; have HY := Lib.hid hy; have M1 := Lib.hid m1
  clear hck hpost hcc hd hf hx hy m1 hI hz hq
  obtain ⟨i1, hi', hy0, hy1, hy2⟩ := info_parts infoClo
  have hms : maxLen = 9223372036854775807 := rfl
  have HMS := Lib.hid hms; clear hms
  go_enter Tryd.func3, Tryd.ntmps3
  go_wp2_with fail
  refine HCK.out.mono ?_
  intro e w1 hp
  obtain ⟨vh, vc, vs, rfl, hc, ⟨hr1, hr2, hr3⟩, hb1⟩ := HPOST.out _ _ hp
  clear hp
  obtain ⟨ha, hcp, rfl⟩ := row_slice hr1
  obtain ⟨ca, ccp, rfl⟩ := row_slice hr2
  obtain ⟨sa, scp, rfl⟩ := row_slice hr3
  have bX := Blk.new w1 30 (cellsC c (.slice ha c.hs.length hcp) (.slice ca c.cl.length ccp) (.slice sa c.sh.length scp))
  have hB := bl_trans hb1 (bl_alloc w1 (.cells (cellsC c (.slice ha c.hs.length hcp) (.slice ca c.cl.length ccp) (.slice sa c.sh.length scp)) 30))
  have HC := Lib.hid (hc.alloc (.cells (cellsC c (.slice ha c.hs.length hcp) (.slice ca c.cl.length ccp) (.slice sa c.sh.length scp)) 30)).at
  have r1 := hr1.alloc (.cells (cellsC c (.slice ha c.hs.length hcp) (.slice ca c.cl.length ccp) (.slice sa c.sh.length scp)) 30)
  have r2 := hr2.alloc (.cells (cellsC c (.slice ha c.hs.length hcp) (.slice ca c.cl.length ccp) (.slice sa c.sh.length scp)) 30)
  have r3 := hr3.alloc (.cells (cellsC c (.slice ha c.hs.length hcp) (.slice ca c.cl.length ccp) (.slice sa c.sh.length scp)) 30)
  go_upto_region 2 with (fail)
  obtain ⟨X, hX⟩ : ∃ X, X = w1.heap.size := ⟨_, rfl⟩
  have hwX : w.heap.size ≤ X := by rw [hX]; exact hb1.size
  have hrX : ∀ (B e k n : Nat) (v : Value) (xs : List Value), w1.ownsRow B e k v n xs → v.ownBlock ≠ some X := fun B e k n v xs h q => by have := (h.lt _ q).2; omega
  have x1 := hrX _ _ _ _ _ _ hr1
  have x2 := hrX _ _ _ _ _ _ hr2
  have x3 := hrX _ _ _ _ _ _ hr3
  rw [← hX] at bX ⊢
  obtain ⟨V0, hV0⟩ : ∃ V0, w1.alloc (.cells (cellsC c (.slice ha c.hs.length hcp) (.slice ca c.cl.length ccp) (.slice sa c.sh.length scp)) 30) = V0 := ⟨_, rfl⟩
  rw [hV0] at bX hB HC r1 r2 r3 ⊢
  clear hX hc hr1 hr2 hr3 hb1 hrX hV0 w1
  obtain ⟨c0, c1, c2, c3, c4, c5, c6, c7, c8, c9, c10, c11⟩ := bX.cal
  go_wp2_with fail
  refine (M1.out _ _ _ _ HC.out).mono ?_
  rintro e V1 ⟨rfl, hb⟩
  have bX1 := bX.below hb bX.lt
  have hB1 := bl_trans hB hb
  have q1 := row_below r1 hb
  have q2 := row_below r2 hb
  have q3 := row_below r3 hb
  clear c0 c1 c2 c3 c4 c5 c6 c7 c8 c9 c10 c11 bX hB HC hb r1 r2 r3 M1
  go_wp2_with fail
  refine (HD.out _).mono ?_
  rintro e q ⟨rfl, rfl⟩
  go_wp2_with fail
  refine (HF.out _).mono ?_
  rintro e q ⟨rfl, rfl⟩
  go_wp2_with fail
  refine (HD.out _).mono ?_
  rintro e q ⟨rfl, rfl⟩
  go_wp2_with fail
  refine (HX.out _).mono ?_
  rintro e q ⟨rfl, rfl⟩
  have bZ := Blk.new V1 36 #[.int .i64 d, .int .i64 f, .int .i64 d]
  have bX2 := bX1.alloc (.cells #[.int .i64 d, .int .i64 f, .int .i64 d] 36)
  have hB2 := bl_trans hB1 (bl_alloc V1 (.cells #[.int .i64 d, .int .i64 f, .int .i64 d] 36))
  have r1 := q1.alloc (.cells #[.int .i64 d, .int .i64 f, .int .i64 d] 36)
  have r2 := q2.alloc (.cells #[.int .i64 d, .int .i64 f, .int .i64 d] 36)
  have r3 := q3.alloc (.cells #[.int .i64 d, .int .i64 f, .int .i64 d] 36)
  obtain ⟨Z, hZ⟩ : ∃ Z, Z = V1.heap.size := ⟨_, rfl⟩
  have hwZ : w.heap.size ≤ Z := by rw [hZ]; exact hB1.size
  have z1 : (Value.slice ha c.hs.length hcp).ownBlock ≠ some Z := fun q => by have := (q1.lt _ q).2; omega
  have z2 : (Value.slice ca c.cl.length ccp).ownBlock ≠ some Z := fun q => by have := (q2.lt _ q).2; omega
  have z3 : (Value.slice sa c.sh.length scp).ownBlock ≠ some Z := fun q => by have := (q3.lt _ q).2; omega
  have hXZ : X ≠ Z := by have := bX1.lt; omega
  have hZX : Z ≠ X := Ne.symm hXZ
  rw [← hZ] at bZ ⊢
  obtain ⟨V2, hV2⟩ : ∃ V2, V2 = V1.alloc (.cells #[.int .i64 d, .int .i64 f, .int .i64 d] 36) := ⟨_, rfl⟩
  rw [← hV2] at bZ bX2 hB2 r1 r2 r3 ⊢
  clear hZ hV2 q1 q2 q3 bX1 hB1 HX
  have cx0 := bX2.cell 0
  have cx1 := bX2.cell 1
  have cx2 := bX2.cell 2
  have cx3 := bX2.cell 3
  have cx4 := bX2.cell 4
  have cx5 := bX2.cell 5
  have cx6 := bX2.cell 6
  have cx7 := bX2.cell 7
  have cx8 := bX2.cell 8
  have cx9 := bX2.cell 9
  have cx10 := bX2.cell 10
  have cx11 := bX2.cell 11
  have fx0 := bX2.frozen 0
  have fx1 := bX2.frozen 1
  have fx2 := bX2.frozen 2
  have fx3 := bX2.frozen 3
  have fx4 := bX2.frozen 4
  have fx5 := bX2.frozen 5
  have fx6 := bX2.frozen 6
  have fx7 := bX2.frozen 7
  have fx8 := bX2.frozen 8
  have fx9 := bX2.frozen 9
  have fx10 := bX2.frozen 10
  have fx11 := bX2.frozen 11
  have cz0 := bZ.cell 0
  have fz0 := bZ.frozen 0
  have cz1 := bZ.cell 1
  have fz1 := bZ.frozen 1
  have cz2 := bZ.cell 2
  have fz2 := bZ.frozen 2
  simp only [List.getElem?_toArray, List.getElem?_cons_zero, List.getElem?_cons_succ] at cx0 cx1 cx2 cx3 cx4 cx5 cx6 cx7 cx8 cx9 cx10 cx11 cz0 cz1 cz2
  have o1 := (r1.kept (grown_setAt V2 Z 0 (.int .i64 n)) (.inr z1))
  have o2 := (r2.kept (grown_setAt V2 Z 0 (.int .i64 n)) (.inr z2))
  have o3 := (r3.kept (grown_setAt V2 Z 0 (.int .i64 n)) (.inr z3))
  have hB3 := (hB2.setCell (p := ⟨Z, 0, none⟩) hwZ (.int .i64 n))
  have bX3 : Blk (V2.setCell ⟨Z, 0, none⟩ (.int .i64 n)) X 30 (cellsC ⟨c.we, c.hs, c.cl, c.o, c.sh, c.hr⟩ (.slice ha c.hs.length hcp) (.slice ca c.cl.length ccp) (.slice sa c.sh.length scp)) := (bX2.far (p := ⟨Z, 0, none⟩) hXZ (.int .i64 n))
  have bZ3 : Blk (V2.setCell ⟨Z, 0, none⟩ (.int .i64 n)) Z 36 #[.int .i64 n, .int .i64 f, .int .i64 d] := (bZ.set 0 (.int .i64 n))
  obtain ⟨V3, hV3⟩ : ∃ V3, V3 = (V2.setCell ⟨Z, 0, none⟩ (.int .i64 n)) := ⟨_, rfl⟩
  rw [← hV3] at o1 o2 o3 hB3 bX3 bZ3
  have HV3 := Lib.hid hV3
  clear hV3 r1 r2 r3 hB2 bX2 bZ
  go_upto_region 25 with (fail)
  rw [← HV3.out]
  clear cx0 cx1 cx2 cx3 cx4 cx5 cx6 cx7 cx8 cx9 cx10 cx11 fx0 fx1 fx2 fx3 fx4 fx5 fx6 fx7 fx8 fx9 fx10 fx11 cz0 cz1 cz2 fz0 fz1 fz2
  have k0 := bX3.cell 8
  have f8 := bX3.frozen 8
  have z0 := bZ3.cell 0
  have z4 := bZ3.cell 1
  have z5 := bZ3.cell 2
  simp at k0 z0 z4 z5
  have bV := Blk.new V3 36 #[.int .i64 n, .int .i64 f, .int .i64 d]
  have hsrc : SrcIs (V3.alloc (.cells #[.int .i64 n, .int .i64 f, .int .i64 d] 36)) (.slice (some ⟨V3.heap.size, 0, none⟩) 1 1) 3 1 [.int .i64 n, .int .i64 f, .int .i64 d] := .inr ⟨⟨V3.heap.size, 0, none⟩, 1, rfl, rfl, fun j u hj => by
    rw [Go.WideShapes.add_plain, Nat.zero_add, bV.cell, List.getElem?_toArray]; exact hj⟩
  have hone : ∀ u ∈ [Value.int .i64 n, .int .i64 f, .int .i64 d], u.oneCell' = true := fun u hu => by simp at hu; rcases hu with rfl | rfl | rfl <;> rfl
  have HSRC := Lib.hid hsrc; have H1 := Lib.hid hone; have HO := Lib.hid (o2.alloc (.cells #[.int .i64 n, .int .i64 f, .int .i64 d] 36)); have HR1 := Lib.hid o1; have HR3 := Lib.hid o3; have BX := Lib.hid bX3; have HB := Lib.hid hB3; have HR2 := Lib.hid o2
  have hsz3 : w.heap.size ≤ V3.heap.size := hB3.size
  have hXV3 := bX3.lt
  clear bV hsrc hone o1 o2 o3 bX3 hB3 bZ3
  go_wp2_with (at_builtin; refine wpList_append_any_at rfl _ _ 25 rfl w.heap.size 36 i1 _ 3 24 Tryd.underlying25 hi' hy0 hy1 hy2 (by rfl) (by decide) _ c.cl.length (flatE encC c.cl) rfl HO.out _ 1 _ rfl HSRC.out H1.out (by have := HMS.out; omega) (by omega) (by simp; omega) ?_)
  intro v' W4 ho4 hg4 hv4
  have bX4 := (BX.out.alloc (.cells #[.int .i64 n, .int .i64 f, .int .i64 d] 36)).kept hg4 (fun e => x2 e.symm)
  have cw8 := bX4.cell 8
  have fw8 := bX4.frozen 8
  simp at cw8
  have bX5 : Blk (W4.setCell ⟨X, 8, none⟩ v') X 30 (cellsC ⟨c.we, c.hs, c.cl ++ [⟨n, f, d⟩], c.o, c.sh, c.hr⟩ (.slice ha c.hs.length hcp) v' (.slice sa c.sh.length scp)) := bX4.set 8 v'
  have g1 := (((HR1.out.alloc (.cells #[.int .i64 n, .int .i64 f, .int .i64 d] 36)).kept hg4 (rows_ne HR1.out HR2.out (by decide))).kept (grown_setAt W4 X 8 v') (.inr x1))
  have g3 := (((HR3.out.alloc (.cells #[.int .i64 n, .int .i64 f, .int .i64 d] 36)).kept hg4 (rows_ne HR3.out HR2.out (by decide))).kept (grown_setAt W4 X 8 v') (.inr x3))
  have hvX : v'.ownBlock ≠ some X := fun e => by
    rcases hv4 with q | q
    · exact x2 (q ▸ e)
    · rw [q] at e; simp at e; omega
  have g2 := ho4.kept (grown_setAt W4 X 8 v') (.inr hvX)
  have hb5 : Below w.heap.size w (W4.setCell ⟨X, 8, none⟩ v') := ((HB.out.alloc hsz3 (.cells #[.int .i64 n, .int .i64 f, .int .i64 d] 36)).grown hg4 (by simp; omega) (fun k e => (HR2.out.lt k e).1)).setCell (p := ⟨X, 8, none⟩) hwX v'
  obtain ⟨va, vcp, rfl⟩ := row_slice ho4
  obtain ⟨W5, hW5⟩ : ∃ W5, W5 = W4.setCell ⟨X, 8, none⟩ (.slice va (c.cl.length + 1) vcp) := ⟨_, rfl⟩
  rw [← hW5] at bX5 g1 g2 g3 hb5
  have hat : CalAt W5 (.slice ha c.hs.length hcp) (.slice va (c.cl.length + 1) vcp) (.slice sa c.sh.length scp) ⟨c.we, c.hs, c.cl ++ [⟨n, f, d⟩], c.o, c.sh, c.hr⟩ := by
    refine ⟨IsRow.of_row encH_len g1 (by have := HMS.out; simp; omega), IsRow.of_row (B := w.heap.size) (e := 36) encC_len ?_ (by have := HMS.out; simp; omega), IsSh.of_row (e := 57) (B := w.heap.size) g3 (by have := HMS.out; show c.sh.length ≤ maxLen; omega)⟩
    show W5.ownsRow w.heap.size 36 3 _ (c.cl ++ [(⟨n, f, d⟩ : Clo)]).length (flatE encC (c.cl ++ [(⟨n, f, d⟩ : Clo)]))
    rw [List.length_append, flatE_snoc]
    exact g2
  have m2 := fun w h => ccheck_any ⟨c.we, c.hs, c.cl ++ [⟨n, f, d⟩], c.o, c.sh, c.hr⟩ (.slice ha c.hs.length hcp) (.slice va (c.cl.length + 1) vcp) (.slice sa c.sh.length scp) w h
  have m3 := fun w h => rccheck_any ⟨c.we, c.hs, c.cl ++ [⟨n, f, d⟩], c.o, c.sh, c.hr⟩ (.slice ha c.hs.length hcp) (.slice va (c.cl.length + 1) vcp) (.slice sa c.sh.length scp) w h
  generalize cchk ⟨c.we, c.hs, c.cl ++ [⟨n, f, d⟩], c.o, c.sh, c.hr⟩ = cv at *
  have M2 := Lib.hid m2; have M3 := Lib.hid m3; have HAT := Lib.hid hat; have HW5 := Lib.hid hW5
  clear m2 m3 hat hW5 g1 g2 g3 bX4 ho4 hg4 hv4 hvX HR1 HR2 HR3 BX HB HO HSRC H1 k0 f8 z0 z4 z5
  go_upto_region 26 with (fail)
  rw [← HW5.out]
  have bU : ∀ u : UpW W5, Blk u.w X 30 _ := fun u => bX5.below u.h bX5.lt
  have xx0 : ∀ u : UpW W5, u.w.cell? ⟨X, 0, none⟩ = some (.bool (c.we 0)) := fun u => (bU u).cell 0
  have xx1 : ∀ u : UpW W5, u.w.cell? ⟨X, 1, none⟩ = some (.bool (c.we 1)) := fun u => (bU u).cell 1
  have xx2 : ∀ u : UpW W5, u.w.cell? ⟨X, 2, none⟩ = some (.bool (c.we 2)) := fun u => (bU u).cell 2
  have xx3 : ∀ u : UpW W5, u.w.cell? ⟨X, 3, none⟩ = some (.bool (c.we 3)) := fun u => (bU u).cell 3
  have xx4 : ∀ u : UpW W5, u.w.cell? ⟨X, 4, none⟩ = some (.bool (c.we 4)) := fun u => (bU u).cell 4
  have xx5 : ∀ u : UpW W5, u.w.cell? ⟨X, 5, none⟩ = some (.bool (c.we 5)) := fun u => (bU u).cell 5
  have xx6 : ∀ u : UpW W5, u.w.cell? ⟨X, 6, none⟩ = some (.bool (c.we 6)) := fun u => (bU u).cell 6
  have xx7 : ∀ u : UpW W5, u.w.cell? ⟨X, 7, none⟩ = some (.slice ha c.hs.length hcp) := fun u => (bU u).cell 7
  have xx8 : ∀ u : UpW W5, u.w.cell? ⟨X, 8, none⟩ = some (.slice va (c.cl.length + 1) vcp) := fun u => (bU u).cell 8
  have xx9 : ∀ u : UpW W5, u.w.cell? ⟨X, 9, none⟩ = some (.int .i64 c.o) := fun u => (bU u).cell 9
  have xx10 : ∀ u : UpW W5, u.w.cell? ⟨X, 10, none⟩ = some (.slice sa c.sh.length scp) := fun u => (bU u).cell 10
  have xx11 : ∀ u : UpW W5, u.w.cell? ⟨X, 11, none⟩ = some (.int .i64 c.hr) := fun u => (bU u).cell 11
  have HU := Lib.hid bU
  clear bU
  refine wp_region_up (by kernel_rfl) (by kernel_rfl) ?_
  repeat (go_big_quiet_step (fail))
  go_big_quiet_step (exact Ret.up (M2.out _ (HAT.out.below (UpW.h _))))
  repeat (go_big_quiet_step (fail))
  go_big_quiet_step (exact Ret.up (M3.out _ (HAT.out.below (UpW.h _))))
  repeat (go_big_quiet_step (fail))
  go_big_quiet_step (exact Ret.up (clives_any _ (hG.below (bl_trans hb5 (UpW.h _)))))
  repeat (go_big_quiet_step (fail))
  refine wpQuiet_nil ?_
  rintro vr ⟨⟨_, hb⟩, rfl⟩
  clear xx0 xx1 xx2 xx3 xx4 xx5 xx6 xx7 xx8 xx9 xx10 xx11 HU
  go_wp2
  go_ret
  exact ⟨rfl, bl_trans hb5 hb⟩
set_option maxRecDepth 100000 in
set_option maxHeartbeats 8000000 in
theorem law_cchecks2 (v : Value) (zs : List Int) (how n m : Int) (w : World) (hI : IsIntsC w v zs) (hz : InR zs) (hG : GoodH w) (b0 : -9223372036854775808 ≤ how) (t0 : how ≤ 9223372036854775807) (b1 : -9223372036854775808 ≤ n) (t1 : n ≤ 9223372036854775807) (b2 : -9223372036854775808 ≤ m) (t2 : m ≤ 9223372036854775807) (hq : around how 9 = 2) :
    Calls Tryd.prog 3 #[v, .int .i64 how, .int .i64 n, .int .i64 m] w (Ret (.bool true) w) := by
  have hck := cal_any v zs w hI hz
  have hpost := fun e w' h => @CalPost.in3 zs w e w' h
  have hcc := cchk_mk zs
  have hcl3 : (mkCal zs).cl.length ≤ 3 := by show (cClos _ _).length ≤ 3; rw [cClos_len]; exact cN_le _ _
  have hhl := (mkCal_reg zs).hl
  have hlen := mkCal_len zs
  generalize mkCal zs = c at *
  obtain ⟨d1, d2⟩ := dayL_bd n
  obtain ⟨f1, f2⟩ := dayL_bd m
  have hd := fun w => lday_any n w b1 t1
  have hf := fun w => lday_any m w b2 t2
  have hx := fun w => around01 how 9 w b0 t0 (by omega) (by omega)
  obtain ⟨y1, y2⟩ := around_bd n (m := 10) (by omega)
  have hy := fun w => around01 n 10 w b1 t1 (by omega) (by omega)
  rw [hq] at hx
  generalize dayL n = d at *
  generalize dayL m = f at *
  generalize around n 10 = yy at *
  have m1 := fun vh vc vs w hc => ccheck_any c vh vc vs w hc
  rw [hcc] at m1
  have HCK := Lib.hid hck; have HPOST := Lib.hid hpost; have HD := Lib.hid hd; have HF := Lib.hid hf; have HX := Lib.hid hx; have HY := Lib.hid hy; have M1 := Lib.hid m1
  clear hck hpost hcc hd hf hx hy m1 hI hz hq
  obtain ⟨i1, hi', hy0, hy1, hy2⟩ := info_parts infoClo
  have hms : maxLen = 9223372036854775807 := rfl
  have HMS := Lib.hid hms; clear hms
  go_enter Tryd.func3, Tryd.ntmps3
  go_wp2_with fail
  refine HCK.out.mono ?_
  intro e w1 hp
  obtain ⟨vh, vc, vs, rfl, hc, ⟨hr1, hr2, hr3⟩, hb1⟩ := HPOST.out _ _ hp
  clear hp
  obtain ⟨ha, hcp, rfl⟩ := row_slice hr1
  obtain ⟨ca, ccp, rfl⟩ := row_slice hr2
  obtain ⟨sa, scp, rfl⟩ := row_slice hr3
  have bX := Blk.new w1 30 (cellsC c (.slice ha c.hs.length hcp) (.slice ca c.cl.length ccp) (.slice sa c.sh.length scp))
  have hB := bl_trans hb1 (bl_alloc w1 (.cells (cellsC c (.slice ha c.hs.length hcp) (.slice ca c.cl.length ccp) (.slice sa c.sh.length scp)) 30))
  have HC := Lib.hid (hc.alloc (.cells (cellsC c (.slice ha c.hs.length hcp) (.slice ca c.cl.length ccp) (.slice sa c.sh.length scp)) 30)).at
  have r1 := hr1.alloc (.cells (cellsC c (.slice ha c.hs.length hcp) (.slice ca c.cl.length ccp) (.slice sa c.sh.length scp)) 30)
  have r2 := hr2.alloc (.cells (cellsC c (.slice ha c.hs.length hcp) (.slice ca c.cl.length ccp) (.slice sa c.sh.length scp)) 30)
  have r3 := hr3.alloc (.cells (cellsC c (.slice ha c.hs.length hcp) (.slice ca c.cl.length ccp) (.slice sa c.sh.length scp)) 30)
  go_upto_region 2 with (fail)
  obtain ⟨X, hX⟩ : ∃ X, X = w1.heap.size := ⟨_, rfl⟩
  have hwX : w.heap.size ≤ X := by rw [hX]; exact hb1.size
  have hrX : ∀ (B e k n : Nat) (v : Value) (xs : List Value), w1.ownsRow B e k v n xs → v.ownBlock ≠ some X := fun B e k n v xs h q => by have := (h.lt _ q).2; omega
  have x1 := hrX _ _ _ _ _ _ hr1
  have x2 := hrX _ _ _ _ _ _ hr2
  have x3 := hrX _ _ _ _ _ _ hr3
  rw [← hX] at bX ⊢
  obtain ⟨V0, hV0⟩ : ∃ V0, w1.alloc (.cells (cellsC c (.slice ha c.hs.length hcp) (.slice ca c.cl.length ccp) (.slice sa c.sh.length scp)) 30) = V0 := ⟨_, rfl⟩
  rw [hV0] at bX hB HC r1 r2 r3 ⊢
  clear hX hc hr1 hr2 hr3 hb1 hrX hV0 w1
  obtain ⟨c0, c1, c2, c3, c4, c5, c6, c7, c8, c9, c10, c11⟩ := bX.cal
  go_wp2_with fail
  refine (M1.out _ _ _ _ HC.out).mono ?_
  rintro e V1 ⟨rfl, hb⟩
  have bX1 := bX.below hb bX.lt
  have hB1 := bl_trans hB hb
  have q1 := row_below r1 hb
  have q2 := row_below r2 hb
  have q3 := row_below r3 hb
  clear c0 c1 c2 c3 c4 c5 c6 c7 c8 c9 c10 c11 bX hB HC hb r1 r2 r3 M1
  go_wp2_with fail
  refine (HD.out _).mono ?_
  rintro e q ⟨rfl, rfl⟩
  go_wp2_with fail
  refine (HF.out _).mono ?_
  rintro e q ⟨rfl, rfl⟩
  go_wp2_with fail
  refine (HD.out _).mono ?_
  rintro e q ⟨rfl, rfl⟩
  go_wp2_with fail
  refine (HX.out _).mono ?_
  rintro e q ⟨rfl, rfl⟩
  have bZ := Blk.new V1 36 #[.int .i64 d, .int .i64 f, .int .i64 d]
  have bX2 := bX1.alloc (.cells #[.int .i64 d, .int .i64 f, .int .i64 d] 36)
  have hB2 := bl_trans hB1 (bl_alloc V1 (.cells #[.int .i64 d, .int .i64 f, .int .i64 d] 36))
  have r1 := q1.alloc (.cells #[.int .i64 d, .int .i64 f, .int .i64 d] 36)
  have r2 := q2.alloc (.cells #[.int .i64 d, .int .i64 f, .int .i64 d] 36)
  have r3 := q3.alloc (.cells #[.int .i64 d, .int .i64 f, .int .i64 d] 36)
  obtain ⟨Z, hZ⟩ : ∃ Z, Z = V1.heap.size := ⟨_, rfl⟩
  have hwZ : w.heap.size ≤ Z := by rw [hZ]; exact hB1.size
  have z1 : (Value.slice ha c.hs.length hcp).ownBlock ≠ some Z := fun q => by have := (q1.lt _ q).2; omega
  have z2 : (Value.slice ca c.cl.length ccp).ownBlock ≠ some Z := fun q => by have := (q2.lt _ q).2; omega
  have z3 : (Value.slice sa c.sh.length scp).ownBlock ≠ some Z := fun q => by have := (q3.lt _ q).2; omega
  have hXZ : X ≠ Z := by have := bX1.lt; omega
  have hZX : Z ≠ X := Ne.symm hXZ
  rw [← hZ] at bZ ⊢
  obtain ⟨V2, hV2⟩ : ∃ V2, V2 = V1.alloc (.cells #[.int .i64 d, .int .i64 f, .int .i64 d] 36) := ⟨_, rfl⟩
  rw [← hV2] at bZ bX2 hB2 r1 r2 r3 ⊢
  clear hZ hV2 q1 q2 q3 bX1 hB1 HX
  have cx0 := bX2.cell 0
  have cx1 := bX2.cell 1
  have cx2 := bX2.cell 2
  have cx3 := bX2.cell 3
  have cx4 := bX2.cell 4
  have cx5 := bX2.cell 5
  have cx6 := bX2.cell 6
  have cx7 := bX2.cell 7
  have cx8 := bX2.cell 8
  have cx9 := bX2.cell 9
  have cx10 := bX2.cell 10
  have cx11 := bX2.cell 11
  have fx0 := bX2.frozen 0
  have fx1 := bX2.frozen 1
  have fx2 := bX2.frozen 2
  have fx3 := bX2.frozen 3
  have fx4 := bX2.frozen 4
  have fx5 := bX2.frozen 5
  have fx6 := bX2.frozen 6
  have fx7 := bX2.frozen 7
  have fx8 := bX2.frozen 8
  have fx9 := bX2.frozen 9
  have fx10 := bX2.frozen 10
  have fx11 := bX2.frozen 11
  have cz0 := bZ.cell 0
  have fz0 := bZ.frozen 0
  have cz1 := bZ.cell 1
  have fz1 := bZ.frozen 1
  have cz2 := bZ.cell 2
  have fz2 := bZ.frozen 2
  simp only [List.getElem?_toArray, List.getElem?_cons_zero, List.getElem?_cons_succ] at cx0 cx1 cx2 cx3 cx4 cx5 cx6 cx7 cx8 cx9 cx10 cx11 cz0 cz1 cz2
  have o1 := (r1.kept (grown_setAt V2 Z 1 (.int .i64 n)) (.inr z1))
  have o2 := (r2.kept (grown_setAt V2 Z 1 (.int .i64 n)) (.inr z2))
  have o3 := (r3.kept (grown_setAt V2 Z 1 (.int .i64 n)) (.inr z3))
  have hB3 := (hB2.setCell (p := ⟨Z, 1, none⟩) hwZ (.int .i64 n))
  have bX3 : Blk (V2.setCell ⟨Z, 1, none⟩ (.int .i64 n)) X 30 (cellsC ⟨c.we, c.hs, c.cl, c.o, c.sh, c.hr⟩ (.slice ha c.hs.length hcp) (.slice ca c.cl.length ccp) (.slice sa c.sh.length scp)) := (bX2.far (p := ⟨Z, 1, none⟩) hXZ (.int .i64 n))
  have bZ3 : Blk (V2.setCell ⟨Z, 1, none⟩ (.int .i64 n)) Z 36 #[.int .i64 d, .int .i64 n, .int .i64 d] := (bZ.set 1 (.int .i64 n))
  obtain ⟨V3, hV3⟩ : ∃ V3, V3 = (V2.setCell ⟨Z, 1, none⟩ (.int .i64 n)) := ⟨_, rfl⟩
  rw [← hV3] at o1 o2 o3 hB3 bX3 bZ3
  have HV3 := Lib.hid hV3
  clear hV3 r1 r2 r3 hB2 bX2 bZ
  go_upto_region 25 with (fail)
  rw [← HV3.out]
  clear cx0 cx1 cx2 cx3 cx4 cx5 cx6 cx7 cx8 cx9 cx10 cx11 fx0 fx1 fx2 fx3 fx4 fx5 fx6 fx7 fx8 fx9 fx10 fx11 cz0 cz1 cz2 fz0 fz1 fz2
  have k0 := bX3.cell 8
  have f8 := bX3.frozen 8
  have z0 := bZ3.cell 0
  have z4 := bZ3.cell 1
  have z5 := bZ3.cell 2
  simp at k0 z0 z4 z5
  have bV := Blk.new V3 36 #[.int .i64 d, .int .i64 n, .int .i64 d]
  have hsrc : SrcIs (V3.alloc (.cells #[.int .i64 d, .int .i64 n, .int .i64 d] 36)) (.slice (some ⟨V3.heap.size, 0, none⟩) 1 1) 3 1 [.int .i64 d, .int .i64 n, .int .i64 d] := .inr ⟨⟨V3.heap.size, 0, none⟩, 1, rfl, rfl, fun j u hj => by
    rw [Go.WideShapes.add_plain, Nat.zero_add, bV.cell, List.getElem?_toArray]; exact hj⟩
  have hone : ∀ u ∈ [Value.int .i64 d, .int .i64 n, .int .i64 d], u.oneCell' = true := fun u hu => by simp at hu; rcases hu with rfl | rfl | rfl <;> rfl
  have HSRC := Lib.hid hsrc; have H1 := Lib.hid hone; have HO := Lib.hid (o2.alloc (.cells #[.int .i64 d, .int .i64 n, .int .i64 d] 36)); have HR1 := Lib.hid o1; have HR3 := Lib.hid o3; have BX := Lib.hid bX3; have HB := Lib.hid hB3; have HR2 := Lib.hid o2
  have hsz3 : w.heap.size ≤ V3.heap.size := hB3.size
  have hXV3 := bX3.lt
  clear bV hsrc hone o1 o2 o3 bX3 hB3 bZ3
  go_wp2_with (at_builtin; refine wpList_append_any_at rfl _ _ 25 rfl w.heap.size 36 i1 _ 3 24 Tryd.underlying25 hi' hy0 hy1 hy2 (by rfl) (by decide) _ c.cl.length (flatE encC c.cl) rfl HO.out _ 1 _ rfl HSRC.out H1.out (by have := HMS.out; omega) (by omega) (by simp; omega) ?_)
  intro v' W4 ho4 hg4 hv4
  have bX4 := (BX.out.alloc (.cells #[.int .i64 d, .int .i64 n, .int .i64 d] 36)).kept hg4 (fun e => x2 e.symm)
  have cw8 := bX4.cell 8
  have fw8 := bX4.frozen 8
  simp at cw8
  have bX5 : Blk (W4.setCell ⟨X, 8, none⟩ v') X 30 (cellsC ⟨c.we, c.hs, c.cl ++ [⟨d, n, d⟩], c.o, c.sh, c.hr⟩ (.slice ha c.hs.length hcp) v' (.slice sa c.sh.length scp)) := bX4.set 8 v'
  have g1 := (((HR1.out.alloc (.cells #[.int .i64 d, .int .i64 n, .int .i64 d] 36)).kept hg4 (rows_ne HR1.out HR2.out (by decide))).kept (grown_setAt W4 X 8 v') (.inr x1))
  have g3 := (((HR3.out.alloc (.cells #[.int .i64 d, .int .i64 n, .int .i64 d] 36)).kept hg4 (rows_ne HR3.out HR2.out (by decide))).kept (grown_setAt W4 X 8 v') (.inr x3))
  have hvX : v'.ownBlock ≠ some X := fun e => by
    rcases hv4 with q | q
    · exact x2 (q ▸ e)
    · rw [q] at e; simp at e; omega
  have g2 := ho4.kept (grown_setAt W4 X 8 v') (.inr hvX)
  have hb5 : Below w.heap.size w (W4.setCell ⟨X, 8, none⟩ v') := ((HB.out.alloc hsz3 (.cells #[.int .i64 d, .int .i64 n, .int .i64 d] 36)).grown hg4 (by simp; omega) (fun k e => (HR2.out.lt k e).1)).setCell (p := ⟨X, 8, none⟩) hwX v'
  obtain ⟨va, vcp, rfl⟩ := row_slice ho4
  obtain ⟨W5, hW5⟩ : ∃ W5, W5 = W4.setCell ⟨X, 8, none⟩ (.slice va (c.cl.length + 1) vcp) := ⟨_, rfl⟩
  rw [← hW5] at bX5 g1 g2 g3 hb5
  have hat : CalAt W5 (.slice ha c.hs.length hcp) (.slice va (c.cl.length + 1) vcp) (.slice sa c.sh.length scp) ⟨c.we, c.hs, c.cl ++ [⟨d, n, d⟩], c.o, c.sh, c.hr⟩ := by
    refine ⟨IsRow.of_row encH_len g1 (by have := HMS.out; simp; omega), IsRow.of_row (B := w.heap.size) (e := 36) encC_len ?_ (by have := HMS.out; simp; omega), IsSh.of_row (e := 57) (B := w.heap.size) g3 (by have := HMS.out; show c.sh.length ≤ maxLen; omega)⟩
    show W5.ownsRow w.heap.size 36 3 _ (c.cl ++ [(⟨d, n, d⟩ : Clo)]).length (flatE encC (c.cl ++ [(⟨d, n, d⟩ : Clo)]))
    rw [List.length_append, flatE_snoc]
    exact g2
  have m2 := fun w h => ccheck_any ⟨c.we, c.hs, c.cl ++ [⟨d, n, d⟩], c.o, c.sh, c.hr⟩ (.slice ha c.hs.length hcp) (.slice va (c.cl.length + 1) vcp) (.slice sa c.sh.length scp) w h
  have m3 := fun w h => rccheck_any ⟨c.we, c.hs, c.cl ++ [⟨d, n, d⟩], c.o, c.sh, c.hr⟩ (.slice ha c.hs.length hcp) (.slice va (c.cl.length + 1) vcp) (.slice sa c.sh.length scp) w h
  generalize cchk ⟨c.we, c.hs, c.cl ++ [⟨d, n, d⟩], c.o, c.sh, c.hr⟩ = cv at *
  have M2 := Lib.hid m2; have M3 := Lib.hid m3; have HAT := Lib.hid hat; have HW5 := Lib.hid hW5
  clear m2 m3 hat hW5 g1 g2 g3 bX4 ho4 hg4 hv4 hvX HR1 HR2 HR3 BX HB HO HSRC H1 k0 f8 z0 z4 z5
  go_upto_region 26 with (fail)
  rw [← HW5.out]
  have bU : ∀ u : UpW W5, Blk u.w X 30 _ := fun u => bX5.below u.h bX5.lt
  have xx0 : ∀ u : UpW W5, u.w.cell? ⟨X, 0, none⟩ = some (.bool (c.we 0)) := fun u => (bU u).cell 0
  have xx1 : ∀ u : UpW W5, u.w.cell? ⟨X, 1, none⟩ = some (.bool (c.we 1)) := fun u => (bU u).cell 1
  have xx2 : ∀ u : UpW W5, u.w.cell? ⟨X, 2, none⟩ = some (.bool (c.we 2)) := fun u => (bU u).cell 2
  have xx3 : ∀ u : UpW W5, u.w.cell? ⟨X, 3, none⟩ = some (.bool (c.we 3)) := fun u => (bU u).cell 3
  have xx4 : ∀ u : UpW W5, u.w.cell? ⟨X, 4, none⟩ = some (.bool (c.we 4)) := fun u => (bU u).cell 4
  have xx5 : ∀ u : UpW W5, u.w.cell? ⟨X, 5, none⟩ = some (.bool (c.we 5)) := fun u => (bU u).cell 5
  have xx6 : ∀ u : UpW W5, u.w.cell? ⟨X, 6, none⟩ = some (.bool (c.we 6)) := fun u => (bU u).cell 6
  have xx7 : ∀ u : UpW W5, u.w.cell? ⟨X, 7, none⟩ = some (.slice ha c.hs.length hcp) := fun u => (bU u).cell 7
  have xx8 : ∀ u : UpW W5, u.w.cell? ⟨X, 8, none⟩ = some (.slice va (c.cl.length + 1) vcp) := fun u => (bU u).cell 8
  have xx9 : ∀ u : UpW W5, u.w.cell? ⟨X, 9, none⟩ = some (.int .i64 c.o) := fun u => (bU u).cell 9
  have xx10 : ∀ u : UpW W5, u.w.cell? ⟨X, 10, none⟩ = some (.slice sa c.sh.length scp) := fun u => (bU u).cell 10
  have xx11 : ∀ u : UpW W5, u.w.cell? ⟨X, 11, none⟩ = some (.int .i64 c.hr) := fun u => (bU u).cell 11
  have HU := Lib.hid bU
  clear bU
  refine wp_region_up (by kernel_rfl) (by kernel_rfl) ?_
  repeat (go_big_quiet_step (fail))
  go_big_quiet_step (exact Ret.up (M2.out _ (HAT.out.below (UpW.h _))))
  repeat (go_big_quiet_step (fail))
  go_big_quiet_step (exact Ret.up (M3.out _ (HAT.out.below (UpW.h _))))
  repeat (go_big_quiet_step (fail))
  go_big_quiet_step (exact Ret.up (clives_any _ (hG.below (bl_trans hb5 (UpW.h _)))))
  repeat (go_big_quiet_step (fail))
  refine wpQuiet_nil ?_
  rintro vr ⟨⟨_, hb⟩, rfl⟩
  clear xx0 xx1 xx2 xx3 xx4 xx5 xx6 xx7 xx8 xx9 xx10 xx11 HU
  go_wp2
  go_ret
  exact ⟨rfl, bl_trans hb5 hb⟩
set_option maxRecDepth 100000 in
set_option maxHeartbeats 8000000 in
theorem law_cchecks3 (v : Value) (zs : List Int) (how n m : Int) (w : World) (hI : IsIntsC w v zs) (hz : InR zs) (hG : GoodH w) (b0 : -9223372036854775808 ≤ how) (t0 : how ≤ 9223372036854775807) (b1 : -9223372036854775808 ≤ n) (t1 : n ≤ 9223372036854775807) (b2 : -9223372036854775808 ≤ m) (t2 : m ≤ 9223372036854775807) (hq : around how 9 = 3) :
    Calls Tryd.prog 3 #[v, .int .i64 how, .int .i64 n, .int .i64 m] w (Ret (.bool true) w) := by
  have hck := cal_any v zs w hI hz
  have hpost := fun e w' h => @CalPost.in3 zs w e w' h
  have hcc := cchk_mk zs
  have hcl3 : (mkCal zs).cl.length ≤ 3 := by show (cClos _ _).length ≤ 3; rw [cClos_len]; exact cN_le _ _
  have hhl := (mkCal_reg zs).hl
  have hlen := mkCal_len zs
  generalize mkCal zs = c at *
  obtain ⟨d1, d2⟩ := dayL_bd n
  obtain ⟨f1, f2⟩ := dayL_bd m
  have hd := fun w => lday_any n w b1 t1
  have hf := fun w => lday_any m w b2 t2
  have hx := fun w => around01 how 9 w b0 t0 (by omega) (by omega)
  obtain ⟨y1, y2⟩ := around_bd n (m := 10) (by omega)
  have hy := fun w => around01 n 10 w b1 t1 (by omega) (by omega)
  rw [hq] at hx
  generalize dayL n = d at *
  generalize dayL m = f at *
  generalize around n 10 = yy at *
  have m1 := fun vh vc vs w hc => ccheck_any c vh vc vs w hc
  rw [hcc] at m1
  have HCK := Lib.hid hck; have HPOST := Lib.hid hpost; have HD := Lib.hid hd; have HF := Lib.hid hf; have HX := Lib.hid hx; have HY := Lib.hid hy; have M1 := Lib.hid m1
  clear hck hpost hcc hd hf hx hy m1 hI hz hq
  obtain ⟨i1, hi', hy0, hy1, hy2⟩ := info_parts infoClo
  have hms : maxLen = 9223372036854775807 := rfl
  have HMS := Lib.hid hms; clear hms
  go_enter Tryd.func3, Tryd.ntmps3
  go_wp2_with fail
  refine HCK.out.mono ?_
  intro e w1 hp
  obtain ⟨vh, vc, vs, rfl, hc, ⟨hr1, hr2, hr3⟩, hb1⟩ := HPOST.out _ _ hp
  clear hp
  obtain ⟨ha, hcp, rfl⟩ := row_slice hr1
  obtain ⟨ca, ccp, rfl⟩ := row_slice hr2
  obtain ⟨sa, scp, rfl⟩ := row_slice hr3
  have bX := Blk.new w1 30 (cellsC c (.slice ha c.hs.length hcp) (.slice ca c.cl.length ccp) (.slice sa c.sh.length scp))
  have hB := bl_trans hb1 (bl_alloc w1 (.cells (cellsC c (.slice ha c.hs.length hcp) (.slice ca c.cl.length ccp) (.slice sa c.sh.length scp)) 30))
  have HC := Lib.hid (hc.alloc (.cells (cellsC c (.slice ha c.hs.length hcp) (.slice ca c.cl.length ccp) (.slice sa c.sh.length scp)) 30)).at
  have r1 := hr1.alloc (.cells (cellsC c (.slice ha c.hs.length hcp) (.slice ca c.cl.length ccp) (.slice sa c.sh.length scp)) 30)
  have r2 := hr2.alloc (.cells (cellsC c (.slice ha c.hs.length hcp) (.slice ca c.cl.length ccp) (.slice sa c.sh.length scp)) 30)
  have r3 := hr3.alloc (.cells (cellsC c (.slice ha c.hs.length hcp) (.slice ca c.cl.length ccp) (.slice sa c.sh.length scp)) 30)
  go_upto_region 2 with (fail)
  obtain ⟨X, hX⟩ : ∃ X, X = w1.heap.size := ⟨_, rfl⟩
  have hwX : w.heap.size ≤ X := by rw [hX]; exact hb1.size
  have hrX : ∀ (B e k n : Nat) (v : Value) (xs : List Value), w1.ownsRow B e k v n xs → v.ownBlock ≠ some X := fun B e k n v xs h q => by have := (h.lt _ q).2; omega
  have x1 := hrX _ _ _ _ _ _ hr1
  have x2 := hrX _ _ _ _ _ _ hr2
  have x3 := hrX _ _ _ _ _ _ hr3
  rw [← hX] at bX ⊢
  obtain ⟨V0, hV0⟩ : ∃ V0, w1.alloc (.cells (cellsC c (.slice ha c.hs.length hcp) (.slice ca c.cl.length ccp) (.slice sa c.sh.length scp)) 30) = V0 := ⟨_, rfl⟩
  rw [hV0] at bX hB HC r1 r2 r3 ⊢
  clear hX hc hr1 hr2 hr3 hb1 hrX hV0 w1
  obtain ⟨c0, c1, c2, c3, c4, c5, c6, c7, c8, c9, c10, c11⟩ := bX.cal
  go_wp2_with fail
  refine (M1.out _ _ _ _ HC.out).mono ?_
  rintro e V1 ⟨rfl, hb⟩
  have bX1 := bX.below hb bX.lt
  have hB1 := bl_trans hB hb
  have q1 := row_below r1 hb
  have q2 := row_below r2 hb
  have q3 := row_below r3 hb
  clear c0 c1 c2 c3 c4 c5 c6 c7 c8 c9 c10 c11 bX hB HC hb r1 r2 r3 M1
  go_wp2_with fail
  refine (HD.out _).mono ?_
  rintro e q ⟨rfl, rfl⟩
  go_wp2_with fail
  refine (HF.out _).mono ?_
  rintro e q ⟨rfl, rfl⟩
  go_wp2_with fail
  refine (HD.out _).mono ?_
  rintro e q ⟨rfl, rfl⟩
  go_wp2_with fail
  refine (HX.out _).mono ?_
  rintro e q ⟨rfl, rfl⟩
  have bZ := Blk.new V1 36 #[.int .i64 d, .int .i64 f, .int .i64 d]
  have bX2 := bX1.alloc (.cells #[.int .i64 d, .int .i64 f, .int .i64 d] 36)
  have hB2 := bl_trans hB1 (bl_alloc V1 (.cells #[.int .i64 d, .int .i64 f, .int .i64 d] 36))
  have r1 := q1.alloc (.cells #[.int .i64 d, .int .i64 f, .int .i64 d] 36)
  have r2 := q2.alloc (.cells #[.int .i64 d, .int .i64 f, .int .i64 d] 36)
  have r3 := q3.alloc (.cells #[.int .i64 d, .int .i64 f, .int .i64 d] 36)
  obtain ⟨Z, hZ⟩ : ∃ Z, Z = V1.heap.size := ⟨_, rfl⟩
  have hwZ : w.heap.size ≤ Z := by rw [hZ]; exact hB1.size
  have z1 : (Value.slice ha c.hs.length hcp).ownBlock ≠ some Z := fun q => by have := (q1.lt _ q).2; omega
  have z2 : (Value.slice ca c.cl.length ccp).ownBlock ≠ some Z := fun q => by have := (q2.lt _ q).2; omega
  have z3 : (Value.slice sa c.sh.length scp).ownBlock ≠ some Z := fun q => by have := (q3.lt _ q).2; omega
  have hXZ : X ≠ Z := by have := bX1.lt; omega
  have hZX : Z ≠ X := Ne.symm hXZ
  rw [← hZ] at bZ ⊢
  obtain ⟨V2, hV2⟩ : ∃ V2, V2 = V1.alloc (.cells #[.int .i64 d, .int .i64 f, .int .i64 d] 36) := ⟨_, rfl⟩
  rw [← hV2] at bZ bX2 hB2 r1 r2 r3 ⊢
  clear hZ hV2 q1 q2 q3 bX1 hB1 HX
  have cx0 := bX2.cell 0
  have cx1 := bX2.cell 1
  have cx2 := bX2.cell 2
  have cx3 := bX2.cell 3
  have cx4 := bX2.cell 4
  have cx5 := bX2.cell 5
  have cx6 := bX2.cell 6
  have cx7 := bX2.cell 7
  have cx8 := bX2.cell 8
  have cx9 := bX2.cell 9
  have cx10 := bX2.cell 10
  have cx11 := bX2.cell 11
  have fx0 := bX2.frozen 0
  have fx1 := bX2.frozen 1
  have fx2 := bX2.frozen 2
  have fx3 := bX2.frozen 3
  have fx4 := bX2.frozen 4
  have fx5 := bX2.frozen 5
  have fx6 := bX2.frozen 6
  have fx7 := bX2.frozen 7
  have fx8 := bX2.frozen 8
  have fx9 := bX2.frozen 9
  have fx10 := bX2.frozen 10
  have fx11 := bX2.frozen 11
  have cz0 := bZ.cell 0
  have fz0 := bZ.frozen 0
  have cz1 := bZ.cell 1
  have fz1 := bZ.frozen 1
  have cz2 := bZ.cell 2
  have fz2 := bZ.frozen 2
  simp only [List.getElem?_toArray, List.getElem?_cons_zero, List.getElem?_cons_succ] at cx0 cx1 cx2 cx3 cx4 cx5 cx6 cx7 cx8 cx9 cx10 cx11 cz0 cz1 cz2
  have o1 := (r1.kept (grown_setAt V2 Z 2 (.int .i64 n)) (.inr z1))
  have o2 := (r2.kept (grown_setAt V2 Z 2 (.int .i64 n)) (.inr z2))
  have o3 := (r3.kept (grown_setAt V2 Z 2 (.int .i64 n)) (.inr z3))
  have hB3 := (hB2.setCell (p := ⟨Z, 2, none⟩) hwZ (.int .i64 n))
  have bX3 : Blk (V2.setCell ⟨Z, 2, none⟩ (.int .i64 n)) X 30 (cellsC ⟨c.we, c.hs, c.cl, c.o, c.sh, c.hr⟩ (.slice ha c.hs.length hcp) (.slice ca c.cl.length ccp) (.slice sa c.sh.length scp)) := (bX2.far (p := ⟨Z, 2, none⟩) hXZ (.int .i64 n))
  have bZ3 : Blk (V2.setCell ⟨Z, 2, none⟩ (.int .i64 n)) Z 36 #[.int .i64 d, .int .i64 f, .int .i64 n] := (bZ.set 2 (.int .i64 n))
  obtain ⟨V3, hV3⟩ : ∃ V3, V3 = (V2.setCell ⟨Z, 2, none⟩ (.int .i64 n)) := ⟨_, rfl⟩
  rw [← hV3] at o1 o2 o3 hB3 bX3 bZ3
  have HV3 := Lib.hid hV3
  clear hV3 r1 r2 r3 hB2 bX2 bZ
  go_upto_region 25 with (fail)
  rw [← HV3.out]
  clear cx0 cx1 cx2 cx3 cx4 cx5 cx6 cx7 cx8 cx9 cx10 cx11 fx0 fx1 fx2 fx3 fx4 fx5 fx6 fx7 fx8 fx9 fx10 fx11 cz0 cz1 cz2 fz0 fz1 fz2
  have k0 := bX3.cell 8
  have f8 := bX3.frozen 8
  have z0 := bZ3.cell 0
  have z4 := bZ3.cell 1
  have z5 := bZ3.cell 2
  simp at k0 z0 z4 z5
  have bV := Blk.new V3 36 #[.int .i64 d, .int .i64 f, .int .i64 n]
  have hsrc : SrcIs (V3.alloc (.cells #[.int .i64 d, .int .i64 f, .int .i64 n] 36)) (.slice (some ⟨V3.heap.size, 0, none⟩) 1 1) 3 1 [.int .i64 d, .int .i64 f, .int .i64 n] := .inr ⟨⟨V3.heap.size, 0, none⟩, 1, rfl, rfl, fun j u hj => by
    rw [Go.WideShapes.add_plain, Nat.zero_add, bV.cell, List.getElem?_toArray]; exact hj⟩
  have hone : ∀ u ∈ [Value.int .i64 d, .int .i64 f, .int .i64 n], u.oneCell' = true := fun u hu => by simp at hu; rcases hu with rfl | rfl | rfl <;> rfl
  have HSRC := Lib.hid hsrc; have H1 := Lib.hid hone; have HO := Lib.hid (o2.alloc (.cells #[.int .i64 d, .int .i64 f, .int .i64 n] 36)); have HR1 := Lib.hid o1; have HR3 := Lib.hid o3; have BX := Lib.hid bX3; have HB := Lib.hid hB3; have HR2 := Lib.hid o2
  have hsz3 : w.heap.size ≤ V3.heap.size := hB3.size
  have hXV3 := bX3.lt
  clear bV hsrc hone o1 o2 o3 bX3 hB3 bZ3
  go_wp2_with (at_builtin; refine wpList_append_any_at rfl _ _ 25 rfl w.heap.size 36 i1 _ 3 24 Tryd.underlying25 hi' hy0 hy1 hy2 (by rfl) (by decide) _ c.cl.length (flatE encC c.cl) rfl HO.out _ 1 _ rfl HSRC.out H1.out (by have := HMS.out; omega) (by omega) (by simp; omega) ?_)
  intro v' W4 ho4 hg4 hv4
  have bX4 := (BX.out.alloc (.cells #[.int .i64 d, .int .i64 f, .int .i64 n] 36)).kept hg4 (fun e => x2 e.symm)
  have cw8 := bX4.cell 8
  have fw8 := bX4.frozen 8
  simp at cw8
  have bX5 : Blk (W4.setCell ⟨X, 8, none⟩ v') X 30 (cellsC ⟨c.we, c.hs, c.cl ++ [⟨d, f, n⟩], c.o, c.sh, c.hr⟩ (.slice ha c.hs.length hcp) v' (.slice sa c.sh.length scp)) := bX4.set 8 v'
  have g1 := (((HR1.out.alloc (.cells #[.int .i64 d, .int .i64 f, .int .i64 n] 36)).kept hg4 (rows_ne HR1.out HR2.out (by decide))).kept (grown_setAt W4 X 8 v') (.inr x1))
  have g3 := (((HR3.out.alloc (.cells #[.int .i64 d, .int .i64 f, .int .i64 n] 36)).kept hg4 (rows_ne HR3.out HR2.out (by decide))).kept (grown_setAt W4 X 8 v') (.inr x3))
  have hvX : v'.ownBlock ≠ some X := fun e => by
    rcases hv4 with q | q
    · exact x2 (q ▸ e)
    · rw [q] at e; simp at e; omega
  have g2 := ho4.kept (grown_setAt W4 X 8 v') (.inr hvX)
  have hb5 : Below w.heap.size w (W4.setCell ⟨X, 8, none⟩ v') := ((HB.out.alloc hsz3 (.cells #[.int .i64 d, .int .i64 f, .int .i64 n] 36)).grown hg4 (by simp; omega) (fun k e => (HR2.out.lt k e).1)).setCell (p := ⟨X, 8, none⟩) hwX v'
  obtain ⟨va, vcp, rfl⟩ := row_slice ho4
  obtain ⟨W5, hW5⟩ : ∃ W5, W5 = W4.setCell ⟨X, 8, none⟩ (.slice va (c.cl.length + 1) vcp) := ⟨_, rfl⟩
  rw [← hW5] at bX5 g1 g2 g3 hb5
  have hat : CalAt W5 (.slice ha c.hs.length hcp) (.slice va (c.cl.length + 1) vcp) (.slice sa c.sh.length scp) ⟨c.we, c.hs, c.cl ++ [⟨d, f, n⟩], c.o, c.sh, c.hr⟩ := by
    refine ⟨IsRow.of_row encH_len g1 (by have := HMS.out; simp; omega), IsRow.of_row (B := w.heap.size) (e := 36) encC_len ?_ (by have := HMS.out; simp; omega), IsSh.of_row (e := 57) (B := w.heap.size) g3 (by have := HMS.out; show c.sh.length ≤ maxLen; omega)⟩
    show W5.ownsRow w.heap.size 36 3 _ (c.cl ++ [(⟨d, f, n⟩ : Clo)]).length (flatE encC (c.cl ++ [(⟨d, f, n⟩ : Clo)]))
    rw [List.length_append, flatE_snoc]
    exact g2
  have m2 := fun w h => ccheck_any ⟨c.we, c.hs, c.cl ++ [⟨d, f, n⟩], c.o, c.sh, c.hr⟩ (.slice ha c.hs.length hcp) (.slice va (c.cl.length + 1) vcp) (.slice sa c.sh.length scp) w h
  have m3 := fun w h => rccheck_any ⟨c.we, c.hs, c.cl ++ [⟨d, f, n⟩], c.o, c.sh, c.hr⟩ (.slice ha c.hs.length hcp) (.slice va (c.cl.length + 1) vcp) (.slice sa c.sh.length scp) w h
  generalize cchk ⟨c.we, c.hs, c.cl ++ [⟨d, f, n⟩], c.o, c.sh, c.hr⟩ = cv at *
  have M2 := Lib.hid m2; have M3 := Lib.hid m3; have HAT := Lib.hid hat; have HW5 := Lib.hid hW5
  clear m2 m3 hat hW5 g1 g2 g3 bX4 ho4 hg4 hv4 hvX HR1 HR2 HR3 BX HB HO HSRC H1 k0 f8 z0 z4 z5
  go_upto_region 26 with (fail)
  rw [← HW5.out]
  have bU : ∀ u : UpW W5, Blk u.w X 30 _ := fun u => bX5.below u.h bX5.lt
  have xx0 : ∀ u : UpW W5, u.w.cell? ⟨X, 0, none⟩ = some (.bool (c.we 0)) := fun u => (bU u).cell 0
  have xx1 : ∀ u : UpW W5, u.w.cell? ⟨X, 1, none⟩ = some (.bool (c.we 1)) := fun u => (bU u).cell 1
  have xx2 : ∀ u : UpW W5, u.w.cell? ⟨X, 2, none⟩ = some (.bool (c.we 2)) := fun u => (bU u).cell 2
  have xx3 : ∀ u : UpW W5, u.w.cell? ⟨X, 3, none⟩ = some (.bool (c.we 3)) := fun u => (bU u).cell 3
  have xx4 : ∀ u : UpW W5, u.w.cell? ⟨X, 4, none⟩ = some (.bool (c.we 4)) := fun u => (bU u).cell 4
  have xx5 : ∀ u : UpW W5, u.w.cell? ⟨X, 5, none⟩ = some (.bool (c.we 5)) := fun u => (bU u).cell 5
  have xx6 : ∀ u : UpW W5, u.w.cell? ⟨X, 6, none⟩ = some (.bool (c.we 6)) := fun u => (bU u).cell 6
  have xx7 : ∀ u : UpW W5, u.w.cell? ⟨X, 7, none⟩ = some (.slice ha c.hs.length hcp) := fun u => (bU u).cell 7
  have xx8 : ∀ u : UpW W5, u.w.cell? ⟨X, 8, none⟩ = some (.slice va (c.cl.length + 1) vcp) := fun u => (bU u).cell 8
  have xx9 : ∀ u : UpW W5, u.w.cell? ⟨X, 9, none⟩ = some (.int .i64 c.o) := fun u => (bU u).cell 9
  have xx10 : ∀ u : UpW W5, u.w.cell? ⟨X, 10, none⟩ = some (.slice sa c.sh.length scp) := fun u => (bU u).cell 10
  have xx11 : ∀ u : UpW W5, u.w.cell? ⟨X, 11, none⟩ = some (.int .i64 c.hr) := fun u => (bU u).cell 11
  have HU := Lib.hid bU
  clear bU
  refine wp_region_up (by kernel_rfl) (by kernel_rfl) ?_
  repeat (go_big_quiet_step (fail))
  go_big_quiet_step (exact Ret.up (M2.out _ (HAT.out.below (UpW.h _))))
  repeat (go_big_quiet_step (fail))
  go_big_quiet_step (exact Ret.up (M3.out _ (HAT.out.below (UpW.h _))))
  repeat (go_big_quiet_step (fail))
  go_big_quiet_step (exact Ret.up (clives_any _ (hG.below (bl_trans hb5 (UpW.h _)))))
  repeat (go_big_quiet_step (fail))
  refine wpQuiet_nil ?_
  rintro vr ⟨⟨_, hb⟩, rfl⟩
  clear xx0 xx1 xx2 xx3 xx4 xx5 xx6 xx7 xx8 xx9 xx10 xx11 HU
  go_wp2
  go_ret
  exact ⟨rfl, bl_trans hb5 hb⟩
end Go.Proofs.YtiilljcnikgeaaaDoor
