/- The walk of the law ZoneConverts: it returns true at every slice of ints, number and bool. Conditions: the slice lies in memory. -/
import Derived.Test.YtioenakhkkejmaaZLives
namespace Go.Proofs.Ytioenakhkkejmaa
open Go.RowKit

theorem ZBox.new {w : World} {o : Int} {v : Value} {sh : Sh} (hI : IsSh w v sh) : ZBox (w.alloc (.cells #[.int .i64 o, v] 24)) w.heap.size o v sh :=
  ⟨⟨(Blk.new _ _ _).cell 0, (Blk.new _ _ _).cell 1⟩, by simp, hI.below (bl_alloc _ _)⟩
theorem ZBox.up {W : World} {B o v sh} (h : ZBox W B o v sh) : (∀ u : UpW W, u.w.cell? ⟨B, 0, none⟩ = some (.int .i64 o)) ∧ (∀ u : UpW W, u.w.cell? ⟨B, 1, none⟩ = some v) ∧ ∀ u : UpW W, IsSh u.w v sh :=
  ⟨fun u => (h.below u.h).1.1, fun u => (h.below u.h).1.2, fun u => (h.below u.h).2.2⟩

set_option maxHeartbeats 4000000 in
theorem law_zconverts (v : Value) (zs : List Int) (n : Int) (far : Bool) (w : World) (hI : IsInts w v zs) (hz : InR zs) (h1 : -9223372036854775808 ≤ n) (h2 : n ≤ 9223372036854775807) :
    Calls Try.prog 4 #[v, .int .i64 n, .bool far] w (Ret (.bool true) w) := by
  have hok := zone_ok zs
  obtain ⟨t1, t2⟩ := insK_bd n far
  have ht := fun w => zinstant_any n far w h1 h2
  have hzn := fun w h => zone_any v zs w h hz
  generalize insK n far = t at *
  generalize zoneO zs = o at *
  generalize zoneSh zs = sh at *
  have e1 : offS (segsOf o sh) t = off o sh t := offS_segs t (by omega) sh _ o o
  have e2 : offR o sh t = off o sh t := offR_eq o hok.ch
  obtain ⟨b1, b2⟩ := off_bd (t := t) hok.ch hok.1 hok.2.1
  have c1 := fun sv w' h => zlocal_any o t sv sh w' h (by rw [e1]; omega) (by rw [e1]; omega)
  have c2 := fun sv w' h => zrlocal_any o t sv sh w' h (by rw [e2]; omega) (by rw [e2]; omega)
  have c3 := fun sv w' h => zoff_any o t sv sh w' h
  have c4 := fun sv w' h => zroff_any o t sv sh w' h
  rw [e1] at c1 c3
  rw [e2] at c2 c4
  generalize off o sh t = q at *
  have HT := Lib.hid ht; have HZ := Lib.hid hzn; have C1 := Lib.hid c1; have C2 := Lib.hid c2; have C3 := Lib.hid c3; have C4 := Lib.hid c4
  have HI := Lib.hid hI
  clear ht hzn c1 c2 c3 c4 e1 e2 hI
  go_enter Try.func4, Try.ntmps4
  go_wp2_with fail
  refine (HZ.out _ HI.out).mono ?_
  rintro e w1 ⟨sv, rfl, hs, hb1⟩
  obtain ⟨sa, sc, rfl, _⟩ := hs.slice
  have hzb := ZBox.new (o := o) hs
  have hB := bl_trans hb1 (bl_alloc w1 (.cells #[.int .i64 o, .slice sa sh.length sc] 24))
  go_wp2_with fail
  refine (HT.out _).mono ?_
  rintro e w' ⟨rfl, rfl⟩
  obtain ⟨⟨c0, c1⟩, hlt, hI⟩ := hzb
  have hzb : ZBox _ w1.heap.size o _ sh := ⟨⟨c0, c1⟩, hlt, hI⟩
  go_wp2_with fail
  refine (C1.out _ _ hI).mono ?_
  rintro e w2 ⟨rfl, hb⟩
  have hzb := hzb.below hb
  have hB := bl_trans hB hb
  obtain ⟨⟨c0, c1⟩, hlt, hI⟩ := hzb
  have hzb : ZBox _ w1.heap.size o _ sh := ⟨⟨c0, c1⟩, hlt, hI⟩
  go_wp2_with fail
  refine (C2.out _ _ hI).mono ?_
  rintro e w3 ⟨rfl, hb⟩
  have hzb := hzb.below hb
  have hB := bl_trans hB hb
  obtain ⟨u0, u1, u2⟩ := hzb.up
  have U2 := Lib.hid u2
  clear c0 c1 hlt hI hb u2
  have g1 : (q == q) = true := beq_self_eq_true q
  have g2 : ((t + q) / 1440 == (t + q) / 1440) = true := beq_self_eq_true _
  have g3 : ((t + q) % 1440 == (t + q) % 1440) = true := beq_self_eq_true _
  go_wp2_with fail
  refine wp_region_up (by kernel_rfl) (by kernel_rfl) ?_
  repeat (go_big_quiet_step (fail))
  go_big_quiet_step (exact Ret.up (C3.out _ _ (U2.out _)))
  repeat (go_big_quiet_step (fail))
  go_big_quiet_step (exact Ret.up (C4.out _ _ (U2.out _)))
  repeat (go_big_quiet_step (fail))
  go_big_quiet_step (exact Ret.up (zlives_any _))
  repeat (go_big_quiet_step (fail))
  refine wpQuiet_nil ?_
  rintro w4 ⟨⟨_, hb4⟩, rfl⟩
  clear u0 u1
  go_wp2_with fail
  go_ret
  exact ⟨rfl, bl_trans hB hb4⟩
end Go.Proofs.Ytioenakhkkejmaa
