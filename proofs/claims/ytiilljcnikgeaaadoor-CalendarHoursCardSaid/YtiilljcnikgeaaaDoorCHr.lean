/- The walk of the law CalendarHours: it returns true at every input. Conditions: the numbers are ints that lie in memory, the listed tables lie in memory. -/
import Derived.Test.YtiilljcnikgeaaaDoorCLvs
namespace Go.Proofs.YtiilljcnikgeaaaDoor
open Go.RowKit

theorem locT_lt {c : Cal} {t : Int} (h : t < 1125899906842624) : locT c t = lt c.o c.sh t := by
  show t + offS (segsOf c.o c.sh) t = t + off c.o c.sh t
  unfold segsOf
  rw [offS_segs t h]
/-- the last instant: what is local at it and behind it -/
theorem las_ok {c : Cal} (hok : Ok c.o c.sh) {d : Int} (d1 : 700000 ≤ d) (d2 : d ≤ 800000) (r1 : 0 ≤ c.hr) (r2 : c.hr < 1440) :
    lt c.o c.sh (lasV c d) ≤ d * 1440 + c.hr ∧ (∀ s, lasV c d < s → d * 1440 + c.hr < lt c.o c.sh s) ∧ d * 1440 + c.hr - 902 ≤ lasV c d ∧ lasV c d ≤ d * 1440 + c.hr + 900 := by
  obtain ⟨n, hn⟩ : ∃ n, n = d * 1440 + c.hr := ⟨_, rfl⟩
  have hb : -1099511627776 ≤ n ∧ n ≤ 1099511627776 := by omega
  have hl := late hok hb
  have ho : ∀ t, -900 ≤ off c.o c.sh t ∧ off c.o c.sh t ≤ 900 := fun t => off_bd hok.ch hok.1 hok.2.1
  unfold lasV
  rw [← hn]
  by_cases he : ins c.o c.sh n = []
  · rw [if_pos he]
    have hg := ins_gap hok hb he
    have hr : res true c.o c.sh n = resR n c.o c.sh := by unfold res; rw [he]
    rw [← hr] at hg
    have hg' := hg
    obtain ⟨g1, g2⟩ := hg
    have o1 := ho (res true c.o c.sh n - 1)
    have o2 := ho (res true c.o c.sh n)
    refine ⟨by omega, fun s hs => gap_up hok.ch ⟨hok.1, hok.2.1⟩ hg' s (by omega), ?_, ?_⟩
    · unfold lt at g2; omega
    · unfold lt at g1; omega
  · rw [if_neg he]
    have he2 : lt c.o c.sh (res true c.o c.sh n) = n := by
      rcases hl.2 with e | e
      · exact e
      · exact absurd (gap_ins hok hb e) he
    have o2 := ho (res true c.o c.sh n)
    refine ⟨by omega, hl.1, ?_, ?_⟩
    · unfold lt at he2; omega
    · unfold lt at he2; omega
theorem fil_open {c : Cal} {t k : Int} (h1 : locT c t % 1440 ≤ c.hr) (h2 : openB c k (locT c t / 1440) = true) : filV c t k = locT c t / 1440 ∧ filE c t k = 0 := by
  unfold filV filE; rw [if_pos ⟨h1, h2⟩, if_pos ⟨h1, h2⟩]; exact ⟨rfl, rfl⟩
theorem fil_ex {c : Cal} (h : Reg c 18) {t k : Int} (l1 : 700000 ≤ locT c t / 1440) (l2 : locT c t / 1440 ≤ 900000) : filE c t k = 0 ∧ (locT c t / 1440 < filV c t k ∨ (locT c t % 1440 ≤ c.hr ∧ filV c t k = locT c t / 1440)) := by
  by_cases hc : locT c t % 1440 ≤ c.hr ∧ openB c k (locT c t / 1440) = true
  · obtain ⟨e1, e2⟩ := fil_open hc.1 hc.2
    exact ⟨e2, .inr ⟨hc.1, e1⟩⟩
  · obtain ⟨i, hi, hf⟩ := next_near h k (locT c t / 1440 + 1) 8 (by omega) (by omega) (by omega) (by omega) (by omega)
    obtain ⟨e1, e2⟩ := fst_of hf
    unfold filV filE
    rw [if_neg hc, if_neg hc]
    exact ⟨e1, .inl (by rw [e2]; omega)⟩
theorem hours_ok {c : Cal} (h : Reg c 18) (hok : Ok c.o c.sh) {d k m : Int} (d1 : 739000 ≤ d) (d2 : d ≤ 740000) (r1 : 0 ≤ c.hr) (r2 : c.hr < 1440) (m1 : 0 ≤ m) (m2 : m < 3000) :
    (locT c (lasV c d) / 1440 ≤ d ∧ (locT c (lasV c d) / 1440 = d → locT c (lasV c d) % 1440 ≤ c.hr)) ∧ d ≤ locT c (lasV c d + 1) / 1440 ∧ filE c (lasV c d) k = 0 ∧ filE c (lasV c d + 1 + m) k = 0 ∧ d < filV c (lasV c d + 1 + m) k ∧ (locT c (lasV c d) / 1440 = d → openB c k d = true → filV c (lasV c d) k = d) ∧ (1000000000 ≤ lasV c d ∧ lasV c d ≤ 2000000000) := by
  obtain ⟨a1, a2, a3, a4⟩ := las_ok hok (d := d) (by omega) (by omega) r1 r2
  generalize lasV c d = t at *
  have ho : ∀ t, -900 ≤ off c.o c.sh t ∧ off c.o c.sh t ≤ 900 := fun t => off_bd hok.ch hok.1 hok.2.1
  have e0 : locT c t = lt c.o c.sh t := locT_lt (by omega)
  have e1 : locT c (t + 1) = lt c.o c.sh (t + 1) := locT_lt (by omega)
  have e2 : locT c (t + 1 + m) = lt c.o c.sh (t + 1 + m) := locT_lt (by omega)
  have b1 := a2 (t + 1) (by omega)
  have b2 := a2 (t + 1 + m) (by omega)
  have o0 : t - 900 ≤ lt c.o c.sh t := by have := ho t; unfold lt; omega
  have o2 : lt c.o c.sh (t + 1 + m) ≤ t + 1 + m + 900 := by have := ho (t + 1 + m); unfold lt; omega
  rw [← e0] at a1 o0
  rw [← e1] at b1
  rw [← e2] at b2 o2
  have f0 := fil_ex h (t := t) (k := k) (by omega) (by omega)
  have f2 := fil_ex h (t := t + 1 + m) (k := k) (by omega) (by omega)
  refine ⟨⟨by omega, fun e => by omega⟩, by omega, f0.1, f2.1, ?_, fun e ho' => ?_, by omega, by omega⟩
  · rcases f2.2 with g | ⟨g1, g2⟩
    · omega
    · omega
  · have := fil_open (c := c) (t := t) (k := k) (by omega) (by rw [e]; exact ho')
    rw [this.1, e]

set_option maxRecDepth 100000 in
set_option maxHeartbeats 8000000 in
theorem law_chours (v : Value) (zs : List Int) (n mo kn : Int) (w : World) (hI : IsIntsC w v zs) (hz : InR zs) (hG : GoodH w) (b0 : -9223372036854775808 ≤ n) (t0 : n ≤ 9223372036854775807) (b1 : -9223372036854775808 ≤ mo) (t1 : mo ≤ 9223372036854775807) (b2 : -9223372036854775808 ≤ kn) (t2 : kn ≤ 9223372036854775807) :
    Calls Tryd.prog 4 #[v, .int .i64 n, .int .i64 mo, .int .i64 kn] w (Ret (.bool true) w) := by
  have hck := cal_any v zs w hI hz
  have hpost := fun e w' h => @CalPost.in zs w e w' h
  have hreg := mkCal_reg zs
  have hok := mkCal_ok zs
  have hlen := mkCal_len zs
  have hhr := mkCal_hr zs
  generalize mkCal zs = c at *
  have HCK := Lib.hid hck; have HPOST := Lib.hid hpost; have HREG := Lib.hid hreg; have HOK := Lib.hid hok
  clear hck hpost hreg hok hI hz
  obtain ⟨d1, d2⟩ := dayL_bd n
  have hd := fun w => lday_any n w b0 t0
  have hk := fun w => lday_any kn w b2 t2
  obtain ⟨x1, x2⟩ := around_bd mo (m := 3000) (by omega)
  have hx := fun w => around01 mo 3000 w b1 t1 (by omega) (by omega)
  generalize dayL n = d at *
  generalize dayL kn = k at *
  generalize around mo 3000 = x at *
  have hhr1 := hhr.1
  have hhr2 := hhr.2
  obtain ⟨⟨g1, g2⟩, g3, g4, g5, g6, g7, g8, g9⟩ := hours_ok HREG.out HOK.out (k := k) (m := x) (d := d) (by omega) (by omega) hhr1 hhr2 x1 (by omega)
  have m1 := fun vh vc vs w hc => last_any c vh vc vs d w hc HOK.out (by omega) (by omega) (by omega) hhr1 hhr2
  generalize lasV c d = t at *
  have lb1 : -4000000000000000 ≤ locT c t ∧ locT c t ≤ 4000000000000000 := by
    rw [locT_lt (by omega)]; have := off_bd (t := t) HOK.out.ch HOK.out.1 HOK.out.2.1; unfold lt; omega
  have lb2 : -4000000000000000 ≤ locT c (t + 1) ∧ locT c (t + 1) ≤ 4000000000000000 := by
    rw [locT_lt (by omega)]; have := off_bd (t := t + 1) HOK.out.ch HOK.out.1 HOK.out.2.1; unfold lt; omega
  have lb3 : -4000000000000000 ≤ locT c (t + 1 + x) ∧ locT c (t + 1 + x) ≤ 4000000000000000 := by
    rw [locT_lt (by omega)]; have := off_bd (t := t + 1 + x) HOK.out.ch HOK.out.1 HOK.out.2.1; unfold lt; omega
  have m2 : ∀ vs w, IsSh w vs c.sh → Calls Tryd.prog 16 #[.agg #[.int .i64 c.o, vs], .int .i64 t] w (Ret (.tuple #[.int .i64 (locT c t / 1440), .int .i64 (locT c t % 1440)]) w) := fun vs w hI => zlocal_any c.o t vs c.sh w hI lb1.1 lb1.2
  have m3 : ∀ vs w, IsSh w vs c.sh → Calls Tryd.prog 16 #[.agg #[.int .i64 c.o, vs], .int .i64 (t + 1)] w (Ret (.tuple #[.int .i64 (locT c (t + 1) / 1440), .int .i64 (locT c (t + 1) % 1440)]) w) := fun vs w hI => zlocal_any c.o (t + 1) vs c.sh w hI lb2.1 lb2.2
  have m4 := fun vh vc vs w hG hc => filed_any c vh vc vs t k w hG hc lb1.1 lb1.2
  have m5 := fun vh vc vs w hG hc => filed_any c vh vc vs (t + 1 + x) k w hG hc lb3.1 lb3.2
  have m6 := fun vh vc vs w hG hc => open_any c vh vc vs d k w hG hc
  rw [g4] at m4
  rw [g5] at m5
  generalize filV c (t + 1 + x) k = z2 at *
  generalize filV c t k = z1 at *
  generalize locT c t / 1440 = L at *
  generalize locT c t % 1440 = ml at *
  generalize locT c (t + 1) / 1440 = A at *
  generalize locT c (t + 1) % 1440 = ma at *
  have HD := Lib.hid hd; have HK := Lib.hid hk; have HX := Lib.hid hx
  have M1 := Lib.hid m1; have M2 := Lib.hid m2; have M3 := Lib.hid m3; have M4 := Lib.hid m4; have M5 := Lib.hid m5; have G2 := Lib.hid g2; have G7 := Lib.hid g7
  clear hd hk hx m1 m2 m3 m4 m5 g2 g7 g4 g5 lb1 lb2 lb3 hhr
  by_cases hL : L = d
  · have hml := G2.out hL
    cases ho : openB c k d
    · rw [ho] at m6
      have M6 := Lib.hid m6
      obtain rfl := hL
      clear m6 ho
      go_enter Tryd.func4, Tryd.ntmps4
      go_wp2_with fail
      refine HCK.out.mono ?_
      intro e w1 hp
      obtain ⟨vh, vc, vs, rfl, hc, ⟨hr1, hr2⟩, hb1⟩ := HPOST.out _ _ hp
      clear hp
      obtain ⟨ha, hcp, rfl⟩ := row_slice hr1
      obtain ⟨ca, ccp, rfl⟩ := row_slice hr2
      obtain ⟨sa, scp, rfl, hsl⟩ := hc.is.slice
      have bX := Blk.new w1 30 (cellsC c (.slice ha c.hs.length hcp) (.slice ca c.cl.length ccp) (.slice sa c.sh.length scp))
      have hB := bl_trans hb1 (bl_alloc w1 (.cells (cellsC c (.slice ha c.hs.length hcp) (.slice ca c.cl.length ccp) (.slice sa c.sh.length scp)) 30))
      have HC := Lib.hid (hc.alloc (.cells (cellsC c (.slice ha c.hs.length hcp) (.slice ca c.cl.length ccp) (.slice sa c.sh.length scp)) 30))
      go_wp2_with fail
      obtain ⟨X, hX⟩ : ∃ X, X = w1.heap.size := ⟨_, rfl⟩
      rw [← hX] at bX ⊢
      clear hX hc hr1 hr2 hb1
      obtain ⟨V0, hV0⟩ : ∃ V0, w1.alloc (.cells (cellsC c (.slice ha c.hs.length hcp) (.slice ca c.cl.length ccp) (.slice sa c.sh.length scp)) 30) = V0 := ⟨_, rfl⟩
      rw [hV0] at bX hB HC ⊢
      clear hV0 w1
      obtain ⟨c0, c1, c2, c3, c4, c5, c6, c7, c8, c9, c10, c11⟩ := bX.cal
      refine (HD.out _).mono ?_
      rintro e q ⟨rfl, rfl⟩
      go_wp2_with fail
      refine (HK.out _).mono ?_
      rintro e q ⟨rfl, rfl⟩
      go_wp2_with fail
      refine (M1.out _ _ _ _ HC.out).mono ?_
      rintro e v1 ⟨rfl, hb⟩
      have bY := bX.below hb bX.lt
      have hB2 := bl_trans hB hb
      have HC2 := Lib.hid (HC.out.below hb)
      clear c0 c1 c2 c3 c4 c5 c6 c7 c8 c9 c10 c11 bX hB HC hb
      have bX := bY
      have hB := hB2
      have HC := HC2
      clear bY hB2 HC2
      obtain ⟨c0, c1, c2, c3, c4, c5, c6, c7, c8, c9, c10, c11⟩ := bX.cal
      go_wp2_with fail
      refine (M2.out _ _ HC.out.is).mono ?_
      rintro e v2 ⟨rfl, hb⟩
      have bY := bX.below hb bX.lt
      have hB2 := bl_trans hB hb
      have HC2 := Lib.hid (HC.out.below hb)
      clear c0 c1 c2 c3 c4 c5 c6 c7 c8 c9 c10 c11 bX hB HC hb
      have bX := bY
      have hB := hB2
      have HC := HC2
      clear bY hB2 HC2
      obtain ⟨c0, c1, c2, c3, c4, c5, c6, c7, c8, c9, c10, c11⟩ := bX.cal
      go_wp2_with fail
      refine (M3.out _ _ HC.out.is).mono ?_
      rintro e v3 ⟨rfl, hb⟩
      have bY := bX.below hb bX.lt
      have hB2 := bl_trans hB hb
      have HC2 := Lib.hid (HC.out.below hb)
      clear c0 c1 c2 c3 c4 c5 c6 c7 c8 c9 c10 c11 bX hB HC hb
      have bX := bY
      have hB := hB2
      have HC := HC2
      clear bY hB2 HC2
      obtain ⟨c0, c1, c2, c3, c4, c5, c6, c7, c8, c9, c10, c11⟩ := bX.cal
      go_wp2_with fail
      refine (M4.out _ _ _ _ (hG.below hB) HC.out).mono ?_
      rintro e v4 ⟨rfl, hb⟩
      have bY := bX.below hb bX.lt
      have hB2 := bl_trans hB hb
      have HC2 := Lib.hid (HC.out.below hb)
      clear c0 c1 c2 c3 c4 c5 c6 c7 c8 c9 c10 c11 bX hB HC hb
      have bX := bY
      have hB := hB2
      have HC := HC2
      clear bY hB2 HC2
      obtain ⟨c0, c1, c2, c3, c4, c5, c6, c7, c8, c9, c10, c11⟩ := bX.cal
      have s1 : IntKind.i64.wrap (t + 1) = t + 1 := IntWalk.i64_in _ (by omega)
      have s2 : IntKind.i64.wrap (t + 1 + x) = t + 1 + x := IntWalk.i64_in _ (by omega)
      clear c0 c1 c2 c3 c4 c5 c6 c7 c8 c9 c10 c11
      have bU : ∀ u : UpW v4, Blk u.w X 30 (cellsC c (.slice ha c.hs.length hcp) (.slice ca c.cl.length ccp) (.slice sa c.sh.length scp)) := fun u => bX.below u.h bX.lt
      have x0 : ∀ u : UpW v4, u.w.cell? ⟨X, 0, none⟩ = some (.bool (c.we 0)) := fun u => (bU u).cell 0
      have x1 : ∀ u : UpW v4, u.w.cell? ⟨X, 1, none⟩ = some (.bool (c.we 1)) := fun u => (bU u).cell 1
      have x2 : ∀ u : UpW v4, u.w.cell? ⟨X, 2, none⟩ = some (.bool (c.we 2)) := fun u => (bU u).cell 2
      have x3 : ∀ u : UpW v4, u.w.cell? ⟨X, 3, none⟩ = some (.bool (c.we 3)) := fun u => (bU u).cell 3
      have x4 : ∀ u : UpW v4, u.w.cell? ⟨X, 4, none⟩ = some (.bool (c.we 4)) := fun u => (bU u).cell 4
      have x5 : ∀ u : UpW v4, u.w.cell? ⟨X, 5, none⟩ = some (.bool (c.we 5)) := fun u => (bU u).cell 5
      have x6 : ∀ u : UpW v4, u.w.cell? ⟨X, 6, none⟩ = some (.bool (c.we 6)) := fun u => (bU u).cell 6
      have x7 : ∀ u : UpW v4, u.w.cell? ⟨X, 7, none⟩ = some (.slice ha c.hs.length hcp) := fun u => (bU u).cell 7
      have x8 : ∀ u : UpW v4, u.w.cell? ⟨X, 8, none⟩ = some (.slice ca c.cl.length ccp) := fun u => (bU u).cell 8
      have x9 : ∀ u : UpW v4, u.w.cell? ⟨X, 9, none⟩ = some (.int .i64 c.o) := fun u => (bU u).cell 9
      have x10 : ∀ u : UpW v4, u.w.cell? ⟨X, 10, none⟩ = some (.slice sa c.sh.length scp) := fun u => (bU u).cell 10
      have x11 : ∀ u : UpW v4, u.w.cell? ⟨X, 11, none⟩ = some (.int .i64 c.hr) := fun u => (bU u).cell 11
      have HU := Lib.hid bU
      clear bU
      go_upto_region 10 with (fail)
      refine wp_region_up (by kernel_rfl) (by kernel_rfl) ?_
      repeat (go_big_quiet_step (fail))
      go_big_quiet_step (exact Ret.up (pur_ret (HX.out _)))
      repeat (go_big_quiet_step (fail))
      go_big_quiet_step (exact Ret.up (M5.out _ _ _ _ (hG.below (bl_trans hB (UpW.h _))) (HC.out.below (UpW.h _))))
      repeat (go_big_quiet_step (fail))
      refine wpQuiet_nil ?_
      rintro vr ⟨⟨_, hb⟩, rfl⟩
      clear x0 x1 x2 x3 x4 x5 x6 x7 x8 x9 x10 x11 s1 s2 HU
      have bY := bX.below hb bX.lt
      have hB2 := bl_trans hB hb
      have HC2 := Lib.hid (HC.out.below hb)
      clear bX hB HC hb
      have bX := bY
      have hB := hB2
      have HC := HC2
      clear bY hB2 HC2
      obtain ⟨c0, c1, c2, c3, c4, c5, c6, c7, c8, c9, c10, c11⟩ := bX.cal
      go_wp2_with fail
      refine (M6.out _ _ _ _ (hG.below hB) HC.out).mono ?_
      rintro e v5 ⟨rfl, hb⟩
      have bY := bX.below hb bX.lt
      have hB2 := bl_trans hB hb
      have HC2 := Lib.hid (HC.out.below hb)
      clear c0 c1 c2 c3 c4 c5 c6 c7 c8 c9 c10 c11 bX hB HC hb
      have bX := bY
      have hB := hB2
      have HC := HC2
      clear bY hB2 HC2
      obtain ⟨c0, c1, c2, c3, c4, c5, c6, c7, c8, c9, c10, c11⟩ := bX.cal
      go_wp2_with fail
      refine (clives_any _ (hG.below hB)).mono ?_
      rintro e vz ⟨rfl, hb⟩
      go_wp2
      go_ret
      exact ⟨rfl, bl_trans hB hb⟩
    · rw [ho] at m6
      have M6 := Lib.hid m6
      have hz := G7.out hL ho
      obtain rfl := hz
      obtain rfl := hL
      clear m6 ho
      go_enter Tryd.func4, Tryd.ntmps4
      go_wp2_with fail
      refine HCK.out.mono ?_
      intro e w1 hp
      obtain ⟨vh, vc, vs, rfl, hc, ⟨hr1, hr2⟩, hb1⟩ := HPOST.out _ _ hp
      clear hp
      obtain ⟨ha, hcp, rfl⟩ := row_slice hr1
      obtain ⟨ca, ccp, rfl⟩ := row_slice hr2
      obtain ⟨sa, scp, rfl, hsl⟩ := hc.is.slice
      have bX := Blk.new w1 30 (cellsC c (.slice ha c.hs.length hcp) (.slice ca c.cl.length ccp) (.slice sa c.sh.length scp))
      have hB := bl_trans hb1 (bl_alloc w1 (.cells (cellsC c (.slice ha c.hs.length hcp) (.slice ca c.cl.length ccp) (.slice sa c.sh.length scp)) 30))
      have HC := Lib.hid (hc.alloc (.cells (cellsC c (.slice ha c.hs.length hcp) (.slice ca c.cl.length ccp) (.slice sa c.sh.length scp)) 30))
      go_wp2_with fail
      obtain ⟨X, hX⟩ : ∃ X, X = w1.heap.size := ⟨_, rfl⟩
      rw [← hX] at bX ⊢
      clear hX hc hr1 hr2 hb1
      obtain ⟨V0, hV0⟩ : ∃ V0, w1.alloc (.cells (cellsC c (.slice ha c.hs.length hcp) (.slice ca c.cl.length ccp) (.slice sa c.sh.length scp)) 30) = V0 := ⟨_, rfl⟩
      rw [hV0] at bX hB HC ⊢
      clear hV0 w1
      obtain ⟨c0, c1, c2, c3, c4, c5, c6, c7, c8, c9, c10, c11⟩ := bX.cal
      refine (HD.out _).mono ?_
      rintro e q ⟨rfl, rfl⟩
      go_wp2_with fail
      refine (HK.out _).mono ?_
      rintro e q ⟨rfl, rfl⟩
      go_wp2_with fail
      refine (M1.out _ _ _ _ HC.out).mono ?_
      rintro e v1 ⟨rfl, hb⟩
      have bY := bX.below hb bX.lt
      have hB2 := bl_trans hB hb
      have HC2 := Lib.hid (HC.out.below hb)
      clear c0 c1 c2 c3 c4 c5 c6 c7 c8 c9 c10 c11 bX hB HC hb
      have bX := bY
      have hB := hB2
      have HC := HC2
      clear bY hB2 HC2
      obtain ⟨c0, c1, c2, c3, c4, c5, c6, c7, c8, c9, c10, c11⟩ := bX.cal
      go_wp2_with fail
      refine (M2.out _ _ HC.out.is).mono ?_
      rintro e v2 ⟨rfl, hb⟩
      have bY := bX.below hb bX.lt
      have hB2 := bl_trans hB hb
      have HC2 := Lib.hid (HC.out.below hb)
      clear c0 c1 c2 c3 c4 c5 c6 c7 c8 c9 c10 c11 bX hB HC hb
      have bX := bY
      have hB := hB2
      have HC := HC2
      clear bY hB2 HC2
      obtain ⟨c0, c1, c2, c3, c4, c5, c6, c7, c8, c9, c10, c11⟩ := bX.cal
      go_wp2_with fail
      refine (M3.out _ _ HC.out.is).mono ?_
      rintro e v3 ⟨rfl, hb⟩
      have bY := bX.below hb bX.lt
      have hB2 := bl_trans hB hb
      have HC2 := Lib.hid (HC.out.below hb)
      clear c0 c1 c2 c3 c4 c5 c6 c7 c8 c9 c10 c11 bX hB HC hb
      have bX := bY
      have hB := hB2
      have HC := HC2
      clear bY hB2 HC2
      obtain ⟨c0, c1, c2, c3, c4, c5, c6, c7, c8, c9, c10, c11⟩ := bX.cal
      go_wp2_with fail
      refine (M4.out _ _ _ _ (hG.below hB) HC.out).mono ?_
      rintro e v4 ⟨rfl, hb⟩
      have bY := bX.below hb bX.lt
      have hB2 := bl_trans hB hb
      have HC2 := Lib.hid (HC.out.below hb)
      clear c0 c1 c2 c3 c4 c5 c6 c7 c8 c9 c10 c11 bX hB HC hb
      have bX := bY
      have hB := hB2
      have HC := HC2
      clear bY hB2 HC2
      obtain ⟨c0, c1, c2, c3, c4, c5, c6, c7, c8, c9, c10, c11⟩ := bX.cal
      have s1 : IntKind.i64.wrap (t + 1) = t + 1 := IntWalk.i64_in _ (by omega)
      have s2 : IntKind.i64.wrap (t + 1 + x) = t + 1 + x := IntWalk.i64_in _ (by omega)
      clear c0 c1 c2 c3 c4 c5 c6 c7 c8 c9 c10 c11
      have bU : ∀ u : UpW v4, Blk u.w X 30 (cellsC c (.slice ha c.hs.length hcp) (.slice ca c.cl.length ccp) (.slice sa c.sh.length scp)) := fun u => bX.below u.h bX.lt
      have x0 : ∀ u : UpW v4, u.w.cell? ⟨X, 0, none⟩ = some (.bool (c.we 0)) := fun u => (bU u).cell 0
      have x1 : ∀ u : UpW v4, u.w.cell? ⟨X, 1, none⟩ = some (.bool (c.we 1)) := fun u => (bU u).cell 1
      have x2 : ∀ u : UpW v4, u.w.cell? ⟨X, 2, none⟩ = some (.bool (c.we 2)) := fun u => (bU u).cell 2
      have x3 : ∀ u : UpW v4, u.w.cell? ⟨X, 3, none⟩ = some (.bool (c.we 3)) := fun u => (bU u).cell 3
      have x4 : ∀ u : UpW v4, u.w.cell? ⟨X, 4, none⟩ = some (.bool (c.we 4)) := fun u => (bU u).cell 4
      have x5 : ∀ u : UpW v4, u.w.cell? ⟨X, 5, none⟩ = some (.bool (c.we 5)) := fun u => (bU u).cell 5
      have x6 : ∀ u : UpW v4, u.w.cell? ⟨X, 6, none⟩ = some (.bool (c.we 6)) := fun u => (bU u).cell 6
      have x7 : ∀ u : UpW v4, u.w.cell? ⟨X, 7, none⟩ = some (.slice ha c.hs.length hcp) := fun u => (bU u).cell 7
      have x8 : ∀ u : UpW v4, u.w.cell? ⟨X, 8, none⟩ = some (.slice ca c.cl.length ccp) := fun u => (bU u).cell 8
      have x9 : ∀ u : UpW v4, u.w.cell? ⟨X, 9, none⟩ = some (.int .i64 c.o) := fun u => (bU u).cell 9
      have x10 : ∀ u : UpW v4, u.w.cell? ⟨X, 10, none⟩ = some (.slice sa c.sh.length scp) := fun u => (bU u).cell 10
      have x11 : ∀ u : UpW v4, u.w.cell? ⟨X, 11, none⟩ = some (.int .i64 c.hr) := fun u => (bU u).cell 11
      have HU := Lib.hid bU
      clear bU
      go_upto_region 10 with (fail)
      refine wp_region_up (by kernel_rfl) (by kernel_rfl) ?_
      repeat (go_big_quiet_step (fail))
      go_big_quiet_step (exact Ret.up (pur_ret (HX.out _)))
      repeat (go_big_quiet_step (fail))
      go_big_quiet_step (exact Ret.up (M5.out _ _ _ _ (hG.below (bl_trans hB (UpW.h _))) (HC.out.below (UpW.h _))))
      repeat (go_big_quiet_step (fail))
      refine wpQuiet_nil ?_
      rintro vr ⟨⟨_, hb⟩, rfl⟩
      clear x0 x1 x2 x3 x4 x5 x6 x7 x8 x9 x10 x11 s1 s2 HU
      have bY := bX.below hb bX.lt
      have hB2 := bl_trans hB hb
      have HC2 := Lib.hid (HC.out.below hb)
      clear bX hB HC hb
      have bX := bY
      have hB := hB2
      have HC := HC2
      clear bY hB2 HC2
      obtain ⟨c0, c1, c2, c3, c4, c5, c6, c7, c8, c9, c10, c11⟩ := bX.cal
      go_wp2_with fail
      refine (M6.out _ _ _ _ (hG.below hB) HC.out).mono ?_
      rintro e v5 ⟨rfl, hb⟩
      have bY := bX.below hb bX.lt
      have hB2 := bl_trans hB hb
      have HC2 := Lib.hid (HC.out.below hb)
      clear c0 c1 c2 c3 c4 c5 c6 c7 c8 c9 c10 c11 bX hB HC hb
      have bX := bY
      have hB := hB2
      have HC := HC2
      clear bY hB2 HC2
      obtain ⟨c0, c1, c2, c3, c4, c5, c6, c7, c8, c9, c10, c11⟩ := bX.cal
      go_wp2_with fail
      refine (clives_any _ (hG.below hB)).mono ?_
      rintro e vz ⟨rfl, hb⟩
      go_wp2
      go_ret
      exact ⟨rfl, bl_trans hB hb⟩
  · have q1 : (L == d) = false := by simpa using hL
    have q2 : (L != d) = true := by simpa using hL
    have q3 : L < d := by omega
    clear hL m6
    go_enter Tryd.func4, Tryd.ntmps4
    go_wp2_with fail
    refine HCK.out.mono ?_
    intro e w1 hp
    obtain ⟨vh, vc, vs, rfl, hc, ⟨hr1, hr2⟩, hb1⟩ := HPOST.out _ _ hp
    clear hp
    obtain ⟨ha, hcp, rfl⟩ := row_slice hr1
    obtain ⟨ca, ccp, rfl⟩ := row_slice hr2
    obtain ⟨sa, scp, rfl, hsl⟩ := hc.is.slice
    have bX := Blk.new w1 30 (cellsC c (.slice ha c.hs.length hcp) (.slice ca c.cl.length ccp) (.slice sa c.sh.length scp))
    have hB := bl_trans hb1 (bl_alloc w1 (.cells (cellsC c (.slice ha c.hs.length hcp) (.slice ca c.cl.length ccp) (.slice sa c.sh.length scp)) 30))
    have HC := Lib.hid (hc.alloc (.cells (cellsC c (.slice ha c.hs.length hcp) (.slice ca c.cl.length ccp) (.slice sa c.sh.length scp)) 30))
    go_wp2_with fail
    obtain ⟨X, hX⟩ : ∃ X, X = w1.heap.size := ⟨_, rfl⟩
    rw [← hX] at bX ⊢
    clear hX hc hr1 hr2 hb1
    obtain ⟨V0, hV0⟩ : ∃ V0, w1.alloc (.cells (cellsC c (.slice ha c.hs.length hcp) (.slice ca c.cl.length ccp) (.slice sa c.sh.length scp)) 30) = V0 := ⟨_, rfl⟩
    rw [hV0] at bX hB HC ⊢
    clear hV0 w1
    obtain ⟨c0, c1, c2, c3, c4, c5, c6, c7, c8, c9, c10, c11⟩ := bX.cal
    refine (HD.out _).mono ?_
    rintro e q ⟨rfl, rfl⟩
    go_wp2_with fail
    refine (HK.out _).mono ?_
    rintro e q ⟨rfl, rfl⟩
    go_wp2_with fail
    refine (M1.out _ _ _ _ HC.out).mono ?_
    rintro e v1 ⟨rfl, hb⟩
    have bY := bX.below hb bX.lt
    have hB2 := bl_trans hB hb
    have HC2 := Lib.hid (HC.out.below hb)
    clear c0 c1 c2 c3 c4 c5 c6 c7 c8 c9 c10 c11 bX hB HC hb
    have bX := bY
    have hB := hB2
    have HC := HC2
    clear bY hB2 HC2
    obtain ⟨c0, c1, c2, c3, c4, c5, c6, c7, c8, c9, c10, c11⟩ := bX.cal
    go_wp2_with fail
    refine (M2.out _ _ HC.out.is).mono ?_
    rintro e v2 ⟨rfl, hb⟩
    have bY := bX.below hb bX.lt
    have hB2 := bl_trans hB hb
    have HC2 := Lib.hid (HC.out.below hb)
    clear c0 c1 c2 c3 c4 c5 c6 c7 c8 c9 c10 c11 bX hB HC hb
    have bX := bY
    have hB := hB2
    have HC := HC2
    clear bY hB2 HC2
    obtain ⟨c0, c1, c2, c3, c4, c5, c6, c7, c8, c9, c10, c11⟩ := bX.cal
    go_wp2_with fail
    refine (M3.out _ _ HC.out.is).mono ?_
    rintro e v3 ⟨rfl, hb⟩
    have bY := bX.below hb bX.lt
    have hB2 := bl_trans hB hb
    have HC2 := Lib.hid (HC.out.below hb)
    clear c0 c1 c2 c3 c4 c5 c6 c7 c8 c9 c10 c11 bX hB HC hb
    have bX := bY
    have hB := hB2
    have HC := HC2
    clear bY hB2 HC2
    obtain ⟨c0, c1, c2, c3, c4, c5, c6, c7, c8, c9, c10, c11⟩ := bX.cal
    go_wp2_with fail
    refine (M4.out _ _ _ _ (hG.below hB) HC.out).mono ?_
    rintro e v4 ⟨rfl, hb⟩
    have bY := bX.below hb bX.lt
    have hB2 := bl_trans hB hb
    have HC2 := Lib.hid (HC.out.below hb)
    clear c0 c1 c2 c3 c4 c5 c6 c7 c8 c9 c10 c11 bX hB HC hb
    have bX := bY
    have hB := hB2
    have HC := HC2
    clear bY hB2 HC2
    obtain ⟨c0, c1, c2, c3, c4, c5, c6, c7, c8, c9, c10, c11⟩ := bX.cal
    have s1 : IntKind.i64.wrap (t + 1) = t + 1 := IntWalk.i64_in _ (by omega)
    have s2 : IntKind.i64.wrap (t + 1 + x) = t + 1 + x := IntWalk.i64_in _ (by omega)
    clear c0 c1 c2 c3 c4 c5 c6 c7 c8 c9 c10 c11
    have bU : ∀ u : UpW v4, Blk u.w X 30 (cellsC c (.slice ha c.hs.length hcp) (.slice ca c.cl.length ccp) (.slice sa c.sh.length scp)) := fun u => bX.below u.h bX.lt
    have x0 : ∀ u : UpW v4, u.w.cell? ⟨X, 0, none⟩ = some (.bool (c.we 0)) := fun u => (bU u).cell 0
    have x1 : ∀ u : UpW v4, u.w.cell? ⟨X, 1, none⟩ = some (.bool (c.we 1)) := fun u => (bU u).cell 1
    have x2 : ∀ u : UpW v4, u.w.cell? ⟨X, 2, none⟩ = some (.bool (c.we 2)) := fun u => (bU u).cell 2
    have x3 : ∀ u : UpW v4, u.w.cell? ⟨X, 3, none⟩ = some (.bool (c.we 3)) := fun u => (bU u).cell 3
    have x4 : ∀ u : UpW v4, u.w.cell? ⟨X, 4, none⟩ = some (.bool (c.we 4)) := fun u => (bU u).cell 4
    have x5 : ∀ u : UpW v4, u.w.cell? ⟨X, 5, none⟩ = some (.bool (c.we 5)) := fun u => (bU u).cell 5
    have x6 : ∀ u : UpW v4, u.w.cell? ⟨X, 6, none⟩ = some (.bool (c.we 6)) := fun u => (bU u).cell 6
    have x7 : ∀ u : UpW v4, u.w.cell? ⟨X, 7, none⟩ = some (.slice ha c.hs.length hcp) := fun u => (bU u).cell 7
    have x8 : ∀ u : UpW v4, u.w.cell? ⟨X, 8, none⟩ = some (.slice ca c.cl.length ccp) := fun u => (bU u).cell 8
    have x9 : ∀ u : UpW v4, u.w.cell? ⟨X, 9, none⟩ = some (.int .i64 c.o) := fun u => (bU u).cell 9
    have x10 : ∀ u : UpW v4, u.w.cell? ⟨X, 10, none⟩ = some (.slice sa c.sh.length scp) := fun u => (bU u).cell 10
    have x11 : ∀ u : UpW v4, u.w.cell? ⟨X, 11, none⟩ = some (.int .i64 c.hr) := fun u => (bU u).cell 11
    have HU := Lib.hid bU
    clear bU
    go_upto_region 10 with (fail)
    refine wp_region_up (by kernel_rfl) (by kernel_rfl) ?_
    repeat (go_big_quiet_step (fail))
    go_big_quiet_step (exact Ret.up (pur_ret (HX.out _)))
    repeat (go_big_quiet_step (fail))
    go_big_quiet_step (exact Ret.up (M5.out _ _ _ _ (hG.below (bl_trans hB (UpW.h _))) (HC.out.below (UpW.h _))))
    repeat (go_big_quiet_step (fail))
    refine wpQuiet_nil ?_
    rintro vr ⟨⟨_, hb⟩, rfl⟩
    clear x0 x1 x2 x3 x4 x5 x6 x7 x8 x9 x10 x11 s1 s2 HU
    have bY := bX.below hb bX.lt
    have hB2 := bl_trans hB hb
    have HC2 := Lib.hid (HC.out.below hb)
    clear bX hB HC hb
    have bX := bY
    have hB := hB2
    have HC := HC2
    clear bY hB2 HC2
    obtain ⟨c0, c1, c2, c3, c4, c5, c6, c7, c8, c9, c10, c11⟩ := bX.cal
    go_wp2_with fail
    refine (clives_any _ (hG.below hB)).mono ?_
    rintro e vz ⟨rfl, hb⟩
    go_wp2
    go_ret
    exact ⟨rfl, bl_trans hB hb⟩
end Go.Proofs.YtiilljcnikgeaaaDoor
