/- The walks of the reference's Filed and Last. Conditions: the calendar lies in memory, its rules and its zone are valid; bounds. -/
import Derived.Test.YtiilljcnikgeaaaGreatDoorCRon
import Derived.Test.YtiilljcnikgeaaaGreatDoorCFiled
import Derived.Test.YtiilljcnikgeaaaGreatDoorZRir
namespace Go.Proofs.YtiilljcnikgeaaaGreatDoor
open Go.RowKit

theorem locT_R {c : Cal} (hok : Ok c.o c.sh) {t : Int} (h : t < 1125899906842624) : locT c t = t + offR c.o c.sh t := by
  show t + offS (segsOf c.o c.sh) t = _
  unfold segsOf
  rw [offS_segs t h, offR_eq c.o hok.ch]
set_option maxRecDepth 100000 in
set_option maxHeartbeats 4000000 in
theorem rfiled_any (c : Cal) (vh vc vs : Value) (t k : Int) (w : World) (hc : CalIn w vh vc vs c) (h1 : -4000000000000000 ≤ locT c t) (h2 : locT c t ≤ 4000000000000000) (hok : Ok c.o c.sh) (ht : t < 1125899906842624) :
    Calls Tryz.prog 14 #[aggC c vh vc vs, .int .i64 t, .int .i64 k] w (Ret (.tuple #[.int .i64 (filV c t k), .int .i64 (filE c t k)]) w) := by
  have hl : ∀ w, IsSh w vs c.sh → Calls Tryz.prog 30 #[.agg #[.int .i64 c.o, vs], .int .i64 t] w (Ret (.tuple #[.int .i64 (locT c t / 1440), .int .i64 (locT c t % 1440)]) w) := fun w hI => by rw [locT_R hok ht] at h1 h2 ⊢; exact zrlocal_any c.o t vs c.sh w hI h1 h2
  have hv : filV c t k = if locT c t % 1440 ≤ c.hr ∧ openB c k (locT c t / 1440) = true then locT c t / 1440 else fstV c k (locT c t / 1440 + 1) 1 := rfl
  have he : filE c t k = if locT c t % 1440 ≤ c.hr ∧ openB c k (locT c t / 1440) = true then 0 else fstE c k (locT c t / 1440 + 1) 1 := rfl
  have ho := fun w hc => ropen_any c vh vc vs (locT c t / 1440) k w hc
  have hn := fun w hc => rnext_any c vh vc vs (locT c t / 1440 + 1) k w hc
  have q1 : -4000000000000000 ≤ locT c t / 1440 := by omega
  have q2 : locT c t / 1440 ≤ 4000000000000000 := by omega
  have HV := Lib.hid hv; have HE := Lib.hid he; have HO := Lib.hid ho; have HN := Lib.hid hn; have HL := Lib.hid hl; have HC := Lib.hid hc
  clear hl hv he ho hn hc h1 h2 hok
  generalize filV c t k = V at *
  generalize filE c t k = E at *
  generalize locT c t / 1440 = q at *
  generalize locT c t % 1440 = r at *
  generalize fstV c k (q + 1) 1 = nv at *
  generalize fstE c k (q + 1) 1 = ne at *
  generalize openB c k q = ob at *
  have bX := Blk.new w 30 (cellsC c vh vc vs)
  have hB0 := bl_alloc w (.cells (cellsC c vh vc vs) 30)
  by_cases hr : r ≤ c.hr
  · cases ob
    · have HV2 : Hid (V = nv) := by show _ = _; rw [HV.out, if_neg (by simp)]
      have HE2 : Hid (E = ne) := by show _ = _; rw [HE.out, if_neg (by simp)]
      clear HV HE
      go_enter Tryz.func14, Tryz.ntmps14
      go_wp2_with fail
      refine (HL.out _ (HC.out.below hB0).is).mono ?_
      rintro e w1 ⟨rfl, hb1⟩
      have hB1 := bl_trans hB0 hb1
      have bX1 := bX.below hb1 (by simp)
      obtain ⟨c0, c1, c2, c3, c4, c5, c6, c7, c8, c9, c10, c11⟩ := bX1.cal
      go_wp2_with fail
      refine (HO.out _ (HC.out.below hB1)).mono ?_
      rintro e w2 ⟨rfl, hb2⟩
      have hB2 := bl_trans hB1 hb2
      have bX2 := bX1.below hb2 bX1.lt
      clear c0 c1 c2 c3 c4 c5 c6 c7 c8 c9 c10 c11
      obtain ⟨c0, c1, c2, c3, c4, c5, c6, c7, c8, c9, c10, c11⟩ := bX2.cal
      go_wp2_with fail
      refine (HN.out _ (HC.out.below hB2)).mono ?_
      rintro e w3 ⟨rfl, hb3⟩
      go_wp2
      go_ret2
      exact ⟨ret_ie HV2.out.symm HE2.out.symm, bl_trans hB2 hb3⟩
    · have HV2 : Hid (V = q) := by show _ = _; rw [HV.out, if_pos ⟨hr, rfl⟩]
      have HE2 : Hid (E = 0) := by show _ = _; rw [HE.out, if_pos ⟨hr, rfl⟩]
      clear HV HE
      go_enter Tryz.func14, Tryz.ntmps14
      go_wp2_with fail
      refine (HL.out _ (HC.out.below hB0).is).mono ?_
      rintro e w1 ⟨rfl, hb1⟩
      have hB1 := bl_trans hB0 hb1
      have bX1 := bX.below hb1 (by simp)
      obtain ⟨c0, c1, c2, c3, c4, c5, c6, c7, c8, c9, c10, c11⟩ := bX1.cal
      go_wp2_with fail
      refine (HO.out _ (HC.out.below hB1)).mono ?_
      rintro e w2 ⟨rfl, hb2⟩
      go_wp2
      go_ret2
      exact ⟨ret_ie HV2.out.symm HE2.out.symm, bl_trans hB1 hb2⟩
  · have HV2 : Hid (V = nv) := by show _ = _; rw [HV.out, if_neg (fun h => hr h.1)]
    have HE2 : Hid (E = ne) := by show _ = _; rw [HE.out, if_neg (fun h => hr h.1)]
    have e1 : decide (r ≤ c.hr) = false := decide_eq_false hr
    clear HV HE
    go_enter Tryz.func14, Tryz.ntmps14
    go_wp2_with fail
    refine (HL.out _ (HC.out.below hB0).is).mono ?_
    rintro e w1 ⟨rfl, hb1⟩
    have hB1 := bl_trans hB0 hb1
    have bX1 := bX.below hb1 (by simp)
    obtain ⟨c0, c1, c2, c3, c4, c5, c6, c7, c8, c9, c10, c11⟩ := bX1.cal
    go_wp2_with fail
    refine (HN.out _ (HC.out.below hB1)).mono ?_
    rintro e w3 ⟨rfl, hb3⟩
    go_wp2
    go_ret2
    exact ⟨ret_ie HV2.out.symm HE2.out.symm, bl_trans hB1 hb3⟩
theorem las_R {c : Cal} (hok : Ok c.o c.sh) {d : Int} (d1 : -100000000 ≤ d) (d2 : d ≤ 100000000) (r1 : 0 ≤ c.hr) (r2 : c.hr < 1440) :
    lasV c d = (if locT c (res true c.o c.sh (d * 1440 + c.hr)) / 1440 = d ∧ locT c (res true c.o c.sh (d * 1440 + c.hr)) % 1440 = c.hr then res true c.o c.sh (d * 1440 + c.hr) else res true c.o c.sh (d * 1440 + c.hr) - 1) ∧ -1000000000000 ≤ res true c.o c.sh (d * 1440 + c.hr) ∧ res true c.o c.sh (d * 1440 + c.hr) ≤ 1000000000000 := by
  obtain ⟨n, hn⟩ : ∃ n, n = d * 1440 + c.hr := ⟨_, rfl⟩
  have hb : -1099511627776 ≤ n ∧ n ≤ 1099511627776 := by omega
  have hl := late hok hb
  have ho : ∀ t, -900 ≤ off c.o c.sh t ∧ off c.o c.sh t ≤ 900 := fun t => off_bd hok.ch hok.1 hok.2.1
  unfold lasV
  rw [← hn]
  have hloc : ∀ t, t < 1125899906842624 → locT c t = lt c.o c.sh t := fun t h => by
    show t + offS (segsOf c.o c.sh) t = t + off c.o c.sh t
    unfold segsOf
    rw [offS_segs t h]
  have bd : n - 901 ≤ res true c.o c.sh n ∧ res true c.o c.sh n ≤ n + 901 := by
    have o1 := ho (res true c.o c.sh n - 1)
    have o2 := ho (res true c.o c.sh n)
    rcases hl.2 with e | e
    · unfold lt at e; omega
    · obtain ⟨g1, g2⟩ := e
      unfold lt at g1 g2; omega
  refine ⟨?_, by omega, by omega⟩
  rw [hloc _ (by omega)]
  by_cases he : ins c.o c.sh n = []
  · rw [if_pos he]
    have hg := ins_gap hok hb he
    have hr : res true c.o c.sh n = resR n c.o c.sh := by unfold res; rw [he]
    rw [← hr] at hg
    have g2 := hg.2
    rw [if_neg (by omega)]
  · rw [if_neg he]
    have he2 : lt c.o c.sh (res true c.o c.sh n) = n := by
      rcases hl.2 with e | e
      · exact e
      · exact absurd (gap_ins hok hb e) he
    rw [he2, if_pos (by omega)]
set_option maxRecDepth 100000 in
set_option maxHeartbeats 4000000 in
theorem rlast_any (c : Cal) (vh vc vs : Value) (d : Int) (w : World) (hc : CalIn w vh vc vs c) (hok : Ok c.o c.sh) (hlen : c.sh.length ≤ 1000000000) (hd1 : -100000000 ≤ d) (hd2 : d ≤ 100000000) (hr1 : 0 ≤ c.hr) (hr2 : c.hr < 1440) :
    Calls Tryz.prog 16 #[aggC c vh vc vs, .int .i64 d] w (Ret (.int .i64 (lasV c d)) w) := by
  obtain ⟨hv, r1, r2⟩ := las_R hok hd1 hd2 hr1 hr2
  have hre : ∀ w, IsSh w vs c.sh → Calls Tryz.prog 34 #[.agg #[.int .i64 c.o, vs], .int .i64 d, .int .i64 c.hr, .bool true] w (Ret (.int .i64 (res true c.o c.sh (d * 1440 + c.hr))) w) := fun w hI => by
    have := zrr_any c.o d c.hr true vs c.sh w hI hok (by omega) (by omega) hr1 (by omega) hlen
    rw [Int.mul_comm 1440 d] at this; exact this
  generalize res true c.o c.sh (d * 1440 + c.hr) = R at *
  have hb : -4000000000000000 ≤ locT c R ∧ locT c R ≤ 4000000000000000 := by
    have ho := off_bd (t := R) hok.ch hok.1 hok.2.1
    rw [locT_R hok (by omega), offR_eq c.o hok.ch]; omega
  have hlo : ∀ w, IsSh w vs c.sh → Calls Tryz.prog 30 #[.agg #[.int .i64 c.o, vs], .int .i64 R] w (Ret (.tuple #[.int .i64 (locT c R / 1440), .int .i64 (locT c R % 1440)]) w) := fun w hI => by
    rw [locT_R hok (by omega)] at hb ⊢; exact zrlocal_any c.o R vs c.sh w hI hb.1 hb.2
  generalize lasV c d = V at *
  generalize locT c R / 1440 = q at *
  generalize locT c R % 1440 = m at *
  have HV := Lib.hid hv; have HRE := Lib.hid hre; have HLO := Lib.hid hlo; have HC := Lib.hid (hc.alloc (.cells (cellsC c vh vc vs) 30))
  clear hv hre hlo hc hb hok
  have bX := Blk.new w 30 (cellsC c vh vc vs)
  have hB0 := bl_alloc w (.cells (cellsC c vh vc vs) 30)
  by_cases g1 : q = d
  · by_cases g2 : m = c.hr
    · have HV2 : Hid (V = R) := by show _ = _; rw [HV.out, if_pos ⟨g1, g2⟩]
      have q1 : (q == d) = true := by simpa using g1
      have q2 : (m == c.hr) = true := by simpa using g2
      have G2 := Lib.hid g2; have G1 := Lib.hid g1
      clear HV g1 g2
      go_enter Tryz.func16, Tryz.ntmps16
      go_wp2_with fail
      refine (HRE.out _ HC.out.is).mono ?_
      rintro e w1 ⟨rfl, hb1⟩
      have hB1 := bl_trans hB0 hb1
      have bX1 := bX.below hb1 bX.lt
      obtain ⟨c0, c1, c2, c3, c4, c5, c6, c7, c8, c9, c10, c11⟩ := bX1.cal
      go_wp2_with fail
      refine (HLO.out _ (HC.out.below hb1).is).mono ?_
      rintro e w2 ⟨rfl, hb2⟩
      obtain ⟨k0, k1, k2, k3, k4, k5, k6, k7, k8, k9, k10, k11⟩ := (bX1.below hb2 bX1.lt).cal
      go_wp2
      go_ret
      exact ⟨ret_int HV2.out.symm, bl_trans hB1 hb2⟩
    · have HV2 : Hid (V = R - 1) := by show _ = _; rw [HV.out, if_neg (fun h => g2 h.2)]
      have q1 : (q == d) = true := by simpa using g1
      have q2 : (m == c.hr) = false := by simpa using g2
      have G1 := Lib.hid g1
      clear HV g1 g2
      go_enter Tryz.func16, Tryz.ntmps16
      go_wp2_with fail
      refine (HRE.out _ HC.out.is).mono ?_
      rintro e w1 ⟨rfl, hb1⟩
      have hB1 := bl_trans hB0 hb1
      have bX1 := bX.below hb1 bX.lt
      obtain ⟨c0, c1, c2, c3, c4, c5, c6, c7, c8, c9, c10, c11⟩ := bX1.cal
      go_wp2_with fail
      refine (HLO.out _ (HC.out.below hb1).is).mono ?_
      rintro e w2 ⟨rfl, hb2⟩
      obtain ⟨k0, k1, k2, k3, k4, k5, k6, k7, k8, k9, k10, k11⟩ := (bX1.below hb2 bX1.lt).cal
      go_wp2
      go_ret
      exact ⟨ret_int HV2.out.symm, bl_trans hB1 hb2⟩
  · have HV2 : Hid (V = R - 1) := by show _ = _; rw [HV.out, if_neg (fun h => g1 h.1)]
    have q1 : (q == d) = false := by simpa using g1
    clear HV g1
    go_enter Tryz.func16, Tryz.ntmps16
    go_wp2_with fail
    refine (HRE.out _ HC.out.is).mono ?_
    rintro e w1 ⟨rfl, hb1⟩
    have hB1 := bl_trans hB0 hb1
    have bX1 := bX.below hb1 bX.lt
    obtain ⟨c0, c1, c2, c3, c4, c5, c6, c7, c8, c9, c10, c11⟩ := bX1.cal
    go_wp2_with fail
    refine (HLO.out _ (HC.out.below hb1).is).mono ?_
    rintro e w2 ⟨rfl, hb2⟩
    go_wp2
    go_ret
    exact ⟨ret_int HV2.out.symm, bl_trans hB1 hb2⟩
end Go.Proofs.YtiilljcnikgeaaaGreatDoor
