/- The walks of the reference's Nominal and Kept. Conditions: the rule is valid. -/
import Derived.Test.YtiilljcnikgeaaaGreatDoorHRVal
import Derived.Test.YtiilljcnikgeaaaGreatDoorHOf
namespace Go.Proofs.YtiilljcnikgeaaaGreatDoor
open Go.RowKit

def rnB (h : Hol) (y : Int) : Bool := win y h.f h.l && nB h y
def rnV (h : Hol) (y : Int) : Int := if win y h.f h.l then nV h y else 0
set_option maxHeartbeats 1000000 in
theorem rnom_out (h : Hol) (y : Int) (w : World) (hy : win y h.f h.l = false) : Calls Tryz.prog 69 #[aggH h, .int .i64 y] w (Ret (.tuple #[.int .i64 0, .bool false]) w) := by
  have hc : y < h.f ∨ (¬ y < h.f ∧ h.l < y) := by
    unfold win at hy
    have := of_decide_eq_false hy
    omega
  clear hy
  rcases hc with d | ⟨d, d2⟩
  all_goals
    go_enter Tryz.func69, Tryz.ntmps69
    go_wp2
    go_ret2
    exact ⟨rfl, bl_alloc _ _⟩
set_option maxHeartbeats 1000000 in
theorem rnom4 (h : Hol) (y : Int) (w : World) (hy1 : ¬ y < h.f) (hy2 : ¬ h.l < y) (hk : h.k = 4) (h0 : -1000 ≤ h.off) (h1 : h.off ≤ 1000) : Calls Tryz.prog 69 #[aggH h, .int .i64 y] w (Ret (.tuple #[.int .i64 (nV h y), .bool (nB h y)]) w) := by
  have e1 : nV h y = eaV y + h.off := by show nomV eaV h y = _; unfold nomV; rw [if_neg (by omega), if_neg (by omega), if_neg (by omega)]
  have e2 : nB h y = (eaE y == 0) := by show nomB eaE eaV h y = _; unfold nomB; rw [if_neg (by omega), if_neg (by omega), if_neg (by omega)]
  have k4 : (h.k == 4) = true := by rw [beq_iff_eq]; exact hk
  rw [e1, e2]
  clear e1 e2 hk
  have ⟨v1, v2⟩ := eaV_bd y
  go_enter Tryz.func69, Tryz.ntmps69
  go_wp2_with fail
  refine (reaster_any _ _).mono ?_
  rintro e w1 ⟨rfl, hb1⟩
  have c5 := ((Blk.new w 46 (cellsH h)).below hb1 (by simp)).cell 5
  simp at c5
  go_wp2
  go_ret2
  exact ⟨rfl, bl_trans (bl_alloc _ _) hb1⟩
set_option maxHeartbeats 1000000 in
theorem rnom1 (h : Hol) (y : Int) (w : World) (hy1 : ¬ y < h.f) (hy2 : ¬ h.l < y) (hk : h.k = 1) : Calls Tryz.prog 69 #[aggH h, .int .i64 y] w (Ret (.tuple #[.int .i64 (nV h y), .bool (nB h y)]) w) := by
  have e1 : nV h y = dayN y h.mo h.d := by show nomV eaV h y = _; unfold nomV; rw [if_pos hk]
  have e2 : nB h y = (chk y h.mo h.d == 0) := by show nomB eaE eaV h y = _; unfold nomB; rw [if_pos hk]
  have k4 : (h.k == 4) = false := by rw [beq_eq_false_iff_ne]; omega
  have k1 : (h.k == 1) = true := by rw [beq_iff_eq]; exact hk
  rw [e1, e2]
  clear e1 e2 hk
  go_enter Tryz.func69, Tryz.ntmps69
  go_wp2_with fail
  refine (rday_any _ _ _ _).mono ?_
  rintro e w1 ⟨rfl, hb1⟩
  go_wp2
  go_ret2
  exact ⟨rfl, bl_trans (bl_alloc _ _) hb1⟩
set_option maxHeartbeats 2000000 in
theorem rnom3 (h : Hol) (y : Int) (w : World) (hy1 : ¬ y < h.f) (hy2 : ¬ h.l < y) (hk : h.k = 3) (h0 : 0 ≤ h.wd) (h1 : h.wd ≤ 6) : Calls Tryz.prog 69 #[aggH h, .int .i64 y] w (Ret (.tuple #[.int .i64 (nV h y), .bool (nB h y)]) w) := by
  have e1 : nV h y = lwd (dayN y h.mo 1 + len y h.mo - 1) h.wd := by show nomV eaV h y = _; unfold nomV; rw [if_neg (by omega), if_neg (by omega), if_pos (by omega)]
  have e2 : nB h y = true := by show nomB eaE eaV h y = _; unfold nomB; rw [if_neg (by omega), if_neg (by omega), if_pos (by omega)]
  have k4 : (h.k == 4) = false := by rw [beq_eq_false_iff_ne]; omega
  have k1 : (h.k == 1) = false := by rw [beq_eq_false_iff_ne]; omega
  have k3 : (h.k == 3) = true := by rw [beq_iff_eq]; exact hk
  rw [e1, e2]
  clear e1 e2 hk
  obtain ⟨m1, m2⟩ := dayN_bd y h.mo 1
  obtain ⟨l1, l2⟩ := len_le y h.mo
  obtain ⟨L, hL⟩ : ∃ L, L = lwd (dayN y h.mo 1 + len y h.mo - 1) h.wd := ⟨_, rfl⟩
  obtain ⟨L1, L2⟩ := lwd_bd (dayN y h.mo 1 + len y h.mo - 1) h.wd
  rw [← hL] at L1 L2 ⊢
  have HL := Lib.hid hL; clear hL
  have bx := Blk.new w 46 (cellsH h)
  have hd := fun w => rday_any y h.mo 1 w
  have hn := fun w => rlen_any y h.mo w
  generalize dayN y h.mo 1 = m at *
  generalize len y h.mo = n at *
  have HD := Lib.hid hd; have HN := Lib.hid hn; clear hd hn
  go_enter Tryz.func69, Tryz.ntmps69
  go_wp2_with fail
  refine (HD.out _).mono ?_
  rintro e w1 ⟨rfl, hb1⟩
  have b1 := bx.below hb1 (by simp)
  have hb0 := bl_trans (bl_alloc w (.cells (cellsH h) 46)) hb1
  have c0 := b1.cell 0
  have c1 := b1.cell 1
  simp at c0 c1
  go_wp2_with fail
  refine (HN.out _).mono ?_
  rintro e w2 ⟨rfl, rfl⟩
  go_wp2
  go_loopw [12] (fun a wr => ∃ (t : Int), a = .int .i64 t ∧ L ≤ t ∧ t ≤ 4000000 ∧ Hid (L = lwd t h.wd) ∧ Below w1.heap.size w1 wr) (fun a _ => (intOf a - L).toNat)
  case atStart => exact ⟨_, rfl, L2, by omega, HL, bl_refl _⟩
  case round =>
    obtain ⟨t, rfl, t1, t2, HT, hbr⟩ := hrel
    have c3 := (b1.below hbr b1.lt).cell 3
    simp at c3
    have hw := fun w => rweekday_any t w
    have HW := Lib.hid hw; clear hw
    by_cases ht : t % 7 = h.wd
    · have hq : (t % 7 != h.wd) = false := by simp [ht]
      have hf : L = t := HT.out.trans (lwd_stop t h.wd ht)
      have HF := Lib.hid hf
      clear ht hf
      go_wp2
      go_big_quiet ((go_at_call 36; exact Pur.quiet (HW.out _)))
      go_wp2
      go_ret2
      exact ⟨by rw [HF.out]; rfl, bl_drewN (bl_trans hb0 hbr) _⟩
    · have hq : (t % 7 != h.wd) = true := by rw [bne_iff_ne]; exact ht
      have hf : L = lwd (t - 1) h.wd := HT.out.trans (lwd_step t h.wd h0 h1 ht).symm
      obtain ⟨_, j2⟩ := lwd_bd (t - 1) h.wd
      have j3 : L ≤ t - 1 := by omega
      have HF := Lib.hid hf
      clear ht hf j2
      go_wp2
      go_big_quiet ((go_at_call 36; exact Pur.quiet (HW.out _)))
      go_wp2
      go_roundw
      case rel => exact ⟨t - 1, rfl, j3, by omega, HF, bl_drewN hbr _⟩
      case measure => simp [intOf]; omega
set_option maxHeartbeats 2000000 in
theorem rnom2 (h : Hol) (y : Int) (w : World) (hy1 : ¬ y < h.f) (hy2 : ¬ h.l < y) (hk : h.k = 2) (h0 : 0 ≤ h.wd) (h1 : h.wd ≤ 6) (h2 : 1 ≤ h.nth) (h3 : h.nth ≤ 5) : Calls Tryz.prog 69 #[aggH h, .int .i64 y] w (Ret (.tuple #[.int .i64 (nV h y), .bool (nB h y)]) w) := by
  have e1 : nV h y = fwd (dayN y h.mo 1) h.wd + 7 * (h.nth - 1) := by show nomV eaV h y = _; unfold nomV; rw [if_neg (by omega), if_pos (by omega)]
  have e2 : nB h y = decide (fwd (dayN y h.mo 1) h.wd + 7 * (h.nth - 1) ≤ dayN y h.mo 1 + len y h.mo - 1) := by
    show nomB eaE eaV h y = _; unfold nomB; rw [if_neg (by omega), if_pos (by omega), show nomV eaV h y = _ from e1]
    exact decide_eq_decide.2 (by omega)
  have k4 : (h.k == 4) = false := by rw [beq_eq_false_iff_ne]; omega
  have k1 : (h.k == 1) = false := by rw [beq_eq_false_iff_ne]; omega
  have k3 : (h.k == 3) = false := by rw [beq_eq_false_iff_ne]; omega
  rw [e1, e2]
  clear e1 e2 hk
  obtain ⟨m1, m2⟩ := dayN_bd y h.mo 1
  obtain ⟨l1, l2⟩ := len_le y h.mo
  obtain ⟨L, hL⟩ : ∃ L, L = fwd (dayN y h.mo 1) h.wd := ⟨_, rfl⟩
  obtain ⟨L1, L2⟩ := fwd_bd (dayN y h.mo 1) h.wd
  rw [← hL] at L1 L2 ⊢
  have HL := Lib.hid hL; clear hL
  have bx := Blk.new w 46 (cellsH h)
  have hd := fun w => rday_any y h.mo 1 w
  have hn := fun w => rlen_any y h.mo w
  generalize dayN y h.mo 1 = m at *
  generalize len y h.mo = n at *
  have HD := Lib.hid hd; have HN := Lib.hid hn; clear hd hn
  go_enter Tryz.func69, Tryz.ntmps69
  go_wp2_with fail
  refine (HD.out _).mono ?_
  rintro e w1 ⟨rfl, hb1⟩
  have b1 := bx.below hb1 (by simp)
  have hb0 := bl_trans (bl_alloc w (.cells (cellsH h) 46)) hb1
  have c0 := b1.cell 0
  have c1 := b1.cell 1
  simp at c0 c1
  go_wp2_with fail
  refine (HN.out _).mono ?_
  rintro e w2 ⟨rfl, rfl⟩
  go_wp2
  go_loopw [10] (fun a wr => ∃ (t : Int), a = .int .i64 t ∧ t ≤ L ∧ 0 ≤ t ∧ Hid (L = fwd t h.wd) ∧ Below w1.heap.size w1 wr) (fun a _ => (L - intOf a).toNat)
  case atStart => exact ⟨_, rfl, L1, m1, HL, bl_refl _⟩
  case round =>
    obtain ⟨t, rfl, t1, t2, HT, hbr⟩ := hrel
    have c3 := (b1.below hbr b1.lt).cell 3
    have c4 := (b1.below hbr b1.lt).cell 4
    simp at c3 c4
    have hw := fun w => rweekday_any t w
    have HW := Lib.hid hw; clear hw
    by_cases ht : t % 7 = h.wd
    · have hq : (t % 7 != h.wd) = false := by simp [ht]
      have hf : L = t := HT.out.trans (fwd_stop t h.wd ht)
      have HF := Lib.hid hf
      have c4' : ∀ q, (wr.drewN q).cell? ⟨w.heap.size, 4, none⟩ = some (.int .i64 h.nth) := fun q => c4
      clear ht hf
      go_wp2
      go_big_quiet ((go_at_call 36; exact Pur.quiet (HW.out _)))
      go_wp2
      go_ret2
      exact ⟨by rw [HF.out]; rfl, bl_drewN (bl_trans hb0 hbr) _⟩
    · have hq : (t % 7 != h.wd) = true := by rw [bne_iff_ne]; exact ht
      have hf : L = fwd (t + 1) h.wd := HT.out.trans (fwd_step t h.wd h0 h1 ht).symm
      obtain ⟨j2, _⟩ := fwd_bd (t + 1) h.wd
      have j3 : t + 1 ≤ L := by omega
      have HF := Lib.hid hf
      clear ht hf j2
      go_wp2
      go_big_quiet ((go_at_call 36; exact Pur.quiet (HW.out _)))
      go_wp2
      go_roundw
      case rel => exact ⟨t + 1, rfl, j3, by omega, HF, bl_drewN hbr _⟩
      case measure => simp [intOf]; omega
theorem rnom_any (h : Hol) (y : Int) (w : World) (hv : hvB h = true) : Calls Tryz.prog 69 #[aggH h, .int .i64 y] w (Ret (.tuple #[.int .i64 (rnV h y), .bool (rnB h y)]) w) := by
  unfold rnV rnB
  cases hy : win y h.f h.l
  · exact rnom_out h y w hy
  · have hy' := win_iff.1 hy
    have hy1 : ¬ y < h.f := by omega
    have hy2 : ¬ h.l < y := by omega
    rw [if_pos rfl, Bool.true_and]
    obtain ⟨⟨k1, k4⟩, _, _, _, _, hk⟩ := hvB_spec hv
    have hc : h.k = 1 ∨ h.k = 2 ∨ h.k = 3 ∨ h.k = 4 := by omega
    unfold vldK at hk
    rcases hc with e | e | e | e
    · exact rnom1 h y w hy1 hy2 e
    · rw [if_neg (by omega), if_pos e] at hk
      unfold vld2 at hk
      simp only [Bool.and_eq_true, win_iff] at hk
      exact rnom2 h y w hy1 hy2 e hk.2.1.1 hk.2.1.2 hk.2.2.1 hk.2.2.2
    · rw [if_neg (by omega), if_neg (by omega), if_pos e] at hk
      unfold vld3 at hk
      simp only [Bool.and_eq_true, win_iff] at hk
      exact rnom3 h y w hy1 hy2 e hk.2.1 hk.2.2
    · rw [if_neg (by omega), if_neg (by omega), if_neg (by omega)] at hk
      unfold vld4 at hk
      simp only [win_iff] at hk
      exact rnom4 h y w hy1 hy2 e (by omega) (by omega)
def rkV (h : Hol) (y : Int) : Int := if rnB h y then kV h y else 0
set_option maxHeartbeats 2000000 in
theorem rkept_any (h : Hol) (y : Int) (w : World) (hv : hvB h = true) : Calls Tryz.prog 55 #[aggH h, .int .i64 y] w (Ret (.tuple #[.int .i64 (rkV h y), .bool (kB h y)]) w) := by
  have hn := fun w => rnom_any h y w hv
  have hkB : kB h y = (rnB h y && win (kV h y) 0 3652058) := rfl
  cases eB : rnB h y
  · rw [show rkV h y = 0 by unfold rkV; rw [eB]; rfl, hkB, eB, Bool.false_and]
    rw [eB] at hn
    have HN := Lib.hid hn; clear hn hkB eB hv
    go_enter Tryz.func55, Tryz.ntmps55
    go_wp2_with fail
    refine (HN.out _).mono ?_
    rintro e w1 ⟨rfl, hb1⟩
    go_wp2
    go_ret2
    exact ⟨rfl, bl_trans (bl_alloc _ _) hb1⟩
  · have hrv : rnV h y = nV h y := by
      unfold rnV
      have : win y h.f h.l = true := by
        cases hw : win y h.f h.l
        · unfold rnB at eB; rw [hw] at eB; cases eB
        · rfl
      rw [if_pos this]
    obtain ⟨n1, n2⟩ := nV_bd y hv
    obtain ⟨_, ⟨v1, v2⟩, _, _, _, _⟩ := hvB_spec hv
    have hkV : kV h y = nV h y + movV h.mv (nV h y % 7) := rfl
    rw [show rkV h y = kV h y by unfold rkV; rw [eB]; rfl, hkB, eB, Bool.true_and]
    rw [eB, hrv] at hn
    have HN := Lib.hid hn; clear hn hkB eB hv hrv
    have hw := fun w => rweekday_any (nV h y) w
    have q1 : 0 ≤ nV h y % 7 := by omega
    have q2 : nV h y % 7 ≤ 6 := by omega
    have bx := Blk.new w 46 (cellsH h)
    have hcase : ((h.mv == 1) = true ∧ (nV h y % 7 == 5) = true ∧ kV h y = nV h y + 2) ∨ ((h.mv == 1) = true ∧ (nV h y % 7 == 5) = false ∧ (nV h y % 7 == 6) = true ∧ (h.mv == 2) = false ∧ (h.mv != 0) = true ∧ kV h y = nV h y + 1) ∨ ((h.mv == 1) = true ∧ (nV h y % 7 == 5) = false ∧ (nV h y % 7 == 6) = false ∧ (h.mv == 2) = false ∧ (h.mv != 0) = true ∧ kV h y = nV h y) ∨
        ((h.mv == 1) = false ∧ (h.mv == 2) = true ∧ (nV h y % 7 == 5) = true ∧ kV h y = nV h y - 1) ∨ ((h.mv == 1) = false ∧ (h.mv == 2) = true ∧ (nV h y % 7 == 5) = false ∧ (h.mv != 0) = true ∧ (nV h y % 7 == 6) = true ∧ kV h y = nV h y + 1) ∨ ((h.mv == 1) = false ∧ (h.mv == 2) = true ∧ (nV h y % 7 == 5) = false ∧ (h.mv != 0) = true ∧ (nV h y % 7 == 6) = false ∧ kV h y = nV h y) ∨
        ((h.mv == 1) = false ∧ (h.mv == 2) = false ∧ (h.mv != 0) = false ∧ kV h y = nV h y) := by
      rw [hkV]
      unfold movV
      simp only [beq_iff_eq, beq_eq_false_iff_ne, bne_iff_ne, bne_eq_false_iff_eq]
      have hm : h.mv = 0 ∨ h.mv = 1 ∨ h.mv = 2 := by omega
      rcases hm with m | m | m
      · simp [m]
      · by_cases a : nV h y % 7 = 5
        · simp [m, a]
        · by_cases b : nV h y % 7 = 6
          · simp [m, b]
          · simp [m, a, b]
      · by_cases a : nV h y % 7 = 5
        · simp [m, a]; omega
        · by_cases b : nV h y % 7 = 6
          · simp [m, b]
          · simp [m, a, b]
    generalize kV h y = K at *
    generalize nV h y = n at *
    generalize n % 7 = q at *
    have HW := Lib.hid hw
    have hwi := fun w => rwithin_any K 0 3652058 w
    generalize win K 0 3652058 = bw at *
    have HWI := Lib.hid hwi
    clear hw hkV hwi
    rcases hcase with ⟨a1, a2, rfl⟩ | ⟨a1, a2, a3, a4, a5, rfl⟩ | ⟨a1, a2, a3, a4, a5, rfl⟩ | ⟨a1, a2, a3, rfl⟩ | ⟨a1, a2, a3, a4, a5, rfl⟩ | ⟨a1, a2, a3, a4, a5, rfl⟩ | ⟨a1, a2, a3, rfl⟩
    all_goals
      go_enter Tryz.func55, Tryz.ntmps55
      go_wp2_with fail
      refine (HN.out _).mono ?_
      rintro e w1 ⟨rfl, hb1⟩
      have b1 := bx.below hb1 (by simp)
      have c6 := b1.cell 6
      simp at c6
      clear b1
      go_wp2_with fail
      refine (HW.out _).mono ?_
      rintro e w2 ⟨rfl, rfl⟩
      go_wp2_with fail
      refine (HWI.out _).mono ?_
      rintro e w2 ⟨rfl, rfl⟩
      go_wp2
      go_ret2
      exact ⟨rfl, bl_trans (bl_alloc _ _) hb1⟩
end Go.Proofs.YtiilljcnikgeaaaGreatDoor
