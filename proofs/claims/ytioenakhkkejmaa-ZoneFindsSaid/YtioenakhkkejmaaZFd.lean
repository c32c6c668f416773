/- The walk of the law ZoneFinds: it returns true at every slice of ints and two numbers. Conditions: the slice lies in memory. -/
import Derived.Test.YtioenakhkkejmaaZRr
namespace Go.Proofs.Ytioenakhkkejmaa
open Go.RowKit

theorem same_true (v u : Value) (L : List Int) (w : World) (hv : IsInts w v L) (hu : IsInts w u L) : Calls Try.prog 21 #[v, u] w (Ret (.bool true) w) := by
  have := same03 v u L L w hv hu
  rwa [decide_eq_true rfl] at this

set_option maxHeartbeats 16000000 in
theorem law_zfinds (v : Value) (zs : List Int) (n mi : Int) (w : World) (hI : IsInts w v zs) (hz : InR zs) (h1 : -9223372036854775808 ≤ n) (h2 : n ≤ 9223372036854775807) (_h3 : -9223372036854775808 ≤ mi) (_h4 : mi ≤ 9223372036854775807) :
    Calls Try.prog 5 #[v, .int .i64 n, .int .i64 mi] w (Ret (.bool true) w) := by
  have hok := zone_ok zs
  have hzl := zone_len zs
  have hzn := fun w h => zone_any v zs w h hz
  have hl := fun w => zloc_any n w h1 h2
  obtain ⟨l1, l2⟩ := locK_bd n
  generalize zoneO zs = o at *
  generalize zoneSh zs = sh at *
  generalize locK n = K at *
  obtain ⟨D, hD⟩ : ∃ D, D = K / 1440 := ⟨_, rfl⟩
  obtain ⟨M, hM⟩ : ∃ M, M = K % 1440 := ⟨_, rfl⟩
  rw [← hD, ← hM] at hl
  have d2 : 0 ≤ M := by omega
  have d3 : M < 1440 := by omega
  have d4 : -1000000 ≤ D := by omega
  have d5 : D ≤ 1000000 := by omega
  clear hD hM
  have hmx : maxLen = 9223372036854775807 := rfl
  have i1 : ∃ L : List Int, L.length ≤ maxLen ∧ (∀ sv w, IsSh w sv sh → Calls Try.prog 22 #[.agg #[.int .i64 o, sv], .int .i64 D, .int .i64 M] w (InsPost L w)) ∧ (∀ sv w, IsSh w sv sh → Calls Try.prog 23 #[.agg #[.int .i64 o, sv], .int .i64 D, .int .i64 M] w (InsPost L w)) := by
    refine ⟨ins o sh (D * 1440 + M), ?_, fun sv w h => zinst_in o D M sv sh w h hok (by omega) (by omega) d2 d3 (by omega), fun sv w h => ?_⟩
    · have : (ins o sh (D * 1440 + M)).length ≤ 2 := ins_len hok.ch ⟨hok.1, hok.2.1⟩
      omega
    · rw [show D * 1440 + M = 1440 * D + M from by omega]
      exact zri_any o D M sv sh w h hok (by omega) (by omega) d2 (by omega) (by omega)
  have i2 : ∃ L : List Int, L.length ≤ maxLen ∧ (∀ sv w, IsSh w sv sh → Calls Try.prog 22 #[.agg #[.int .i64 o, sv], .int .i64 D, .int .i64 mi] w (InsPost L w)) ∧ (∀ sv w, IsSh w sv sh → Calls Try.prog 23 #[.agg #[.int .i64 o, sv], .int .i64 D, .int .i64 mi] w (InsPost L w)) := by
    by_cases hm : 0 ≤ mi ∧ mi ≤ 1439
    · refine ⟨ins o sh (D * 1440 + mi), ?_, fun sv w h => zinst_in o D mi sv sh w h hok (by omega) (by omega) hm.1 (by omega) (by omega), fun sv w h => ?_⟩
      · have : (ins o sh (D * 1440 + mi)).length ≤ 2 := ins_len hok.ch ⟨hok.1, hok.2.1⟩
        omega
      · rw [show D * 1440 + mi = 1440 * D + mi from by omega]
        exact zri_any o D mi sv sh w h hok (by omega) (by omega) hm.1 hm.2 (by omega)
    · exact ⟨[], Nat.zero_le _, fun sv w _ => zinst_out o D mi sv w (by omega), fun sv w _ => zri_out o D mi sv w (by omega)⟩
  obtain ⟨L1, m1, ci1, cr1⟩ := i1
  obtain ⟨L2, m2, ci2, cr2⟩ := i2
  have ra := fun late sv w h => zres_any o D M late sv sh w h hok (by omega) (by omega) d2 d3 (by omega)
  have rb := fun late sv w h => zrr_any o D M late sv sh w h hok (by omega) (by omega) d2 (by omega) (by omega)
  rw [show D * 1440 + M = 1440 * D + M from by omega] at ra
  have r1 := ra true
  have r2 := ra false
  have r3 := rb true
  have r4 := rb false
  generalize res true o sh (1440 * D + M) = R1 at *
  generalize res false o sh (1440 * D + M) = R2 at *
  have g1 : (R1 == R1) = true := beq_self_eq_true R1
  have g2 : (R2 == R2) = true := beq_self_eq_true R2
  have CI1 := Lib.hid ci1; have CR1 := Lib.hid cr1; have CI2 := Lib.hid ci2; have CR2 := Lib.hid cr2
  have A1 := Lib.hid r1; have A2 := Lib.hid r2; have A3 := Lib.hid r3; have A4 := Lib.hid r4
  have M1 := Lib.hid m1; have M2 := Lib.hid m2; have HZ := Lib.hid hzn; have HL := Lib.hid hl; have HI := Lib.hid hI
  clear ci1 cr1 ci2 cr2 r1 r2 r3 r4 m1 m2 hzn hl hI ra rb hok hz hmx
  go_enter Try.func5, Try.ntmps5
  go_wp2_with fail
  refine (HZ.out _ HI.out).mono ?_
  rintro e w1 ⟨sv, rfl, hs, hb1⟩
  obtain ⟨sa, sc, rfl, _⟩ := hs.slice
  have hzb := ZBox.new (o := o) hs
  have hB := bl_trans hb1 (bl_alloc w1 (.cells #[.int .i64 o, .slice sa sh.length sc] 24))
  go_wp2_with fail
  refine (HL.out _).mono ?_
  rintro e w' ⟨rfl, rfl⟩
  obtain ⟨W, hW⟩ : ∃ W, W = w1.alloc (.cells #[.int .i64 o, .slice sa sh.length sc] 24) := ⟨_, rfl⟩
  rw [← hW] at hzb hB ⊢
  clear hW
  obtain ⟨B, hBB⟩ : ∃ B, B = w1.heap.size := ⟨_, rfl⟩
  rw [← hBB] at hzb ⊢
  clear hBB hs hb1
  obtain ⟨⟨c0, c1⟩, hlt, hIs⟩ := hzb
  have HIS := Lib.hid hIs; clear hIs
  have hbd := bl_drew W
  have HIS2 := Lib.hid (HIS.out.below hbd)
  go_wp2_with fail
  go_region_held3 (fun w' => w'.cell? ⟨B, 0, none⟩ = some (.int .i64 o) ∧ w'.cell? ⟨B, 1, none⟩ = some (.slice sa sh.length sc)) (first | go_keep | (go_split_ands; exact ⟨(hb5.cell (p := ⟨B, 0, none⟩) hlt).trans (by go_simp), (hb5.cell (p := ⟨B, 1, none⟩) hlt).trans (by go_simp)⟩) | (go_split_ands; exact ⟨(hb6.cell (p := ⟨B, 0, none⟩) hz5).trans (by assumption), (hb6.cell (p := ⟨B, 1, none⟩) hz5).trans (by assumption)⟩) | (go_split_ands; exact ⟨(hb7.cell (p := ⟨B, 0, none⟩) hz6).trans (by assumption), (hb7.cell (p := ⟨B, 1, none⟩) hz6).trans (by assumption)⟩) | (go_split_ands; exact ⟨(hb8.cell (p := ⟨B, 0, none⟩) hz7).trans (by assumption), (hb8.cell (p := ⟨B, 1, none⟩) hz7).trans (by assumption)⟩) | (go_split_ands; exact ⟨(hb9.cell (p := ⟨B, 0, none⟩) hz8).trans (by assumption), (hb9.cell (p := ⟨B, 1, none⟩) hz8).trans (by assumption)⟩) | (go_split_ands; exact ⟨(hb10.cell (p := ⟨B, 0, none⟩) hz9).trans (by assumption), (hb10.cell (p := ⟨B, 1, none⟩) hz9).trans (by assumption)⟩)) (first | ((with_reducible refine (CI1.out _ _ HIS2.out).mono ?_); rintro e w5 hp5; obtain ⟨la, lc, rfl, hl5, hb5⟩ := hp5.slice M1.out; clear hp5; have hz5 : B < w5.heap.size := Nat.lt_of_lt_of_le hlt hb5.size) | ((with_reducible refine (CR1.out _ _ (HIS2.out.below hb5)).mono ?_); rintro e w6 hp6; obtain ⟨lb, ld, rfl, hl6, hb6⟩ := hp6.slice M1.out; clear hp6; have hz6 : B < w6.heap.size := Nat.lt_of_lt_of_le hz5 hb6.size) | ((with_reducible refine (same_true _ _ L1 _ (hl5.below hb6) hl6).mono ?_); rintro e w7 ⟨rfl, hb7⟩; have hz7 : B < w7.heap.size := Nat.lt_of_lt_of_le hz6 hb7.size) | ((with_reducible refine (CI2.out _ _ (((HIS2.out.below hb5).below hb6).below hb7)).mono ?_); rintro e w8 hp8; obtain ⟨lf, lg, rfl, hl8, hb8⟩ := hp8.slice M2.out; clear hp8; have hz8 : B < w8.heap.size := Nat.lt_of_lt_of_le hz7 hb8.size) | ((with_reducible refine (CR2.out _ _ ((((HIS2.out.below hb5).below hb6).below hb7).below hb8)).mono ?_); rintro e w9 hp9; obtain ⟨lh, li, rfl, hl9, hb9⟩ := hp9.slice M2.out; clear hp9; have hz9 : B < w9.heap.size := Nat.lt_of_lt_of_le hz8 hb9.size) | ((with_reducible refine (same_true _ _ L2 _ (hl8.below hb9) hl9).mono ?_); rintro e w10 ⟨rfl, hb10⟩))
  all_goals
    have hbx : Below W.heap.size W w10 := bl_trans (bl_trans (bl_trans (bl_trans (bl_trans (bl_trans (bl_drew W) hb5) hb6) hb7) hb8) hb9) hb10
    have hzb : ZBox w10 B o (.slice sa sh.length sc) sh := ZBox.below ⟨⟨c0, c1⟩, hlt, HIS.out⟩ hbx
    have hB2 := bl_trans hB hbx
    obtain ⟨u0, u1, u2⟩ := hzb.up
    have U2 := Lib.hid u2
    clear u2 hbx hzb hb5 hb6 hb7 hb8 hb9 hb10 hl5 hl6 hl8 hl9 c0 c1
    go_wp2_with fail
    refine wp_region_up (by kernel_rfl) (by kernel_rfl) ?_
    repeat (go_big_quiet_step (fail))
    go_big_quiet_step (exact Ret.up (A1.out _ _ (U2.out _)))
    repeat (go_big_quiet_step (fail))
    go_big_quiet_step (exact Ret.up (A3.out _ _ (U2.out _)))
    repeat (go_big_quiet_step (fail))
    go_big_quiet_step (exact Ret.up (A2.out _ _ (U2.out _)))
    repeat (go_big_quiet_step (fail))
    go_big_quiet_step (exact Ret.up (A4.out _ _ (U2.out _)))
    repeat (go_big_quiet_step (fail))
    go_big_quiet_step (exact Ret.up (zlives_any _))
    repeat (go_big_quiet_step (fail))
    refine wpQuiet_nil ?_
    rintro w11 ⟨u11, hu11⟩
    have hb11 := u11.h
    rw [← hu11] at hb11
    clear u0 u1 hu11
    go_wp2_with fail
    go_ret
    exact ⟨rfl, bl_trans hB2 hb11⟩
end Go.Proofs.Ytioenakhkkejmaa
