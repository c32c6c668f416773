/- The walk of the law DateRound: it returns true at every number and date. -/
import Derived.Test.YtefapmdgodfpeaaDoorDRoPlain
import Derived.Test.YtefapmdgodfpeaaDoorDLives
import Derived.Test.YtefapmdgodfpeaaDoorDRef4
import Derived.Test.YtefapmdgodfpeaaDoorDCy
namespace Go.Proofs.YtefapmdgodfpeaaDoor
open Go.RowKit

theorem keep3s {w : World} {o : Obj} {b : Nat} {x y z : Value} (h : w.cell? ⟨b, 0, none⟩ = some x ∧ w.cell? ⟨b, 1, none⟩ = some y ∧ w.cell? ⟨b, 2, none⟩ = some z) (hb : b < w.heap.size) :
    (w.alloc o).cell? ⟨b, 0, none⟩ = some x ∧ (w.alloc o).cell? ⟨b, 1, none⟩ = some y ∧ (w.alloc o).cell? ⟨b, 2, none⟩ = some z := by
  rw [World.cell?_alloc_lt _ _ _ hb, World.cell?_alloc_lt _ _ _ hb, World.cell?_alloc_lt _ _ _ hb]; exact h
set_option maxHeartbeats 8000000 in
theorem law_round (n a b c : Int) (w : World) (hG : Good w) (n1 : -9223372036854775808 ≤ n) (n2 : n ≤ 9223372036854775807) (a1 : -9223372036854775808 ≤ a) (a2 : a ≤ 9223372036854775807) (b1 : -9223372036854775808 ≤ b) (b2 : b ≤ 9223372036854775807) (c1 : -9223372036854775808 ≤ c) (c2 : c ≤ 9223372036854775807) :
    Calls Tryd.prog 9 #[.int .i64 n, .agg #[.int .i64 a, .int .i64 b, .int .i64 c]] w (Ret (.bool true) w) := by
  obtain ⟨z1, z2⟩ := around_bd n (m := 3652059) (by omega)
  have pp := parse_print (n := around n 3652059) z1 (by omega)
  have vv := valid_of (n := around n 3652059) z1 (by omega)
  have nn := num_of (n := around n 3652059) z1 (by omega)
  have hdy := cyc_num (valid_iff.2 vv)
  rw [nn] at hdy
  generalize hs : around n 3652059 = d at *
  have HD := Lib.hid hs; clear hs
  have HPP := Lib.hid pp; have HDY := Lib.hid hdy; clear pp hdy nn vv
  have hd2 : d ≤ 3652058 := by omega
  obtain ⟨x1, x2⟩ := around_bd a (m := 9999) (by omega)
  obtain ⟨x3, x4⟩ := around_bd b (m := 12) (by omega)
  have hA := fun w => (around_any a 9999 w a1 a2 (by omega) (by omega)).mono (fun e w' (h : Pur _ w e w') => (⟨h.1, h.2.symm⟩ : e = _ ∧ w' = w))
  have hB := fun w => (around_any b 12 w b1 b2 (by omega) (by omega)).mono (fun e w' (h : Pur _ w e w') => (⟨h.1, h.2.symm⟩ : e = _ ∧ w' = w))
  have HA := Lib.hid hA; have HB := Lib.hid hB
  clear hA hB
  generalize around a 9999 = p at *
  generalize around b 12 = q at *
  have hl := len_in (y := 1 + p) (m := 1 + q) (by omega) (by omega)
  obtain ⟨x5, x6⟩ := around_bd c (m := len (1 + p) (1 + q)) (by omega)
  have hC := fun w => (around_any c (len (1 + p) (1 + q)) w c1 c2 (by omega) (by omega)).mono (fun e w' (h : Pur _ w e w') => (⟨h.1, h.2.symm⟩ : e = _ ∧ w' = w))
  have HC := Lib.hid hC; clear hC
  generalize around c (len (1 + p) (1 + q)) = r at *
  obtain ⟨l1, l2⟩ := hl
  go_enter Tryd.func9, Tryd.ntmps9
  go_wp2_with fail
  refine (dayOf_any _ _ n1 n2).mono ?_
  rintro e w' ⟨rfl, rfl⟩
  rw [HD.out]
  go_wp2_with fail
  refine (of_yes _ _ z1 hd2).mono ?_
  rintro e w1 ⟨rfl, hb1⟩
  have hg1 : Good w1 := (hG.alloc _).below hb1
  have r0 : w1.cell? ⟨w.heap.size, 0, none⟩ = some (.int .i64 a) := (hb1.cell (p := ⟨w.heap.size, 0, none⟩) (by simp)).trans (by simp)
  have r1 : w1.cell? ⟨w.heap.size, 1, none⟩ = some (.int .i64 b) := (hb1.cell (p := ⟨w.heap.size, 1, none⟩) (by simp)).trans (by simp)
  have r2 : w1.cell? ⟨w.heap.size, 2, none⟩ = some (.int .i64 c) := (hb1.cell (p := ⟨w.heap.size, 2, none⟩) (by simp)).trans (by simp)
  have hz1 : w.heap.size < w1.heap.size := by have := hb1.size; simp at this; omega
  have hB1 : Below w.heap.size w w1 := bl_trans (bl_alloc _ _) hb1
  clear hb1
  go_wp2_with fail
  refine (day_any _ _ _ _ ?ga).mono ?_
  case ga => exact hg1.alloc _
  rintro e w2 ⟨rfl, hb2⟩
  rw [HDY.out.1, HDY.out.2]
  have hb12 := bl_trans (bl_alloc _ _) hb2
  have hg2 := hg1.below hb12
  go_wp2_with fail
  refine (print_any _ _ hg2).mono ?_
  rintro e w3 ⟨rfl, hb3⟩
  have hg3 := hg2.below hb3
  go_wp2_with fail
  refine (parse_any _ _ hg3).mono ?_
  rintro e w4 ⟨rfl, hb4⟩
  rw [HPP.out.1, HPP.out.2]
  have hb14 := bl_trans (bl_trans hb12 hb3) hb4
  have hg4 := hg1.below hb14
  have s0 := (hb14.cell (p := ⟨w.heap.size, 0, none⟩) hz1).trans r0
  have s1 := (hb14.cell (p := ⟨w.heap.size, 1, none⟩) hz1).trans r1
  have s2 := (hb14.cell (p := ⟨w.heap.size, 2, none⟩) hz1).trans r2
  have hz4 : w.heap.size < w4.heap.size := by have := hb14.size; omega
  have hB4 : Below w.heap.size w w4 := bl_trans hB1 hb14
  clear r0 r1 r2 hb2 hb3 hb4 hb12 hb14 hg2 hg3 hB1
  go_wp2_with fail
  have hw0 : w4.heap.size ≠ w.heap.size := by omega
  go_region_held3 (fun w' => w'.cell? ⟨w.heap.size, 0, none⟩ = some (.int .i64 a) ∧ w'.cell? ⟨w.heap.size, 1, none⟩ = some (.int .i64 b) ∧ w'.cell? ⟨w.heap.size, 2, none⟩ = some (.int .i64 c)) (first | go_keep | (refine keep3s ?_ hz4; assumption)) (first | ((with_reducible refine (HA.out _).mono ?_); rintro e w' ⟨rfl, rfl⟩) | ((with_reducible refine (HB.out _).mono ?_); rintro e w' ⟨rfl, rfl⟩))
  all_goals
    have s1' : IntKind.i64.wrap (1 + p) = 1 + p := IntWalk.i64_in _ (by omega)
    have s2' : IntKind.i64.wrap (1 + q) = 1 + q := IntWalk.i64_in _ (by omega)
    rw [s1', s2']
    clear s1' s2'
    go_wp2_with fail
    have hGa : ∀ o1 : Obj, Good ((w4.alloc o1).drew.drew) := fun o1 => ((hg4.alloc o1).drew).drew
    refine wp_region_still_tail 11 (by kernel_rfl) (by kernel_rfl) ?_
    simp only [List.take_succ_cons, List.take_zero, List.drop_succ_cons, List.drop_zero]
    change wpStill _ _ ((w4.alloc _).drew.drew) (fun a' => wpList _ _ _ _ a' ((w4.alloc _).drew.drew)) _ _
    iterate 6 still_step
    still_call ((len_any _ _ _ (hGa _)).mono (fun e w' ⟨he, hw⟩ => ⟨he, hw.symm⟩))
    iterate 1 still_step
    rw [show max 1 (len (1 + p) (1 + q)) = len (1 + p) (1 + q) from by omega]
    still_call (HC.out _)
    iterate 2 still_step
    refine wpStill_nil ?_
    have s3 : IntKind.i64.wrap (1 + r) = 1 + r := IntWalk.i64_in _ (by omega)
    have v1 : validB (1 + p) (1 + q) (1 + r) = true := valid_iff.2 ⟨by omega, by omega, by omega, by omega, by omega, by omega⟩
    have m1 := cyc_num v1
    have r1' := num_range (y := 1 + p) (m := 1 + q) (d := 1 + r) (by omega) (by omega) (by omega) (by omega) (by omega) (by omega)
    have u := of_unique (n := num (1 + p) (1 + q) (1 + r)) (y := 1 + p) (m := 1 + q) (d := 1 + r) r1'.1 r1'.2 (by omega) (by omega) (by omega) (by omega) rfl
    obtain ⟨k1, k2⟩ := r1'
    generalize num (1 + p) (1 + q) (1 + r) = A at *
    have M1 := Lib.hid m1; have U := Lib.hid u
    clear m1 u v1
    go_wp2_with fail
    obtain ⟨X, hX⟩ : ∃ X, X = ((w4.alloc (.cells #[.int .i64 (1 + p), .int .i64 (1 + q), .int .i64 (1 + r)] 23)).drew.drew) := ⟨_, rfl⟩
    have hsX : X.heap.size = w4.heap.size + 1 := by rw [hX]; simp
    have hbX : Below w4.heap.size w4 X := by rw [hX]; exact ((bl_alloc _ _).drew).drew
    have hGX := hg4.below hbX
    have d0 : X.cell? ⟨w4.heap.size, 0, none⟩ = some (.int .i64 (1 + p)) := by rw [hX]; simp
    have d1 : X.cell? ⟨w4.heap.size, 1, none⟩ = some (.int .i64 (1 + q)) := by rw [hX]; simp
    have d2 : X.cell? ⟨w4.heap.size, 2, none⟩ = some (.int .i64 (1 + r)) := by rw [hX]; simp
    rw [← hX]
    clear hX
    refine (day_any _ _ _ _ hGX).mono ?_
    rintro e w5 ⟨rfl, hb5⟩
    rw [M1.out.1, M1.out.2]
    go_wp2_with fail
    refine (of_yes _ _ k1 k2).mono ?_
    rintro e w6 ⟨rfl, hb6⟩
    rw [← U.out.1, ← U.out.2.1, ← U.out.2.2]
    have hb56 := bl_trans hb5 hb6
    have hG6 := hGX.below hb56
    have e0 := (hb56.cell (p := ⟨w4.heap.size, 0, none⟩) (by show w4.heap.size < _; omega)).trans d0
    have e1 := (hb56.cell (p := ⟨w4.heap.size, 1, none⟩) (by show w4.heap.size < _; omega)).trans d1
    have e2 := (hb56.cell (p := ⟨w4.heap.size, 2, none⟩) (by show w4.heap.size < _; omega)).trans d2
    have hz6 : w4.heap.size < w6.heap.size := by have := hb56.size; omega
    clear d0 d1 d2 hb5 hb6 s0 s1 s2
    go_wp2_with fail
    refine (lives_any _ (hG6.alloc _)).mono ?_
    rintro e w7 ⟨rfl, hb7⟩
    go_wp2
    go_ret
    exact ⟨rfl, bl_trans (bl_trans (bl_trans (bl_trans hB4 hbX) hb56) (bl_alloc _ _)) hb7⟩
end Go.Proofs.YtefapmdgodfpeaaDoor
