/- The walk of the law DateCycles: it returns true at every date. -/
import Derived.Test.YtefapmdgodfpeaaDoorDLives
import Derived.Test.YtefapmdgodfpeaaDoorDRef1
import Derived.Deep.RegionHeld3
namespace Go.Proofs.YtefapmdgodfpeaaDoor
open Go.RowKit

theorem leap_400 (y : Int) : leapB (y + 400) = leapB y := by
  rw [Bool.eq_iff_iff, leap_iff, leap_iff]; omega
theorem len_400 (y m : Int) : len (y + 400) m = len y m := by unfold len; rw [leap_400]
theorem num_400 (y m d : Int) : num (y + 400) m d = num y m d + 146097 := by
  unfold num; split <;> omega
theorem num_next_year (y : Int) : num (y + 1) 1 1 - num y 1 1 = if leapB y = true then 366 else 365 := by
  rw [num_jan, num_jan]
  have h := leap_iff y
  split
  · rename_i e; rw [h] at e; omega
  · rename_i e; rw [h] at e; omega

theorem cell_new0 (w : World) (cs : Array Value) (t : TypeId) (i : Nat) (b : Nat) (h : b = w.heap.size) : (w.alloc (.cells cs t)).cell? ⟨b, i, none⟩ = cs[i]? := by subst h; simp
theorem cyc_num {y m d : Int} (h : validB y m d = true) : dayN y m d = num y m d ∧ chk y m d = 0 := by
  unfold dayN chk; rw [h]; exact ⟨rfl, rfl⟩
set_option maxHeartbeats 8000000 in
theorem law_cycles (a b c : Int) (w : World) (hG : Good w) (a1 : -9223372036854775808 ≤ a) (a2 : a ≤ 9223372036854775807) (b1 : -9223372036854775808 ≤ b) (b2 : b ≤ 9223372036854775807) (c1 : -9223372036854775808 ≤ c) (c2 : c ≤ 9223372036854775807) :
    Calls Tryd.prog 11 #[.agg #[.int .i64 a, .int .i64 b, .int .i64 c]] w (Ret (.bool true) w) := by
  obtain ⟨x1, x2⟩ := around_bd a (m := 9599) (by omega)
  obtain ⟨x3, x4⟩ := around_bd b (m := 12) (by omega)
  have hA := fun w => (around_any a 9599 w a1 a2 (by omega) (by omega)).mono (fun e w' (h : Pur _ w e w') => (⟨h.1, h.2.symm⟩ : e = _ ∧ w' = w))
  have hB := fun w => (around_any b 12 w b1 b2 (by omega) (by omega)).mono (fun e w' (h : Pur _ w e w') => (⟨h.1, h.2.symm⟩ : e = _ ∧ w' = w))
  have HA := Lib.hid hA; have HB := Lib.hid hB
  clear hA hB
  generalize around a 9599 = p at *
  generalize around b 12 = q at *
  have hl := len_in (y := 1 + p) (m := 1 + q) (by omega) (by omega)
  obtain ⟨x5, x6⟩ := around_bd c (m := len (1 + p) (1 + q)) (by omega)
  have hC := fun w => (around_any c (len (1 + p) (1 + q)) w c1 c2 (by omega) (by omega)).mono (fun e w' (h : Pur _ w e w') => (⟨h.1, h.2.symm⟩ : e = _ ∧ w' = w))
  have HC := Lib.hid hC; clear hC
  generalize around c (len (1 + p) (1 + q)) = r at *
  obtain ⟨l1, l2⟩ := hl
  go_enter Tryd.func11, Tryd.ntmps11
  go_wp2_with fail
  go_region_held3 (fun w' => w'.cell? ⟨w.heap.size, 0, none⟩ = some (.int .i64 a) ∧ w'.cell? ⟨w.heap.size, 1, none⟩ = some (.int .i64 b) ∧ w'.cell? ⟨w.heap.size, 2, none⟩ = some (.int .i64 c)) (go_keep) (first | ((with_reducible refine (HA.out _).mono ?_); rintro e w' ⟨rfl, rfl⟩) | ((with_reducible refine (HB.out _).mono ?_); rintro e w' ⟨rfl, rfl⟩))
  all_goals
    have s1 : IntKind.i64.wrap (1 + p) = 1 + p := IntWalk.i64_in _ (by omega)
    have s2 : IntKind.i64.wrap (1 + q) = 1 + q := IntWalk.i64_in _ (by omega)
    rw [s1, s2]
    clear s1 s2
    go_wp2_with fail
    have hGa : ∀ o1 o2 : Obj, Good (((w.alloc o1).alloc o2).drew.drew) := fun o1 o2 => (((hG.alloc o1).alloc o2).drew).drew
    refine wp_region_still_tail 11 (by kernel_rfl) (by kernel_rfl) ?_
    simp only [List.take_succ_cons, List.take_zero, List.drop_succ_cons, List.drop_zero]
    change wpStill _ _ (((w.alloc _).alloc _).drew.drew) (fun a' => wpList _ _ _ _ a' (((w.alloc _).alloc _).drew.drew)) _ _
    iterate 6 still_step
    still_call ((len_any _ _ _ (hGa _ _)).mono (fun e w' ⟨he, hw⟩ => ⟨he, hw.symm⟩))
    iterate 1 still_step
    rw [show max 1 (len (1 + p) (1 + q)) = len (1 + p) (1 + q) from by omega]
    still_call (HC.out _)
    iterate 2 still_step
    refine wpStill_nil ?_
    have s3 : IntKind.i64.wrap (1 + r) = 1 + r := IntWalk.i64_in _ (by omega)
    have v1 : validB (1 + p) (1 + q) (1 + r) = true := valid_iff.2 ⟨by omega, by omega, by omega, by omega, by omega, by omega⟩
    have v2 : validB (1 + p + 400) (1 + q) (1 + r) = true := valid_iff.2 ⟨by omega, by omega, by omega, by omega, by omega, by rw [len_400]; omega⟩
    have v3 : validB (1 + p) 1 1 = true := valid_iff.2 ⟨by omega, by omega, by omega, by omega, by omega, by rw [len1]; omega⟩
    have v4 : validB (1 + p + 1) 1 1 = true := valid_iff.2 ⟨by omega, by omega, by omega, by omega, by omega, by rw [len1]; omega⟩
    have n1 := cyc_num v1
    have n2 := cyc_num v2
    have n3 := cyc_num v3
    have n4 := cyc_num v4
    rw [num_400] at n2
    have ny := num_next_year (1 + p)
    have r1 := num_range (y := 1 + p) (m := 1 + q) (d := 1 + r) (by omega) (by omega) (by omega) (by omega) (by omega) (by omega)
    have r3 := num_range (y := 1 + p) (m := 1) (d := 1) (by omega) (by omega) (by omega) (by omega) (by omega) (by rw [len1]; omega)
    have r4 := num_range (y := 1 + p + 1) (m := 1) (d := 1) (by omega) (by omega) (by omega) (by omega) (by omega) (by rw [len1]; omega)
    generalize num (1 + p) (1 + q) (1 + r) = A at *
    generalize num (1 + p) 1 1 = B at *
    generalize num (1 + p + 1) 1 1 = C at *
    have N1 := Lib.hid n1; have N2 := Lib.hid n2; have N3 := Lib.hid n3; have N4 := Lib.hid n4; have NY := Lib.hid ny
    clear n1 n2 n3 n4 ny v1 v2 v3 v4
    have hw7 : (A % 7 == (A + 146097) % 7) = true := by rw [beq_iff_eq]; omega
    have hcb : (leapB (1 + p) = true ∧ C - B = 366) ∨ (leapB (1 + p) = false ∧ C - B = 365) := by
      cases hL : leapB (1 + p)
      · right; refine ⟨rfl, ?_⟩; rw [NY.out, hL]; rfl
      · left; refine ⟨rfl, ?_⟩; rw [NY.out, hL]; rfl
    have HCB := Lib.hid hcb; clear hcb
    go_wp2_with fail
    obtain ⟨X, hX⟩ : ∃ X, X = ((((w.alloc (.cells #[.int .i64 a, .int .i64 b, .int .i64 c] 23)).alloc (.cells #[.int .i64 (1 + p), .int .i64 (1 + q), .int .i64 (1 + r)] 23)).alloc (.cells #[.int .i64 (1 + p + 400), .int .i64 (1 + q), .int .i64 (1 + r)] 23)).drew.drew) := ⟨_, rfl⟩
    have hsX : X.heap.size = w.heap.size + 3 := by rw [hX]; simp
    have hbX : Below w.heap.size w X := by rw [hX]; exact ((bl_trans (bl_trans (bl_alloc _ _) (bl_alloc _ _)) (bl_alloc _ _)).drew).drew
    have hGX := hG.below hbX
    have d0 : X.cell? ⟨w.heap.size + 1, 0, none⟩ = some (.int .i64 (1 + p)) := by rw [hX]; simp only [World.cell?_drew]; rw [World.cell?_alloc_lt _ _ _ (by simp)]; exact cell_new0 _ _ _ _ _ (by simp)
    have l0 : X.cell? ⟨w.heap.size + 1 + 1, 0, none⟩ = some (.int .i64 (1 + p + 400)) := by rw [hX]; simp only [World.cell?_drew]; exact cell_new0 _ _ _ _ _ (by simp)
    have l1 : X.cell? ⟨w.heap.size + 1 + 1, 1, none⟩ = some (.int .i64 (1 + q)) := by rw [hX]; simp only [World.cell?_drew]; exact cell_new0 _ _ _ _ _ (by simp)
    have l2 : X.cell? ⟨w.heap.size + 1 + 1, 2, none⟩ = some (.int .i64 (1 + r)) := by rw [hX]; simp only [World.cell?_drew]; exact cell_new0 _ _ _ _ _ (by simp)
    rw [← hX]
    clear hX
    refine (day_any _ _ _ _ hGX).mono ?_
    rintro e w1 ⟨rfl, hb1⟩
    rw [N1.out.1, N1.out.2]
    have hG1 := hGX.below hb1
    have e0 := (hb1.cell (p := ⟨w.heap.size + 1 + 1, 0, none⟩) (by show w.heap.size + 1 + 1 < _; omega)).trans l0
    have e1 := (hb1.cell (p := ⟨w.heap.size + 1 + 1, 1, none⟩) (by show w.heap.size + 1 + 1 < _; omega)).trans l1
    have e2 := (hb1.cell (p := ⟨w.heap.size + 1 + 1, 2, none⟩) (by show w.heap.size + 1 + 1 < _; omega)).trans l2
    go_wp2_with fail
    refine (day_any _ _ _ _ hG1).mono ?_
    rintro e w2 ⟨rfl, hb2⟩
    rw [N2.out.1, N2.out.2]
    clear l0 l1 l2 e0 e1 e2
    have hG2 := hG1.below hb2
    have hb12 := bl_trans hb1 hb2
    have f0 := (hb12.cell (p := ⟨w.heap.size + 1, 0, none⟩) (by show w.heap.size + 1 < _; omega)).trans d0
    go_wp2_with fail
    refine (day_any _ _ _ _ hG2).mono ?_
    rintro e w3 ⟨rfl, hb3⟩
    rw [N3.out.1, N3.out.2]
    have hG3 := hG2.below hb3
    have hb13 := bl_trans hb12 hb3
    clear f0
    have f0 := (hb13.cell (p := ⟨w.heap.size + 1, 0, none⟩) (by show w.heap.size + 1 < _; omega)).trans d0
    go_wp2_with fail
    refine (day_any _ _ _ _ hG3).mono ?_
    rintro e w4 ⟨rfl, hb4⟩
    rw [N4.out.1, N4.out.2]
    have hG4 := hG3.below hb4
    have hb14 := bl_trans hb13 hb4
    clear f0
    have f0 := (hb14.cell (p := ⟨w.heap.size + 1, 0, none⟩) (by show w.heap.size + 1 < _; omega)).trans d0
    go_wp2_with fail
    refine (leap_any _ _).mono ?_
    rintro e w' ⟨rfl, rfl⟩
    rcases HCB.out with ⟨u1, u2⟩ | ⟨u1, u2⟩
    all_goals
      rw [u1]
      have U1 := Lib.hid u1; clear u1
      have g2 : (C - B == 365) = (C - B == 365) := rfl
      clear g2
      have k1 : C ≤ B + 366 := by omega
      have k2 : B + 365 ≤ C := by omega
      have ku : (C - B == 366) = true ∨ (C - B == 365) = true := by rw [beq_iff_eq, beq_iff_eq]; omega
      clear ku
      first | (have k3 : B + 366 ≤ C := by omega) | (have k3 : C ≤ B + 365 := by omega)
      clear u2
      go_wp2_with fail
      refine (weekday_any _ _).mono ?_
      rintro e w' ⟨rfl, rfl⟩
      go_wp2_with fail
      refine (weekday_any _ _).mono ?_
      rintro e w' ⟨rfl, rfl⟩
      go_wp2_with fail
      refine (lives_any _ hG4).mono ?_
      rintro e w5 ⟨rfl, hb5⟩
      go_wp2
      go_ret
      exact ⟨rfl, bl_trans (bl_trans hbX hb14) hb5⟩
end Go.Proofs.YtefapmdgodfpeaaDoor
