/- The walks of date.Check, date.number, date.Day: what they return, at every world. -/
import Derived.Test.YtiefjnhnceipmaaDoorDLeap
namespace Go.Proofs.YtiefjnhnceipmaaDoor
open Go.RowKit

set_option maxHeartbeats 2000000 in
theorem check_any (y m d : Int) (w : World) (hG : Good w) : Calls Tryd.prog 39 #[.agg #[.int .i64 y, .int .i64 m, .int .i64 d]] w (Ret (.int .i64 (chk y m d)) w) := by
  have hG1 := hG.alloc (.cells #[.int .i64 y, .int .i64 m, .int .i64 d] 48)
  by_cases h1 : y < 1
  · have d1 : decide (y < 1) = true := decide_eq_true h1
    go_enter Tryd.func39, Tryd.ntmps39
    go_wp2
    go_big_quiet (fail)
    go_wp2
    go_ret
    exact ⟨ret_int (chk_no (by omega)), bl_drewN (bl_alloc _ _) _⟩
  have d1 : decide (y < 1) = false := decide_eq_false h1
  by_cases h2 : 9999 < y
  · have d2 : decide (9999 < y) = true := decide_eq_true h2
    go_enter Tryd.func39, Tryd.ntmps39
    go_wp2
    go_big_quiet (fail)
    go_wp2
    go_ret
    exact ⟨ret_int (chk_no (by omega)), bl_drewN (bl_alloc _ _) _⟩
  have d2 : decide (9999 < y) = false := decide_eq_false h2
  by_cases h3 : m < 1
  · have d3 : decide (m < 1) = true := decide_eq_true h3
    go_enter Tryd.func39, Tryd.ntmps39
    go_wp2
    go_big_quiet (fail)
    go_wp2
    go_ret
    exact ⟨ret_int (chk_no (by omega)), bl_drewN (bl_alloc _ _) _⟩
  have d3 : decide (m < 1) = false := decide_eq_false h3
  by_cases h4 : 12 < m
  · have d4 : decide (12 < m) = true := decide_eq_true h4
    go_enter Tryd.func39, Tryd.ntmps39
    go_wp2
    go_big_quiet (fail)
    go_wp2
    go_ret
    exact ⟨ret_int (chk_no (by omega)), bl_drewN (bl_alloc _ _) _⟩
  have d4 : decide (12 < m) = false := decide_eq_false h4
  by_cases h5 : d < 1
  · have d5 : decide (d < 1) = true := decide_eq_true h5
    go_enter Tryd.func39, Tryd.ntmps39
    go_wp2
    go_big_quiet (fail)
    go_wp2
    go_ret
    exact ⟨ret_int (chk_no (by omega)), bl_drewN (bl_alloc _ _) _⟩
  have d5 : decide (d < 1) = false := decide_eq_false h5
  by_cases h6 : len y m < d
  · have d6 : decide (len y m < d) = true := decide_eq_true h6
    go_enter Tryd.func39, Tryd.ntmps39
    go_wp2
    go_big_quiet ((go_at_call 44; exact Pur.quiet (len_any _ _ _ (hG1.drewN _))))
    go_wp2
    go_ret
    exact ⟨ret_int (chk_no (by omega)), bl_drewN (bl_alloc _ _) _⟩
  have d6 : decide (len y m < d) = false := decide_eq_false h6
  go_enter Tryd.func39, Tryd.ntmps39
  go_wp2
  go_big_quiet ((go_at_call 44; exact Pur.quiet (len_any _ _ _ (hG1.drewN _))))
  go_wp2
  go_ret
  exact ⟨ret_int (chk_yes (by omega)), bl_drewN (bl_alloc _ _) _⟩

set_option maxHeartbeats 400000 in
theorem number_any (y m d : Int) (w : World) (hy : 1 ≤ y ∧ y ≤ 10000) (hm : 1 ≤ m ∧ m ≤ 12) (hd : 0 ≤ d ∧ d ≤ 40) : Calls Tryd.prog 40 #[.agg #[.int .i64 y, .int .i64 m, .int .i64 d]] w (Ret (.int .i64 (num y m d)) w) := by
  obtain ⟨hy1, hy2⟩ := hy
  obtain ⟨hm1, hm2⟩ := hm
  obtain ⟨hd1, hd2⟩ := hd
  by_cases h : m - 3 < 0
  · go_enter Tryd.func40, Tryd.ntmps40
    go_wp2
    go_quiet (fail)
    go_wp2
    go_ret
    exact ⟨ret_int (by unfold num; omega), bl_drewN (bl_alloc _ _) _⟩
  · go_enter Tryd.func40, Tryd.ntmps40
    go_wp2
    go_quiet (fail)
    go_wp2
    go_ret
    exact ⟨ret_int (by unfold num; omega), bl_drewN (bl_alloc _ _) _⟩

set_option maxHeartbeats 400000 in
theorem day_any (y m d : Int) (w : World) (hG : Good w) : Calls Tryd.prog 22 #[.agg #[.int .i64 y, .int .i64 m, .int .i64 d]] w (Ret (.tuple #[.int .i64 (dayN y m d), .int .i64 (chk y m d)]) w) := by
  have hG1 := hG.alloc (.cells #[.int .i64 y, .int .i64 m, .int .i64 d] 48)
  cases hv : validB y m d
  · have hc : chk y m d = 5 := by unfold chk; rw [hv]; rfl
    have hd : dayN y m d = 0 := by unfold dayN; rw [hv]; rfl
    have HC := Lib.hid hc; have HD := Lib.hid hd; clear hc hd hv
    go_enter Tryd.func22, Tryd.ntmps22
    go_wp2_with (go_at_call 39; refine (check_any _ _ _ _ hG1).mono ?_; rintro e w1 ⟨rfl, hb1⟩; rw [HC.out])
    go_ret2
    exact ⟨by rw [HC.out, HD.out]; rfl, bl_trans (bl_alloc _ _) hb1⟩
  · have hc : chk y m d = 0 := by unfold chk; rw [hv]; rfl
    have hd : dayN y m d = num y m d := by unfold dayN; rw [hv]; rfl
    rw [valid_iff] at hv
    have hl := len_le y m
    have HC := Lib.hid hc; have HD := Lib.hid hd; clear hc hd
    go_enter Tryd.func22, Tryd.ntmps22
    go_wp2_with fail
    refine (check_any _ _ _ _ hG1).mono ?_
    rintro e w1 ⟨rfl, hb1⟩
    rw [HC.out]
    have hc1 : w1.cell? ⟨w.heap.size, 0, none⟩ = some (.int .i64 y) := (hb1.cell (p := ⟨w.heap.size, 0, none⟩) (by simp)).trans (by simp)
    have hc2 : w1.cell? ⟨w.heap.size, 1, none⟩ = some (.int .i64 m) := (hb1.cell (p := ⟨w.heap.size, 1, none⟩) (by simp)).trans (by simp)
    have hc3 : w1.cell? ⟨w.heap.size, 2, none⟩ = some (.int .i64 d) := (hb1.cell (p := ⟨w.heap.size, 2, none⟩) (by simp)).trans (by simp)
    go_wp2_with fail
    refine (number_any _ _ _ _ (by omega) (by omega) (by omega)).mono ?_
    rintro e w2 ⟨rfl, hb2⟩
    go_wp2
    go_ret2
    exact ⟨by rw [HC.out, HD.out]; rfl, bl_trans (bl_trans (bl_alloc _ _) hb1) hb2⟩
end Go.Proofs.YtiefjnhnceipmaaDoor
