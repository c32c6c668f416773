/- The walks of the reference's Of. Conditions: none. -/
import Derived.Test.YtiilljcnikgeaaaGreatDoorDAll
namespace Go.Proofs.YtiilljcnikgeaaaGreatDoor
open Go.RowKit

set_option maxHeartbeats 2000000 in
theorem rof_yes (n : Int) (w : World) (h0 : 0 ≤ n) (h1 : n ≤ 3652058) : Calls Tryz.prog 54 #[.int .i64 n] w (Ret (.tuple #[.agg #[.int .i64 (ofY n), .int .i64 (ofM n), .int .i64 (ofD n)], .int .i64 0]) w) := by
  obtain ⟨g1, g2, g3⟩ := year_guess h0 h1
  go_enter Tryz.func54, Tryz.ntmps54
  go_wp2
  go_loopw [21] (fun _ wr => ∃ y : Int, 1 ≤ y ∧ y ≤ 9999 ∧ num y 1 1 ≤ n ∧ wr = (w.alloc (.cells #[.int .i64 0, .int .i64 0, .int .i64 0] 75)).alloc (.cells #[.int .i64 y, .int .i64 1, .int .i64 0] 75))
    (fun _ wr => (10001 - intOf ((wr.cell? ⟨w.heap.size + 1, 0, none⟩).getD undef)).toNat)
  case atStart => exact ⟨_, g2, g3, g1, rfl⟩
  case round =>
    obtain ⟨y, y1, y2, y3, rfl⟩ := hrel
    clear g1 g2 g3
    by_cases hc : num (y + 1) 1 1 ≤ n
    · have y4 := year_last h1 hc
      go_wp2_with (go_at_call 67; refine (rstart_any _ _ (by omega) (by omega)).mono ?_; rintro e w' ⟨rfl, rfl⟩)
      go_roundw
      case rel => exact ⟨y + 1, by omega, y4, hc, rfl⟩
      case measure => simp [intOf]; omega
    · obtain ⟨j1, j2⟩ := jan_bd y1 (by omega)
      have y5 : n < num (y + 1) 1 1 := by omega
      go_wp2_with (go_at_call 67; refine (rstart_any _ _ (by omega) (by omega)).mono ?_; rintro e w' ⟨rfl, rfl⟩)
      go_loopw [5] (fun v wr => ∃ m : Int, 1 ≤ m ∧ m ≤ 12 ∧ 0 ≤ n - num y m 1 ∧ v = .int .i64 (n - num y m 1) ∧ wr = (w.alloc (.cells #[.int .i64 0, .int .i64 0, .int .i64 0] 75)).alloc (.cells #[.int .i64 y, .int .i64 m, .int .i64 0] 75))
        (fun _ wr => (13 - intOf ((wr.cell? ⟨w.heap.size + 1, 1, none⟩).getD undef)).toNat)
      case atStart => exact ⟨1, by omega, by omega, by omega, rfl, rfl⟩
      case round =>
        obtain ⟨m, m1, m2, m3, rfl, rfl⟩ := hrel
        have q1 := num_le_m (y := y) (m := 1) (m' := m) (by omega) m1 m2
        have q2 := len_in (y := y) m1 m2
        by_cases hm : len y m ≤ n - num y m 1
        · have m4 : m ≤ 11 := by
            by_cases e : m = 12
            · subst e; rw [len12] at hm; rw [num_year] at y5; omega
            · omega
          have m5 := num_succ (y := y) (m := m) (d := 1) m1 m4
          have M5 := Lib.hid m5; clear m5
          go_wp2_with (go_at_call 68; refine (rlen_any _ _ _).mono ?_; rintro e w' ⟨rfl, rfl⟩)
          go_roundw
          case rel => exact ⟨m + 1, by omega, by omega, by rw [M5.out]; omega, by rw [M5.out]; go_num, rfl⟩
          case measure => simp [intOf]; omega
        · have u := of_unique (y := y) h0 h1 m1 m2 (d := n - num y m 1 + 1) (by omega) (by omega) (by rw [num_d]; omega)
          obtain ⟨u1, u2, u3⟩ := u
          have hm' : n - num y m 1 < len y m := by omega
          have U1 := Lib.hid u1; have U2 := Lib.hid u2; have U3 := Lib.hid u3
          clear u1 u2 u3 hm
          go_wp2_with (go_at_call 68; refine (rlen_any _ _ _).mono ?_; rintro e w' ⟨rfl, rfl⟩)
          exact bodyPost_ret (v := .tuple #[.agg #[.int .i64 y, .int .i64 m, .int .i64 (n - num y m 1 + 1)], .int .i64 0]) (by simp [results, Tryz.results54, go_sem]) rfl ⟨by rw [← U1.out, ← U2.out, ← U3.out], bl_trans (bl_alloc _ _) (bl_alloc _ _)⟩

set_option maxHeartbeats 400000 in
theorem rof_no (n : Int) (w : World) (h : n < 0 ∨ 3652058 < n) : Calls Tryz.prog 54 #[.int .i64 n] w (Ret (.tuple #[.agg #[.int .i64 0, .int .i64 0, .int .i64 0], .int .i64 5]) w) := by
  by_cases h0 : n < 0
  · go_enter Tryz.func54, Tryz.ntmps54
    go_wp2
    exact bodyPost_ret (v := .tuple #[.agg #[.int .i64 0, .int .i64 0, .int .i64 0], .int .i64 5]) (by simp [results, Tryz.results54, go_sem]) rfl ⟨rfl, bl_alloc _ _⟩
  · have h1 : 3652058 < n := by omega
    go_enter Tryz.func54, Tryz.ntmps54
    go_wp2
    exact bodyPost_ret (v := .tuple #[.agg #[.int .i64 0, .int .i64 0, .int .i64 0], .int .i64 5]) (by simp [results, Tryz.results54, go_sem]) rfl ⟨rfl, bl_alloc _ _⟩

theorem rof_any (n : Int) (w : World) : Calls Tryz.prog 54 #[.int .i64 n] w (Ret (.tuple #[.agg #[.int .i64 (oY n), .int .i64 (oM n), .int .i64 (oD n)], .int .i64 (oE n)]) w) := by
  by_cases h : 0 ≤ n ∧ n ≤ 3652058
  · have e : okB n = true := decide_eq_true h
    unfold oY oM oD oE
    rw [e]
    exact rof_yes n w h.1 h.2
  · have e : okB n = false := decide_eq_false h
    unfold oY oM oD oE
    rw [e]
    exact rof_no n w (by omega)
end Go.Proofs.YtiilljcnikgeaaaGreatDoor
