/- The walk of the law DateMonths: it returns true at every two numbers. -/
import Derived.Test.YtefapmdgodfpeaaDoorDLives
import Derived.Test.YtefapmdgodfpeaaDoorDRef4
namespace Go.Proofs.YtefapmdgodfpeaaDoor
open Go.RowKit

set_option maxHeartbeats 8000000 in
theorem law_months (n m : Int) (w : World) (hG : Good w) (h1 : -9223372036854775808 ≤ n) (h2 : n ≤ 9223372036854775807) (h3 : -9223372036854775808 ≤ m) (h4 : m ≤ 9223372036854775807) :
    Calls Tryd.prog 7 #[.int .i64 n, .int .i64 m] w (Ret (.bool true) w) := by
  obtain ⟨a1, a2⟩ := around_bd m (m := 400005) (by omega)
  obtain ⟨a3, a4⟩ := around_bd m (m := 601) (by omega)
  go_enter Tryd.func7, Tryd.ntmps7
  go_wp2_with fail
  refine (near_any _ _ h1 h2).mono ?_
  rintro e w' ⟨rfl, rfl⟩
  go_wp2_with fail
  refine (dayOf_any _ _ h1 h2).mono ?_
  rintro e w' ⟨rfl, rfl⟩
  go_wp2_with fail
  refine (around_any _ _ _ h3 h4 (by omega) (by omega)).mono ?_
  rintro e w' ⟨rfl, rfl⟩
  go_wp2_with fail
  refine (around_any _ _ _ h3 h4 (by omega) (by omega)).mono ?_
  rintro e w' ⟨rfl, rfl⟩
  go_wp2_with fail
  generalize around n 3652065 - 3 = x1 at *
  generalize around n 3652059 = x2 at *
  generalize around m 400005 - 200002 = y1 at *
  generalize around m 601 - 300 = y2 at *
  obtain ⟨W, hW⟩ : ∃ W, W = (w.alloc (.cells #[.int .i64 n, .int .i64 x1, .int .i64 x2] 3)).alloc (.cells #[.int .i64 m, .int .i64 y1, .int .i64 y2] 3) := ⟨_, rfl⟩
  have hbW : Below w.heap.size w W := by rw [hW]; exact bl_trans (bl_alloc _ _) (bl_alloc _ _)
  have hsz : w.heap.size + 1 < W.heap.size := by rw [hW]; simp
  have hcx : ∀ k : Nat, k < 3 → ∃ x, W.cell? ⟨w.heap.size, k, none⟩ = some (.int .i64 x) := by
    intro k hk
    rw [hW, World.cell?_alloc_lt _ _ _ (by simp)]
    match k, hk with
    | 0, _ => exact ⟨_, by simp; rfl⟩
    | 1, _ => exact ⟨_, by simp; rfl⟩
    | 2, _ => exact ⟨_, by simp; rfl⟩
  have hcy : ∀ k : Nat, k < 3 → ∃ x, W.cell? ⟨w.heap.size + 1, k, none⟩ = some (.int .i64 x) := by
    intro k hk
    rw [hW]
    match k, hk with
    | 0, _ => exact ⟨_, by simp; rfl⟩
    | 1, _ => exact ⟨_, by simp; rfl⟩
    | 2, _ => exact ⟨_, by simp; rfl⟩
  have hGW := hG.below hbW
  rw [← hW]
  clear hW
  have HX := Lib.hid hcx; have HY := Lib.hid hcy; clear hcx hcy
  go_loopw [7] (fun i wr => ∃ k : Nat, k ≤ 3 ∧ i = .int .i64 k ∧ Below W.heap.size W wr) (fun i _ => 3 - (intOf i).toNat)
  case atStart => exact ⟨0, by omega, rfl, bl_refl _⟩
  case round =>
    obtain ⟨k, hk, rfl, hbr⟩ := hrel
    have hGr := hGW.below hbr
    by_cases hk2 : k < 3
    · obtain ⟨x, hx⟩ := HX.out k hk2
      obtain ⟨wo, rfl⟩ : ∃ wo : World, wo = wr := ⟨_, rfl⟩
      go_wp2_with fail
      go_loopw [8] (fun j wr => ∃ l : Nat, l ≤ 3 ∧ j = .int .i64 l ∧ Below W.heap.size W wr) (fun j _ => 3 - (intOf j).toNat)
      case atStart => exact ⟨0, by omega, rfl, hbr⟩
      case round =>
        obtain ⟨l, hl, rfl, hbs⟩ := hrel
        have hGs := hGW.below hbs
        by_cases hl2 : l < 3
        · obtain ⟨y, hy⟩ := HY.out l hl2
          have kx0 : (0 : Int) ≤ k := by omega
          have kx1 : (k : Int) < 3 := by omega
          have ky0 : (0 : Int) ≤ l := by omega
          have ky1 : (l : Int) < 3 := by omega
          have c0 : ∀ u : UpW wr, u.w.cell? ⟨w.heap.size, k, none⟩ = some (.int .i64 x) := fun u => ((bl_trans hbs u.h).cell (p := ⟨w.heap.size, k, none⟩) (by show w.heap.size < _; omega)).trans hx
          have c1 : ∀ u : UpW wr, u.w.cell? ⟨w.heap.size + 1, l, none⟩ = some (.int .i64 y) := fun u => ((bl_trans hbs u.h).cell (p := ⟨w.heap.size + 1, l, none⟩) hsz).trans hy
          go_wp2_with fail
          refine wp_region_up (by kernel_rfl) (by kernel_rfl) ?_
          repeat (go_big_quiet_step (fail))
          go_big_quiet_step (exact Ret.up (am_any x y _ (hGs.below (UpW.h _))))
          repeat (go_big_quiet_step (fail))
          refine wpQuiet_nil ?_
          rintro w2 ⟨⟨_, hb2⟩, rfl⟩
          clear c0 c1
          have hb3 := bl_trans hbs hb2
          have hG3 := hGW.below hb3
          have c0 : ∀ u : UpW w2, u.w.cell? ⟨w.heap.size, k, none⟩ = some (.int .i64 x) := fun u => ((bl_trans hb3 u.h).cell (p := ⟨w.heap.size, k, none⟩) (by show w.heap.size < _; omega)).trans hx
          have c1 : ∀ u : UpW w2, u.w.cell? ⟨w.heap.size + 1, l, none⟩ = some (.int .i64 y) := fun u => ((bl_trans hb3 u.h).cell (p := ⟨w.heap.size + 1, l, none⟩) hsz).trans hy
          go_wp2_with fail
          refine wp_region_up (by kernel_rfl) (by kernel_rfl) ?_
          repeat (go_big_quiet_step (fail))
          go_big_quiet_step (exact Ret.up (ram_any x y _))
          repeat (go_big_quiet_step (fail))
          refine wpQuiet_nil ?_
          rintro w3 ⟨⟨_, hb4⟩, rfl⟩
          clear c0 c1
          go_wp2_with fail
          go_roundw
          case rel => exact ⟨l + 1, by omega, by go_num, bl_trans hb3 hb4⟩
          case measure => simp [intOf]; omega
        · obtain rfl : l = 3 := by omega
          go_wp2_with fail
          go_roundw
          case rel => exact ⟨k + 1, by omega, by go_num, hbs⟩
          case measure => simp [intOf]; omega
    · obtain rfl : k = 3 := by omega
      go_wp2_with fail
      refine (lives_any _ hGr).mono ?_
      rintro e w4 ⟨rfl, hb4⟩
      go_wp2
      go_ret
      exact ⟨rfl, bl_trans (bl_trans hbW hbr) hb4⟩
end Go.Proofs.YtefapmdgodfpeaaDoor
