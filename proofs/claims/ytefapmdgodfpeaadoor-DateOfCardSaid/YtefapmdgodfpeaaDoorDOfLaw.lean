/- The walk of the law DateOf: it returns true at every number. -/
import Derived.Test.YtefapmdgodfpeaaDoorDLives
import Derived.Test.YtefapmdgodfpeaaDoorDRef4
import Derived.Test.YtefapmdgodfpeaaDoorDRefP
namespace Go.Proofs.YtefapmdgodfpeaaDoor
open Go.RowKit

set_option maxHeartbeats 8000000 in
theorem law_of (n : Int) (w : World) (hG : Good w) (h1 : -9223372036854775808 ≤ n) (h2 : n ≤ 9223372036854775807) :
    Calls Tryd.prog 4 #[.int .i64 n] w (Ret (.bool true) w) := by
  go_enter Tryd.func4, Tryd.ntmps4
  go_wp2_with fail
  refine (near_any _ _ h1 h2).mono ?_
  rintro e w' ⟨rfl, rfl⟩
  go_wp2_with fail
  refine (dayOf_any _ _ h1 h2).mono ?_
  rintro e w' ⟨rfl, rfl⟩
  go_wp2_with fail
  generalize around n 3652065 - 3 = x1 at *
  generalize around n 3652059 = x2 at *
  obtain ⟨W, hW⟩ : ∃ W, W = w.alloc (.cells #[.int .i64 n, .int .i64 x1, .int .i64 x2] 3) := ⟨_, rfl⟩
  have hbW : Below w.heap.size w W := by rw [hW]; exact bl_alloc _ _
  have hsz : w.heap.size < W.heap.size := by rw [hW]; simp
  have hcx : ∀ k : Nat, k < 3 → ∃ x, W.cell? ⟨w.heap.size, k, none⟩ = some (.int .i64 x) := by
    intro k hk
    rw [hW]
    match k, hk with
    | 0, _ => exact ⟨_, by simp; rfl⟩
    | 1, _ => exact ⟨_, by simp; rfl⟩
    | 2, _ => exact ⟨_, by simp; rfl⟩
  have hGW := hG.below hbW
  rw [← hW]
  clear hW
  have HX := Lib.hid hcx; clear hcx
  go_loopw [4] (fun i wr => ∃ k : Nat, k ≤ 3 ∧ i = .int .i64 k ∧ Below W.heap.size W wr) (fun i _ => 3 - (intOf i).toNat)
  case atStart => exact ⟨0, by omega, rfl, bl_refl _⟩
  case round =>
    obtain ⟨k, hk, rfl, hbr⟩ := hrel
    have hGr := hGW.below hbr
    by_cases hk2 : k < 3
    · obtain ⟨x, hx⟩ := HX.out k hk2
      have kx0 : (0 : Int) ≤ k := by omega
      have kx1 : (k : Int) < 3 := by omega
      have e0 := (hbr.cell (p := ⟨w.heap.size, k, none⟩) hsz).trans hx
      go_wp2_with fail
      refine (of_any _ _).mono ?_
      rintro e w1 ⟨rfl, hb1⟩
      have hbr1 := bl_trans hbr hb1
      have e1 := (hbr1.cell (p := ⟨w.heap.size, k, none⟩) hsz).trans hx
      have hz1 : w.heap.size < w1.heap.size := by have := hbr1.size; omega
      go_wp2_with fail
      refine (rof_any _ _).mono ?_
      rintro e w2 ⟨rfl, hb2⟩
      have hbr2 := bl_trans (bl_trans hbr1 (bl_alloc _ _)) hb2
      have hz2 : w1.heap.size < w2.heap.size := by have := hb2.size; simp at this; omega
      have p0 : w2.cell? ⟨w1.heap.size, 0, none⟩ = some (.int .i64 (oY x)) := (hb2.cell (p := ⟨w1.heap.size, 0, none⟩) (by simp)).trans (by simp)
      have p1 : w2.cell? ⟨w1.heap.size, 1, none⟩ = some (.int .i64 (oM x)) := (hb2.cell (p := ⟨w1.heap.size, 1, none⟩) (by simp)).trans (by simp)
      have p2 : w2.cell? ⟨w1.heap.size, 2, none⟩ = some (.int .i64 (oD x)) := (hb2.cell (p := ⟨w1.heap.size, 2, none⟩) (by simp)).trans (by simp)
      generalize oY x = Y at *
      generalize oM x = M at *
      generalize oD x = D at *
      generalize oE x = E at *
      have hx2 := (hbr2.cell (p := ⟨w.heap.size, k, none⟩) hsz).trans hx
      have hG2 := hGW.below hbr2
      clear e0 e1
      go_wp2_with fail
      obtain ⟨V, hV⟩ : ∃ V, V = w2.alloc (.cells #[.int .i64 Y, .int .i64 M, .int .i64 D] 23) := ⟨_, rfl⟩
      have hbV : Below w2.heap.size w2 V := by rw [hV]; exact bl_alloc _ _
      have hsV : V.heap.size = w2.heap.size + 1 := by rw [hV]; simp
      have q0 : V.cell? ⟨w2.heap.size, 0, none⟩ = some (.int .i64 Y) := by rw [hV]; simp
      have q1 : V.cell? ⟨w2.heap.size, 1, none⟩ = some (.int .i64 M) := by rw [hV]; simp
      have q2 : V.cell? ⟨w2.heap.size, 2, none⟩ = some (.int .i64 D) := by rw [hV]; simp
      have hzw : w.heap.size < w2.heap.size := by have := hbr2.size; omega
      have r0 := (hbV.cell (p := ⟨w1.heap.size, 0, none⟩) hz2).trans p0
      have r1 := (hbV.cell (p := ⟨w1.heap.size, 1, none⟩) hz2).trans p1
      have r2 := (hbV.cell (p := ⟨w1.heap.size, 2, none⟩) hz2).trans p2
      have rx := (hbV.cell (p := ⟨w.heap.size, k, none⟩) hzw).trans hx2
      have hGV := hG2.below hbV
      rw [← hV]
      clear hV p0 p1 p2 hx2
      have c0 : ∀ u : UpW V, u.w.cell? ⟨w1.heap.size, 0, none⟩ = some (.int .i64 Y) := fun u => (u.h.cell (p := ⟨w1.heap.size, 0, none⟩) (by show w1.heap.size < _; omega)).trans r0
      have c1 : ∀ u : UpW V, u.w.cell? ⟨w1.heap.size, 1, none⟩ = some (.int .i64 M) := fun u => (u.h.cell (p := ⟨w1.heap.size, 1, none⟩) (by show w1.heap.size < _; omega)).trans r1
      have c2 : ∀ u : UpW V, u.w.cell? ⟨w1.heap.size, 2, none⟩ = some (.int .i64 D) := fun u => (u.h.cell (p := ⟨w1.heap.size, 2, none⟩) (by show w1.heap.size < _; omega)).trans r2
      have c3 : ∀ u : UpW V, u.w.cell? ⟨w2.heap.size, 0, none⟩ = some (.int .i64 Y) := fun u => (u.h.cell (p := ⟨w2.heap.size, 0, none⟩) (by show w2.heap.size < _; omega)).trans q0
      have c4 : ∀ u : UpW V, u.w.cell? ⟨w2.heap.size, 1, none⟩ = some (.int .i64 M) := fun u => (u.h.cell (p := ⟨w2.heap.size, 1, none⟩) (by show w2.heap.size < _; omega)).trans q1
      have c5 : ∀ u : UpW V, u.w.cell? ⟨w2.heap.size, 2, none⟩ = some (.int .i64 D) := fun u => (u.h.cell (p := ⟨w2.heap.size, 2, none⟩) (by show w2.heap.size < _; omega)).trans q2
      have c6 : ∀ u : UpW V, u.w.cell? ⟨w.heap.size, k, none⟩ = some (.int .i64 x) := fun u => (u.h.cell (p := ⟨w.heap.size, k, none⟩) (by show w.heap.size < _; omega)).trans rx
      have HSV := Lib.hid hsV; clear hsV q0 q1 q2 r0 r1 r2 rx
      refine wp_region_up (by kernel_rfl) (by kernel_rfl) ?_
      repeat (go_big_quiet_step (fail))
      go_big_quiet_step (exact Ret.up (print_any x _ (hGV.below (UpW.h _))))
      repeat (go_big_quiet_step (fail))
      go_big_quiet_step (exact Ret.up (rprint_any x _))
      repeat (go_big_quiet_step (fail))
      refine wpQuiet_nil ?_
      rintro w3 ⟨⟨_, hb3⟩, rfl⟩
      clear c0 c1 c2 c3 c4 c5 c6
      go_wp2_with fail
      go_roundw
      case rel => exact ⟨k + 1, by omega, by go_num, bl_trans (bl_trans hbr2 hbV) hb3⟩
      case measure => simp [intOf]; omega
    · obtain rfl : k = 3 := by omega
      go_wp2_with fail
      refine (lives_any _ hGr).mono ?_
      rintro e w4 ⟨rfl, hb4⟩
      go_wp2
      go_ret
      exact ⟨rfl, bl_trans (bl_trans hbW hbr) hb4⟩
end Go.Proofs.YtefapmdgodfpeaaDoor
