/- The walk of the law DateEaster: it returns true at every number. -/
import Derived.Test.YtefapmdgodfpeaaDoorDLives
namespace Go.Proofs.YtefapmdgodfpeaaDoor
open Go.RowKit

set_option maxHeartbeats 2000000 in
theorem law_easter (n : Int) (w : World) (hG : Good w) (h1 : -9223372036854775808 ≤ n) (h2 : n ≤ 9223372036854775807) :
    Calls Tryd.prog 6 #[.int .i64 n] w (Ret (.bool true) w) := by
  obtain ⟨a1, a2⟩ := around_bd n (m := 8423) (by omega)
  generalize hs : around n 8423 = s at *
  have HS := Lib.hid hs; clear hs
  go_enter Tryd.func6, Tryd.ntmps6
  go_wp2_with fail
  refine (around_any _ _ _ h1 h2 (by omega) (by omega)).mono ?_
  rintro e w' ⟨rfl, rfl⟩
  rw [HS.out]
  go_wp2_with fail
  obtain ⟨W, hW⟩ : ∃ W, W = w.alloc (.cells #[.int .i64 n, .int .i64 (1580 + s)] 3) := ⟨_, rfl⟩
  have hbW : Below w.heap.size w W := by rw [hW]; exact bl_alloc _ _
  have hsz : w.heap.size < W.heap.size := by rw [hW]; simp
  have hcell : ∀ k : Nat, k < 2 → ∃ x, W.cell? ⟨w.heap.size, k, none⟩ = some (.int .i64 x) := by
    intro k hk
    rw [hW]
    match k, hk with
    | 0, _ => exact ⟨n, by simp⟩
    | 1, _ => exact ⟨1580 + s, by simp⟩
  have hGW := hG.below hbW
  rw [← hW]
  clear hW
  have HC := Lib.hid hcell; clear hcell
  go_loopw [4] (fun i wr => ∃ k : Nat, k ≤ 2 ∧ i = .int .i64 k ∧ Below W.heap.size W wr) (fun i _ => 2 - (intOf i).toNat)
  case atStart => exact ⟨0, by omega, rfl, bl_refl _⟩
  case round =>
    obtain ⟨k, hk, rfl, hbr⟩ := hrel
    have hGr := hGW.below hbr
    by_cases hk2 : k < 2
    · obtain ⟨x, hx⟩ := HC.out k hk2
      have hx0 := (hbr.cell (p := ⟨w.heap.size, k, none⟩) hsz).trans hx
      have hk3 : (k : Int) < 2 := by omega
      go_wp2_with fail
      refine (easter_any _ _).mono ?_
      rintro e w1 ⟨rfl, hb1⟩
      have hbr1 := bl_trans hbr hb1
      have hx1 := (hbr1.cell (p := ⟨w.heap.size, k, none⟩) hsz).trans hx
      go_wp2_with fail
      refine (reaster_any _ _).mono ?_
      rintro e w2 ⟨rfl, hb2⟩
      go_wp2_with fail
      go_roundw
      case rel => exact ⟨k + 1, by omega, by go_num, bl_trans hbr1 hb2⟩
      case measure => simp [intOf]; omega
    · obtain rfl : k = 2 := by omega
      go_wp2_with fail
      refine (lives_any _ hGr).mono ?_
      rintro e w4 ⟨rfl, hb4⟩
      go_wp2
      go_ret
      exact ⟨rfl, bl_trans (bl_trans hbW hbr) hb4⟩
end Go.Proofs.YtefapmdgodfpeaaDoor
