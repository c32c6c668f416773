/- The walk of the law DateDays: it returns true at every date. -/
import Derived.Test.YtefapmdgodfpeaaDoorDLives
import Derived.Test.YtefapmdgodfpeaaDoorDRef1
import Derived.Deep.RegionHeld3
namespace Go.Proofs.YtefapmdgodfpeaaDoor
open Go.RowKit

theorem cell_new3 (w : World) (cs : Array Value) (t : TypeId) (i : Nat) (b : Nat) (h : b = w.heap.size) : ((w.alloc (.cells cs t)).drew).cell? ⟨b, i, none⟩ = cs[i]? := by subst h; simp
set_option maxHeartbeats 8000000 in
theorem law_days (a b c : Int) (w : World) (hG : Good w) (a1 : -9223372036854775808 ≤ a) (a2 : a ≤ 9223372036854775807) (b1 : -9223372036854775808 ≤ b) (b2 : b ≤ 9223372036854775807) (c1 : -9223372036854775808 ≤ c) (c2 : c ≤ 9223372036854775807) :
    Calls Tryd.prog 3 #[.agg #[.int .i64 a, .int .i64 b, .int .i64 c]] w (Ret (.bool true) w) := by
  obtain ⟨x1, x2⟩ := around_bd a (m := 10003) (by omega)
  obtain ⟨x3, x4⟩ := around_bd b (m := 15) (by omega)
  obtain ⟨x5, x6⟩ := around_bd c (m := 35) (by omega)
  have hA := fun w => (around_any a 10003 w a1 a2 (by omega) (by omega)).mono (fun e w' (h : Pur _ w e w') => (⟨h.1, h.2.symm⟩ : e = _ ∧ w' = w))
  have hB := fun w => (around_any b 15 w b1 b2 (by omega) (by omega)).mono (fun e w' (h : Pur _ w e w') => (⟨h.1, h.2.symm⟩ : e = _ ∧ w' = w))
  have hC := fun w => (around_any c 35 w c1 c2 (by omega) (by omega)).mono (fun e w' (h : Pur _ w e w') => (⟨h.1, h.2.symm⟩ : e = _ ∧ w' = w))
  have HA := Lib.hid hA; have HB := Lib.hid hB; have HC := Lib.hid hC
  clear hA hB hC
  generalize around a 10003 = p at *
  generalize around b 15 = q at *
  generalize around c 35 = r at *
  go_enter Tryd.func3, Tryd.ntmps3
  go_wp2_with fail
  go_region_held3 (fun w' => w'.cell? ⟨w.heap.size, 0, none⟩ = some (.int .i64 a) ∧ w'.cell? ⟨w.heap.size, 1, none⟩ = some (.int .i64 b) ∧ w'.cell? ⟨w.heap.size, 2, none⟩ = some (.int .i64 c)) (go_keep) (first | ((with_reducible refine (HA.out _).mono ?_); rintro e w' ⟨rfl, rfl⟩) | ((with_reducible refine (HB.out _).mono ?_); rintro e w' ⟨rfl, rfl⟩) | ((with_reducible refine (HC.out _).mono ?_); rintro e w' ⟨rfl, rfl⟩))
  all_goals go_wp2_with fail
  all_goals
    obtain ⟨W, hW⟩ : ∃ W, W = (((w.alloc (.cells #[.int .i64 a, .int .i64 b, .int .i64 c] 23)).alloc (.cells #[.int .i64 (p - 1), .int .i64 (q - 1), .int .i64 (r - 1)] 23)).alloc (.cells #[.int .i64 a, .int .i64 b, .int .i64 c, .int .i64 (p - 1), .int .i64 (q - 1), .int .i64 (r - 1)] 23)).drew := ⟨_, rfl⟩
    have hbW : Below w.heap.size w W := by rw [hW]; exact (bl_trans (bl_trans (bl_alloc _ _) (bl_alloc _ _)) (bl_alloc _ _)).drew
    have hsz : w.heap.size + 1 + 1 < W.heap.size := by rw [hW]; simp
    have hcell : W.cell? ⟨w.heap.size + 1 + 1, 0, none⟩ = some (.int .i64 a) ∧ W.cell? ⟨w.heap.size + 1 + 1, 1, none⟩ = some (.int .i64 b) ∧ W.cell? ⟨w.heap.size + 1 + 1, 2, none⟩ = some (.int .i64 c) ∧ W.cell? ⟨w.heap.size + 1 + 1, 3, none⟩ = some (.int .i64 (p - 1)) ∧ W.cell? ⟨w.heap.size + 1 + 1, 4, none⟩ = some (.int .i64 (q - 1)) ∧ W.cell? ⟨w.heap.size + 1 + 1, 5, none⟩ = some (.int .i64 (r - 1)) := by
      rw [hW]
      refine ⟨?_, ?_, ?_, ?_, ?_, ?_⟩ <;> exact (cell_new3 _ _ _ _ _ (by simp))
    have HCELL := Lib.hid hcell; clear hcell
    have hGW := hG.below hbW
    rw [← hW]
    clear hW
    go_loopw [5] (fun i wr => (i = .int .i64 0 ∨ i = .int .i64 1 ∨ i = .int .i64 2) ∧ Below W.heap.size W wr) (fun i _ => 2 - (intOf i).toNat)
    case atStart => exact ⟨.inl rfl, bl_refl _⟩
    case round =>
      obtain ⟨hi, hbr⟩ := hrel
      have hGr := hGW.below hbr
      rcases hi with rfl | rfl | rfl
      · have e0 : ∀ wx, Below W.heap.size W wx → wx.cell? ⟨w.heap.size + 1 + 1, 0, none⟩ = some (.int .i64 (a)) ∧ wx.cell? ⟨w.heap.size + 1 + 1, 1, none⟩ = some (.int .i64 (b)) ∧ wx.cell? ⟨w.heap.size + 1 + 1, 2, none⟩ = some (.int .i64 (c)) := fun wx h => ⟨(h.cell (p := ⟨w.heap.size + 1 + 1, 0, none⟩) hsz).trans (HCELL.out).1, (h.cell (p := ⟨w.heap.size + 1 + 1, 1, none⟩) hsz).trans (HCELL.out).2.1, (h.cell (p := ⟨w.heap.size + 1 + 1, 2, none⟩) hsz).trans (HCELL.out).2.2.1⟩
        have HE0 := Lib.hid e0; clear e0
        obtain ⟨f0, f1, f2⟩ := HE0.out _ hbr
        go_wp2_with fail
        refine (day_any _ _ _ _ hGr).mono ?_
        rintro e w1 ⟨rfl, hb1⟩
        have hbr1 := bl_trans hbr hb1
        clear f0 f1 f2
        obtain ⟨f0, f1, f2⟩ := HE0.out _ hbr1
        go_wp2_with fail
        refine (rday_any _ _ _ _).mono ?_
        rintro e w2 ⟨rfl, hb2⟩
        have hbr2 := bl_trans hbr1 hb2
        clear f0 f1 f2
        obtain ⟨f0, f1, f2⟩ := HE0.out _ hbr2
        go_wp2_with fail
        refine (check_any _ _ _ _ (hGW.below hbr2)).mono ?_
        rintro e w3 ⟨rfl, hb3⟩
        go_wp2_with fail
        go_roundw
        case rel => exact ⟨.inr (.inl rfl), bl_trans hbr2 hb3⟩
        case measure => simp [intOf]
      · have e0 : ∀ wx, Below W.heap.size W wx → wx.cell? ⟨w.heap.size + 1 + 1, 3, none⟩ = some (.int .i64 (p - 1)) ∧ wx.cell? ⟨w.heap.size + 1 + 1, 4, none⟩ = some (.int .i64 (q - 1)) ∧ wx.cell? ⟨w.heap.size + 1 + 1, 5, none⟩ = some (.int .i64 (r - 1)) := fun wx h => ⟨(h.cell (p := ⟨w.heap.size + 1 + 1, 3, none⟩) hsz).trans (HCELL.out).2.2.2.1, (h.cell (p := ⟨w.heap.size + 1 + 1, 4, none⟩) hsz).trans (HCELL.out).2.2.2.2.1, (h.cell (p := ⟨w.heap.size + 1 + 1, 5, none⟩) hsz).trans (HCELL.out).2.2.2.2.2⟩
        have HE0 := Lib.hid e0; clear e0
        obtain ⟨f0, f1, f2⟩ := HE0.out _ hbr
        go_wp2_with fail
        refine (day_any _ _ _ _ hGr).mono ?_
        rintro e w1 ⟨rfl, hb1⟩
        have hbr1 := bl_trans hbr hb1
        clear f0 f1 f2
        obtain ⟨f0, f1, f2⟩ := HE0.out _ hbr1
        go_wp2_with fail
        refine (rday_any _ _ _ _).mono ?_
        rintro e w2 ⟨rfl, hb2⟩
        have hbr2 := bl_trans hbr1 hb2
        clear f0 f1 f2
        obtain ⟨f0, f1, f2⟩ := HE0.out _ hbr2
        go_wp2_with fail
        refine (check_any _ _ _ _ (hGW.below hbr2)).mono ?_
        rintro e w3 ⟨rfl, hb3⟩
        go_wp2_with fail
        go_roundw
        case rel => exact ⟨.inr (.inr rfl), bl_trans hbr2 hb3⟩
        case measure => simp [intOf]
      · go_wp2_with fail
        refine (lives_any _ hGr).mono ?_
        rintro e w4 ⟨rfl, hb4⟩
        go_wp2
        go_ret
        exact ⟨rfl, bl_trans (bl_trans hbW hbr) hb4⟩
end Go.Proofs.YtefapmdgodfpeaaDoor
