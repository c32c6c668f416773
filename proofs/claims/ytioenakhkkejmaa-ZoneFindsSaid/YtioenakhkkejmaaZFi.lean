/- The walk of the law ZoneFixed: it returns true at every two numbers and a bool. Conditions: none. -/
import Derived.Test.YtioenakhkkejmaaZSt
import Derived.Deep.RegionHeld3
namespace Go.Proofs.Ytioenakhkkejmaa
open Go.RowKit

theorem nil_ok {o : Int} (h : -900 ≤ o ∧ o ≤ 900) : Ok o [] := ⟨h.1, h.2, trivial⟩
theorem ins_nil {o n : Int} (ho : -900 ≤ o ∧ o ≤ 900) (hn : -1099511627776 ≤ n ∧ n ≤ 1099511627776) : ins o [] n = [n - o] := by
  unfold ins segsOf segs insS
  have : inB n ⟨-1125899906842624, 1125899906842624, o, o⟩ = true := decide_eq_true ⟨by show -1125899906842624 ≤ n - o; omega, by show n - o < 1125899906842624; omega⟩
  rw [List.filter_cons, if_pos this]
  rfl
theorem res_nil {o n : Int} (late : Bool) (ho : -900 ≤ o ∧ o ≤ 900) (hn : -1099511627776 ≤ n ∧ n ≤ 1099511627776) : res late o [] n = n - o := by
  unfold res
  rw [ins_nil ho hn]
  cases late <;> rfl

set_option maxHeartbeats 8000000 in
theorem law_zfixed (a n : Int) (late : Bool) (w : World) (h1 : -9223372036854775808 ≤ a) (h2 : a ≤ 9223372036854775807) (h3 : -9223372036854775808 ≤ n) (h4 : n ≤ 9223372036854775807) :
    Calls Try.prog 10 #[.int .i64 a, .int .i64 n, .bool late] w (Ret (.bool true) w) := by
  have hk := fun w => bound03 a 900 w h1 h2 (by omega) (by omega)
  obtain ⟨k1, k2⟩ := around_bd a (m := 2 * 900 + 1) (by omega)
  have o1 : -900 ≤ around a (2 * 900 + 1) - 900 := by omega
  have o2 : around a (2 * 900 + 1) - 900 ≤ 900 := by omega
  clear k1 k2
  generalize around a (2 * 900 + 1) - 900 = o at *
  have hl := fun w => zloc_any n w h3 h4
  obtain ⟨l1, l2⟩ := locK_bd n
  generalize locK n = k at *
  obtain ⟨D, hD⟩ : ∃ D, D = k / 1440 := ⟨_, rfl⟩
  obtain ⟨M, hM⟩ : ∃ M, M = k % 1440 := ⟨_, rfl⟩
  rw [← hD, ← hM] at hl
  have d1 : 1440 * D + M = k := by omega
  have d2 : 0 ≤ M := by omega
  have d3 : M < 1440 := by omega
  have d4 : -1000000 ≤ D := by omega
  have d5 : D ≤ 1000000 := by omega
  clear hD hM
  have ci := fun w => zinst_in o D M (.slice none 0 0) [] w (IsSh.nil w) (nil_ok ⟨o1, o2⟩) (by omega) (by omega) d2 d3 (by simp)
  have cr := fun w => zres_any o D M late (.slice none 0 0) [] w (IsSh.nil w) (nil_ok ⟨o1, o2⟩) (by omega) (by omega) d2 d3 (by simp)
  rw [show D * 1440 + M = 1440 * D + M from by omega] at ci cr
  rw [ins_nil ⟨o1, o2⟩ (by omega)] at ci
  rw [res_nil late ⟨o1, o2⟩ (by omega)] at cr
  have HK := Lib.hid hk; have HL := Lib.hid hl; have CI := Lib.hid ci; have CR := Lib.hid cr
  clear hk hl ci cr d1
  go_enter Try.func10, Try.ntmps10
  go_wp2_with fail
  refine (HK.out _).mono ?_
  rintro e w' ⟨rfl, rfl⟩
  go_wp2_with fail
  refine (HL.out _).mono ?_
  rintro e w' ⟨rfl, rfl⟩
  go_wp2_with fail
  refine (CI.out _).mono ?_
  rintro e w1 hp
  obtain ⟨la, lc, rfl, hli, hb1⟩ := hp.slice (by show 1 ≤ maxLen; decide)
  clear hp
  have hB : Below w.heap.size w w1 := bl_trans (bl_alloc _ _) hb1
  have z0 : w1.cell? ⟨w.heap.size, 0, none⟩ = some (.int .i64 o) := (hb1.cell (p := ⟨w.heap.size, 0, none⟩) (by simp)).trans (by simp)
  have z1 : w1.cell? ⟨w.heap.size, 1, none⟩ = some (.slice none 0 0) := (hb1.cell (p := ⟨w.heap.size, 1, none⟩) (by simp)).trans (by simp)
  have hlt : w.heap.size < w1.heap.size := by have := hb1.size; simp at this; omega
  clear hb1
  have hl4 : IsInts ((w1.alloc (.cells #[.int .i64 (1440 * D + M - o)] 3)).drew) (.slice (some ⟨w1.heap.size, 0, none⟩) 1 1) [1440 * D + M - o] := by
    refine .inr ⟨w1.heap.size, 0, 1, rfl, by simp, by show 1 ≤ maxLen; decide, fun j hj => ?_⟩
    match j, hj with
    | 0, _ => exact (Blk.new w1 _ _).drew.cell 0
  have hl5 := hli.below (bl_trans (bl_alloc w1 (.cells #[.int .i64 (1440 * D + M - o)] 3)) (bl_drew _))
  have cs := same03 _ _ _ _ _ hl5 hl4
  rw [decide_eq_true rfl] at cs
  change Calls Try.prog 21 #[.slice la 1 lc, .slice (some ⟨w1.heap.size, 0, none⟩) 1 1] ((w1.alloc (.cells #[.int .i64 (1440 * D + M - o)] 3)).drew) _ at cs
  have CS := Lib.hid cs
  clear hl4 hl5 cs hli
  have s1 : IntKind.i64.wrap (1440 * D) = 1440 * D := IntWalk.i64_in _ (by omega)
  have s2 : IntKind.i64.wrap (1440 * D + M) = 1440 * D + M := IntWalk.i64_in _ (by omega)
  have s3 : IntKind.i64.wrap (1440 * D + M - o) = 1440 * D + M - o := IntWalk.i64_in _ (by omega)
  have g1 : (1440 * D + M - o == 1440 * D + M - o) = true := beq_self_eq_true _
  go_wp2_with fail
  go_region_held3 (fun w' => w'.cell? ⟨w.heap.size, 0, none⟩ = some (.int .i64 o) ∧ w'.cell? ⟨w.heap.size, 1, none⟩ = some (.slice none 0 0))
    (first | go_keep | (exact ⟨(hb5.cell (p := ⟨w.heap.size, 0, none⟩) (by simp; omega)).trans (by go_simp), (hb5.cell (p := ⟨w.heap.size, 1, none⟩) (by simp; omega)).trans (by go_simp)⟩) | (go_split_ands; exact ⟨(hb6.cell (p := ⟨w.heap.size, 0, none⟩) hz5).trans (by assumption), (hb6.cell (p := ⟨w.heap.size, 1, none⟩) hz5).trans (by assumption)⟩) | (go_split_ands; exact ⟨(hb7.cell (p := ⟨w.heap.size, 0, none⟩) hz6).trans (by assumption), (hb7.cell (p := ⟨w.heap.size, 1, none⟩) hz6).trans (by assumption)⟩))
    (first | ((with_reducible refine CS.out.mono ?_); rintro e w5 ⟨rfl, hb5⟩; have hz5 : w.heap.size < w5.heap.size := by have := hb5.size; simp at this; omega) | ((with_reducible refine (CR.out _).mono ?_); rintro e w6 ⟨rfl, hb6⟩; have hz6 : w.heap.size < w6.heap.size := by have := hb6.size; omega) | ((with_reducible refine (zlives_any _).mono ?_); rintro e w7 ⟨rfl, hb7⟩))
  all_goals
    go_wp2_with fail
    go_ret
    exact ⟨rfl, bl_trans (bl_trans (bl_trans (bl_trans hB (bl_trans (bl_alloc _ _) (bl_drew _))) hb5) hb6) hb7⟩
end Go.Proofs.Ytioenakhkkejmaa
