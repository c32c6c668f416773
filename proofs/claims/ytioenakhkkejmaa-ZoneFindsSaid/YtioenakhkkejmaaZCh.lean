/- The walk of the law ZoneChecks: it returns true at every zone and slice of ints that lie in memory. Conditions: none but that. -/
import Derived.Test.YtioenakhkkejmaaZFi
namespace Go.Proofs.Ytioenakhkkejmaa
open Go.RowKit

set_option maxHeartbeats 8000000 in
theorem law_zchecks (o : Int) (v : Value) (sh : Sh) (lv : Value) (zs : List Int) (w : World) (hI : IsSh w v sh) (hL : IsInts w lv zs) (hz : InR zs) :
    Calls Try.prog 3 #[.agg #[.int .i64 o, v], lv] w (Ret (.bool true) w) := by
  obtain ⟨sa, sc, rfl, hm⟩ := hI.slice
  unfold maxLen at hm
  by_cases hl : 110 < sh.length
  · have hl2 : (110 : Int) < sh.length := by omega
    clear hI hL
    go_enter Try.func3, Try.ntmps3
    go_wp2_with fail
    refine (zlives_any _).mono ?_
    rintro e w1 ⟨rfl, hb1⟩
    go_wp2
    go_ret
    exact ⟨rfl, bl_trans (bl_alloc _ _) hb1⟩
  · have hl2 : ¬ (110 : Int) < sh.length := by omega
    have hbw : Below w.heap.size w ((w.alloc (.cells #[.int .i64 o, .slice sa sh.length sc] 24)).drew) := bl_trans (bl_alloc w _) (bl_drew _)
    have c1 := zcheck_any o _ sh _ (hI.below hbw)
    have hI4 := hI.below hbw
    have hL4 := hL.below hbw
    have hzn := fun w h => zone_any lv zs w h hz
    have hck := fun v w h => zcheck_any (zoneO zs) v (zoneSh zs) w h
    rw [zchk_ok (zone_ok zs) (by have := zone_len zs; omega)] at hck
    have hr := fun w h => zrcheck_any o (.slice sa sh.length sc) sh w h
    generalize zchk o sh = X at *
    have g1 : (X == X) = true := beq_self_eq_true X
    have C1 := Lib.hid c1; have HI4 := Lib.hid hI4; have HL4 := Lib.hid hL4; have HZN := Lib.hid hzn; have HCK := Lib.hid hck; have HR := Lib.hid hr
    clear c1 hI4 hL4 hzn hck hr hI hL hbw
    go_enter Try.func3, Try.ntmps3
    go_wp2_with fail
    have e0 : (w.alloc (.cells #[.int .i64 o, .slice sa sh.length sc] 24)).cell? ⟨w.heap.size, 0, none⟩ = some (.int .i64 o) := (Blk.new _ _ _).cell 0
    have e1 : (w.alloc (.cells #[.int .i64 o, .slice sa sh.length sc] 24)).cell? ⟨w.heap.size, 1, none⟩ = some (.slice sa sh.length sc) := (Blk.new _ _ _).cell 1
    go_region_held3 (fun w' => w'.cell? ⟨w.heap.size, 0, none⟩ = some (.int .i64 o) ∧ w'.cell? ⟨w.heap.size, 1, none⟩ = some (.slice sa sh.length sc))
      (first | go_keep | (go_split_ands; exact ⟨(hb5.cell (p := ⟨w.heap.size, 0, none⟩) (by simp)).trans (by go_simp), (hb5.cell (p := ⟨w.heap.size, 1, none⟩) (by simp)).trans (by go_simp)⟩) | (go_split_ands; exact ⟨(hb6.cell (p := ⟨w.heap.size, 0, none⟩) hz5).trans (by assumption), (hb6.cell (p := ⟨w.heap.size, 1, none⟩) hz5).trans (by assumption)⟩) | (go_split_ands; exact ⟨(hb7.cell (p := ⟨w.heap.size, 0, none⟩) hz6).trans (by assumption), (hb7.cell (p := ⟨w.heap.size, 1, none⟩) hz6).trans (by assumption)⟩) | (go_split_ands; exact ⟨(hb8.cell (p := ⟨w.heap.size, 0, none⟩) hz7).trans (by assumption), (hb8.cell (p := ⟨w.heap.size, 1, none⟩) hz7).trans (by assumption)⟩) | (go_split_ands; exact ⟨(hb9.cell (p := ⟨w.heap.size, 0, none⟩) hz8).trans (by assumption), (hb9.cell (p := ⟨w.heap.size, 1, none⟩) hz8).trans (by assumption)⟩))
      (first | ((with_reducible refine C1.out.mono ?_); rintro e w5 ⟨rfl, hb5⟩; have hz5 : w.heap.size < w5.heap.size := by have := hb5.size; simp at this; omega) | ((with_reducible refine (HR.out _ (HI4.out.below hb5)).mono ?_); rintro e w6 ⟨rfl, hb6⟩; have hz6 : w.heap.size < w6.heap.size := by have := hb6.size; omega) | ((with_reducible refine (HZN.out _ (HL4.out.below (bl_trans hb5 hb6))).mono ?_); rintro e w7 ⟨sv, rfl, hs7, hb7⟩; have hz7 : w.heap.size < w7.heap.size := by have := hb7.size; omega) | ((with_reducible refine (HCK.out _ _ hs7).mono ?_); rintro e w8 ⟨rfl, hb8⟩; have hz8 : w.heap.size < w8.heap.size := by have := hb8.size; omega) | ((with_reducible refine (zlives_any _).mono ?_); rintro e w9 ⟨rfl, hb9⟩))
    all_goals
      go_wp2_with fail
      go_ret
      exact ⟨rfl, bl_trans (bl_trans (bl_trans (bl_trans (bl_trans (bl_trans (bl_alloc _ _) (bl_drew _)) hb5) hb6) hb7) hb8) hb9⟩
end Go.Proofs.Ytioenakhkkejmaa
