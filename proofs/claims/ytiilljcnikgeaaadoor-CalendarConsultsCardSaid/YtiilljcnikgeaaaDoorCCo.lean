/- The walk of the law CalendarConsults: it returns true at every input. Conditions: the numbers are ints that lie in memory, the listed tables lie in memory. -/
import Derived.Test.YtiilljcnikgeaaaDoorCLvs
import Derived.Test.YtiilljcnikgeaaaDoorCLt
import Derived.Test.YtiilljcnikgeaaaDoorKStep
import Derived.Test.YtiilljcnikgeaaaDoorCPrev
import Derived.Deep.RegionHeld3
namespace Go.Proofs.YtiilljcnikgeaaaDoor
open Go.RowKit

theorem blk_drew {w : World} {g t : Nat} {cs : Array Value} (h : Blk w g t cs) : Blk w.drew g t cs := h
set_option maxHeartbeats 1000000 in
theorem lapart_any (x : Clo) (a b : Int) (w : World) : Calls Tryd.prog 22 #[.agg #[.int .i64 x.fr, .int .i64 x.un, .int .i64 x.kn], .int .i64 a, .int .i64 b] w (Ret (.bool (apB x a b)) w) := by
  by_cases g1 : x.un < a
  · have hr : Hid (apB x a b = true) := by show _ = _; unfold apB; rw [decide_eq_true g1]; rfl
    go_enter Tryd.func22, Tryd.ntmps22
    go_wp2
    go_ret
    exact ⟨ret_bool hr.out.symm, bl_alloc _ _⟩
  · by_cases g2 : b < x.fr
    · have hr : Hid (apB x a b = true) := by show _ = _; unfold apB; rw [decide_eq_false g1, decide_eq_true (show x.fr > b from g2)]; rfl
      go_enter Tryd.func22, Tryd.ntmps22
      go_wp2
      go_ret
      exact ⟨ret_bool hr.out.symm, bl_alloc _ _⟩
    · have hr : Hid (apB x a b = false) := by show _ = _; unfold apB; rw [decide_eq_false g1, decide_eq_false (show ¬ x.fr > b from g2)]; rfl
      go_enter Tryd.func22, Tryd.ntmps22
      go_wp2
      go_ret
      exact ⟨ret_bool hr.out.symm, bl_alloc _ _⟩
theorem own_norm {w : World} {B e k g cap n : Nat} {xs : List Value} (h : w.ownsRow B e k (.slice (some ⟨g, 0, none⟩) (0 + n) cap) (0 + n) ([] ++ xs)) : w.ownsRow B e k (.slice (some ⟨g, 0, none⟩) n cap) n xs := by
  rw [Nat.zero_add, List.nil_append] at h
  exact h
theorem own_norm2 {w : World} {B e k g cap n m : Nat} {xs ys : List Value} (h : w.ownsRow B e k (.slice (some ⟨g, 0, none⟩) (0 + n + m) cap) (0 + n + m) (([] ++ xs) ++ ys)) : w.ownsRow B e k (.slice (some ⟨g, 0, none⟩) (n + m) cap) (n + m) (xs ++ ys) := by
  rw [Nat.zero_add, List.nil_append] at h
  exact h
theorem later_in {W : World} {c : Cal} {vh vc vs : Value} {B e g cap : Nat} {f r : Int} (HC : CalIn W vh vc vs c) (how : W.ownsRow B e 3 (.slice (some ⟨g, 0, none⟩) (c.cl.length + 1) cap) (c.cl.length + 1) (flatE encC c.cl ++ [.int .i64 f, .int .i64 (f + r), .int .i64 0])) (h3 : c.cl.length ≤ 3) : CalIn W vh (.slice (some ⟨g, 0, none⟩) (c.cl.length + 1) cap) vs (addC c ⟨f, f + r, 0⟩) := by
  refine ⟨HC.ih, ?_, HC.is, HC.hv, HC.hl⟩
  have hl : (addC c ⟨f, f + r, 0⟩).cl.length = c.cl.length + 1 := by show (c.cl ++ [_]).length = _; simp
  have hf : flatE encC (addC c ⟨f, f + r, 0⟩).cl = flatE encC c.cl ++ [.int .i64 f, .int .i64 (f + r), .int .i64 0] := flatE_snoc _ _
  refine IsRow.of_row (B := B) (e := e) encC_len ?_ (by rw [hl]; have : maxLen = 9223372036854775807 := rfl; omega)
  rw [hl, hf]
  exact how
theorem later_blk {W : World} {Y t : Nat} {c : Cal} {x : Clo} {vh vc vs v : Value} (b : Blk W Y t ((cellsC c vh vc vs).setIfInBounds 8 v)) : Blk W Y t (cellsC (addC c x) vh v vs) := b
theorem src_row {w : World} {B e k : Nat} {α : Type} {enc : α → List Value} {v : Value} {l : List α} (hk : ∀ x, (enc x).length = k) (h : w.ownsRow B e k v l.length (flatE enc l)) : SrcIs w v k l.length (flatE enc l) := by
  rcases h.2 with ⟨h1, h2⟩ | ⟨g, cap, cur, h1, hg, hh, r1, r2, r3, r4⟩
  · have hl : l = [] := List.length_eq_zero_iff.1 h2
    subst hl
    exact .inl ⟨h1, rfl, rfl⟩
  · refine .inr ⟨⟨g, 0, none⟩, cap, h1, flatE_len hk l, fun j u hu => ?_⟩
    rw [Go.WideShapes.add_plain, Nat.zero_add]
    exact blk_cells (n := l.length * k) hh r4 j u hu
set_option maxRecDepth 100000 in
set_option maxHeartbeats 8000000 in
theorem law_cconsults (v : Value) (zs : List Int) (n m fr le : Int) (w : World) (hI : IsIntsC w v zs) (hz : InR zs) (hG : GoodH w) (b0 : -9223372036854775808 ≤ n) (t0 : n ≤ 9223372036854775807) (b1 : -9223372036854775808 ≤ m) (t1 : m ≤ 9223372036854775807) (b2 : -9223372036854775808 ≤ fr) (t2 : fr ≤ 9223372036854775807) (b3 : -9223372036854775808 ≤ le) (t3 : le ≤ 9223372036854775807) :
    Calls Tryd.prog 5 #[v, .int .i64 n, .int .i64 m, .int .i64 fr, .int .i64 le] w (Ret (.bool true) w) := by
  have hck := cal_any v zs w hI hz
  have hpost := fun e w' h => @CalPost.in zs w e w' h
  have hreg := mkCal_reg zs
  have hok := mkCal_ok zs
  have hlen := mkCal_len zs
  have hhr := mkCal_hr zs
  have hcl3 : (mkCal zs).cl.length ≤ 3 := by show (cClos _ _).length ≤ 3; rw [cClos_len]; exact cN_le _ _
  generalize mkCal zs = c at *
  have HCK := Lib.hid hck; have HPOST := Lib.hid hpost; have HREG := Lib.hid hreg; have HOK := Lib.hid hok
  clear hck hpost hreg hok hI hz
  obtain ⟨d1, d2⟩ := dayL_bd n
  obtain ⟨f1, f2⟩ := dayL_bd fr
  have hd := fun w => lday_any n w b0 t0
  have hf := fun w => lday_any fr w b2 t2
  obtain ⟨x1, x2⟩ := around_bd le (m := 30) (by omega)
  obtain ⟨y1, y2⟩ := around_bd m (m := 41) (by omega)
  have hx := fun w => around01 le 30 w b3 t3 (by omega) (by omega)
  have hy := fun w => around01 m 41 w b1 t1 (by omega) (by omega)
  generalize dayL n = d at *
  generalize dayL fr = f at *
  generalize around le 30 = r at *
  generalize around m 41 = y at *
  obtain ⟨k, hk⟩ : ∃ k : Int, k = 739916 := ⟨_, rfl⟩
  obtain ⟨q1, q2, q3, q4, q5, q6⟩ := cons_ok HREG.out (x := ⟨f, f + r, 0⟩) (d := d) (k := 739916) (n := y - 20) (by omega) (by omega) (by omega) (by omega)
  have m1 := fun vh vc vs w hG hc => next_any c vh vc vs d 739916 w hG hc
  have m2 := fun vh vc vs w hG hc => prev_any c vh vc vs d 739916 w hG hc
  have m3 := fun vh vc vs w hG hc => add_any c vh vc vs d (y - 20) 739916 w hG hc
  have m4 := fun vh vc vs w hG hc => next_any (addC c ⟨f, f + r, 0⟩) vh vc vs d 739916 w hG hc
  have m5 := fun vh vc vs w hG hc => prev_any (addC c ⟨f, f + r, 0⟩) vh vc vs d 739916 w hG hc
  have m6 := fun vh vc vs w hG hc => add_any (addC c ⟨f, f + r, 0⟩) vh vc vs d (y - 20) 739916 w hG hc
  rw [q1] at m1
  rw [q2] at m2
  rw [q3] at m3
  generalize fstV c 739916 d 1 = A at *
  generalize fstV c 739916 d (-1) = P at *
  generalize addV c 739916 d (y - 20) = S at *
  generalize fstV (addC c ⟨f, f + r, 0⟩) 739916 d 1 = A' at *
  generalize fstV (addC c ⟨f, f + r, 0⟩) 739916 d (-1) = P' at *
  generalize addV (addC c ⟨f, f + r, 0⟩) 739916 d (y - 20) = S' at *
  generalize fstE (addC c ⟨f, f + r, 0⟩) 739916 d 1 = E1 at *
  generalize fstE (addC c ⟨f, f + r, 0⟩) 739916 d (-1) = E2 at *
  generalize addE (addC c ⟨f, f + r, 0⟩) 739916 d (y - 20) = E3 at *
  have HD := Lib.hid hd; have HF := Lib.hid hf; have HX := Lib.hid hx; have HY := Lib.hid hy
  have M1 := Lib.hid m1; have M2 := Lib.hid m2; have M3 := Lib.hid m3; have M4 := Lib.hid m4; have M5 := Lib.hid m5; have M6 := Lib.hid m6; have Q4 := Lib.hid q4; have Q5 := Lib.hid q5; have Q6 := Lib.hid q6
  clear hd hf hx hy hhr m1 m2 m3 m4 m5 m6 q1 q2 q3 q4 q5 q6 hk k
  obtain ⟨i1, hi', hy0, hy1, hy2⟩ := info_parts infoClo
  have hms : maxLen = 9223372036854775807 := rfl
  have HMS := Lib.hid hms; clear hms
  go_enter Tryd.func5, Tryd.ntmps5
  go_wp2_with fail
  refine HCK.out.mono ?_
  intro e w1 hp
  obtain ⟨vh, vc, vs, rfl, hc, ⟨hr1, hr2⟩, hb1⟩ := HPOST.out _ _ hp
  clear hp
  obtain ⟨ha, hcp, rfl⟩ := row_slice hr1
  obtain ⟨ca, ccp, rfl⟩ := row_slice hr2
  obtain ⟨sa, scp, rfl, hsl⟩ := hc.is.slice
  have bX := Blk.new w1 30 (cellsC c (.slice ha c.hs.length hcp) (.slice ca c.cl.length ccp) (.slice sa c.sh.length scp))
  have hB := bl_trans hb1 (bl_alloc w1 (.cells (cellsC c (.slice ha c.hs.length hcp) (.slice ca c.cl.length ccp) (.slice sa c.sh.length scp)) 30))
  have HC := Lib.hid (hc.alloc (.cells (cellsC c (.slice ha c.hs.length hcp) (.slice ca c.cl.length ccp) (.slice sa c.sh.length scp)) 30))
  go_wp2_with fail
  obtain ⟨X, hX⟩ : ∃ X, X = w1.heap.size := ⟨_, rfl⟩
  rw [← hX] at bX ⊢
  have hrv := hr2.alloc (.cells (cellsC c (.slice ha c.hs.length hcp) (.slice ca c.cl.length ccp) (.slice sa c.sh.length scp)) 30)
  clear hX hc hr1 hr2 hb1
  obtain ⟨V0, hV0⟩ : ∃ V0, w1.alloc (.cells (cellsC c (.slice ha c.hs.length hcp) (.slice ca c.cl.length ccp) (.slice sa c.sh.length scp)) 30) = V0 := ⟨_, rfl⟩
  rw [hV0] at bX hB HC hrv ⊢
  clear hV0 w1
  obtain ⟨c0, c1, c2, c3, c4, c5, c6, c7, c8, c9, c10, c11⟩ := bX.cal
  refine (HD.out _).mono ?_
  rintro e q ⟨rfl, rfl⟩
  go_wp2_with fail
  refine (HF.out _).mono ?_
  rintro e q ⟨rfl, rfl⟩
  go_wp2_with fail
  refine (HF.out _).mono ?_
  rintro e q ⟨rfl, rfl⟩
  go_wp2_with fail
  refine (HX.out _).mono ?_
  rintro e q ⟨rfl, rfl⟩
  have hXl := bX.lt
  go_upto_region 6 with (fail)
  obtain ⟨xr, hxr⟩ : ∃ xr : Clo, xr = ⟨f, f + r, 0⟩ := ⟨_, rfl⟩
  have bZ : Blk ((V0.alloc (.cells #[.int .i64 f, .int .i64 (f + r), .int .i64 0] 36)).alloc (.cells (cellsC c (.slice ha c.hs.length hcp) (.slice ca c.cl.length ccp) (.slice sa c.sh.length scp)) 30)) V0.heap.size 36 #[.int .i64 f, .int .i64 (f + r), .int .i64 0] := (Blk.new _ _ _).alloc _
  have bY : Blk ((V0.alloc (.cells #[.int .i64 f, .int .i64 (f + r), .int .i64 0] 36)).alloc (.cells (cellsC c (.slice ha c.hs.length hcp) (.slice ca c.cl.length ccp) (.slice sa c.sh.length scp)) 30)) (V0.heap.size + 1) 30 (cellsC c (.slice ha c.hs.length hcp) (.slice ca c.cl.length ccp) (.slice sa c.sh.length scp)) := Blk.at (by simp) _ _
  have hb1 := bl_trans (bl_alloc V0 (.cells #[.int .i64 f, .int .i64 (f + r), .int .i64 0] 36)) (bl_alloc _ (.cells (cellsC c (.slice ha c.hs.length hcp) (.slice ca c.cl.length ccp) (.slice sa c.sh.length scp)) 30))
  have hsz1 : ((V0.alloc (.cells #[.int .i64 f, .int .i64 (f + r), .int .i64 0] 36)).alloc (.cells (cellsC c (.slice ha c.hs.length hcp) (.slice ca c.cl.length ccp) (.slice sa c.sh.length scp)) 30)).heap.size = V0.heap.size + 2 := by simp
  obtain ⟨V1, hV1⟩ : ∃ V1, (V0.alloc (.cells #[.int .i64 f, .int .i64 (f + r), .int .i64 0] 36)).alloc (.cells (cellsC c (.slice ha c.hs.length hcp) (.slice ca c.cl.length ccp) (.slice sa c.sh.length scp)) 30) = V1 := ⟨_, rfl⟩
  rw [hV1] at bZ bY hb1 hsz1 ⊢
  have bX1 := bX.below hb1 hXl
  have hB1 := bl_trans hB hb1
  have HC1 := Lib.hid (HC.out.below hb1)
  have hrv1 := row_below hrv hb1
  obtain ⟨Z, hZ⟩ : ∃ Z, V0.heap.size = Z := ⟨_, rfl⟩
  rw [hZ] at bZ bY hXl hsz1 ⊢
  obtain ⟨Y, hY⟩ : ∃ Y, Z + 1 = Y := ⟨_, rfl⟩
  rw [hY] at bY ⊢
  have hXZ : X < Z := hXl
  have hZY : Z < Y := by omega
  have hYV : Y < V1.heap.size := by omega
  have hXY : X ≠ Y := by omega
  have hYX : Y ≠ X := by omega
  have hZY1 : Z ≠ Y := by omega
  have hYZ : Y ≠ Z := by omega
  have hb0 : ∀ (W : World) (u : Value), Below V1.heap.size V1 W → Below V0.heap.size V0 (W.setCell ⟨Y, 8, none⟩ u) := fun W u h => (bl_trans hb1 h).setCell (p := ⟨Y, 8, none⟩) (by show V0.heap.size ≤ Y; omega) u
  have HB0 := Lib.hid hb0; have HBX := Lib.hid bX; have HHB := Lib.hid hB; have HC0 := HC
  clear hV1 hrv bX hB HC hb1 c0 c1 c2 c3 c4 c5 c6 c7 c8 c9 c10 c11 hsz1 hY hXl hb0 HC1 hB1 hZ
  have k8 := bX1.cell 8
  have z0 := bZ.cell 0
  have z1 := bZ.cell 1
  have z2 := bZ.cell 2
  have y8 := bY.frozen 8
  have y8c := bY.cell 8
  simp at k8 z0 z1 z2 y8c
  have HSRC := Lib.hid (fun W (hb : Below V1.heap.size V1 W) => src_row (α := Clo) (enc := encC) encC_len (row_below hrv1 hb))
  clear hrv1
  have hXV : X < V1.heap.size := bX1.lt
  have hZV : Z < V1.heap.size := bZ.lt
  go_region_held3? (fun w' => w'.cell? ⟨X, 8, none⟩ = some (.slice ca c.cl.length ccp) ∧ w'.cell? ⟨Z, 0, none⟩ = some (.int .i64 f) ∧ w'.cell? ⟨Z, 1, none⟩ = some (.int .i64 (f + r)) ∧ w'.cell? ⟨Z, 2, none⟩ = some (.int .i64 0)) (first | go_keep | (go_split_ands; exact ⟨(hgrow2.cell_far ⟨X, 8, none⟩ (by have := hgrow1.size; simp at this ⊢; omega) (by have := hat1; simp at this ⊢; omega)).trans (by go_simp), (hgrow2.cell_far ⟨Z, 0, none⟩ (by have := hgrow1.size; simp at this ⊢; omega) (by have := hat1; simp at this ⊢; omega)).trans (by go_simp), (hgrow2.cell_far ⟨Z, 1, none⟩ (by have := hgrow1.size; simp at this ⊢; omega) (by have := hat1; simp at this ⊢; omega)).trans (by go_simp), (hgrow2.cell_far ⟨Z, 2, none⟩ (by have := hgrow1.size; simp at this ⊢; omega) (by have := hat1; simp at this ⊢; omega)).trans (by go_simp)⟩) | (go_split_ands; exact ⟨(hgrow1.cell_far ⟨X, 8, none⟩ (by simp; omega) (by simp; omega)).trans (by go_simp), (hgrow1.cell_far ⟨Z, 0, none⟩ (by simp; omega) (by simp; omega)).trans (by go_simp), (hgrow1.cell_far ⟨Z, 1, none⟩ (by simp; omega) (by simp; omega)).trans (by go_simp), (hgrow1.cell_far ⟨Z, 2, none⟩ (by simp; omega) (by simp; omega)).trans (by go_simp)⟩)) (first | (refine step_append_some (by rfl) (.tmp 42) (.tmp 44) 25 (by rfl) V1.heap.size 36 i1 _ 3 24 Tryd.underlying25 hi' hy0 hy1 hy2 rfl (by omega) (V1.heap.size) 0 0 [] (by rfl) (row_base (row_empty (Blk.new _ _ _)) (by simp)) (.slice ca c.cl.length ccp) c.cl.length (flatE encC c.cl) (by rfl) (HSRC.out _ (bl_trans (bl_drew V1) (bl_alloc _ _))) (one_flat encC_one c.cl) (by have := HMS.out; omega) (by omega) (by simp; try omega) ?_; intro g1 cap1 w1 hown0 hgrow1 hat1 hlt1; have hown1 := own_norm hown0; have q7 : Y < w1.heap.size := (by have := hgrow1.size; simp at this; omega); have q8 : w1.cell? ⟨Y, 8, none⟩ = some (.slice ca c.cl.length ccp) := (hgrow1.cell_far ⟨Y, 8, none⟩ (by simp; omega) (by simp; omega)).trans (by go_simp); have q9 : w1.frozen? ⟨Y, 8, none⟩ = false := (hgrow1.frozen_far ⟨Y, 8, none⟩ (by simp; omega) (by simp; omega)).trans (by go_simp); have bl1 : Below V1.heap.size V1 w1 := Below.grown (bl_trans (bl_drew V1) (bl_alloc _ _)) hgrow1 (by simp; try omega) (fun k e => by cases e; omega)) | (refine step_append_some (by rfl) (.tmp 42) (.tmp 44) 25 (by rfl) V1.heap.size 36 i1 _ 3 24 Tryd.underlying25 hi' hy0 hy1 hy2 rfl (by omega) (V1.heap.size) 0 0 [] (by rfl) (row_base (row_empty ((Blk.new _ _ _).alloc _)) (by simp)) (.slice ca c.cl.length ccp) c.cl.length (flatE encC c.cl) (by rfl) (HSRC.out _ (bl_trans (bl_trans (bl_drew V1) (bl_alloc _ _)) (bl_alloc _ _))) (one_flat encC_one c.cl) (by have := HMS.out; omega) (by omega) (by simp; try omega) ?_; intro g1 cap1 w1 hown0 hgrow1 hat1 hlt1; have hown1 := own_norm hown0; have q7 : Y < w1.heap.size := (by have := hgrow1.size; simp at this; omega); have q8 : w1.cell? ⟨Y, 8, none⟩ = some (.slice ca c.cl.length ccp) := (hgrow1.cell_far ⟨Y, 8, none⟩ (by simp; omega) (by simp; omega)).trans (by go_simp); have q9 : w1.frozen? ⟨Y, 8, none⟩ = false := (hgrow1.frozen_far ⟨Y, 8, none⟩ (by simp; omega) (by simp; omega)).trans (by go_simp); have bl1 : Below V1.heap.size V1 w1 := Below.grown (bl_trans (bl_trans (bl_drew V1) (bl_alloc _ _)) (bl_alloc _ _)) hgrow1 (by simp; try omega) (fun k e => by cases e; omega)) | (refine step_append_some (by rfl) (.tmp 42) (.tmp 44) 25 (by rfl) V1.heap.size 36 i1 _ 3 24 Tryd.underlying25 hi' hy0 hy1 hy2 rfl (by omega) (V1.heap.size + 1) 0 0 [] (by rfl) (row_base (row_empty (Blk.at (by simp) _ _)) (by simp)) (.slice ca c.cl.length ccp) c.cl.length (flatE encC c.cl) (by rfl) (HSRC.out _ (bl_trans (bl_trans (bl_drew V1) (bl_alloc _ _)) (bl_alloc _ _))) (one_flat encC_one c.cl) (by have := HMS.out; omega) (by omega) (by simp; try omega) ?_; intro g1 cap1 w1 hown0 hgrow1 hat1 hlt1; have hown1 := own_norm hown0; have q7 : Y < w1.heap.size := (by have := hgrow1.size; simp at this; omega); have q8 : w1.cell? ⟨Y, 8, none⟩ = some (.slice ca c.cl.length ccp) := (hgrow1.cell_far ⟨Y, 8, none⟩ (by simp; omega) (by simp; omega)).trans (by go_simp); have q9 : w1.frozen? ⟨Y, 8, none⟩ = false := (hgrow1.frozen_far ⟨Y, 8, none⟩ (by simp; omega) (by simp; omega)).trans (by go_simp); have bl1 : Below V1.heap.size V1 w1 := Below.grown (bl_trans (bl_trans (bl_drew V1) (bl_alloc _ _)) (bl_alloc _ _)) hgrow1 (by simp; try omega) (fun k e => by cases e; omega)) | (refine step_append_some (by rfl) (.tmp 45) (.tmp 47) 25 (by rfl) V1.heap.size 36 i1 _ 3 24 Tryd.underlying25 hi' hy0 hy1 hy2 rfl (by omega) g1 cap1 c.cl.length (flatE encC c.cl) (by rfl) (hown1.alloc _) (.slice (some ⟨w1.heap.size, 0, none⟩) 1 1) 1 [.int .i64 f, .int .i64 (f + r), .int .i64 0] (by rfl) (.inr ⟨⟨w1.heap.size, 0, none⟩, 1, rfl, rfl, World.news_of_block (cs := #[.int .i64 f, .int .i64 (f + r), .int .i64 0]) (t := 36) (fr := (0, 0)) (heap_alloc_new w1 _)⟩) (by simp [Value.oneCell']) (by have := HMS.out; omega) (by omega) (by have := hgrow1.size; simp at this ⊢; omega) ?_; intro g2 cap2 w2 hown2 hgrow2 hat2 hlt2; have p8 : w2.cell? ⟨Y, 8, none⟩ = some (.slice ca c.cl.length ccp) := (hgrow2.cell_far ⟨Y, 8, none⟩ (by have := hgrow1.size; simp at this ⊢; omega) (by have := hat1; simp at this ⊢; omega)).trans (by go_simp); have p9 : w2.frozen? ⟨Y, 8, none⟩ = false := (hgrow2.frozen_far ⟨Y, 8, none⟩ (by have := hgrow1.size; simp at this ⊢; omega) (by have := hat1; simp at this ⊢; omega)).trans (by go_simp); have hown3 : w2.ownsRow V1.heap.size 36 3 (.slice (some ⟨g2, 0, none⟩) (c.cl.length + 1) cap2) (c.cl.length + 1) (flatE encC c.cl ++ [.int .i64 f, .int .i64 (f + r), .int .i64 0]) := hown2; have bl2 : Below V1.heap.size V1 w2 := Below.grown (bl1.alloc (by have := hgrow1.size; simp at this; omega) _) hgrow2 (by have := hgrow1.size; simp at this ⊢; omega) (fun k e => by cases e; have := hat1; simp at this; omega); clear hown2 hown0 hown1) | (refine step_append_some (by rfl) (.tmp 45) (.tmp 47) 25 (by rfl) V1.heap.size 36 i1 _ 3 24 Tryd.underlying25 hi' hy0 hy1 hy2 rfl (by omega) g1 cap1 (0 + c.cl.length) ([] ++ flatE encC c.cl) (by rfl) (hown0) (.slice (some ⟨V1.heap.size + 1, 0, none⟩) 1 1) 1 [.int .i64 f, .int .i64 (f + r), .int .i64 0] (by rfl) (.inr ⟨⟨V1.heap.size + 1, 0, none⟩, 1, rfl, rfl, World.news_of_block (cs := #[.int .i64 f, .int .i64 (f + r), .int .i64 0]) (t := 36) (fr := (0, 0)) (by first | exact (hgrow1.block _ (by simp) (by simp)).trans (blk_drew (Blk.at (by simp) _ _)) | exact (hgrow1.block _ (by simp) (by simp)).trans (Blk.at (by simp) _ _))⟩) (by simp [Value.oneCell']) (by have := HMS.out; omega) (by omega) (by have := hgrow1.size; simp at this ⊢; omega) ?_; intro g2 cap2 w2 hown2 hgrow2 hat2 hlt2; have p8 : w2.cell? ⟨Y, 8, none⟩ = some (.slice ca c.cl.length ccp) := (hgrow2.cell_far ⟨Y, 8, none⟩ (by have := hgrow1.size; simp at this ⊢; omega) (by have := hat1; simp at this ⊢; omega)).trans (by go_simp); have p9 : w2.frozen? ⟨Y, 8, none⟩ = false := (hgrow2.frozen_far ⟨Y, 8, none⟩ (by have := hgrow1.size; simp at this ⊢; omega) (by have := hat1; simp at this ⊢; omega)).trans (by go_simp); have hown3 : w2.ownsRow V1.heap.size 36 3 (.slice (some ⟨g2, 0, none⟩) (c.cl.length + 1) cap2) (c.cl.length + 1) (flatE encC c.cl ++ [.int .i64 f, .int .i64 (f + r), .int .i64 0]) := own_norm2 hown2; have bl2 : Below V1.heap.size V1 w2 := Below.grown (bl1) hgrow2 (by have := hgrow1.size; simp at this ⊢; omega) (fun k e => by cases e; have := hat1; simp at this; omega); clear hown2 hown0 hown1) | (refine step_append_some (by rfl) (.tmp 45) (.tmp 47) 25 (by rfl) V1.heap.size 36 i1 _ 3 24 Tryd.underlying25 hi' hy0 hy1 hy2 rfl (by omega) g1 cap1 (0 + c.cl.length) ([] ++ flatE encC c.cl) (by rfl) (hown0) (.slice (some ⟨V1.heap.size, 0, none⟩) 1 1) 1 [.int .i64 f, .int .i64 (f + r), .int .i64 0] (by rfl) (.inr ⟨⟨V1.heap.size, 0, none⟩, 1, rfl, rfl, World.news_of_block (cs := #[.int .i64 f, .int .i64 (f + r), .int .i64 0]) (t := 36) (fr := (0, 0)) (by first | exact (hgrow1.block _ (by simp; try omega) (by simp)).trans (blk_drew ((Blk.new _ _ _).alloc _)) | exact (hgrow1.block _ (by simp; try omega) (by simp)).trans ((Blk.new _ _ _).alloc _))⟩) (by simp [Value.oneCell']) (by have := HMS.out; omega) (by omega) (by have := hgrow1.size; simp at this ⊢; omega) ?_; intro g2 cap2 w2 hown2 hgrow2 hat2 hlt2; have p8 : w2.cell? ⟨Y, 8, none⟩ = some (.slice ca c.cl.length ccp) := (hgrow2.cell_far ⟨Y, 8, none⟩ (by have := hgrow1.size; simp at this ⊢; omega) (by have := hat1; simp at this ⊢; omega)).trans (by go_simp); have p9 : w2.frozen? ⟨Y, 8, none⟩ = false := (hgrow2.frozen_far ⟨Y, 8, none⟩ (by have := hgrow1.size; simp at this ⊢; omega) (by have := hat1; simp at this ⊢; omega)).trans (by go_simp); have hown3 : w2.ownsRow V1.heap.size 36 3 (.slice (some ⟨g2, 0, none⟩) (c.cl.length + 1) cap2) (c.cl.length + 1) (flatE encC c.cl ++ [.int .i64 f, .int .i64 (f + r), .int .i64 0]) := own_norm2 hown2; have bl2 : Below V1.heap.size V1 w2 := Below.grown (bl1) hgrow2 (by have := hgrow1.size; simp at this ⊢; omega) (fun k e => by cases e; have := hat1; simp at this; omega); clear hown2 hown0 hown1))
  · skip
    rename_i hHeld
    clear hHeld
    have hv3 := HB0.out w2 (.slice (some ⟨g2, 0, none⟩) (c.cl.length + 1) cap2) bl2
    have bX := HBX.out.below hv3 HBX.out.lt
    have hB := bl_trans HHB.out hv3
    have HC := Lib.hid (HC0.out.below hv3)
    have bZ3 := (bZ.below bl2 hZV).far (p := ⟨Y, 8, none⟩) hZY1 (.slice (some ⟨g2, 0, none⟩) (c.cl.length + 1) cap2)
    have bY3 := later_blk (x := ⟨f, f + r, 0⟩) ((bY.below bl2 hYV).set 8 (.slice (some ⟨g2, 0, none⟩) (c.cl.length + 1) cap2))
    have how := ownsRow_setCell_below hown3 (a := ⟨Y, 8, none⟩) hYV (.slice (some ⟨g2, 0, none⟩) (c.cl.length + 1) cap2)
    obtain ⟨W3, hW3⟩ : ∃ W3, W3 = w2.setCell ⟨Y, 8, none⟩ (.slice (some ⟨g2, 0, none⟩) (c.cl.length + 1) cap2) := ⟨_, rfl⟩
    rw [← hW3] at bX hB HC bZ3 bY3 how ⊢
    have HCL := Lib.hid (later_in HC.out how hcl3)
    clear hv3 hW3 how hown3 hgrow1 hgrow2 hat1 hat2 hlt1 hlt2 q7 q8 q9 p8 p9 bl1 bl2 bZ bY HB0 HBX HHB HC0 HSRC
    go_wp2_with fail
    refine (HY.out _).mono ?_
    rintro e q ⟨rfl, rfl⟩
    obtain ⟨c0, c1, c2, c3, c4, c5, c6, c7, c8, c9, c10, c11⟩ := bX.cal
    go_wp2_with fail
    refine (M1.out _ _ _ _ (hG.below hB) HC.out).mono ?_
    rintro e u1 ⟨rfl, hb⟩
    clear c0 c1 c2 c3 c4 c5 c6 c7 c8 c9 c10 c11
    have nX := bX.below hb bX.lt
    have nY := bY3.below hb bY3.lt
    have nZ := bZ3.below hb bZ3.lt
    have nB := bl_trans hB hb
    have nC := Lib.hid (HC.out.below hb)
    have nL := Lib.hid (HCL.out.below hb)
    clear bX bY3 bZ3 hB HC HCL hb
    have bX := nX
    have bY3 := nY
    have bZ3 := nZ
    have hB := nB
    have HC := nC
    have HCL := nL
    clear nX nY nZ nB nC nL
    obtain ⟨c0, c1, c2, c3, c4, c5, c6, c7, c8, c9, c10, c11⟩ := bX.cal
    go_wp2_with fail
    refine (M2.out _ _ _ _ (hG.below hB) HC.out).mono ?_
    rintro e u2 ⟨rfl, hb⟩
    clear c0 c1 c2 c3 c4 c5 c6 c7 c8 c9 c10 c11
    have nX := bX.below hb bX.lt
    have nY := bY3.below hb bY3.lt
    have nZ := bZ3.below hb bZ3.lt
    have nB := bl_trans hB hb
    have nC := Lib.hid (HC.out.below hb)
    have nL := Lib.hid (HCL.out.below hb)
    clear bX bY3 bZ3 hB HC HCL hb
    have bX := nX
    have bY3 := nY
    have bZ3 := nZ
    have hB := nB
    have HC := nC
    have HCL := nL
    clear nX nY nZ nB nC nL
    obtain ⟨c0, c1, c2, c3, c4, c5, c6, c7, c8, c9, c10, c11⟩ := bX.cal
    go_wp2_with fail
    refine (M3.out _ _ _ _ (hG.below hB) HC.out).mono ?_
    rintro e u3 ⟨rfl, hb⟩
    clear c0 c1 c2 c3 c4 c5 c6 c7 c8 c9 c10 c11
    have nX := bX.below hb bX.lt
    have nY := bY3.below hb bY3.lt
    have nZ := bZ3.below hb bZ3.lt
    have nB := bl_trans hB hb
    have nC := Lib.hid (HC.out.below hb)
    have nL := Lib.hid (HCL.out.below hb)
    clear bX bY3 bZ3 hB HC HCL hb
    have bX := nX
    have bY3 := nY
    have bZ3 := nZ
    have hB := nB
    have HC := nC
    have HCL := nL
    clear nX nY nZ nB nC nL
    obtain ⟨c0, c1, c2, c3, c4, c5, c6, c7, c8, c9, c10, c11⟩ := bY3.cal
    go_wp2_with fail
    refine (M4.out _ _ _ _ (hG.below hB) HCL.out).mono ?_
    rintro e u4 ⟨rfl, hb⟩
    clear c0 c1 c2 c3 c4 c5 c6 c7 c8 c9 c10 c11
    have nX := bX.below hb bX.lt
    have nY := bY3.below hb bY3.lt
    have nZ := bZ3.below hb bZ3.lt
    have nB := bl_trans hB hb
    have nC := Lib.hid (HC.out.below hb)
    have nL := Lib.hid (HCL.out.below hb)
    clear bX bY3 bZ3 hB HC HCL hb
    have bX := nX
    have bY3 := nY
    have bZ3 := nZ
    have hB := nB
    have HC := nC
    have HCL := nL
    clear nX nY nZ nB nC nL
    obtain ⟨c0, c1, c2, c3, c4, c5, c6, c7, c8, c9, c10, c11⟩ := bY3.cal
    go_wp2_with fail
    refine (M5.out _ _ _ _ (hG.below hB) HCL.out).mono ?_
    rintro e u5 ⟨rfl, hb⟩
    clear c0 c1 c2 c3 c4 c5 c6 c7 c8 c9 c10 c11
    have nX := bX.below hb bX.lt
    have nY := bY3.below hb bY3.lt
    have nZ := bZ3.below hb bZ3.lt
    have nB := bl_trans hB hb
    have nC := Lib.hid (HC.out.below hb)
    have nL := Lib.hid (HCL.out.below hb)
    clear bX bY3 bZ3 hB HC HCL hb
    have bX := nX
    have bY3 := nY
    have bZ3 := nZ
    have hB := nB
    have HC := nC
    have HCL := nL
    clear nX nY nZ nB nC nL
    obtain ⟨c0, c1, c2, c3, c4, c5, c6, c7, c8, c9, c10, c11⟩ := bY3.cal
    go_wp2_with fail
    refine (M6.out _ _ _ _ (hG.below hB) HCL.out).mono ?_
    rintro e u6 ⟨rfl, hb⟩
    clear c0 c1 c2 c3 c4 c5 c6 c7 c8 c9 c10 c11
    have nX := bX.below hb bX.lt
    have nY := bY3.below hb bY3.lt
    have nZ := bZ3.below hb bZ3.lt
    have nB := bl_trans hB hb
    have nC := Lib.hid (HC.out.below hb)
    have nL := Lib.hid (HCL.out.below hb)
    clear bX bY3 bZ3 hB HC HCL hb
    have bX := nX
    have bY3 := nY
    have bZ3 := nZ
    have hB := nB
    have HC := nC
    have HCL := nL
    clear nX nY nZ nB nC nL
    clear bX bY3 HC HCL M1 M2 M3 M4 M5 M6 HD HF HX HY
    have z0 := bZ3.cell 0
    have z1 := bZ3.cell 1
    have z2 := bZ3.cell 2
    simp at z0 z1 z2
    go_wp2_with fail
    refine (lapart_any ⟨f, f + r, 0⟩ d A _).mono ?_
    rintro e t0 ⟨rfl, hb⟩
    have nB := bl_trans hB hb
    have nZ := bZ3.below hb bZ3.lt
    clear hB bZ3 hb z0 z1 z2
    have hB := nB
    have bZ3 := nZ
    clear nB nZ
    cases a1 : apB ⟨f, f + r, 0⟩ d A
    · clear a1
      have z0 := bZ3.cell 0
      have z1 := bZ3.cell 1
      have z2 := bZ3.cell 2
      simp at z0 z1 z2
      go_wp2_with fail
      refine (lapart_any ⟨f, f + r, 0⟩ P d _).mono ?_
      rintro e t1 ⟨rfl, hb⟩
      have nB := bl_trans hB hb
      have nZ := bZ3.below hb bZ3.lt
      clear hB bZ3 hb z0 z1 z2
      have hB := nB
      have bZ3 := nZ
      clear nB nZ
      cases a1 : apB ⟨f, f + r, 0⟩ P d
      · clear a1
        have z0 := bZ3.cell 0
        have z1 := bZ3.cell 1
        have z2 := bZ3.cell 2
        simp at z0 z1 z2
        go_wp2_with fail
        refine (lapart_any ⟨f, f + r, 0⟩ (min d S) (max d S) _).mono ?_
        rintro e t2 ⟨rfl, hb⟩
        have nB := bl_trans hB hb
        have nZ := bZ3.below hb bZ3.lt
        clear hB bZ3 hb z0 z1 z2
        have hB := nB
        have bZ3 := nZ
        clear nB nZ
        cases a1 : apB ⟨f, f + r, 0⟩ (min d S) (max d S)
        · clear a1
          go_wp2_with fail
          refine (clives_any _ (hG.below hB)).mono ?_
          rintro e vz ⟨rfl, hb⟩
          go_wp2
          go_ret
          exact ⟨rfl, bl_trans hB hb⟩
        · have e1 := Q6.out a1
          clear a1 Q6
          obtain rfl := e1
          go_wp2_with fail
          refine (clives_any _ (hG.below hB)).mono ?_
          rintro e vz ⟨rfl, hb⟩
          go_wp2
          go_ret
          exact ⟨rfl, bl_trans hB hb⟩
      · have e1 := Q5.out a1
        clear a1 Q5
        obtain rfl := e1
        have z0 := bZ3.cell 0
        have z1 := bZ3.cell 1
        have z2 := bZ3.cell 2
        simp at z0 z1 z2
        go_wp2_with fail
        refine (lapart_any ⟨f, f + r, 0⟩ (min d S) (max d S) _).mono ?_
        rintro e t2 ⟨rfl, hb⟩
        have nB := bl_trans hB hb
        have nZ := bZ3.below hb bZ3.lt
        clear hB bZ3 hb z0 z1 z2
        have hB := nB
        have bZ3 := nZ
        clear nB nZ
        cases a1 : apB ⟨f, f + r, 0⟩ (min d S) (max d S)
        · clear a1
          go_wp2_with fail
          refine (clives_any _ (hG.below hB)).mono ?_
          rintro e vz ⟨rfl, hb⟩
          go_wp2
          go_ret
          exact ⟨rfl, bl_trans hB hb⟩
        · have e1 := Q6.out a1
          clear a1 Q6
          obtain rfl := e1
          go_wp2_with fail
          refine (clives_any _ (hG.below hB)).mono ?_
          rintro e vz ⟨rfl, hb⟩
          go_wp2
          go_ret
          exact ⟨rfl, bl_trans hB hb⟩
    · have e1 := Q4.out a1
      clear a1 Q4
      obtain rfl := e1
      have z0 := bZ3.cell 0
      have z1 := bZ3.cell 1
      have z2 := bZ3.cell 2
      simp at z0 z1 z2
      go_wp2_with fail
      refine (lapart_any ⟨f, f + r, 0⟩ P d _).mono ?_
      rintro e t1 ⟨rfl, hb⟩
      have nB := bl_trans hB hb
      have nZ := bZ3.below hb bZ3.lt
      clear hB bZ3 hb z0 z1 z2
      have hB := nB
      have bZ3 := nZ
      clear nB nZ
      cases a1 : apB ⟨f, f + r, 0⟩ P d
      · clear a1
        have z0 := bZ3.cell 0
        have z1 := bZ3.cell 1
        have z2 := bZ3.cell 2
        simp at z0 z1 z2
        go_wp2_with fail
        refine (lapart_any ⟨f, f + r, 0⟩ (min d S) (max d S) _).mono ?_
        rintro e t2 ⟨rfl, hb⟩
        have nB := bl_trans hB hb
        have nZ := bZ3.below hb bZ3.lt
        clear hB bZ3 hb z0 z1 z2
        have hB := nB
        have bZ3 := nZ
        clear nB nZ
        cases a1 : apB ⟨f, f + r, 0⟩ (min d S) (max d S)
        · clear a1
          go_wp2_with fail
          refine (clives_any _ (hG.below hB)).mono ?_
          rintro e vz ⟨rfl, hb⟩
          go_wp2
          go_ret
          exact ⟨rfl, bl_trans hB hb⟩
        · have e1 := Q6.out a1
          clear a1 Q6
          obtain rfl := e1
          go_wp2_with fail
          refine (clives_any _ (hG.below hB)).mono ?_
          rintro e vz ⟨rfl, hb⟩
          go_wp2
          go_ret
          exact ⟨rfl, bl_trans hB hb⟩
      · have e1 := Q5.out a1
        clear a1 Q5
        obtain rfl := e1
        have z0 := bZ3.cell 0
        have z1 := bZ3.cell 1
        have z2 := bZ3.cell 2
        simp at z0 z1 z2
        go_wp2_with fail
        refine (lapart_any ⟨f, f + r, 0⟩ (min d S) (max d S) _).mono ?_
        rintro e t2 ⟨rfl, hb⟩
        have nB := bl_trans hB hb
        have nZ := bZ3.below hb bZ3.lt
        clear hB bZ3 hb z0 z1 z2
        have hB := nB
        have bZ3 := nZ
        clear nB nZ
        cases a1 : apB ⟨f, f + r, 0⟩ (min d S) (max d S)
        · clear a1
          go_wp2_with fail
          refine (clives_any _ (hG.below hB)).mono ?_
          rintro e vz ⟨rfl, hb⟩
          go_wp2
          go_ret
          exact ⟨rfl, bl_trans hB hb⟩
        · have e1 := Q6.out a1
          clear a1 Q6
          obtain rfl := e1
          go_wp2_with fail
          refine (clives_any _ (hG.below hB)).mono ?_
          rintro e vz ⟨rfl, hb⟩
          go_wp2
          go_ret
          exact ⟨rfl, bl_trans hB hb⟩
  · skip
    rename_i hHeld
    clear hHeld
    have hv3 := HB0.out w2 (.slice (some ⟨g2, 0, none⟩) (c.cl.length + 1) cap2) bl2
    have bX := HBX.out.below hv3 HBX.out.lt
    have hB := bl_trans HHB.out hv3
    have HC := Lib.hid (HC0.out.below hv3)
    have bZ3 := (bZ.below bl2 hZV).far (p := ⟨Y, 8, none⟩) hZY1 (.slice (some ⟨g2, 0, none⟩) (c.cl.length + 1) cap2)
    have bY3 := later_blk (x := ⟨f, f + r, 0⟩) ((bY.below bl2 hYV).set 8 (.slice (some ⟨g2, 0, none⟩) (c.cl.length + 1) cap2))
    have how := ownsRow_setCell_below hown3 (a := ⟨Y, 8, none⟩) hYV (.slice (some ⟨g2, 0, none⟩) (c.cl.length + 1) cap2)
    obtain ⟨W3, hW3⟩ : ∃ W3, W3 = w2.setCell ⟨Y, 8, none⟩ (.slice (some ⟨g2, 0, none⟩) (c.cl.length + 1) cap2) := ⟨_, rfl⟩
    rw [← hW3] at bX hB HC bZ3 bY3 how ⊢
    have HCL := Lib.hid (later_in HC.out how hcl3)
    clear hv3 hW3 how hown3 hgrow1 hgrow2 hat1 hat2 hlt1 hlt2 q7 q8 q9 p8 p9 bl1 bl2 bZ bY HB0 HBX HHB HC0 HSRC
    go_wp2_with fail
    refine (HY.out _).mono ?_
    rintro e q ⟨rfl, rfl⟩
    obtain ⟨c0, c1, c2, c3, c4, c5, c6, c7, c8, c9, c10, c11⟩ := bX.cal
    go_wp2_with fail
    refine (M1.out _ _ _ _ (hG.below hB) HC.out).mono ?_
    rintro e u1 ⟨rfl, hb⟩
    clear c0 c1 c2 c3 c4 c5 c6 c7 c8 c9 c10 c11
    have nX := bX.below hb bX.lt
    have nY := bY3.below hb bY3.lt
    have nZ := bZ3.below hb bZ3.lt
    have nB := bl_trans hB hb
    have nC := Lib.hid (HC.out.below hb)
    have nL := Lib.hid (HCL.out.below hb)
    clear bX bY3 bZ3 hB HC HCL hb
    have bX := nX
    have bY3 := nY
    have bZ3 := nZ
    have hB := nB
    have HC := nC
    have HCL := nL
    clear nX nY nZ nB nC nL
    obtain ⟨c0, c1, c2, c3, c4, c5, c6, c7, c8, c9, c10, c11⟩ := bX.cal
    go_wp2_with fail
    refine (M2.out _ _ _ _ (hG.below hB) HC.out).mono ?_
    rintro e u2 ⟨rfl, hb⟩
    clear c0 c1 c2 c3 c4 c5 c6 c7 c8 c9 c10 c11
    have nX := bX.below hb bX.lt
    have nY := bY3.below hb bY3.lt
    have nZ := bZ3.below hb bZ3.lt
    have nB := bl_trans hB hb
    have nC := Lib.hid (HC.out.below hb)
    have nL := Lib.hid (HCL.out.below hb)
    clear bX bY3 bZ3 hB HC HCL hb
    have bX := nX
    have bY3 := nY
    have bZ3 := nZ
    have hB := nB
    have HC := nC
    have HCL := nL
    clear nX nY nZ nB nC nL
    obtain ⟨c0, c1, c2, c3, c4, c5, c6, c7, c8, c9, c10, c11⟩ := bX.cal
    go_wp2_with fail
    refine (M3.out _ _ _ _ (hG.below hB) HC.out).mono ?_
    rintro e u3 ⟨rfl, hb⟩
    clear c0 c1 c2 c3 c4 c5 c6 c7 c8 c9 c10 c11
    have nX := bX.below hb bX.lt
    have nY := bY3.below hb bY3.lt
    have nZ := bZ3.below hb bZ3.lt
    have nB := bl_trans hB hb
    have nC := Lib.hid (HC.out.below hb)
    have nL := Lib.hid (HCL.out.below hb)
    clear bX bY3 bZ3 hB HC HCL hb
    have bX := nX
    have bY3 := nY
    have bZ3 := nZ
    have hB := nB
    have HC := nC
    have HCL := nL
    clear nX nY nZ nB nC nL
    obtain ⟨c0, c1, c2, c3, c4, c5, c6, c7, c8, c9, c10, c11⟩ := bY3.cal
    go_wp2_with fail
    refine (M4.out _ _ _ _ (hG.below hB) HCL.out).mono ?_
    rintro e u4 ⟨rfl, hb⟩
    clear c0 c1 c2 c3 c4 c5 c6 c7 c8 c9 c10 c11
    have nX := bX.below hb bX.lt
    have nY := bY3.below hb bY3.lt
    have nZ := bZ3.below hb bZ3.lt
    have nB := bl_trans hB hb
    have nC := Lib.hid (HC.out.below hb)
    have nL := Lib.hid (HCL.out.below hb)
    clear bX bY3 bZ3 hB HC HCL hb
    have bX := nX
    have bY3 := nY
    have bZ3 := nZ
    have hB := nB
    have HC := nC
    have HCL := nL
    clear nX nY nZ nB nC nL
    obtain ⟨c0, c1, c2, c3, c4, c5, c6, c7, c8, c9, c10, c11⟩ := bY3.cal
    go_wp2_with fail
    refine (M5.out _ _ _ _ (hG.below hB) HCL.out).mono ?_
    rintro e u5 ⟨rfl, hb⟩
    clear c0 c1 c2 c3 c4 c5 c6 c7 c8 c9 c10 c11
    have nX := bX.below hb bX.lt
    have nY := bY3.below hb bY3.lt
    have nZ := bZ3.below hb bZ3.lt
    have nB := bl_trans hB hb
    have nC := Lib.hid (HC.out.below hb)
    have nL := Lib.hid (HCL.out.below hb)
    clear bX bY3 bZ3 hB HC HCL hb
    have bX := nX
    have bY3 := nY
    have bZ3 := nZ
    have hB := nB
    have HC := nC
    have HCL := nL
    clear nX nY nZ nB nC nL
    obtain ⟨c0, c1, c2, c3, c4, c5, c6, c7, c8, c9, c10, c11⟩ := bY3.cal
    go_wp2_with fail
    refine (M6.out _ _ _ _ (hG.below hB) HCL.out).mono ?_
    rintro e u6 ⟨rfl, hb⟩
    clear c0 c1 c2 c3 c4 c5 c6 c7 c8 c9 c10 c11
    have nX := bX.below hb bX.lt
    have nY := bY3.below hb bY3.lt
    have nZ := bZ3.below hb bZ3.lt
    have nB := bl_trans hB hb
    have nC := Lib.hid (HC.out.below hb)
    have nL := Lib.hid (HCL.out.below hb)
    clear bX bY3 bZ3 hB HC HCL hb
    have bX := nX
    have bY3 := nY
    have bZ3 := nZ
    have hB := nB
    have HC := nC
    have HCL := nL
    clear nX nY nZ nB nC nL
    clear bX bY3 HC HCL M1 M2 M3 M4 M5 M6 HD HF HX HY
    have z0 := bZ3.cell 0
    have z1 := bZ3.cell 1
    have z2 := bZ3.cell 2
    simp at z0 z1 z2
    go_wp2_with fail
    refine (lapart_any ⟨f, f + r, 0⟩ d A _).mono ?_
    rintro e t0 ⟨rfl, hb⟩
    have nB := bl_trans hB hb
    have nZ := bZ3.below hb bZ3.lt
    clear hB bZ3 hb z0 z1 z2
    have hB := nB
    have bZ3 := nZ
    clear nB nZ
    cases a1 : apB ⟨f, f + r, 0⟩ d A
    · clear a1
      have z0 := bZ3.cell 0
      have z1 := bZ3.cell 1
      have z2 := bZ3.cell 2
      simp at z0 z1 z2
      go_wp2_with fail
      refine (lapart_any ⟨f, f + r, 0⟩ P d _).mono ?_
      rintro e t1 ⟨rfl, hb⟩
      have nB := bl_trans hB hb
      have nZ := bZ3.below hb bZ3.lt
      clear hB bZ3 hb z0 z1 z2
      have hB := nB
      have bZ3 := nZ
      clear nB nZ
      cases a1 : apB ⟨f, f + r, 0⟩ P d
      · clear a1
        have z0 := bZ3.cell 0
        have z1 := bZ3.cell 1
        have z2 := bZ3.cell 2
        simp at z0 z1 z2
        go_wp2_with fail
        refine (lapart_any ⟨f, f + r, 0⟩ (min d S) (max d S) _).mono ?_
        rintro e t2 ⟨rfl, hb⟩
        have nB := bl_trans hB hb
        have nZ := bZ3.below hb bZ3.lt
        clear hB bZ3 hb z0 z1 z2
        have hB := nB
        have bZ3 := nZ
        clear nB nZ
        cases a1 : apB ⟨f, f + r, 0⟩ (min d S) (max d S)
        · clear a1
          go_wp2_with fail
          refine (clives_any _ (hG.below hB)).mono ?_
          rintro e vz ⟨rfl, hb⟩
          go_wp2
          go_ret
          exact ⟨rfl, bl_trans hB hb⟩
        · have e1 := Q6.out a1
          clear a1 Q6
          obtain rfl := e1
          go_wp2_with fail
          refine (clives_any _ (hG.below hB)).mono ?_
          rintro e vz ⟨rfl, hb⟩
          go_wp2
          go_ret
          exact ⟨rfl, bl_trans hB hb⟩
      · have e1 := Q5.out a1
        clear a1 Q5
        obtain rfl := e1
        have z0 := bZ3.cell 0
        have z1 := bZ3.cell 1
        have z2 := bZ3.cell 2
        simp at z0 z1 z2
        go_wp2_with fail
        refine (lapart_any ⟨f, f + r, 0⟩ (min d S) (max d S) _).mono ?_
        rintro e t2 ⟨rfl, hb⟩
        have nB := bl_trans hB hb
        have nZ := bZ3.below hb bZ3.lt
        clear hB bZ3 hb z0 z1 z2
        have hB := nB
        have bZ3 := nZ
        clear nB nZ
        cases a1 : apB ⟨f, f + r, 0⟩ (min d S) (max d S)
        · clear a1
          go_wp2_with fail
          refine (clives_any _ (hG.below hB)).mono ?_
          rintro e vz ⟨rfl, hb⟩
          go_wp2
          go_ret
          exact ⟨rfl, bl_trans hB hb⟩
        · have e1 := Q6.out a1
          clear a1 Q6
          obtain rfl := e1
          go_wp2_with fail
          refine (clives_any _ (hG.below hB)).mono ?_
          rintro e vz ⟨rfl, hb⟩
          go_wp2
          go_ret
          exact ⟨rfl, bl_trans hB hb⟩
    · have e1 := Q4.out a1
      clear a1 Q4
      obtain rfl := e1
      have z0 := bZ3.cell 0
      have z1 := bZ3.cell 1
      have z2 := bZ3.cell 2
      simp at z0 z1 z2
      go_wp2_with fail
      refine (lapart_any ⟨f, f + r, 0⟩ P d _).mono ?_
      rintro e t1 ⟨rfl, hb⟩
      have nB := bl_trans hB hb
      have nZ := bZ3.below hb bZ3.lt
      clear hB bZ3 hb z0 z1 z2
      have hB := nB
      have bZ3 := nZ
      clear nB nZ
      cases a1 : apB ⟨f, f + r, 0⟩ P d
      · clear a1
        have z0 := bZ3.cell 0
        have z1 := bZ3.cell 1
        have z2 := bZ3.cell 2
        simp at z0 z1 z2
        go_wp2_with fail
        refine (lapart_any ⟨f, f + r, 0⟩ (min d S) (max d S) _).mono ?_
        rintro e t2 ⟨rfl, hb⟩
        have nB := bl_trans hB hb
        have nZ := bZ3.below hb bZ3.lt
        clear hB bZ3 hb z0 z1 z2
        have hB := nB
        have bZ3 := nZ
        clear nB nZ
        cases a1 : apB ⟨f, f + r, 0⟩ (min d S) (max d S)
        · clear a1
          go_wp2_with fail
          refine (clives_any _ (hG.below hB)).mono ?_
          rintro e vz ⟨rfl, hb⟩
          go_wp2
          go_ret
          exact ⟨rfl, bl_trans hB hb⟩
        · have e1 := Q6.out a1
          clear a1 Q6
          obtain rfl := e1
          go_wp2_with fail
          refine (clives_any _ (hG.below hB)).mono ?_
          rintro e vz ⟨rfl, hb⟩
          go_wp2
          go_ret
          exact ⟨rfl, bl_trans hB hb⟩
      · have e1 := Q5.out a1
        clear a1 Q5
        obtain rfl := e1
        have z0 := bZ3.cell 0
        have z1 := bZ3.cell 1
        have z2 := bZ3.cell 2
        simp at z0 z1 z2
        go_wp2_with fail
        refine (lapart_any ⟨f, f + r, 0⟩ (min d S) (max d S) _).mono ?_
        rintro e t2 ⟨rfl, hb⟩
        have nB := bl_trans hB hb
        have nZ := bZ3.below hb bZ3.lt
        clear hB bZ3 hb z0 z1 z2
        have hB := nB
        have bZ3 := nZ
        clear nB nZ
        cases a1 : apB ⟨f, f + r, 0⟩ (min d S) (max d S)
        · clear a1
          go_wp2_with fail
          refine (clives_any _ (hG.below hB)).mono ?_
          rintro e vz ⟨rfl, hb⟩
          go_wp2
          go_ret
          exact ⟨rfl, bl_trans hB hb⟩
        · have e1 := Q6.out a1
          clear a1 Q6
          obtain rfl := e1
          go_wp2_with fail
          refine (clives_any _ (hG.below hB)).mono ?_
          rintro e vz ⟨rfl, hb⟩
          go_wp2
          go_ret
          exact ⟨rfl, bl_trans hB hb⟩
  · skip
    rename_i hHeld
    clear hHeld
    have hv3 := HB0.out w2 (.slice (some ⟨g2, 0, none⟩) (c.cl.length + 1) cap2) bl2
    have bX := HBX.out.below hv3 HBX.out.lt
    have hB := bl_trans HHB.out hv3
    have HC := Lib.hid (HC0.out.below hv3)
    have bZ3 := (bZ.below bl2 hZV).far (p := ⟨Y, 8, none⟩) hZY1 (.slice (some ⟨g2, 0, none⟩) (c.cl.length + 1) cap2)
    have bY3 := later_blk (x := ⟨f, f + r, 0⟩) ((bY.below bl2 hYV).set 8 (.slice (some ⟨g2, 0, none⟩) (c.cl.length + 1) cap2))
    have how := ownsRow_setCell_below hown3 (a := ⟨Y, 8, none⟩) hYV (.slice (some ⟨g2, 0, none⟩) (c.cl.length + 1) cap2)
    obtain ⟨W3, hW3⟩ : ∃ W3, W3 = w2.setCell ⟨Y, 8, none⟩ (.slice (some ⟨g2, 0, none⟩) (c.cl.length + 1) cap2) := ⟨_, rfl⟩
    rw [← hW3] at bX hB HC bZ3 bY3 how ⊢
    have HCL := Lib.hid (later_in HC.out how hcl3)
    clear hv3 hW3 how hown3 hgrow1 hgrow2 hat1 hat2 hlt1 hlt2 q7 q8 q9 p8 p9 bl1 bl2 bZ bY HB0 HBX HHB HC0 HSRC
    go_wp2_with fail
    refine (HY.out _).mono ?_
    rintro e q ⟨rfl, rfl⟩
    obtain ⟨c0, c1, c2, c3, c4, c5, c6, c7, c8, c9, c10, c11⟩ := bX.cal
    go_wp2_with fail
    refine (M1.out _ _ _ _ (hG.below hB) HC.out).mono ?_
    rintro e u1 ⟨rfl, hb⟩
    clear c0 c1 c2 c3 c4 c5 c6 c7 c8 c9 c10 c11
    have nX := bX.below hb bX.lt
    have nY := bY3.below hb bY3.lt
    have nZ := bZ3.below hb bZ3.lt
    have nB := bl_trans hB hb
    have nC := Lib.hid (HC.out.below hb)
    have nL := Lib.hid (HCL.out.below hb)
    clear bX bY3 bZ3 hB HC HCL hb
    have bX := nX
    have bY3 := nY
    have bZ3 := nZ
    have hB := nB
    have HC := nC
    have HCL := nL
    clear nX nY nZ nB nC nL
    obtain ⟨c0, c1, c2, c3, c4, c5, c6, c7, c8, c9, c10, c11⟩ := bX.cal
    go_wp2_with fail
    refine (M2.out _ _ _ _ (hG.below hB) HC.out).mono ?_
    rintro e u2 ⟨rfl, hb⟩
    clear c0 c1 c2 c3 c4 c5 c6 c7 c8 c9 c10 c11
    have nX := bX.below hb bX.lt
    have nY := bY3.below hb bY3.lt
    have nZ := bZ3.below hb bZ3.lt
    have nB := bl_trans hB hb
    have nC := Lib.hid (HC.out.below hb)
    have nL := Lib.hid (HCL.out.below hb)
    clear bX bY3 bZ3 hB HC HCL hb
    have bX := nX
    have bY3 := nY
    have bZ3 := nZ
    have hB := nB
    have HC := nC
    have HCL := nL
    clear nX nY nZ nB nC nL
    obtain ⟨c0, c1, c2, c3, c4, c5, c6, c7, c8, c9, c10, c11⟩ := bX.cal
    go_wp2_with fail
    refine (M3.out _ _ _ _ (hG.below hB) HC.out).mono ?_
    rintro e u3 ⟨rfl, hb⟩
    clear c0 c1 c2 c3 c4 c5 c6 c7 c8 c9 c10 c11
    have nX := bX.below hb bX.lt
    have nY := bY3.below hb bY3.lt
    have nZ := bZ3.below hb bZ3.lt
    have nB := bl_trans hB hb
    have nC := Lib.hid (HC.out.below hb)
    have nL := Lib.hid (HCL.out.below hb)
    clear bX bY3 bZ3 hB HC HCL hb
    have bX := nX
    have bY3 := nY
    have bZ3 := nZ
    have hB := nB
    have HC := nC
    have HCL := nL
    clear nX nY nZ nB nC nL
    obtain ⟨c0, c1, c2, c3, c4, c5, c6, c7, c8, c9, c10, c11⟩ := bY3.cal
    go_wp2_with fail
    refine (M4.out _ _ _ _ (hG.below hB) HCL.out).mono ?_
    rintro e u4 ⟨rfl, hb⟩
    clear c0 c1 c2 c3 c4 c5 c6 c7 c8 c9 c10 c11
    have nX := bX.below hb bX.lt
    have nY := bY3.below hb bY3.lt
    have nZ := bZ3.below hb bZ3.lt
    have nB := bl_trans hB hb
    have nC := Lib.hid (HC.out.below hb)
    have nL := Lib.hid (HCL.out.below hb)
    clear bX bY3 bZ3 hB HC HCL hb
    have bX := nX
    have bY3 := nY
    have bZ3 := nZ
    have hB := nB
    have HC := nC
    have HCL := nL
    clear nX nY nZ nB nC nL
    obtain ⟨c0, c1, c2, c3, c4, c5, c6, c7, c8, c9, c10, c11⟩ := bY3.cal
    go_wp2_with fail
    refine (M5.out _ _ _ _ (hG.below hB) HCL.out).mono ?_
    rintro e u5 ⟨rfl, hb⟩
    clear c0 c1 c2 c3 c4 c5 c6 c7 c8 c9 c10 c11
    have nX := bX.below hb bX.lt
    have nY := bY3.below hb bY3.lt
    have nZ := bZ3.below hb bZ3.lt
    have nB := bl_trans hB hb
    have nC := Lib.hid (HC.out.below hb)
    have nL := Lib.hid (HCL.out.below hb)
    clear bX bY3 bZ3 hB HC HCL hb
    have bX := nX
    have bY3 := nY
    have bZ3 := nZ
    have hB := nB
    have HC := nC
    have HCL := nL
    clear nX nY nZ nB nC nL
    obtain ⟨c0, c1, c2, c3, c4, c5, c6, c7, c8, c9, c10, c11⟩ := bY3.cal
    go_wp2_with fail
    refine (M6.out _ _ _ _ (hG.below hB) HCL.out).mono ?_
    rintro e u6 ⟨rfl, hb⟩
    clear c0 c1 c2 c3 c4 c5 c6 c7 c8 c9 c10 c11
    have nX := bX.below hb bX.lt
    have nY := bY3.below hb bY3.lt
    have nZ := bZ3.below hb bZ3.lt
    have nB := bl_trans hB hb
    have nC := Lib.hid (HC.out.below hb)
    have nL := Lib.hid (HCL.out.below hb)
    clear bX bY3 bZ3 hB HC HCL hb
    have bX := nX
    have bY3 := nY
    have bZ3 := nZ
    have hB := nB
    have HC := nC
    have HCL := nL
    clear nX nY nZ nB nC nL
    clear bX bY3 HC HCL M1 M2 M3 M4 M5 M6 HD HF HX HY
    have z0 := bZ3.cell 0
    have z1 := bZ3.cell 1
    have z2 := bZ3.cell 2
    simp at z0 z1 z2
    go_wp2_with fail
    refine (lapart_any ⟨f, f + r, 0⟩ d A _).mono ?_
    rintro e t0 ⟨rfl, hb⟩
    have nB := bl_trans hB hb
    have nZ := bZ3.below hb bZ3.lt
    clear hB bZ3 hb z0 z1 z2
    have hB := nB
    have bZ3 := nZ
    clear nB nZ
    cases a1 : apB ⟨f, f + r, 0⟩ d A
    · clear a1
      have z0 := bZ3.cell 0
      have z1 := bZ3.cell 1
      have z2 := bZ3.cell 2
      simp at z0 z1 z2
      go_wp2_with fail
      refine (lapart_any ⟨f, f + r, 0⟩ P d _).mono ?_
      rintro e t1 ⟨rfl, hb⟩
      have nB := bl_trans hB hb
      have nZ := bZ3.below hb bZ3.lt
      clear hB bZ3 hb z0 z1 z2
      have hB := nB
      have bZ3 := nZ
      clear nB nZ
      cases a1 : apB ⟨f, f + r, 0⟩ P d
      · clear a1
        have z0 := bZ3.cell 0
        have z1 := bZ3.cell 1
        have z2 := bZ3.cell 2
        simp at z0 z1 z2
        go_wp2_with fail
        refine (lapart_any ⟨f, f + r, 0⟩ (min d S) (max d S) _).mono ?_
        rintro e t2 ⟨rfl, hb⟩
        have nB := bl_trans hB hb
        have nZ := bZ3.below hb bZ3.lt
        clear hB bZ3 hb z0 z1 z2
        have hB := nB
        have bZ3 := nZ
        clear nB nZ
        cases a1 : apB ⟨f, f + r, 0⟩ (min d S) (max d S)
        · clear a1
          go_wp2_with fail
          refine (clives_any _ (hG.below hB)).mono ?_
          rintro e vz ⟨rfl, hb⟩
          go_wp2
          go_ret
          exact ⟨rfl, bl_trans hB hb⟩
        · have e1 := Q6.out a1
          clear a1 Q6
          obtain rfl := e1
          go_wp2_with fail
          refine (clives_any _ (hG.below hB)).mono ?_
          rintro e vz ⟨rfl, hb⟩
          go_wp2
          go_ret
          exact ⟨rfl, bl_trans hB hb⟩
      · have e1 := Q5.out a1
        clear a1 Q5
        obtain rfl := e1
        have z0 := bZ3.cell 0
        have z1 := bZ3.cell 1
        have z2 := bZ3.cell 2
        simp at z0 z1 z2
        go_wp2_with fail
        refine (lapart_any ⟨f, f + r, 0⟩ (min d S) (max d S) _).mono ?_
        rintro e t2 ⟨rfl, hb⟩
        have nB := bl_trans hB hb
        have nZ := bZ3.below hb bZ3.lt
        clear hB bZ3 hb z0 z1 z2
        have hB := nB
        have bZ3 := nZ
        clear nB nZ
        cases a1 : apB ⟨f, f + r, 0⟩ (min d S) (max d S)
        · clear a1
          go_wp2_with fail
          refine (clives_any _ (hG.below hB)).mono ?_
          rintro e vz ⟨rfl, hb⟩
          go_wp2
          go_ret
          exact ⟨rfl, bl_trans hB hb⟩
        · have e1 := Q6.out a1
          clear a1 Q6
          obtain rfl := e1
          go_wp2_with fail
          refine (clives_any _ (hG.below hB)).mono ?_
          rintro e vz ⟨rfl, hb⟩
          go_wp2
          go_ret
          exact ⟨rfl, bl_trans hB hb⟩
    · have e1 := Q4.out a1
      clear a1 Q4
      obtain rfl := e1
      have z0 := bZ3.cell 0
      have z1 := bZ3.cell 1
      have z2 := bZ3.cell 2
      simp at z0 z1 z2
      go_wp2_with fail
      refine (lapart_any ⟨f, f + r, 0⟩ P d _).mono ?_
      rintro e t1 ⟨rfl, hb⟩
      have nB := bl_trans hB hb
      have nZ := bZ3.below hb bZ3.lt
      clear hB bZ3 hb z0 z1 z2
      have hB := nB
      have bZ3 := nZ
      clear nB nZ
      cases a1 : apB ⟨f, f + r, 0⟩ P d
      · clear a1
        have z0 := bZ3.cell 0
        have z1 := bZ3.cell 1
        have z2 := bZ3.cell 2
        simp at z0 z1 z2
        go_wp2_with fail
        refine (lapart_any ⟨f, f + r, 0⟩ (min d S) (max d S) _).mono ?_
        rintro e t2 ⟨rfl, hb⟩
        have nB := bl_trans hB hb
        have nZ := bZ3.below hb bZ3.lt
        clear hB bZ3 hb z0 z1 z2
        have hB := nB
        have bZ3 := nZ
        clear nB nZ
        cases a1 : apB ⟨f, f + r, 0⟩ (min d S) (max d S)
        · clear a1
          go_wp2_with fail
          refine (clives_any _ (hG.below hB)).mono ?_
          rintro e vz ⟨rfl, hb⟩
          go_wp2
          go_ret
          exact ⟨rfl, bl_trans hB hb⟩
        · have e1 := Q6.out a1
          clear a1 Q6
          obtain rfl := e1
          go_wp2_with fail
          refine (clives_any _ (hG.below hB)).mono ?_
          rintro e vz ⟨rfl, hb⟩
          go_wp2
          go_ret
          exact ⟨rfl, bl_trans hB hb⟩
      · have e1 := Q5.out a1
        clear a1 Q5
        obtain rfl := e1
        have z0 := bZ3.cell 0
        have z1 := bZ3.cell 1
        have z2 := bZ3.cell 2
        simp at z0 z1 z2
        go_wp2_with fail
        refine (lapart_any ⟨f, f + r, 0⟩ (min d S) (max d S) _).mono ?_
        rintro e t2 ⟨rfl, hb⟩
        have nB := bl_trans hB hb
        have nZ := bZ3.below hb bZ3.lt
        clear hB bZ3 hb z0 z1 z2
        have hB := nB
        have bZ3 := nZ
        clear nB nZ
        cases a1 : apB ⟨f, f + r, 0⟩ (min d S) (max d S)
        · clear a1
          go_wp2_with fail
          refine (clives_any _ (hG.below hB)).mono ?_
          rintro e vz ⟨rfl, hb⟩
          go_wp2
          go_ret
          exact ⟨rfl, bl_trans hB hb⟩
        · have e1 := Q6.out a1
          clear a1 Q6
          obtain rfl := e1
          go_wp2_with fail
          refine (clives_any _ (hG.below hB)).mono ?_
          rintro e vz ⟨rfl, hb⟩
          go_wp2
          go_ret
          exact ⟨rfl, bl_trans hB hb⟩
end Go.Proofs.YtiilljcnikgeaaaDoor
