/- The walk of the law CalendarLearns: it returns true at every input. Conditions: the numbers are ints that lie in memory, the listed tables lie in memory. -/
import Derived.Test.YtiilljcnikgeaaaDoorCLvs
import Derived.Test.YtiilljcnikgeaaaDoorCLt
import Derived.Test.YtiilljcnikgeaaaDoorKStep
import Derived.Test.YtiilljcnikgeaaaDoorCPrev
import Derived.Test.YtiilljcnikgeaaaDoorCAdd
import Derived.Deep.RegionHeld3
namespace Go.Proofs.YtiilljcnikgeaaaDoor
open Go.RowKit

theorem blk_drew {w : World} {g t : Nat} {cs : Array Value} (h : Blk w g t cs) : Blk w.drew g t cs := h
structure Tail (P : Prop) : Prop where
  out : P
theorem share {P Q : Prop} (h : Tail P → Q) (p : P) : Q := h ⟨p⟩
theorem own_norm {w : World} {B e k g cap n : Nat} {xs : List Value} (h : w.ownsRow B e k (.slice (some ⟨g, 0, none⟩) (0 + n) cap) (0 + n) ([] ++ xs)) : w.ownsRow B e k (.slice (some ⟨g, 0, none⟩) n cap) n xs := by
  rw [Nat.zero_add, List.nil_append] at h
  exact h
theorem own_norm2 {w : World} {B e k g cap n m : Nat} {xs ys : List Value} (h : w.ownsRow B e k (.slice (some ⟨g, 0, none⟩) (0 + n + m) cap) (0 + n + m) (([] ++ xs) ++ ys)) : w.ownsRow B e k (.slice (some ⟨g, 0, none⟩) (n + m) cap) (n + m) (xs ++ ys) := by
  rw [Nat.zero_add, List.nil_append] at h
  exact h
theorem later_in {W : World} {c : Cal} {vh vc vs : Value} {B e g cap : Nat} {f r k : Int} (HC : CalIn W vh vc vs c) (how : W.ownsRow B e 3 (.slice (some ⟨g, 0, none⟩) (c.cl.length + 1) cap) (c.cl.length + 1) (flatE encC c.cl ++ [.int .i64 f, .int .i64 (f + r), .int .i64 (k + 1)])) (h3 : c.cl.length ≤ 3) : CalIn W vh (.slice (some ⟨g, 0, none⟩) (c.cl.length + 1) cap) vs (addC c ⟨f, f + r, k + 1⟩) := by
  refine ⟨HC.ih, ?_, HC.is, HC.hv, HC.hl⟩
  have hl : (addC c ⟨f, f + r, k + 1⟩).cl.length = c.cl.length + 1 := by show (c.cl ++ [_]).length = _; simp
  have hf : flatE encC (addC c ⟨f, f + r, k + 1⟩).cl = flatE encC c.cl ++ [.int .i64 f, .int .i64 (f + r), .int .i64 (k + 1)] := flatE_snoc _ _
  refine IsRow.of_row (B := B) (e := e) encC_len ?_ (by rw [hl]; have : maxLen = 9223372036854775807 := rfl; omega)
  rw [hl, hf]
  exact how
theorem later_blk {W : World} {Y t : Nat} {c : Cal} {x : Clo} {vh vc vs v : Value} (b : Blk W Y t ((cellsC c vh vc vs).setIfInBounds 8 v)) : Blk W Y t (cellsC (addC c x) vh v vs) := b
theorem src_row {w : World} {B e k : Nat} {α : Type} {enc : α → List Value} {v : Value} {l : List α} (hk : ∀ x, (enc x).length = k) (h : w.ownsRow B e k v l.length (flatE enc l)) : SrcIs w v k l.length (flatE enc l) := by
  rcases h.2 with ⟨h1, h2⟩ | ⟨g, cap, cur, h1, hg, hh, r1, r2, r3, r4⟩
  · have hl : l = [] := List.length_eq_zero_iff.1 h2
    subst hl
    exact .inl ⟨h1, rfl, rfl⟩
  · refine .inr ⟨⟨g, 0, none⟩, cap, h1, flatE_len hk l, fun j u hu => ?_⟩
    rw [Go.WideShapes.add_plain, Nat.zero_add]
    exact blk_cells (n := l.length * k) hh r4 j u hu
set_option maxRecDepth 100000 in
set_option maxHeartbeats 8000000 in
theorem law_clearns (v : Value) (zs : List Int) (n fr le kn : Int) (w : World) (hI : IsIntsC w v zs) (hz : InR zs) (hG : GoodH w) (b0 : -9223372036854775808 ≤ n) (t0 : n ≤ 9223372036854775807) (b1 : -9223372036854775808 ≤ fr) (t1 : fr ≤ 9223372036854775807) (b2 : -9223372036854775808 ≤ le) (t2 : le ≤ 9223372036854775807) (b3 : -9223372036854775808 ≤ kn) (t3 : kn ≤ 9223372036854775807) :
    Calls Tryd.prog 8 #[v, .int .i64 n, .int .i64 fr, .int .i64 le, .int .i64 kn] w (Ret (.bool true) w) := by
  have hck := cal_any v zs w hI hz
  have hpost := fun e w' h => @CalPost.in zs w e w' h
  have hreg := mkCal_reg zs
  have hok := mkCal_ok zs
  have hlen := mkCal_len zs
  have hhr := mkCal_hr zs
  have hcl3 : (mkCal zs).cl.length ≤ 3 := by show (cClos _ _).length ≤ 3; rw [cClos_len]; exact cN_le _ _
  generalize mkCal zs = c at *
  have HCK := Lib.hid hck; have HPOST := Lib.hid hpost; have HREG := Lib.hid hreg; have HOK := Lib.hid hok
  clear hck hpost hreg hok hI hz
  obtain ⟨d1, d2⟩ := dayL_bd n
  obtain ⟨f1, f2⟩ := dayL_bd fr
  obtain ⟨k1, k2⟩ := dayL_bd kn
  have hd := fun w => lday_any n w b0 t0
  have hf := fun w => lday_any fr w b1 t1
  have hk := fun w => lday_any kn w b3 t3
  obtain ⟨x1, x2⟩ := around_bd le (m := 30) (by omega)
  have hx := fun w => around01 le 30 w b2 t2 (by omega) (by omega)
  generalize dayL n = d at *
  generalize dayL fr = f at *
  generalize dayL kn = k at *
  generalize around le 30 = r at *
  obtain ⟨q1, q2, q3, q4, q5, q6, q7, q8, q9, q10, q11, q12⟩ := learn_ok HREG.out (x := ⟨f, f + r, k + 1⟩) (d := d) (k := k) (by show f + r ≤ f + 29; omega) rfl (by omega) (by omega)
  have m1 := fun vh vc vs w hG hc => next_any c vh vc vs d k w hG hc
  have m2 := fun vh vc vs w hG hc => next_any (addC c ⟨f, f + r, k + 1⟩) vh vc vs d k w hG hc
  have m3 := fun vh vc vs w hG hc => open_any c vh vc vs d k w hG hc
  have m4 := fun vh vc vs w hG hc => open_any (addC c ⟨f, f + r, k + 1⟩) vh vc vs d k w hG hc
  have m5 := fun vh vc vs w hG hc => count_any c vh vc vs d (d + 50) k w hG hc (by omega) (by omega) (by omega) (by omega)
  have m6 := fun vh vc vs w hG hc => count_any (addC c ⟨f, f + r, k + 1⟩) vh vc vs d (d + 50) k w hG hc (by omega) (by omega) (by omega) (by omega)
  have m7 := fun vh vc vs w hG hc => next_any c vh vc vs d (k + 1) w hG hc
  have m8 := fun vh vc vs w hG hc => next_any (addC c ⟨f, f + r, k + 1⟩) vh vc vs d (k + 1) w hG hc
  have m9 := fun vh vc vs w hG hc => prev_any c vh vc vs d (k + 1) w hG hc
  have m10 := fun vh vc vs w hG hc => prev_any (addC c ⟨f, f + r, k + 1⟩) vh vc vs d (k + 1) w hG hc
  have m11 := fun vh vc vs w hG hc => open_any (addC c ⟨f, f + r, k + 1⟩) vh vc vs d (k + 1) w hG hc
  have m12 := fun vh vc vs w hG hc => open_any c vh vc vs d (k + 1) w hG hc
  have m13 := fun vh vc vs w hG hc => count_any (addC c ⟨f, f + r, k + 1⟩) vh vc vs d (d + 50) (k + 1) w hG hc (by omega) (by omega) (by omega) (by omega)
  have m14 := fun vh vc vs w hG hc => count_any c vh vc vs d (d + 50) (k + 1) w hG hc (by omega) (by omega) (by omega) (by omega)
  rw [q1, q2] at m2
  rw [q3] at m4
  rw [q4] at m6
  rw [q5] at m7
  rw [q6] at m8
  rw [q7] at m9
  rw [q8] at m10
  generalize fstV c k d 1 = A at *
  generalize fstE c k d 1 = E at *
  generalize openB c k d = O at *
  generalize cntV c k d (d + 50) = C at *
  generalize fstV c (k + 1) d 1 = A1 at *
  generalize fstV (addC c ⟨f, f + r, k + 1⟩) (k + 1) d 1 = A2 at *
  generalize fstV c (k + 1) d (-1) = P1 at *
  generalize fstV (addC c ⟨f, f + r, k + 1⟩) (k + 1) d (-1) = P2 at *
  generalize openB c (k + 1) d = O1 at *
  generalize openB (addC c ⟨f, f + r, k + 1⟩) (k + 1) d = O2 at *
  generalize cntV c (k + 1) d (d + 50) = C1 at *
  generalize cntV (addC c ⟨f, f + r, k + 1⟩) (k + 1) d (d + 50) = C2 at *
  have hle : decide (C2 ≤ C1) = true := decide_eq_true q12
  have hwd : IntKind.i64.wrap (d + 50) = d + 50 := IntWalk.i64_in _ (by omega)
  have hwk : IntKind.i64.wrap (k + 1) = k + 1 := IntWalk.i64_in _ (by omega)
  have OP := Lib.hid q11
  have HD := Lib.hid hd; have HF := Lib.hid hf; have HX := Lib.hid hx; have HK := Lib.hid hk; have QA := Lib.hid q9; have QP := Lib.hid q10; have HLE := Lib.hid hle; have HWD := Lib.hid hwd; have HWK := Lib.hid hwk
  have M1 := Lib.hid m1; have M2 := Lib.hid m2; have M3 := Lib.hid m3; have M4 := Lib.hid m4; have M5 := Lib.hid m5; have M6 := Lib.hid m6; have M7 := Lib.hid m7; have M8 := Lib.hid m8; have M9 := Lib.hid m9; have M10 := Lib.hid m10; have M11 := Lib.hid m11; have M12 := Lib.hid m12; have M13 := Lib.hid m13; have M14 := Lib.hid m14
  clear hd hf hx hk hhr m1 m2 m3 m4 m5 m6 m7 m8 m9 m10 m11 m12 m13 m14 q1 q2 q3 q4 q5 q6 q7 q8 q9 q10 q11 q12 hle hwd hwk
  obtain ⟨i1, hi', hy0, hy1, hy2⟩ := info_parts infoClo
  have hms : maxLen = 9223372036854775807 := rfl
  have HMS := Lib.hid hms; clear hms
  go_enter Tryd.func8, Tryd.ntmps8
  go_wp2_with fail
  refine HCK.out.mono ?_
  intro e w1 hp
  obtain ⟨vh, vc, vs, rfl, hc, ⟨hr1, hr2⟩, hb1⟩ := HPOST.out _ _ hp
  clear hp
  obtain ⟨ha, hcp, rfl⟩ := row_slice hr1
  obtain ⟨ca, ccp, rfl⟩ := row_slice hr2
  obtain ⟨sa, scp, rfl, hsl⟩ := hc.is.slice
  have bX := Blk.new w1 30 (cellsC c (.slice ha c.hs.length hcp) (.slice ca c.cl.length ccp) (.slice sa c.sh.length scp))
  have hB := bl_trans hb1 (bl_alloc w1 (.cells (cellsC c (.slice ha c.hs.length hcp) (.slice ca c.cl.length ccp) (.slice sa c.sh.length scp)) 30))
  have HC := Lib.hid (hc.alloc (.cells (cellsC c (.slice ha c.hs.length hcp) (.slice ca c.cl.length ccp) (.slice sa c.sh.length scp)) 30))
  go_wp2_with fail
  obtain ⟨X, hX⟩ : ∃ X, X = w1.heap.size := ⟨_, rfl⟩
  rw [← hX] at bX ⊢
  have hrv := hr2.alloc (.cells (cellsC c (.slice ha c.hs.length hcp) (.slice ca c.cl.length ccp) (.slice sa c.sh.length scp)) 30)
  clear hX hc hr1 hr2 hb1
  obtain ⟨V0, hV0⟩ : ∃ V0, w1.alloc (.cells (cellsC c (.slice ha c.hs.length hcp) (.slice ca c.cl.length ccp) (.slice sa c.sh.length scp)) 30) = V0 := ⟨_, rfl⟩
  rw [hV0] at bX hB HC hrv ⊢
  clear hV0 w1
  obtain ⟨c0, c1, c2, c3, c4, c5, c6, c7, c8, c9, c10, c11⟩ := bX.cal
  refine (HD.out _).mono ?_
  rintro e q ⟨rfl, rfl⟩
  go_wp2_with fail
  refine (HK.out _).mono ?_
  rintro e q ⟨rfl, rfl⟩
  go_wp2_with fail
  refine (HF.out _).mono ?_
  rintro e q ⟨rfl, rfl⟩
  go_wp2_with fail
  refine (HF.out _).mono ?_
  rintro e q ⟨rfl, rfl⟩
  go_wp2_with fail
  refine (HX.out _).mono ?_
  rintro e q ⟨rfl, rfl⟩
  have hXl := bX.lt
  go_upto_region 6 with (fail)
  have bY : Blk ((V0.alloc (.cells (cellsC c (.slice ha c.hs.length hcp) (.slice ca c.cl.length ccp) (.slice sa c.sh.length scp)) 30)).alloc (.cells #[.int .i64 f, .int .i64 (f + r), .int .i64 (k + 1)] 36)) V0.heap.size 30 (cellsC c (.slice ha c.hs.length hcp) (.slice ca c.cl.length ccp) (.slice sa c.sh.length scp)) := (Blk.new _ _ _).alloc _
  have bZ : Blk ((V0.alloc (.cells (cellsC c (.slice ha c.hs.length hcp) (.slice ca c.cl.length ccp) (.slice sa c.sh.length scp)) 30)).alloc (.cells #[.int .i64 f, .int .i64 (f + r), .int .i64 (k + 1)] 36)) (V0.heap.size + 1) 36 #[.int .i64 f, .int .i64 (f + r), .int .i64 (k + 1)] := Blk.at (by simp) _ _
  have hb1 := bl_trans (bl_alloc V0 (.cells (cellsC c (.slice ha c.hs.length hcp) (.slice ca c.cl.length ccp) (.slice sa c.sh.length scp)) 30)) (bl_alloc _ (.cells #[.int .i64 f, .int .i64 (f + r), .int .i64 (k + 1)] 36))
  have hsz1 : ((V0.alloc (.cells (cellsC c (.slice ha c.hs.length hcp) (.slice ca c.cl.length ccp) (.slice sa c.sh.length scp)) 30)).alloc (.cells #[.int .i64 f, .int .i64 (f + r), .int .i64 (k + 1)] 36)).heap.size = V0.heap.size + 2 := by simp
  obtain ⟨V1, hV1⟩ : ∃ V1, (V0.alloc (.cells (cellsC c (.slice ha c.hs.length hcp) (.slice ca c.cl.length ccp) (.slice sa c.sh.length scp)) 30)).alloc (.cells #[.int .i64 f, .int .i64 (f + r), .int .i64 (k + 1)] 36) = V1 := ⟨_, rfl⟩
  rw [hV1] at bZ bY hb1 hsz1 ⊢
  have bX1 := bX.below hb1 hXl
  have hB1 := bl_trans hB hb1
  have HC1 := Lib.hid (HC.out.below hb1)
  have hrv1 := row_below hrv hb1
  obtain ⟨Y, hY⟩ : ∃ Y, V0.heap.size = Y := ⟨_, rfl⟩
  rw [hY] at bZ bY hXl hsz1 ⊢
  obtain ⟨Z, hZ⟩ : ∃ Z, Y + 1 = Z := ⟨_, rfl⟩
  rw [hZ] at bZ ⊢
  have hXY0 : X < Y := hXl
  have hYZ0 : Y < Z := by omega
  have hXZ : X < Z := by omega
  have hYV : Y < V1.heap.size := by omega
  have hXY : X ≠ Y := by omega
  have hYX : Y ≠ X := by omega
  have hZY1 : Z ≠ Y := by omega
  have hYZ : Y ≠ Z := by omega
  have hb0 : ∀ (W : World) (u : Value), Below V1.heap.size V1 W → Below V0.heap.size V0 (W.setCell ⟨Y, 8, none⟩ u) := fun W u h => (bl_trans hb1 h).setCell (p := ⟨Y, 8, none⟩) (by show V0.heap.size ≤ Y; omega) u
  have HB0 := Lib.hid hb0; have HBX := Lib.hid bX; have HHB := Lib.hid hB; have HC0 := HC
  clear hV1 hrv bX hB HC hb1 c0 c1 c2 c3 c4 c5 c6 c7 c8 c9 c10 c11 hsz1 hY hXl hb0 HC1 hB1 hZ hXY0 hYZ0
  have k8 := bX1.cell 8
  have z0 := bZ.cell 0
  have z1 := bZ.cell 1
  have z2 := bZ.cell 2
  have y8 := bY.frozen 8
  have y8c := bY.cell 8
  simp at k8 z0 z1 z2 y8c
  have HSRC := Lib.hid (fun W (hb : Below V1.heap.size V1 W) => src_row (α := Clo) (enc := encC) encC_len (row_below hrv1 hb))
  clear hrv1
  have hXV : X < V1.heap.size := bX1.lt
  have hZV : Z < V1.heap.size := bZ.lt
  apply share
  · intro tail
    go_region_held3? (fun w' => w'.cell? ⟨X, 8, none⟩ = some (.slice ca c.cl.length ccp) ∧ w'.cell? ⟨Z, 0, none⟩ = some (.int .i64 f) ∧ w'.cell? ⟨Z, 1, none⟩ = some (.int .i64 (f + r)) ∧ w'.cell? ⟨Z, 2, none⟩ = some (.int .i64 (k + 1))) (first | go_keep | (go_split_ands; exact ⟨(hgrow2.cell_far ⟨X, 8, none⟩ (by have := hgrow1.size; simp at this ⊢; omega) (by have := hat1; simp at this ⊢; omega)).trans (by go_simp), (hgrow2.cell_far ⟨Z, 0, none⟩ (by have := hgrow1.size; simp at this ⊢; omega) (by have := hat1; simp at this ⊢; omega)).trans (by go_simp), (hgrow2.cell_far ⟨Z, 1, none⟩ (by have := hgrow1.size; simp at this ⊢; omega) (by have := hat1; simp at this ⊢; omega)).trans (by go_simp), (hgrow2.cell_far ⟨Z, 2, none⟩ (by have := hgrow1.size; simp at this ⊢; omega) (by have := hat1; simp at this ⊢; omega)).trans (by go_simp)⟩) | (go_split_ands; exact ⟨(hgrow1.cell_far ⟨X, 8, none⟩ (by simp; omega) (by simp; omega)).trans (by go_simp), (hgrow1.cell_far ⟨Z, 0, none⟩ (by simp; omega) (by simp; omega)).trans (by go_simp), (hgrow1.cell_far ⟨Z, 1, none⟩ (by simp; omega) (by simp; omega)).trans (by go_simp), (hgrow1.cell_far ⟨Z, 2, none⟩ (by simp; omega) (by simp; omega)).trans (by go_simp)⟩)) (first | (refine step_append_some (by rfl) (.tmp 42) (.tmp 44) 25 (by rfl) V1.heap.size 36 i1 _ 3 24 Tryd.underlying25 hi' hy0 hy1 hy2 rfl (by omega) (V1.heap.size) 0 0 [] (by rfl) (row_base (row_empty (Blk.new _ _ _)) (by simp)) (.slice ca c.cl.length ccp) c.cl.length (flatE encC c.cl) (by rfl) (HSRC.out _ (bl_trans (bl_drew V1) (bl_alloc _ _))) (one_flat encC_one c.cl) (by have := HMS.out; omega) (by omega) (by simp; try omega) ?_; intro g1 cap1 w1 hown0 hgrow1 hat1 hlt1; have hown1 := own_norm hown0; have q7 : Y < w1.heap.size := (by have := hgrow1.size; simp at this; omega); have q8 : w1.cell? ⟨Y, 8, none⟩ = some (.slice ca c.cl.length ccp) := (hgrow1.cell_far ⟨Y, 8, none⟩ (by simp; omega) (by simp; omega)).trans (by go_simp); have q9 : w1.frozen? ⟨Y, 8, none⟩ = false := (hgrow1.frozen_far ⟨Y, 8, none⟩ (by simp; omega) (by simp; omega)).trans (by go_simp); have bl1 : Below V1.heap.size V1 w1 := Below.grown (bl_trans (bl_drew V1) (bl_alloc _ _)) hgrow1 (by simp; try omega) (fun k e => by cases e; omega)) | (refine step_append_some (by rfl) (.tmp 42) (.tmp 44) 25 (by rfl) V1.heap.size 36 i1 _ 3 24 Tryd.underlying25 hi' hy0 hy1 hy2 rfl (by omega) (V1.heap.size) 0 0 [] (by rfl) (row_base (row_empty ((Blk.new _ _ _).alloc _)) (by simp)) (.slice ca c.cl.length ccp) c.cl.length (flatE encC c.cl) (by rfl) (HSRC.out _ (bl_trans (bl_trans (bl_drew V1) (bl_alloc _ _)) (bl_alloc _ _))) (one_flat encC_one c.cl) (by have := HMS.out; omega) (by omega) (by simp; try omega) ?_; intro g1 cap1 w1 hown0 hgrow1 hat1 hlt1; have hown1 := own_norm hown0; have q7 : Y < w1.heap.size := (by have := hgrow1.size; simp at this; omega); have q8 : w1.cell? ⟨Y, 8, none⟩ = some (.slice ca c.cl.length ccp) := (hgrow1.cell_far ⟨Y, 8, none⟩ (by simp; omega) (by simp; omega)).trans (by go_simp); have q9 : w1.frozen? ⟨Y, 8, none⟩ = false := (hgrow1.frozen_far ⟨Y, 8, none⟩ (by simp; omega) (by simp; omega)).trans (by go_simp); have bl1 : Below V1.heap.size V1 w1 := Below.grown (bl_trans (bl_trans (bl_drew V1) (bl_alloc _ _)) (bl_alloc _ _)) hgrow1 (by simp; try omega) (fun k e => by cases e; omega)) | (refine step_append_some (by rfl) (.tmp 42) (.tmp 44) 25 (by rfl) V1.heap.size 36 i1 _ 3 24 Tryd.underlying25 hi' hy0 hy1 hy2 rfl (by omega) (V1.heap.size + 1) 0 0 [] (by rfl) (row_base (row_empty (Blk.at (by simp) _ _)) (by simp)) (.slice ca c.cl.length ccp) c.cl.length (flatE encC c.cl) (by rfl) (HSRC.out _ (bl_trans (bl_trans (bl_drew V1) (bl_alloc _ _)) (bl_alloc _ _))) (one_flat encC_one c.cl) (by have := HMS.out; omega) (by omega) (by simp; try omega) ?_; intro g1 cap1 w1 hown0 hgrow1 hat1 hlt1; have hown1 := own_norm hown0; have q7 : Y < w1.heap.size := (by have := hgrow1.size; simp at this; omega); have q8 : w1.cell? ⟨Y, 8, none⟩ = some (.slice ca c.cl.length ccp) := (hgrow1.cell_far ⟨Y, 8, none⟩ (by simp; omega) (by simp; omega)).trans (by go_simp); have q9 : w1.frozen? ⟨Y, 8, none⟩ = false := (hgrow1.frozen_far ⟨Y, 8, none⟩ (by simp; omega) (by simp; omega)).trans (by go_simp); have bl1 : Below V1.heap.size V1 w1 := Below.grown (bl_trans (bl_trans (bl_drew V1) (bl_alloc _ _)) (bl_alloc _ _)) hgrow1 (by simp; try omega) (fun k e => by cases e; omega)) | (refine step_append_some (by rfl) (.tmp 45) (.tmp 47) 25 (by rfl) V1.heap.size 36 i1 _ 3 24 Tryd.underlying25 hi' hy0 hy1 hy2 rfl (by omega) g1 cap1 c.cl.length (flatE encC c.cl) (by rfl) (hown1.alloc _) (.slice (some ⟨w1.heap.size, 0, none⟩) 1 1) 1 [.int .i64 f, .int .i64 (f + r), .int .i64 (k + 1)] (by rfl) (.inr ⟨⟨w1.heap.size, 0, none⟩, 1, rfl, rfl, World.news_of_block (cs := #[.int .i64 f, .int .i64 (f + r), .int .i64 (k + 1)]) (t := 36) (fr := (0, 0)) (heap_alloc_new w1 _)⟩) (by simp [Value.oneCell']) (by have := HMS.out; omega) (by omega) (by have := hgrow1.size; simp at this ⊢; omega) ?_; intro g2 cap2 w2 hown2 hgrow2 hat2 hlt2; have p8 : w2.cell? ⟨Y, 8, none⟩ = some (.slice ca c.cl.length ccp) := (hgrow2.cell_far ⟨Y, 8, none⟩ (by have := hgrow1.size; simp at this ⊢; omega) (by have := hat1; simp at this ⊢; omega)).trans (by go_simp); have p9 : w2.frozen? ⟨Y, 8, none⟩ = false := (hgrow2.frozen_far ⟨Y, 8, none⟩ (by have := hgrow1.size; simp at this ⊢; omega) (by have := hat1; simp at this ⊢; omega)).trans (by go_simp); have hown3 : w2.ownsRow V1.heap.size 36 3 (.slice (some ⟨g2, 0, none⟩) (c.cl.length + 1) cap2) (c.cl.length + 1) (flatE encC c.cl ++ [.int .i64 f, .int .i64 (f + r), .int .i64 (k + 1)]) := hown2; have bl2 : Below V1.heap.size V1 w2 := Below.grown (bl1.alloc (by have := hgrow1.size; simp at this; omega) _) hgrow2 (by have := hgrow1.size; simp at this ⊢; omega) (fun k e => by cases e; have := hat1; simp at this; omega); clear hown2 hown0 hown1) | (refine step_append_some (by rfl) (.tmp 45) (.tmp 47) 25 (by rfl) V1.heap.size 36 i1 _ 3 24 Tryd.underlying25 hi' hy0 hy1 hy2 rfl (by omega) g1 cap1 (0 + c.cl.length) ([] ++ flatE encC c.cl) (by rfl) (hown0) (.slice (some ⟨V1.heap.size + 1, 0, none⟩) 1 1) 1 [.int .i64 f, .int .i64 (f + r), .int .i64 (k + 1)] (by rfl) (.inr ⟨⟨V1.heap.size + 1, 0, none⟩, 1, rfl, rfl, World.news_of_block (cs := #[.int .i64 f, .int .i64 (f + r), .int .i64 (k + 1)]) (t := 36) (fr := (0, 0)) (by first | exact (hgrow1.block _ (by simp) (by simp)).trans (blk_drew (Blk.at (by simp) _ _)) | exact (hgrow1.block _ (by simp) (by simp)).trans (Blk.at (by simp) _ _))⟩) (by simp [Value.oneCell']) (by have := HMS.out; omega) (by omega) (by have := hgrow1.size; simp at this ⊢; omega) ?_; intro g2 cap2 w2 hown2 hgrow2 hat2 hlt2; have p8 : w2.cell? ⟨Y, 8, none⟩ = some (.slice ca c.cl.length ccp) := (hgrow2.cell_far ⟨Y, 8, none⟩ (by have := hgrow1.size; simp at this ⊢; omega) (by have := hat1; simp at this ⊢; omega)).trans (by go_simp); have p9 : w2.frozen? ⟨Y, 8, none⟩ = false := (hgrow2.frozen_far ⟨Y, 8, none⟩ (by have := hgrow1.size; simp at this ⊢; omega) (by have := hat1; simp at this ⊢; omega)).trans (by go_simp); have hown3 : w2.ownsRow V1.heap.size 36 3 (.slice (some ⟨g2, 0, none⟩) (c.cl.length + 1) cap2) (c.cl.length + 1) (flatE encC c.cl ++ [.int .i64 f, .int .i64 (f + r), .int .i64 (k + 1)]) := own_norm2 hown2; have bl2 : Below V1.heap.size V1 w2 := Below.grown (bl1) hgrow2 (by have := hgrow1.size; simp at this ⊢; omega) (fun k e => by cases e; have := hat1; simp at this; omega); clear hown2 hown0 hown1) | (refine step_append_some (by rfl) (.tmp 45) (.tmp 47) 25 (by rfl) V1.heap.size 36 i1 _ 3 24 Tryd.underlying25 hi' hy0 hy1 hy2 rfl (by omega) g1 cap1 (0 + c.cl.length) ([] ++ flatE encC c.cl) (by rfl) (hown0) (.slice (some ⟨V1.heap.size, 0, none⟩) 1 1) 1 [.int .i64 f, .int .i64 (f + r), .int .i64 (k + 1)] (by rfl) (.inr ⟨⟨V1.heap.size, 0, none⟩, 1, rfl, rfl, World.news_of_block (cs := #[.int .i64 f, .int .i64 (f + r), .int .i64 (k + 1)]) (t := 36) (fr := (0, 0)) (by first | exact (hgrow1.block _ (by simp; try omega) (by simp)).trans (blk_drew ((Blk.new _ _ _).alloc _)) | exact (hgrow1.block _ (by simp; try omega) (by simp)).trans ((Blk.new _ _ _).alloc _))⟩) (by simp [Value.oneCell']) (by have := HMS.out; omega) (by omega) (by have := hgrow1.size; simp at this ⊢; omega) ?_; intro g2 cap2 w2 hown2 hgrow2 hat2 hlt2; have p8 : w2.cell? ⟨Y, 8, none⟩ = some (.slice ca c.cl.length ccp) := (hgrow2.cell_far ⟨Y, 8, none⟩ (by have := hgrow1.size; simp at this ⊢; omega) (by have := hat1; simp at this ⊢; omega)).trans (by go_simp); have p9 : w2.frozen? ⟨Y, 8, none⟩ = false := (hgrow2.frozen_far ⟨Y, 8, none⟩ (by have := hgrow1.size; simp at this ⊢; omega) (by have := hat1; simp at this ⊢; omega)).trans (by go_simp); have hown3 : w2.ownsRow V1.heap.size 36 3 (.slice (some ⟨g2, 0, none⟩) (c.cl.length + 1) cap2) (c.cl.length + 1) (flatE encC c.cl ++ [.int .i64 f, .int .i64 (f + r), .int .i64 (k + 1)]) := own_norm2 hown2; have bl2 : Below V1.heap.size V1 w2 := Below.grown (bl1) hgrow2 (by have := hgrow1.size; simp at this ⊢; omega) (fun k e => by cases e; have := hat1; simp at this; omega); clear hown2 hown0 hown1))
    · skip
      rename_i hHeld
      clear hHeld
      have hv3 := HB0.out w2 (.slice (some ⟨g2, 0, none⟩) (c.cl.length + 1) cap2) bl2
      have bX := HBX.out.below hv3 HBX.out.lt
      have hB := bl_trans HHB.out hv3
      have HC := Lib.hid (HC0.out.below hv3)
      have bZ3 := (bZ.below bl2 hZV).far (p := ⟨Y, 8, none⟩) hZY1 (.slice (some ⟨g2, 0, none⟩) (c.cl.length + 1) cap2)
      have bY3 := later_blk (x := ⟨f, f + r, k + 1⟩) ((bY.below bl2 hYV).set 8 (.slice (some ⟨g2, 0, none⟩) (c.cl.length + 1) cap2))
      have how := ownsRow_setCell_below hown3 (a := ⟨Y, 8, none⟩) hYV (.slice (some ⟨g2, 0, none⟩) (c.cl.length + 1) cap2)
      obtain ⟨W3, hW3⟩ : ∃ W3, W3 = w2.setCell ⟨Y, 8, none⟩ (.slice (some ⟨g2, 0, none⟩) (c.cl.length + 1) cap2) := ⟨_, rfl⟩
      rw [← hW3] at bX hB HC bZ3 bY3 how ⊢
      have HCL := Lib.hid (later_in HC.out how hcl3)
      clear hv3 hW3 how hown3 hgrow1 hgrow2 hat1 hat2 hlt1 hlt2 q7 q8 q9 p8 p9 bl1 bl2
      clear bZ3
      first | (obtain ⟨v42, h42⟩ : ∃ q : Value, q = .slice (some ⟨V1.heap.size, 0, none⟩) 0 0 := ⟨_, rfl⟩; obtain ⟨v47, h47⟩ : ∃ q : Value, q = .slice (some ⟨w1.heap.size, 0, none⟩) 1 1 := ⟨_, rfl⟩; obtain ⟨v45, h45⟩ : ∃ q : Value, q = .slice (some ⟨g1, 0, none⟩) c.cl.length cap1 := ⟨_, rfl⟩; rw [← h42, ← h47, ← h45]; clear h42 h47 h45; revert g2 cap2 W3 bY3 HC hB bX HCL v42 v47 v45; exact tail.out) | (obtain ⟨v42, h42⟩ : ∃ q : Value, q = .slice (some ⟨V1.heap.size, 0, none⟩) 0 0 := ⟨_, rfl⟩; obtain ⟨v47, h47⟩ : ∃ q : Value, q = .slice (some ⟨V1.heap.size + 1, 0, none⟩) 1 1 := ⟨_, rfl⟩; obtain ⟨v45, h45⟩ : ∃ q : Value, q = .slice (some ⟨g1, 0, none⟩) c.cl.length cap1 := ⟨_, rfl⟩; rw [← h42, ← h47, ← h45]; clear h42 h47 h45; revert g2 cap2 W3 bY3 HC hB bX HCL v42 v47 v45; exact tail.out) | (obtain ⟨v42, h42⟩ : ∃ q : Value, q = .slice (some ⟨V1.heap.size + 1, 0, none⟩) 0 0 := ⟨_, rfl⟩; obtain ⟨v47, h47⟩ : ∃ q : Value, q = .slice (some ⟨V1.heap.size, 0, none⟩) 1 1 := ⟨_, rfl⟩; obtain ⟨v45, h45⟩ : ∃ q : Value, q = .slice (some ⟨g1, 0, none⟩) c.cl.length cap1 := ⟨_, rfl⟩; rw [← h42, ← h47, ← h45]; clear h42 h47 h45; revert g2 cap2 W3 bY3 HC hB bX HCL v42 v47 v45; exact tail.out)
    · skip
      rename_i hHeld
      clear hHeld
      have hv3 := HB0.out w2 (.slice (some ⟨g2, 0, none⟩) (c.cl.length + 1) cap2) bl2
      have bX := HBX.out.below hv3 HBX.out.lt
      have hB := bl_trans HHB.out hv3
      have HC := Lib.hid (HC0.out.below hv3)
      have bZ3 := (bZ.below bl2 hZV).far (p := ⟨Y, 8, none⟩) hZY1 (.slice (some ⟨g2, 0, none⟩) (c.cl.length + 1) cap2)
      have bY3 := later_blk (x := ⟨f, f + r, k + 1⟩) ((bY.below bl2 hYV).set 8 (.slice (some ⟨g2, 0, none⟩) (c.cl.length + 1) cap2))
      have how := ownsRow_setCell_below hown3 (a := ⟨Y, 8, none⟩) hYV (.slice (some ⟨g2, 0, none⟩) (c.cl.length + 1) cap2)
      obtain ⟨W3, hW3⟩ : ∃ W3, W3 = w2.setCell ⟨Y, 8, none⟩ (.slice (some ⟨g2, 0, none⟩) (c.cl.length + 1) cap2) := ⟨_, rfl⟩
      rw [← hW3] at bX hB HC bZ3 bY3 how ⊢
      have HCL := Lib.hid (later_in HC.out how hcl3)
      clear hv3 hW3 how hown3 hgrow1 hgrow2 hat1 hat2 hlt1 hlt2 q7 q8 q9 p8 p9 bl1 bl2
      clear bZ3
      first | (obtain ⟨v42, h42⟩ : ∃ q : Value, q = .slice (some ⟨V1.heap.size, 0, none⟩) 0 0 := ⟨_, rfl⟩; obtain ⟨v47, h47⟩ : ∃ q : Value, q = .slice (some ⟨w1.heap.size, 0, none⟩) 1 1 := ⟨_, rfl⟩; obtain ⟨v45, h45⟩ : ∃ q : Value, q = .slice (some ⟨g1, 0, none⟩) c.cl.length cap1 := ⟨_, rfl⟩; rw [← h42, ← h47, ← h45]; clear h42 h47 h45; revert g2 cap2 W3 bY3 HC hB bX HCL v42 v47 v45; exact tail.out) | (obtain ⟨v42, h42⟩ : ∃ q : Value, q = .slice (some ⟨V1.heap.size, 0, none⟩) 0 0 := ⟨_, rfl⟩; obtain ⟨v47, h47⟩ : ∃ q : Value, q = .slice (some ⟨V1.heap.size + 1, 0, none⟩) 1 1 := ⟨_, rfl⟩; obtain ⟨v45, h45⟩ : ∃ q : Value, q = .slice (some ⟨g1, 0, none⟩) c.cl.length cap1 := ⟨_, rfl⟩; rw [← h42, ← h47, ← h45]; clear h42 h47 h45; revert g2 cap2 W3 bY3 HC hB bX HCL v42 v47 v45; exact tail.out) | (obtain ⟨v42, h42⟩ : ∃ q : Value, q = .slice (some ⟨V1.heap.size + 1, 0, none⟩) 0 0 := ⟨_, rfl⟩; obtain ⟨v47, h47⟩ : ∃ q : Value, q = .slice (some ⟨V1.heap.size, 0, none⟩) 1 1 := ⟨_, rfl⟩; obtain ⟨v45, h45⟩ : ∃ q : Value, q = .slice (some ⟨g1, 0, none⟩) c.cl.length cap1 := ⟨_, rfl⟩; rw [← h42, ← h47, ← h45]; clear h42 h47 h45; revert g2 cap2 W3 bY3 HC hB bX HCL v42 v47 v45; exact tail.out)
    · skip
      rename_i hHeld
      clear hHeld
      have hv3 := HB0.out w2 (.slice (some ⟨g2, 0, none⟩) (c.cl.length + 1) cap2) bl2
      have bX := HBX.out.below hv3 HBX.out.lt
      have hB := bl_trans HHB.out hv3
      have HC := Lib.hid (HC0.out.below hv3)
      have bZ3 := (bZ.below bl2 hZV).far (p := ⟨Y, 8, none⟩) hZY1 (.slice (some ⟨g2, 0, none⟩) (c.cl.length + 1) cap2)
      have bY3 := later_blk (x := ⟨f, f + r, k + 1⟩) ((bY.below bl2 hYV).set 8 (.slice (some ⟨g2, 0, none⟩) (c.cl.length + 1) cap2))
      have how := ownsRow_setCell_below hown3 (a := ⟨Y, 8, none⟩) hYV (.slice (some ⟨g2, 0, none⟩) (c.cl.length + 1) cap2)
      obtain ⟨W3, hW3⟩ : ∃ W3, W3 = w2.setCell ⟨Y, 8, none⟩ (.slice (some ⟨g2, 0, none⟩) (c.cl.length + 1) cap2) := ⟨_, rfl⟩
      rw [← hW3] at bX hB HC bZ3 bY3 how ⊢
      have HCL := Lib.hid (later_in HC.out how hcl3)
      clear hv3 hW3 how hown3 hgrow1 hgrow2 hat1 hat2 hlt1 hlt2 q7 q8 q9 p8 p9 bl1 bl2
      clear bZ3
      first | (obtain ⟨v42, h42⟩ : ∃ q : Value, q = .slice (some ⟨V1.heap.size, 0, none⟩) 0 0 := ⟨_, rfl⟩; obtain ⟨v47, h47⟩ : ∃ q : Value, q = .slice (some ⟨w1.heap.size, 0, none⟩) 1 1 := ⟨_, rfl⟩; obtain ⟨v45, h45⟩ : ∃ q : Value, q = .slice (some ⟨g1, 0, none⟩) c.cl.length cap1 := ⟨_, rfl⟩; rw [← h42, ← h47, ← h45]; clear h42 h47 h45; revert g2 cap2 W3 bY3 HC hB bX HCL v42 v47 v45; exact tail.out) | (obtain ⟨v42, h42⟩ : ∃ q : Value, q = .slice (some ⟨V1.heap.size, 0, none⟩) 0 0 := ⟨_, rfl⟩; obtain ⟨v47, h47⟩ : ∃ q : Value, q = .slice (some ⟨V1.heap.size + 1, 0, none⟩) 1 1 := ⟨_, rfl⟩; obtain ⟨v45, h45⟩ : ∃ q : Value, q = .slice (some ⟨g1, 0, none⟩) c.cl.length cap1 := ⟨_, rfl⟩; rw [← h42, ← h47, ← h45]; clear h42 h47 h45; revert g2 cap2 W3 bY3 HC hB bX HCL v42 v47 v45; exact tail.out) | (obtain ⟨v42, h42⟩ : ∃ q : Value, q = .slice (some ⟨V1.heap.size + 1, 0, none⟩) 0 0 := ⟨_, rfl⟩; obtain ⟨v47, h47⟩ : ∃ q : Value, q = .slice (some ⟨V1.heap.size, 0, none⟩) 1 1 := ⟨_, rfl⟩; obtain ⟨v45, h45⟩ : ∃ q : Value, q = .slice (some ⟨g1, 0, none⟩) c.cl.length cap1 := ⟨_, rfl⟩; rw [← h42, ← h47, ← h45]; clear h42 h47 h45; revert g2 cap2 W3 bY3 HC hB bX HCL v42 v47 v45; exact tail.out)
  · intro g2 cap2 W3 bY3 HC hB bX HCL v42 v47 v45
    clear HB0 HBX HHB HC0 HSRC bY bZ z0 z1 z2 k8 y8 y8c
    clear HD HF HX HK
    obtain ⟨c0, c1, c2, c3, c4, c5, c6, c7, c8, c9, c10, c11⟩ := bX.cal
    go_wp2_with fail
    refine (M1.out _ _ _ _ (hG.below hB) HC.out).mono ?_
    rintro e u1 ⟨rfl, hb⟩
    clear c0 c1 c2 c3 c4 c5 c6 c7 c8 c9 c10 c11
    have nX := bX.below hb bX.lt
    have nY := bY3.below hb bY3.lt
    have nB := bl_trans hB hb
    have nC := Lib.hid (HC.out.below hb)
    have nL := Lib.hid (HCL.out.below hb)
    clear bX bY3 hB HC HCL hb
    have bX := nX
    have bY3 := nY
    have hB := nB
    have HC := nC
    have HCL := nL
    clear nX nY nB nC nL
    obtain ⟨c0, c1, c2, c3, c4, c5, c6, c7, c8, c9, c10, c11⟩ := bY3.cal
    go_wp2_with fail
    refine (M2.out _ _ _ _ (hG.below hB) HCL.out).mono ?_
    rintro e u2 ⟨rfl, hb⟩
    clear c0 c1 c2 c3 c4 c5 c6 c7 c8 c9 c10 c11
    have nX := bX.below hb bX.lt
    have nY := bY3.below hb bY3.lt
    have nB := bl_trans hB hb
    have nC := Lib.hid (HC.out.below hb)
    have nL := Lib.hid (HCL.out.below hb)
    clear bX bY3 hB HC HCL hb
    have bX := nX
    have bY3 := nY
    have hB := nB
    have HC := nC
    have HCL := nL
    clear nX nY nB nC nL
    have bU : ∀ u : UpW u2, Blk u.w X 30 (cellsC c (.slice ha c.hs.length hcp) (.slice ca c.cl.length ccp) (.slice sa c.sh.length scp)) := fun u => bX.below u.h bX.lt
    have x0 : ∀ u : UpW u2, u.w.cell? ⟨X, 0, none⟩ = some (.bool (c.we 0)) := fun u => (bU u).cell 0
    have x1 : ∀ u : UpW u2, u.w.cell? ⟨X, 1, none⟩ = some (.bool (c.we 1)) := fun u => (bU u).cell 1
    have x2 : ∀ u : UpW u2, u.w.cell? ⟨X, 2, none⟩ = some (.bool (c.we 2)) := fun u => (bU u).cell 2
    have x3 : ∀ u : UpW u2, u.w.cell? ⟨X, 3, none⟩ = some (.bool (c.we 3)) := fun u => (bU u).cell 3
    have x4 : ∀ u : UpW u2, u.w.cell? ⟨X, 4, none⟩ = some (.bool (c.we 4)) := fun u => (bU u).cell 4
    have x5 : ∀ u : UpW u2, u.w.cell? ⟨X, 5, none⟩ = some (.bool (c.we 5)) := fun u => (bU u).cell 5
    have x6 : ∀ u : UpW u2, u.w.cell? ⟨X, 6, none⟩ = some (.bool (c.we 6)) := fun u => (bU u).cell 6
    have x7 : ∀ u : UpW u2, u.w.cell? ⟨X, 7, none⟩ = some (.slice ha c.hs.length hcp) := fun u => (bU u).cell 7
    have x8 : ∀ u : UpW u2, u.w.cell? ⟨X, 8, none⟩ = some (.slice ca c.cl.length ccp) := fun u => (bU u).cell 8
    have x9 : ∀ u : UpW u2, u.w.cell? ⟨X, 9, none⟩ = some (.int .i64 c.o) := fun u => (bU u).cell 9
    have x10 : ∀ u : UpW u2, u.w.cell? ⟨X, 10, none⟩ = some (.slice sa c.sh.length scp) := fun u => (bU u).cell 10
    have x11 : ∀ u : UpW u2, u.w.cell? ⟨X, 11, none⟩ = some (.int .i64 c.hr) := fun u => (bU u).cell 11
    have bW : ∀ u : UpW u2, Blk u.w Y 30 _ := fun u => bY3.below u.h bY3.lt
    have y0 : ∀ u : UpW u2, u.w.cell? ⟨Y, 0, none⟩ = some (.bool (c.we 0)) := fun u => (bW u).cell 0
    have y1 : ∀ u : UpW u2, u.w.cell? ⟨Y, 1, none⟩ = some (.bool (c.we 1)) := fun u => (bW u).cell 1
    have y2 : ∀ u : UpW u2, u.w.cell? ⟨Y, 2, none⟩ = some (.bool (c.we 2)) := fun u => (bW u).cell 2
    have y3 : ∀ u : UpW u2, u.w.cell? ⟨Y, 3, none⟩ = some (.bool (c.we 3)) := fun u => (bW u).cell 3
    have y4 : ∀ u : UpW u2, u.w.cell? ⟨Y, 4, none⟩ = some (.bool (c.we 4)) := fun u => (bW u).cell 4
    have y5 : ∀ u : UpW u2, u.w.cell? ⟨Y, 5, none⟩ = some (.bool (c.we 5)) := fun u => (bW u).cell 5
    have y6 : ∀ u : UpW u2, u.w.cell? ⟨Y, 6, none⟩ = some (.bool (c.we 6)) := fun u => (bW u).cell 6
    have y7 : ∀ u : UpW u2, u.w.cell? ⟨Y, 7, none⟩ = some (.slice ha c.hs.length hcp) := fun u => (bW u).cell 7
    have y8 : ∀ u : UpW u2, u.w.cell? ⟨Y, 8, none⟩ = some (.slice (some ⟨g2, 0, none⟩) (c.cl.length + 1) cap2) := fun u => (bW u).cell 8
    have y9 : ∀ u : UpW u2, u.w.cell? ⟨Y, 9, none⟩ = some (.int .i64 c.o) := fun u => (bW u).cell 9
    have y10 : ∀ u : UpW u2, u.w.cell? ⟨Y, 10, none⟩ = some (.slice sa c.sh.length scp) := fun u => (bW u).cell 10
    have y11 : ∀ u : UpW u2, u.w.cell? ⟨Y, 11, none⟩ = some (.int .i64 c.hr) := fun u => (bW u).cell 11
    have HU := Lib.hid bU
    have HW := Lib.hid bW
    clear bU bW
    have hwd := HWD.out
    go_upto_region 9 with (fail)
    refine wp_region_up (by kernel_rfl) (by kernel_rfl) ?_
    repeat (go_big_quiet_step (fail))
    go_big_quiet_step (exact Ret.up (M3.out _ _ _ _ (hG.below (bl_trans hB (UpW.h _))) (HC.out.below (UpW.h _))))
    repeat (go_big_quiet_step (fail))
    go_big_quiet_step (exact Ret.up (M4.out _ _ _ _ (hG.below (bl_trans hB (UpW.h _))) (HCL.out.below (UpW.h _))))
    repeat (go_big_quiet_step (fail))
    go_big_quiet_step (exact Ret.up (M5.out _ _ _ _ (hG.below (bl_trans hB (UpW.h _))) (HC.out.below (UpW.h _))))
    repeat (go_big_quiet_step (fail))
    go_big_quiet_step (exact Ret.up (M6.out _ _ _ _ (hG.below (bl_trans hB (UpW.h _))) (HCL.out.below (UpW.h _))))
    repeat (go_big_quiet_step (fail))
    refine wpQuiet_nil ?_
    rintro vr ⟨⟨_, hb⟩, rfl⟩
    clear x0 x1 x2 x3 x4 x5 x6 x7 x8 x9 x10 x11 y0 y1 y2 y3 y4 y5 y6 y7 y8 y9 y10 y11 HU HW hwd
    have nX := bX.below hb bX.lt
    have nY := bY3.below hb bY3.lt
    have nB := bl_trans hB hb
    have nC := Lib.hid (HC.out.below hb)
    have nL := Lib.hid (HCL.out.below hb)
    clear bX bY3 hB HC HCL hb
    have bX := nX
    have bY3 := nY
    have hB := nB
    have HC := nC
    have HCL := nL
    clear nX nY nB nC nL
    have hwk := HWK.out
    obtain ⟨c0, c1, c2, c3, c4, c5, c6, c7, c8, c9, c10, c11⟩ := bX.cal
    go_wp2_with fail
    refine (M7.out _ _ _ _ (hG.below hB) HC.out).mono ?_
    rintro e u7 ⟨rfl, hb⟩
    clear c0 c1 c2 c3 c4 c5 c6 c7 c8 c9 c10 c11
    have nX := bX.below hb bX.lt
    have nY := bY3.below hb bY3.lt
    have nB := bl_trans hB hb
    have nC := Lib.hid (HC.out.below hb)
    have nL := Lib.hid (HCL.out.below hb)
    clear bX bY3 hB HC HCL hb
    have bX := nX
    have bY3 := nY
    have hB := nB
    have HC := nC
    have HCL := nL
    clear nX nY nB nC nL
    obtain ⟨c0, c1, c2, c3, c4, c5, c6, c7, c8, c9, c10, c11⟩ := bY3.cal
    go_wp2_with fail
    refine (M8.out _ _ _ _ (hG.below hB) HCL.out).mono ?_
    rintro e u8 ⟨rfl, hb⟩
    clear c0 c1 c2 c3 c4 c5 c6 c7 c8 c9 c10 c11
    have nX := bX.below hb bX.lt
    have nY := bY3.below hb bY3.lt
    have nB := bl_trans hB hb
    have nC := Lib.hid (HC.out.below hb)
    have nL := Lib.hid (HCL.out.below hb)
    clear bX bY3 hB HC HCL hb
    have bX := nX
    have bY3 := nY
    have hB := nB
    have HC := nC
    have HCL := nL
    clear nX nY nB nC nL
    obtain ⟨c0, c1, c2, c3, c4, c5, c6, c7, c8, c9, c10, c11⟩ := bX.cal
    go_wp2_with fail
    refine (M9.out _ _ _ _ (hG.below hB) HC.out).mono ?_
    rintro e u9 ⟨rfl, hb⟩
    clear c0 c1 c2 c3 c4 c5 c6 c7 c8 c9 c10 c11
    have nX := bX.below hb bX.lt
    have nY := bY3.below hb bY3.lt
    have nB := bl_trans hB hb
    have nC := Lib.hid (HC.out.below hb)
    have nL := Lib.hid (HCL.out.below hb)
    clear bX bY3 hB HC HCL hb
    have bX := nX
    have bY3 := nY
    have hB := nB
    have HC := nC
    have HCL := nL
    clear nX nY nB nC nL
    obtain ⟨c0, c1, c2, c3, c4, c5, c6, c7, c8, c9, c10, c11⟩ := bY3.cal
    go_wp2_with fail
    refine (M10.out _ _ _ _ (hG.below hB) HCL.out).mono ?_
    rintro e u10 ⟨rfl, hb⟩
    clear c0 c1 c2 c3 c4 c5 c6 c7 c8 c9 c10 c11
    have nX := bX.below hb bX.lt
    have nY := bY3.below hb bY3.lt
    have nB := bl_trans hB hb
    have nC := Lib.hid (HC.out.below hb)
    have nL := Lib.hid (HCL.out.below hb)
    clear bX bY3 hB HC HCL hb
    have bX := nX
    have bY3 := nY
    have hB := nB
    have HC := nC
    have HCL := nL
    clear nX nY nB nC nL
    have qa := QA.out
    have qp := QP.out
    cases O2
    · skip
      obtain ⟨c0, c1, c2, c3, c4, c5, c6, c7, c8, c9, c10, c11⟩ := bY3.cal
      go_wp2_with fail
      refine (M11.out _ _ _ _ (hG.below hB) HCL.out).mono ?_
      rintro e u11 ⟨rfl, hb⟩
      clear c0 c1 c2 c3 c4 c5 c6 c7 c8 c9 c10 c11
      have nX := bX.below hb bX.lt
      have nY := bY3.below hb bY3.lt
      have nB := bl_trans hB hb
      have nC := Lib.hid (HC.out.below hb)
      have nL := Lib.hid (HCL.out.below hb)
      clear bX bY3 hB HC HCL hb
      have bX := nX
      have bY3 := nY
      have hB := nB
      have HC := nC
      have HCL := nL
      clear nX nY nB nC nL
      have bU : ∀ u : UpW u11, Blk u.w X 30 (cellsC c (.slice ha c.hs.length hcp) (.slice ca c.cl.length ccp) (.slice sa c.sh.length scp)) := fun u => bX.below u.h bX.lt
      have x0 : ∀ u : UpW u11, u.w.cell? ⟨X, 0, none⟩ = some (.bool (c.we 0)) := fun u => (bU u).cell 0
      have x1 : ∀ u : UpW u11, u.w.cell? ⟨X, 1, none⟩ = some (.bool (c.we 1)) := fun u => (bU u).cell 1
      have x2 : ∀ u : UpW u11, u.w.cell? ⟨X, 2, none⟩ = some (.bool (c.we 2)) := fun u => (bU u).cell 2
      have x3 : ∀ u : UpW u11, u.w.cell? ⟨X, 3, none⟩ = some (.bool (c.we 3)) := fun u => (bU u).cell 3
      have x4 : ∀ u : UpW u11, u.w.cell? ⟨X, 4, none⟩ = some (.bool (c.we 4)) := fun u => (bU u).cell 4
      have x5 : ∀ u : UpW u11, u.w.cell? ⟨X, 5, none⟩ = some (.bool (c.we 5)) := fun u => (bU u).cell 5
      have x6 : ∀ u : UpW u11, u.w.cell? ⟨X, 6, none⟩ = some (.bool (c.we 6)) := fun u => (bU u).cell 6
      have x7 : ∀ u : UpW u11, u.w.cell? ⟨X, 7, none⟩ = some (.slice ha c.hs.length hcp) := fun u => (bU u).cell 7
      have x8 : ∀ u : UpW u11, u.w.cell? ⟨X, 8, none⟩ = some (.slice ca c.cl.length ccp) := fun u => (bU u).cell 8
      have x9 : ∀ u : UpW u11, u.w.cell? ⟨X, 9, none⟩ = some (.int .i64 c.o) := fun u => (bU u).cell 9
      have x10 : ∀ u : UpW u11, u.w.cell? ⟨X, 10, none⟩ = some (.slice sa c.sh.length scp) := fun u => (bU u).cell 10
      have x11 : ∀ u : UpW u11, u.w.cell? ⟨X, 11, none⟩ = some (.int .i64 c.hr) := fun u => (bU u).cell 11
      have bW : ∀ u : UpW u11, Blk u.w Y 30 _ := fun u => bY3.below u.h bY3.lt
      have y0 : ∀ u : UpW u11, u.w.cell? ⟨Y, 0, none⟩ = some (.bool (c.we 0)) := fun u => (bW u).cell 0
      have y1 : ∀ u : UpW u11, u.w.cell? ⟨Y, 1, none⟩ = some (.bool (c.we 1)) := fun u => (bW u).cell 1
      have y2 : ∀ u : UpW u11, u.w.cell? ⟨Y, 2, none⟩ = some (.bool (c.we 2)) := fun u => (bW u).cell 2
      have y3 : ∀ u : UpW u11, u.w.cell? ⟨Y, 3, none⟩ = some (.bool (c.we 3)) := fun u => (bW u).cell 3
      have y4 : ∀ u : UpW u11, u.w.cell? ⟨Y, 4, none⟩ = some (.bool (c.we 4)) := fun u => (bW u).cell 4
      have y5 : ∀ u : UpW u11, u.w.cell? ⟨Y, 5, none⟩ = some (.bool (c.we 5)) := fun u => (bW u).cell 5
      have y6 : ∀ u : UpW u11, u.w.cell? ⟨Y, 6, none⟩ = some (.bool (c.we 6)) := fun u => (bW u).cell 6
      have y7 : ∀ u : UpW u11, u.w.cell? ⟨Y, 7, none⟩ = some (.slice ha c.hs.length hcp) := fun u => (bW u).cell 7
      have y8 : ∀ u : UpW u11, u.w.cell? ⟨Y, 8, none⟩ = some (.slice (some ⟨g2, 0, none⟩) (c.cl.length + 1) cap2) := fun u => (bW u).cell 8
      have y9 : ∀ u : UpW u11, u.w.cell? ⟨Y, 9, none⟩ = some (.int .i64 c.o) := fun u => (bW u).cell 9
      have y10 : ∀ u : UpW u11, u.w.cell? ⟨Y, 10, none⟩ = some (.slice sa c.sh.length scp) := fun u => (bW u).cell 10
      have y11 : ∀ u : UpW u11, u.w.cell? ⟨Y, 11, none⟩ = some (.int .i64 c.hr) := fun u => (bW u).cell 11
      have HU := Lib.hid bU
      have HW := Lib.hid bW
      clear bU bW
      have hwd := HWD.out
      have hle := HLE.out
      go_upto_region 18 with (fail)
      refine wp_region_up (by kernel_rfl) (by kernel_rfl) ?_
      repeat (go_big_quiet_step (fail))
      go_big_quiet_step (exact Ret.up (M13.out _ _ _ _ (hG.below (bl_trans hB (UpW.h _))) (HCL.out.below (UpW.h _))))
      repeat (go_big_quiet_step (fail))
      go_big_quiet_step (exact Ret.up (M14.out _ _ _ _ (hG.below (bl_trans hB (UpW.h _))) (HC.out.below (UpW.h _))))
      repeat (go_big_quiet_step (fail))
      go_big_quiet_step (exact Ret.up (clives_any _ (hG.below (bl_trans hB (UpW.h _)))))
      repeat (go_big_quiet_step (fail))
      refine wpQuiet_nil ?_
      rintro vr ⟨⟨_, hb⟩, rfl⟩
      go_wp2
      go_ret
      exact ⟨rfl, bl_trans hB hb⟩
    · have o1 := OP.out rfl
      subst o1
      clear OP
      obtain ⟨c0, c1, c2, c3, c4, c5, c6, c7, c8, c9, c10, c11⟩ := bY3.cal
      go_wp2_with fail
      refine (M11.out _ _ _ _ (hG.below hB) HCL.out).mono ?_
      rintro e u11 ⟨rfl, hb⟩
      clear c0 c1 c2 c3 c4 c5 c6 c7 c8 c9 c10 c11
      have nX := bX.below hb bX.lt
      have nY := bY3.below hb bY3.lt
      have nB := bl_trans hB hb
      have nC := Lib.hid (HC.out.below hb)
      have nL := Lib.hid (HCL.out.below hb)
      clear bX bY3 hB HC HCL hb
      have bX := nX
      have bY3 := nY
      have hB := nB
      have HC := nC
      have HCL := nL
      clear nX nY nB nC nL
      obtain ⟨c0, c1, c2, c3, c4, c5, c6, c7, c8, c9, c10, c11⟩ := bX.cal
      go_wp2_with fail
      refine (M12.out _ _ _ _ (hG.below hB) HC.out).mono ?_
      rintro e u12 ⟨rfl, hb⟩
      clear c0 c1 c2 c3 c4 c5 c6 c7 c8 c9 c10 c11
      have nX := bX.below hb bX.lt
      have nY := bY3.below hb bY3.lt
      have nB := bl_trans hB hb
      have nC := Lib.hid (HC.out.below hb)
      have nL := Lib.hid (HCL.out.below hb)
      clear bX bY3 hB HC HCL hb
      have bX := nX
      have bY3 := nY
      have hB := nB
      have HC := nC
      have HCL := nL
      clear nX nY nB nC nL
      have bU : ∀ u : UpW u12, Blk u.w X 30 (cellsC c (.slice ha c.hs.length hcp) (.slice ca c.cl.length ccp) (.slice sa c.sh.length scp)) := fun u => bX.below u.h bX.lt
      have x0 : ∀ u : UpW u12, u.w.cell? ⟨X, 0, none⟩ = some (.bool (c.we 0)) := fun u => (bU u).cell 0
      have x1 : ∀ u : UpW u12, u.w.cell? ⟨X, 1, none⟩ = some (.bool (c.we 1)) := fun u => (bU u).cell 1
      have x2 : ∀ u : UpW u12, u.w.cell? ⟨X, 2, none⟩ = some (.bool (c.we 2)) := fun u => (bU u).cell 2
      have x3 : ∀ u : UpW u12, u.w.cell? ⟨X, 3, none⟩ = some (.bool (c.we 3)) := fun u => (bU u).cell 3
      have x4 : ∀ u : UpW u12, u.w.cell? ⟨X, 4, none⟩ = some (.bool (c.we 4)) := fun u => (bU u).cell 4
      have x5 : ∀ u : UpW u12, u.w.cell? ⟨X, 5, none⟩ = some (.bool (c.we 5)) := fun u => (bU u).cell 5
      have x6 : ∀ u : UpW u12, u.w.cell? ⟨X, 6, none⟩ = some (.bool (c.we 6)) := fun u => (bU u).cell 6
      have x7 : ∀ u : UpW u12, u.w.cell? ⟨X, 7, none⟩ = some (.slice ha c.hs.length hcp) := fun u => (bU u).cell 7
      have x8 : ∀ u : UpW u12, u.w.cell? ⟨X, 8, none⟩ = some (.slice ca c.cl.length ccp) := fun u => (bU u).cell 8
      have x9 : ∀ u : UpW u12, u.w.cell? ⟨X, 9, none⟩ = some (.int .i64 c.o) := fun u => (bU u).cell 9
      have x10 : ∀ u : UpW u12, u.w.cell? ⟨X, 10, none⟩ = some (.slice sa c.sh.length scp) := fun u => (bU u).cell 10
      have x11 : ∀ u : UpW u12, u.w.cell? ⟨X, 11, none⟩ = some (.int .i64 c.hr) := fun u => (bU u).cell 11
      have bW : ∀ u : UpW u12, Blk u.w Y 30 _ := fun u => bY3.below u.h bY3.lt
      have y0 : ∀ u : UpW u12, u.w.cell? ⟨Y, 0, none⟩ = some (.bool (c.we 0)) := fun u => (bW u).cell 0
      have y1 : ∀ u : UpW u12, u.w.cell? ⟨Y, 1, none⟩ = some (.bool (c.we 1)) := fun u => (bW u).cell 1
      have y2 : ∀ u : UpW u12, u.w.cell? ⟨Y, 2, none⟩ = some (.bool (c.we 2)) := fun u => (bW u).cell 2
      have y3 : ∀ u : UpW u12, u.w.cell? ⟨Y, 3, none⟩ = some (.bool (c.we 3)) := fun u => (bW u).cell 3
      have y4 : ∀ u : UpW u12, u.w.cell? ⟨Y, 4, none⟩ = some (.bool (c.we 4)) := fun u => (bW u).cell 4
      have y5 : ∀ u : UpW u12, u.w.cell? ⟨Y, 5, none⟩ = some (.bool (c.we 5)) := fun u => (bW u).cell 5
      have y6 : ∀ u : UpW u12, u.w.cell? ⟨Y, 6, none⟩ = some (.bool (c.we 6)) := fun u => (bW u).cell 6
      have y7 : ∀ u : UpW u12, u.w.cell? ⟨Y, 7, none⟩ = some (.slice ha c.hs.length hcp) := fun u => (bW u).cell 7
      have y8 : ∀ u : UpW u12, u.w.cell? ⟨Y, 8, none⟩ = some (.slice (some ⟨g2, 0, none⟩) (c.cl.length + 1) cap2) := fun u => (bW u).cell 8
      have y9 : ∀ u : UpW u12, u.w.cell? ⟨Y, 9, none⟩ = some (.int .i64 c.o) := fun u => (bW u).cell 9
      have y10 : ∀ u : UpW u12, u.w.cell? ⟨Y, 10, none⟩ = some (.slice sa c.sh.length scp) := fun u => (bW u).cell 10
      have y11 : ∀ u : UpW u12, u.w.cell? ⟨Y, 11, none⟩ = some (.int .i64 c.hr) := fun u => (bW u).cell 11
      have HU := Lib.hid bU
      have HW := Lib.hid bW
      clear bU bW
      have hwd := HWD.out
      have hle := HLE.out
      go_upto_region 18 with (fail)
      refine wp_region_up (by kernel_rfl) (by kernel_rfl) ?_
      repeat (go_big_quiet_step (fail))
      go_big_quiet_step (exact Ret.up (M13.out _ _ _ _ (hG.below (bl_trans hB (UpW.h _))) (HCL.out.below (UpW.h _))))
      repeat (go_big_quiet_step (fail))
      go_big_quiet_step (exact Ret.up (M14.out _ _ _ _ (hG.below (bl_trans hB (UpW.h _))) (HC.out.below (UpW.h _))))
      repeat (go_big_quiet_step (fail))
      go_big_quiet_step (exact Ret.up (clives_any _ (hG.below (bl_trans hB (UpW.h _)))))
      repeat (go_big_quiet_step (fail))
      refine wpQuiet_nil ?_
      rintro vr ⟨⟨_, hb⟩, rfl⟩
      go_wp2
      go_ret
      exact ⟨rfl, bl_trans hB hb⟩
end Go.Proofs.YtiilljcnikgeaaaDoor
