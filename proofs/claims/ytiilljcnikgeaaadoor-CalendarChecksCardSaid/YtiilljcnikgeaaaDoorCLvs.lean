/- Several texts in one, each with its own word at its head. Conditions: stated there. -/
import Derived.Test.YtiilljcnikgeaaaDoorCMk
import Derived.Test.YtiilljcnikgeaaaDoorCAdd
import Derived.Test.YtiilljcnikgeaaaDoorCFiled
import Derived.Test.YtiilljcnikgeaaaDoorCChk
/- The examples' function of the calendar's laws, and the laws' own helper day. Conditions: the listed tables lie in memory. -/
namespace Go.Proofs.YtiilljcnikgeaaaDoor
open Go.RowKit

def hL : Hol := ⟨1, 1, 1, 0, 0, 0, 0, 1, 9999⟩
def clL : Clo := ⟨739620, 739621, 739619⟩
def cL : Cal := ⟨cWe 0, [hL], [clL], 60, [], 1020⟩
theorem hL_valid : hvB hL = true := by decide +kernel
theorem kV_L (y : Int) (hk : kB hL y = true) : 1 ≤ y ∧ y ≤ 9999 ∧ kV hL y = num y 1 1 := by
  obtain ⟨⟨y1, y2⟩, hn, _, _⟩ := kB_bd hk
  have y1' : 1 ≤ y := y1
  have y2' : y ≤ 9999 := y2
  refine ⟨y1', y2', ?_⟩
  have e1 : nV hL y = dayN y 1 1 := by show nomV eaV hL y = _; unfold nomV; rw [if_pos (show hL.k = 1 from rfl)]; rfl
  have e2 : kV hL y = nV hL y + movV 0 (nV hL y % 7) := rfl
  have e3 : ∀ q : Int, movV 0 q = 0 := fun q => by unfold movV; simp
  have hv : validB y 1 1 = true := valid_iff.2 ⟨y1', y2', by omega, by omega, by omega, by rw [len1]; omega⟩
  rw [e2, e3, e1, Int.add_zero]
  unfold dayN
  rw [if_pos hv]
theorem isL {d : Int} (h1 : 739600 ≤ d) (h2 : d ≤ 739700) : isB [hL] d = (d == 739616) := by
  have hv : ∀ x, x ∈ [hL] → hvB x = true := fun x hx => by rw [List.mem_singleton] at hx; rw [hx]; exact hL_valid
  have hy : kB hL 2026 = true := by decide +kernel
  rw [Bool.eq_iff_iff, isB_iff hv, beq_iff_eq]
  constructor
  · rintro ⟨y, h, hm, hk, e⟩
    rw [List.mem_singleton] at hm
    subst hm
    obtain ⟨y1, y2, e2⟩ := kV_L y hk
    rw [e2] at e
    have n26 : num 2026 1 1 = 739616 := by decide +kernel
    rcases Int.lt_trichotomy y 2026 with g | g | g
    · have := num_jan_mono g; omega
    · rw [g] at e; omega
    · have := num_jan_mono g; omega
  · rintro rfl
    refine ⟨2026, hL, by simp, hy, ?_⟩
    rw [(kV_L 2026 hy).2.2]; decide +kernel
def opL (k d : Int) : Bool := inD d && !(cWe 0 (d % 7).toNat || ((decide (739619 ≤ k) && (decide (739620 ≤ d) && decide (d ≤ 739621))) || (d == 739616)))
theorem openL (k d : Int) (h1 : 739600 ≤ d) (h2 : d ≤ 739700) : openB cL k d = opL k d := by
  have e : openB cL k d = (inD d && !(cWe 0 (d % 7).toNat || ((cloB k d clL || false) || isB [hL] d))) := rfl
  rw [e, isL h1 h2, Bool.or_false]; rfl
theorem fstL (k d x : Int) (s : Int) (n : Nat) (h1 : 739610 ≤ d) (h2 : d ≤ 739650) (hs : s = 1 ∨ s = -1) (hn : n ≤ 10) (he : x = d + s * n) (ho : opL k x = true) (hno : ∀ j : Nat, j < n → opL k (d + s * j) = false) : IsFst cL k d s x n := by
  have hb : ∀ j : Nat, j ≤ n → 739600 ≤ d + s * j ∧ d + s * j ≤ 739660 := fun j hj => by rcases hs with rfl | rfl <;> omega
  have hbx := hb n (Nat.le_refl _)
  exact ⟨by omega, he, by rw [openL k x (by omega) (by omega)]; exact ho, fun j hj => by
    have := hb j (by omega)
    exact ⟨inD_iff.2 (by omega), by rw [openL k _ (by omega) (by omega)]; exact hno j hj⟩⟩
theorem lt_all {n : Nat} {p : Nat → Prop} [DecidablePred p] (h : (List.range n).all (fun j => decide (p j)) = true) : ∀ j, j < n → p j := by
  intro j hj
  have := List.all_eq_true.1 h j (List.mem_range.2 hj)
  simpa using this
/-- Next from Thursday 2026-01-01 on -/
theorem f1 : IsFst cL 739618 739616 1 739617 1 := fstL _ _ _ _ _ (by decide) (by decide) (.inl rfl) (by decide) (by decide) (by decide +kernel) (lt_all (by decide +kernel))
theorem f2 : IsFst cL 739618 (739617 + 1) 1 739620 2 := fstL _ _ _ _ _ (by decide) (by decide) (.inl rfl) (by decide) (by decide) (by decide +kernel) (lt_all (by decide +kernel))
theorem f3 : IsFst cL 739619 (739617 + 1) 1 739622 4 := fstL _ _ _ _ _ (by decide) (by decide) (.inl rfl) (by decide) (by decide) (by decide +kernel) (lt_all (by decide +kernel))
theorem f4 : IsFst cL 739619 (739622 + -1) (-1) 739617 4 := fstL _ _ _ _ _ (by decide) (by decide) (.inr rfl) (by decide) (by decide) (by decide +kernel) (lt_all (by decide +kernel))
theorem f5 : IsFst cL 739619 (739617 + -1) (-1) 739615 1 := fstL _ _ _ _ _ (by decide) (by decide) (.inr rfl) (by decide) (by decide) (by decide +kernel) (lt_all (by decide +kernel))
theorem f6 : IsFst cL 739619 (739615 + -1) (-1) 739614 0 := fstL _ _ _ _ _ (by decide) (by decide) (.inr rfl) (by decide) (by decide) (by decide +kernel) (lt_all (by decide +kernel))
theorem a1 : addV cL 739618 739617 1 = 739620 ∧ addE cL 739618 739617 1 = 0 := by
  have h : addO cL 739618 1 1 739617 = some 739620 := by rw [addO_of f2]; rfl
  have h2 : addO cL 739618 (addS 1) (1 : Int).natAbs 739617 = some 739620 := h
  have hi : inD 739617 = true := by decide
  unfold addV addE
  rw [if_pos hi, if_pos hi, if_neg (by omega), if_neg (by omega), h2]; exact ⟨rfl, rfl⟩
theorem a2 : addV cL 739619 739617 1 = 739622 ∧ addE cL 739619 739617 1 = 0 := by
  have h : addO cL 739619 1 1 739617 = some 739622 := by rw [addO_of f3]; rfl
  have h2 : addO cL 739619 (addS 1) (1 : Int).natAbs 739617 = some 739622 := h
  have hi : inD 739617 = true := by decide
  unfold addV addE
  rw [if_pos hi, if_pos hi, if_neg (by omega), if_neg (by omega), h2]; exact ⟨rfl, rfl⟩
theorem a3 : addV cL 739619 739622 (-3) = 739614 ∧ addE cL 739619 739622 (-3) = 0 := by
  have h : addO cL 739619 (-1) 3 739622 = some 739614 := by rw [addO_of f4, addO_of f5, addO_of f6]; rfl
  have h2 : addO cL 739619 (addS (-3)) (-3 : Int).natAbs 739622 = some 739614 := h
  have hi : inD 739622 = true := by decide
  unfold addV addE
  rw [if_pos hi, if_pos hi, if_neg (by omega), if_neg (by omega), h2]; exact ⟨rfl, rfl⟩
theorem locL (t : Int) (h : t < 1125899906842624) : locT cL t = t + 60 := by
  show t + offS (segsOf 60 []) t = _
  rw [show offS (segsOf 60 []) t = if t < 1125899906842624 then 60 else 0 from rfl, if_pos h]
theorem fi1 : filV cL 1065049440 739618 = 739617 ∧ filE cL 1065049440 739618 = 0 := by
  have e := locL 1065049440 (by omega)
  have ho : openB cL 739618 739617 = true := by rw [openL _ _ (by omega) (by omega)]; decide +kernel
  unfold filV filE
  rw [e]
  have hc : (1065049440 + 60 : Int) % 1440 ≤ cL.hr ∧ openB cL 739618 ((1065049440 + 60 : Int) / 1440) = true := ⟨by decide, ho⟩
  rw [if_pos hc, if_pos hc]; exact ⟨by decide, rfl⟩
theorem fi2 : filV cL 1065049441 739618 = 739620 ∧ filE cL 1065049441 739618 = 0 := by
  have e := locL 1065049441 (by omega)
  unfold filV filE
  rw [e]
  have hc : ¬ ((1065049441 + 60 : Int) % 1440 ≤ cL.hr ∧ openB cL 739618 ((1065049441 + 60 : Int) / 1440) = true) := fun h => absurd h.1 (by decide)
  rw [if_neg hc, if_neg hc]; exact ⟨(fst_of f2).2, (fst_of f2).1⟩
theorem fi3 : filV cL 1065049441 739619 = 739622 ∧ filE cL 1065049441 739619 = 0 := by
  have e := locL 1065049441 (by omega)
  unfold filV filE
  rw [e]
  have hc : ¬ ((1065049441 + 60 : Int) % 1440 ≤ cL.hr ∧ openB cL 739619 ((1065049441 + 60 : Int) / 1440) = true) := fun h => absurd h.1 (by decide)
  rw [if_neg hc, if_neg hc]; exact ⟨(fst_of f3).2, (fst_of f3).1⟩
theorem laL : lasV cL 739617 = 1065049440 := by decide +kernel
theorem okL : Ok cL.o cL.sh := ⟨by decide, by decide, trivial⟩
theorem chL : cchk cL = 0 := by
  have h : hchk [hL] = 0 := by unfold hchk chkR; simp [hL_valid]
  have e : cchk cL = if allW cL then 1 else if hchk [hL] ≠ 0 then hchk [hL] else if 200 < cL.cl.length then 2 else if cL.cl.all cloOk = false then 5 else if zchk 60 [] ≠ 0 then zchk 60 [] else if (1020 : Int) < 0 ∨ (1440 : Int) ≤ 1020 then 5 else 0 := rfl
  rw [e, h]; decide +kernel
end Go.Proofs.YtiilljcnikgeaaaDoor
/- The walk of the examples' function of the calendar's laws; the laws' own helper day. Conditions: the listed tables lie in memory. -/
namespace Go.Proofs.YtiilljcnikgeaaaDoor
open Go.RowKit

def dayL (n : Int) : Int := 739576 + around n 200
theorem dayL_bd (n : Int) : 739576 ≤ dayL n ∧ dayL n ≤ 739775 := by have := around_bd n (m := 200) (by omega); unfold dayL; omega
set_option maxHeartbeats 400000 in
theorem lday_any (n : Int) (w : World) (h1 : -9223372036854775808 ≤ n) (h2 : n ≤ 9223372036854775807) : Calls Tryd.prog 11 #[.int .i64 n] w (Pur (.int .i64 (dayL n)) w) := by
  have hA := fun w => around01 n 200 w h1 h2 (by omega) (by omega)
  obtain ⟨a1, a2⟩ := around_bd n (m := 200) (by omega)
  have hd : dayL n = 739576 + around n 200 := rfl
  rw [hd]
  generalize around n 200 = a at *
  have HA := Lib.hid hA; clear hA hd h1 h2
  go_enter Tryd.func11, Tryd.ntmps11
  go_wp2_with fail
  refine (HA.out _).mono ?_
  rintro e w1 ⟨rfl, rfl⟩
  go_wp2
  go_ret
  exact ⟨rfl, rfl⟩
abbrev aggL (vh vc : Value) : Value := .agg #[.bool false, .bool false, .bool false, .bool false, .bool false, .bool true, .bool true, vh, vc, .int .i64 60, .slice none 0 0, .int .i64 1020]
abbrev cellsL (vh vc : Value) : Array Value := #[.bool false, .bool false, .bool false, .bool false, .bool false, .bool true, .bool true, vh, vc, .int .i64 60, .slice none 0 0, .int .i64 1020]
theorem Blk.lal {w : World} {g t : Nat} {vh vc : Value} (b : Blk w g t (cellsL vh vc)) : w.cell? ⟨g, 0, none⟩ = some (.bool false) ∧ w.cell? ⟨g, 1, none⟩ = some (.bool false) ∧ w.cell? ⟨g, 2, none⟩ = some (.bool false) ∧ w.cell? ⟨g, 3, none⟩ = some (.bool false) ∧ w.cell? ⟨g, 4, none⟩ = some (.bool false) ∧ w.cell? ⟨g, 5, none⟩ = some (.bool true) ∧ w.cell? ⟨g, 6, none⟩ = some (.bool true) ∧ w.cell? ⟨g, 7, none⟩ = some vh ∧ w.cell? ⟨g, 8, none⟩ = some vc ∧ w.cell? ⟨g, 9, none⟩ = some (.int .i64 60) ∧ w.cell? ⟨g, 10, none⟩ = some (.slice none 0 0) ∧ w.cell? ⟨g, 11, none⟩ = some (.int .i64 1020) :=
  ⟨b.cell 0, b.cell 1, b.cell 2, b.cell 3, b.cell 4, b.cell 5, b.cell 6, b.cell 7, b.cell 8, b.cell 9, b.cell 10, b.cell 11⟩
theorem nextL (vh vc : Value) (w : World) (hG : GoodH w) (hc : CalIn w vh vc (.slice none 0 0) cL) : Calls Tryd.prog 19 #[aggL vh vc, .int .i64 739616, .int .i64 739618] w (Ret (.tuple #[.int .i64 739617, .int .i64 0]) w) := by
  have h := next_any cL vh vc (.slice none 0 0) 739616 739618 w hG hc
  rw [(fst_of f1).1, (fst_of f1).2] at h; exact h
theorem addL (vh vc : Value) (d n k x : Int) (w : World) (hG : GoodH w) (hc : CalIn w vh vc (.slice none 0 0) cL) (h : addV cL k d n = x ∧ addE cL k d n = 0) : Calls Tryd.prog 21 #[aggL vh vc, .int .i64 d, .int .i64 n, .int .i64 k] w (Ret (.tuple #[.int .i64 x, .int .i64 0]) w) := by
  have h' := add_any cL vh vc (.slice none 0 0) d n k w hG hc
  rw [h.1, h.2] at h'; exact h'
theorem filL (vh vc : Value) (t k x : Int) (w : World) (hG : GoodH w) (hc : CalIn w vh vc (.slice none 0 0) cL) (h1 : 0 ≤ t) (h2 : t ≤ 4000000000) (h : filV cL t k = x ∧ filE cL t k = 0) : Calls Tryd.prog 17 #[aggL vh vc, .int .i64 t, .int .i64 k] w (Ret (.tuple #[.int .i64 x, .int .i64 0]) w) := by
  have e := locL t (by omega)
  have h' := filed_any cL vh vc (.slice none 0 0) t k w hG hc (by rw [e]; omega) (by rw [e]; omega)
  rw [h.1, h.2] at h'; exact h'
theorem chkL (vh vc : Value) (w : World) (hc : CalIn w vh vc (.slice none 0 0) cL) : Calls Tryd.prog 10 #[aggL vh vc] w (Ret (.int .i64 0) w) := by
  have h' := ccheck_any cL vh vc (.slice none 0 0) w hc.at
  rw [chL] at h'; exact h'
theorem lasL (vh vc : Value) (w : World) (hc : CalIn w vh vc (.slice none 0 0) cL) : Calls Tryd.prog 15 #[aggL vh vc, .int .i64 739617] w (Ret (.int .i64 1065049440) w) := by
  have h' := last_any cL vh vc (.slice none 0 0) 739617 w hc okL (by decide) (by omega) (by omega) (by decide) (by decide)
  rw [laL] at h'; exact h'
theorem rowL (w : World) : CalIn ((w.alloc (.cells (cellsH hL) 39)).alloc (.cells #[.int .i64 739620, .int .i64 739621, .int .i64 739619] 36)) (.slice (some ⟨w.heap.size, 0, none⟩) 1 1) (.slice (some ⟨w.heap.size + 1, 0, none⟩) 1 1) (.slice none 0 0) cL := by
  have b1 : Blk ((w.alloc (.cells (cellsH hL) 39)).alloc (.cells #[.int .i64 739620, .int .i64 739621, .int .i64 739619] 36)) w.heap.size 39 (cellsH hL) := (Blk.new _ _ _).alloc _
  have b2 : Blk ((w.alloc (.cells (cellsH hL) 39)).alloc (.cells #[.int .i64 739620, .int .i64 739621, .int .i64 739619] 36)) (w.heap.size + 1) 36 #[.int .i64 739620, .int .i64 739621, .int .i64 739619] := Blk.at (by simp) _ _
  refine ⟨.inr ⟨w.heap.size, 0, 1, rfl, b1.lt, by decide, ?_⟩, .inr ⟨w.heap.size + 1, 0, 1, rfl, b2.lt, by decide, ?_⟩, IsSh.nil _, fun x hx => by rw [show x = hL from List.mem_singleton.1 hx]; exact hL_valid, by decide⟩
  · intro j x hx i u hu
    match j, hx with
    | 0, hx =>
      cases hx
      rw [b1.cell, ← hu]
      rw [← Array.getElem?_toList]; simp; rfl
    | j + 1, hx => exact absurd hx (by simp [cL])
  · intro j x hx i u hu
    match j, hx with
    | 0, hx =>
      cases hx
      rw [b2.cell, ← hu]
      rw [← Array.getElem?_toList]; simp; rfl
    | j + 1, hx => exact absurd hx (by simp [cL])
set_option maxRecDepth 100000 in
set_option maxHeartbeats 8000000 in
theorem clives_any (w : World) (hG : GoodH w) : Calls Tryd.prog 14 #[] w (Ret (.bool true) w) := by
  have hc0 := rowL w
  have hB0 : Below w.heap.size w ((w.alloc (.cells (cellsH hL) 39)).alloc (.cells #[.int .i64 739620, .int .i64 739621, .int .i64 739619] 36)) := bl_trans (bl_alloc _ _) (bl_alloc _ _)
  have HC0 := Lib.hid hc0; clear hc0
  go_enter Tryd.func14, Tryd.ntmps14
  go_upto_region 3 with (fail)
  have hcw := HC0.out
  have hsz : ((w.alloc (.cells (cellsH hL) 39)).alloc (.cells #[.int .i64 739620, .int .i64 739621, .int .i64 739619] 36)).heap.size = w.heap.size + 1 + 1 := by simp
  obtain ⟨W0, hW0⟩ : ∃ W0, ((w.alloc (.cells (cellsH hL) 39)).alloc (.cells #[.int .i64 739620, .int .i64 739621, .int .i64 739619] 36)) = W0 := ⟨_, rfl⟩
  change Code.wp _ _ _ _ (World.alloc ((w.alloc (.cells (cellsH hL) 39)).alloc (.cells #[.int .i64 739620, .int .i64 739621, .int .i64 739619] 36)) _)
  rw [hW0] at hcw hB0 hsz ⊢
  generalize hvh : Value.slice (some ⟨w.heap.size, 0, none⟩) 1 1 = vh at *
  generalize hvc : Value.slice (some ⟨w.heap.size + 1, 0, none⟩) 1 1 = vc at *
  have bX := Blk.new W0 30 (cellsL vh vc)
  have hB := bl_trans hB0 (bl_alloc W0 (.cells (cellsL vh vc) 30))
  have hcx := hcw.alloc (.cells (cellsL vh vc) 30)
  obtain ⟨X, hX⟩ : ∃ X, X = W0.heap.size := ⟨_, rfl⟩
  rw [← hX] at bX
  rw [← hsz, ← hX]
  have HC := Lib.hid hcx
  clear hcw hB0 hsz HC0 hvh hvc hX hcx
  generalize W0.alloc (.cells (cellsL vh vc) 30) = V0 at *
  clear hW0 W0
  obtain ⟨c0, c1, c2, c3, c4, c5, c6, c7, c8, c9, c10, c11⟩ := bX.lal
  go_wp2_with fail
  refine (nextL vh vc _ (hG.below hB) HC.out).mono ?_
  rintro e v1 ⟨rfl, hb⟩
  have bY := bX.below hb bX.lt
  have hB2 := bl_trans hB hb
  have HC2 := Lib.hid (HC.out.below hb)
  clear c0 c1 c2 c3 c4 c5 c6 c7 c8 c9 c10 c11 bX hB HC hb
  obtain ⟨V1, rfl⟩ : ∃ V, V = v1 := ⟨_, rfl⟩
  have bX := bY
  have hB := hB2
  have HC := HC2
  clear bY hB2 HC2
  obtain ⟨c0, c1, c2, c3, c4, c5, c6, c7, c8, c9, c10, c11⟩ := bX.lal
  go_wp2_with fail
  refine (addL vh vc _ _ _ _ _ (hG.below hB) HC.out a1).mono ?_
  rintro e v2 ⟨rfl, hb⟩
  have bY := bX.below hb bX.lt
  have hB2 := bl_trans hB hb
  have HC2 := Lib.hid (HC.out.below hb)
  clear c0 c1 c2 c3 c4 c5 c6 c7 c8 c9 c10 c11 bX hB HC hb
  obtain ⟨V2, rfl⟩ : ∃ V, V = v2 := ⟨_, rfl⟩
  have bX := bY
  have hB := hB2
  have HC := HC2
  clear bY hB2 HC2
  obtain ⟨c0, c1, c2, c3, c4, c5, c6, c7, c8, c9, c10, c11⟩ := bX.lal
  go_wp2_with fail
  refine (addL vh vc _ _ _ _ _ (hG.below hB) HC.out a2).mono ?_
  rintro e v3 ⟨rfl, hb⟩
  have bY := bX.below hb bX.lt
  have hB2 := bl_trans hB hb
  have HC2 := Lib.hid (HC.out.below hb)
  clear c0 c1 c2 c3 c4 c5 c6 c7 c8 c9 c10 c11 bX hB HC hb
  obtain ⟨V3, rfl⟩ : ∃ V, V = v3 := ⟨_, rfl⟩
  have bX := bY
  have hB := hB2
  have HC := HC2
  clear bY hB2 HC2
  obtain ⟨c0, c1, c2, c3, c4, c5, c6, c7, c8, c9, c10, c11⟩ := bX.lal
  go_wp2_with fail
  refine (addL vh vc _ _ _ _ _ (hG.below hB) HC.out a3).mono ?_
  rintro e v4 ⟨rfl, hb⟩
  have bY := bX.below hb bX.lt
  have hB2 := bl_trans hB hb
  have HC2 := Lib.hid (HC.out.below hb)
  clear c0 c1 c2 c3 c4 c5 c6 c7 c8 c9 c10 c11 bX hB HC hb
  obtain ⟨V4, rfl⟩ : ∃ V, V = v4 := ⟨_, rfl⟩
  have bX := bY
  have hB := hB2
  have HC := HC2
  clear bY hB2 HC2
  obtain ⟨c0, c1, c2, c3, c4, c5, c6, c7, c8, c9, c10, c11⟩ := bX.lal
  go_wp2_with fail
  refine (filL vh vc _ _ _ _ (hG.below hB) HC.out (by omega) (by omega) fi1).mono ?_
  rintro e v5 ⟨rfl, hb⟩
  have bY := bX.below hb bX.lt
  have hB2 := bl_trans hB hb
  have HC2 := Lib.hid (HC.out.below hb)
  clear c0 c1 c2 c3 c4 c5 c6 c7 c8 c9 c10 c11 bX hB HC hb
  obtain ⟨V5, rfl⟩ : ∃ V, V = v5 := ⟨_, rfl⟩
  have bX := bY
  have hB := hB2
  have HC := HC2
  clear bY hB2 HC2
  obtain ⟨c0, c1, c2, c3, c4, c5, c6, c7, c8, c9, c10, c11⟩ := bX.lal
  go_wp2_with fail
  refine (filL vh vc _ _ _ _ (hG.below hB) HC.out (by omega) (by omega) fi2).mono ?_
  rintro e v6 ⟨rfl, hb⟩
  have bY := bX.below hb bX.lt
  have hB2 := bl_trans hB hb
  have HC2 := Lib.hid (HC.out.below hb)
  clear c0 c1 c2 c3 c4 c5 c6 c7 c8 c9 c10 c11 bX hB HC hb
  obtain ⟨V6, rfl⟩ : ∃ V, V = v6 := ⟨_, rfl⟩
  have bX := bY
  have hB := hB2
  have HC := HC2
  clear bY hB2 HC2
  obtain ⟨c0, c1, c2, c3, c4, c5, c6, c7, c8, c9, c10, c11⟩ := bX.lal
  go_wp2_with fail
  refine (filL vh vc _ _ _ _ (hG.below hB) HC.out (by omega) (by omega) fi3).mono ?_
  rintro e v7 ⟨rfl, hb⟩
  have bY := bX.below hb bX.lt
  have hB2 := bl_trans hB hb
  have HC2 := Lib.hid (HC.out.below hb)
  clear c0 c1 c2 c3 c4 c5 c6 c7 c8 c9 c10 c11 bX hB HC hb
  obtain ⟨V7, rfl⟩ : ∃ V, V = v7 := ⟨_, rfl⟩
  have bX := bY
  have hB := hB2
  have HC := HC2
  clear bY hB2 HC2
  obtain ⟨c0, c1, c2, c3, c4, c5, c6, c7, c8, c9, c10, c11⟩ := bX.lal
  go_wp2_with fail
  refine (chkL vh vc _ HC.out).mono ?_
  rintro e v8 ⟨rfl, hb⟩
  have bY := bX.below hb bX.lt
  have hB2 := bl_trans hB hb
  have HC2 := Lib.hid (HC.out.below hb)
  clear c0 c1 c2 c3 c4 c5 c6 c7 c8 c9 c10 c11 bX hB HC hb
  obtain ⟨V8, rfl⟩ : ∃ V, V = v8 := ⟨_, rfl⟩
  have bX := bY
  have hB := hB2
  have HC := HC2
  clear bY hB2 HC2
  obtain ⟨c0, c1, c2, c3, c4, c5, c6, c7, c8, c9, c10, c11⟩ := bX.lal
  go_wp2_with fail
  refine (lasL vh vc _ HC.out).mono ?_
  rintro e v9 ⟨rfl, hb⟩
  go_wp2
  go_ret
  exact ⟨rfl, bl_trans hB hb⟩
end Go.Proofs.YtiilljcnikgeaaaDoor
