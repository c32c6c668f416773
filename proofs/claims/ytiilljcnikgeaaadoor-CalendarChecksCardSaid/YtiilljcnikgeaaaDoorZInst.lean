/- The walk of zone.Instants. Conditions: the zone lies in memory and is valid; bounds. -/
import Derived.Test.YtiilljcnikgeaaaDoorZSort
namespace Go.Proofs.YtiilljcnikgeaaaDoor
open Go.RowKit
attribute [local go_sem] Oper.semAt_some

/-- a segment's bounds -/
def segB (s : Seg) : Prop := -1125899906842624 ≤ s.f ∧ s.f ≤ 8589934592 ∧ -900 ≤ s.o ∧ s.o ≤ 900 ∧ -900 ≤ s.b ∧ s.b ≤ 900
theorem segB_segs : ∀ {l : Sh} {f o b : Int}, chain f l → -1125899906842624 ≤ f → f ≤ 8589934592 → -900 ≤ o ∧ o ≤ 900 → -900 ≤ b ∧ b ≤ 900 → ∀ s, s ∈ segs f o b l → segB s
  | [], f, o, b, _, h1, h2, h3, h4, s, hs => by
    simp [segs] at hs; subst hs; exact ⟨h1, h2, h3.1, h3.2, h4.1, h4.2⟩
  | (a, o') :: l, f, o, b, ⟨k1, k2, k3, k4, k5⟩, h1, h2, h3, h4, s, hs => by
    rcases List.mem_cons.1 hs with e | e
    · subst e; exact ⟨h1, h2, h3.1, h3.2, h4.1, h4.2⟩
    · exact segB_segs k5 (by omega) k2 ⟨k3, k4⟩ h3 s e
theorem Ok.segB {o : Int} {l : Sh} (h : Ok o l) : ∀ s, s ∈ segsOf o l → segB s := segB_segs h.ch (by omega) (by omega) ⟨h.1, h.2.1⟩ ⟨h.1, h.2.1⟩

theorem insS_snoc (n : Int) (pre : List Seg) (x : Seg) : insS n (pre ++ [x]) = if inB n x then insS n pre ++ [n - x.o] else insS n pre := by
  unfold insS
  rw [List.filter_append, List.map_append, List.filter_cons]
  by_cases h : inB n x = true
  · rw [if_pos h, if_pos h]; rfl
  · rw [if_neg h, if_neg h]; simp
theorem row_ownT {β : Type} {T : TypeId → Bool} {B base : Nat} {e : TypeId} {size : Nat} (v : Value) (n : β → Nat) (xs : β → List Value) (ht : T e = false) : OwnT T B (fun s W => W.ownsRow base e size v (n s) (xs s)) := by
  intro s W W' row h hg hr
  refine h.kept hg ?_
  rcases hv : v.ownBlock with _ | g
  · exact .inl rfl
  · refine .inr (fun e' => ?_)
    obtain ⟨_, ob, ho, hc⟩ := hr g e'.symm
    rcases h.2 with ⟨h1, _⟩ | ⟨g', cap', cur, h1, _, hh, _⟩
    · rw [h1] at hv; cases hv
    · rw [h1] at hv
      have : g' = g := by simpa [Value.ownBlock] using hv
      rw [this] at hh
      rw [hh] at ho; cases ho
      rcases hc with hc | hc
      · cases hc
      · rw [show mineB T (Obj.cells cur e (0, 0)) = T e from rfl, ht] at hc; cases hc
theorem row_ne {w : World} {base : Nat} {e : TypeId} {size n : Nat} {v : Value} {xs : List Value} {g t cs} (h : w.ownsRow base e size v n xs) (hb : Blk w g t cs) (hne : e ≠ t) : v.ownBlock ≠ some g := by
  rcases h.2 with ⟨h1, _⟩ | ⟨g', cap', cur, h1, _, hh, _⟩
  · rw [h1]; intro k; cases k
  · rw [h1]
    intro k
    have : g' = g := by simpa [Value.ownBlock] using k
    rw [this] at hh
    exact Blk.ne (t := e) hh hb hne rfl
theorem row_mine {w : World} {T : TypeId → Bool} {base : Nat} {e : TypeId} {size n : Nat} {v : Value} {xs : List Value} (h : w.ownsRow base e size v n xs) (ht : T e = false) : ∀ r, v.ownBlock = some r → base ≤ r ∧ ∀ o : Obj, w.heap[r]? = some o → mineB T o = false := by
  intro r hr
  rcases h.2 with ⟨h1, _⟩ | ⟨g', cap', cur, h1, hb, hh, _⟩
  · rw [h1] at hr; cases hr
  · rw [h1] at hr
    have : g' = r := by simpa [Value.ownBlock] using hr
    subst this
    exact ⟨hb, fun o ho => by rw [hh] at ho; cases ho; exact ht⟩
def InsI (day m : Int) (w : World) (pre : List Seg) (W : World) : Prop :=
  (Blk W (w.heap.size + 1) 3 #[.int .i64 day] ∧ Blk W (w.heap.size + 1 + 1) 3 #[.int .i64 m]) ∧
  (∃ sv, Blk W (w.heap.size + 1 + 1 + 1) 22 #[sv] ∧ W.ownsRow (w.heap.size + 5) 3 1 sv (insS (day * 1440 + m) pre).length ((insS (day * 1440 + m) pre).map (Value.int .i64))) ∧ w.heap.size + 5 ≤ W.heap.size ∧ Below w.heap.size w W
def InsPost (l : List Int) (w : World) (e : Ending) (w' : World) : Prop := ∃ v, e = .returned v ∧ w'.ownsRow w.heap.size 3 1 v l.length (l.map (Value.int .i64)) ∧ Below w.heap.size w w'

set_option maxRecDepth 100000 in
set_option maxHeartbeats 4000000 in
theorem zinst_in (o day m : Int) (v : Value) (sh : Sh) (w : World) (hI : IsSh w v sh) (hok : Ok o sh) (hd1 : -100000000000 ≤ day) (hd2 : day ≤ 100000000000) (hm1 : 0 ≤ m) (hm2 : m < 1440) (hlen : sh.length ≤ 1000000000) :
    Calls Tryd.prog 35 #[.agg #[.int .i64 o, v], .int .i64 day, .int .i64 m] w (InsPost (ins o sh (day * 1440 + m)) w) := by
  obtain ⟨i0, hi, hz0, hz1, hz2⟩ := info_parts infoInt
  have g1 : decide (m < 0) = false := by simp; omega
  have g2 : decide (1440 ≤ m) = false := by simp; omega
  refine (callsIn_wide (n := 3)).1 ?_
  refine callsIn_of_wp_marks Tryd.func35 rfl trivial ?_ rfl
  simp only [Tryd.ntmps35, List.size_toArray, List.length_cons, List.length_nil, Nat.reduceAdd, Nat.reduceSub, Array.replicate_succ, Array.replicate_zero, List.push_toArray, List.append_toArray, List.nil_append, List.cons_append]
  gi_wp2_with (refine ⟨trivial, ?_⟩; gi_at_call 52; refine (segments_any _ _ _ _).mono ?_; rintro e w' ⟨rfl, rfl⟩)
  clear g1 g2
  obtain ⟨W0, hW0⟩ : ∃ W0, (((((w.alloc (.cells #[.int .i64 o, v] 28)).alloc (.cells #[.int .i64 day] 3)).alloc (.cells #[.int .i64 m] 3)).alloc (.cells #[.slice none 0 0] 22)).alloc (.cells #[.int .i64 o, v] 28)) = W0 := ⟨_, rfl⟩
  have hB0 : Below w.heap.size w W0 := by rw [← hW0]; exact bl_trans (below4 w _ _ _ _) (bl_alloc _ _)
  have hs0 : w.heap.size + 5 ≤ W0.heap.size := by rw [← hW0]; simp
  have bD : Blk W0 (w.heap.size + 1) 3 #[.int .i64 day] := by rw [← hW0]; exact (((Blk.at (by simp) _ _).alloc _).alloc _).alloc _
  have bM : Blk W0 (w.heap.size + 1 + 1) 3 #[.int .i64 m] := by rw [← hW0]; exact ((Blk.at (by simp) _ _).alloc _).alloc _
  have bL : Blk W0 (w.heap.size + 1 + 1 + 1) 22 #[.slice none 0 0] := by rw [← hW0]; exact (Blk.at (by simp) _ _).alloc _
  have bZ : Blk W0 (w.heap.size + 1 + 1 + 1 + 1) 28 #[.int .i64 o, v] := by rw [← hW0]; exact Blk.at (by simp) _ _
  rw [hW0]
  clear hW0
  refine wpIn_rangeFunc_ownT segT rfl (by omega) (gf := 74) (lb := #[.pointer (some ⟨w.heap.size + 1 + 1 + 1 + 1, 0, none⟩)]) rfl trivial (enters_of Tryd.func74 (by kernel_rfl) rfl)
    (segs_stops (3 - 1) (by omega) (w.heap.size + 1 + 1 + 1 + 1) w.heap.size o v sh w W0 rfl hI hB0 (by omega) (bZ.cell 0) (bZ.cell 1) segB hok.segB) keepT_t (keepT_b (by omega)) (Below.refl _ _) (fun _ => rfl)
    (InsI day m w) (fun _ _ _ => False) ?own (fun _ _ _ _ _ hs _ _ => hs) ?start
    (fun x a' W => ∃ Bx, w.heap.size ≤ Bx ∧ Blk W Bx 89 #[.int .i64 x.f, .int .i64 x.u, .int .i64 x.o, .int .i64 x.b] ∧ a' = { tmps := #[.agg #[.int .i64 o, v], .int .i64 day, .int .i64 m, .pointer (some ⟨w.heap.size, 0, none⟩), .pointer (some ⟨w.heap.size + 1, 0, none⟩), .pointer (some ⟨w.heap.size + 1 + 1, 0, none⟩), .slice none 0 0, .pointer (some ⟨w.heap.size + 1 + 1 + 1, 0, none⟩), .pointer (some ⟨Bx, 0, none⟩), undef, .int .i64 m, .bool false, .bool false, .int .i64 m, .bool false, .bool false, .agg #[.int .i64 o, v], .func (.func 74) #[] #[.pointer (some ⟨w.heap.size + 1 + 1 + 1 + 1, 0, none⟩)], .agg #[.int .i64 x.f, .int .i64 x.u, .int .i64 x.o, .int .i64 x.b], undef, undef, undef, undef, undef, undef, undef, undef, undef, undef, undef, undef, undef, undef, undef, undef, undef, undef, undef, undef, undef, undef, undef, undef], defers := [] })
    ?ax ?assign ?body ?done ?stop
  case own =>
    refine ((Blk.ownT _ _ _ rfl).and (Blk.ownT _ _ _ rfl)).and (OwnT.and ?_ (OwnT.and (fun _ _ _ _ hs hg _ => Nat.le_trans hs hg.size) (belowT (Nat.le_refl _) (by omega))))
    intro s A B row hs hg hr
    obtain ⟨sv, h1, h2⟩ := hs
    exact ⟨sv, Blk.ownT _ _ (fun (_ : Unit) => #[sv]) rfl () A B row h1 hg hr, row_ownT sv (fun s => (insS (day * 1440 + m) s).length) (fun s => (insS (day * 1440 + m) s).map (Value.int .i64)) rfl s A B row h2 hg hr⟩
  case start => exact ⟨⟨bD, bM⟩, ⟨_, bL, World.ownsRow_nil _ _ _ _⟩, hs0, hB0⟩
  case ax =>
    intro x a' _ X Y row hs hg hr
    obtain ⟨Bx, h1, h2, h3⟩ := hs
    exact ⟨Bx, h1, h2.kept hg (fun e => by obtain ⟨_, ob, ho, hc⟩ := hr Bx e.symm; rw [show X.heap[Bx]? = _ from h2] at ho; cases ho; cases hc), h3⟩
  case assign =>
    rintro l pre x W K ⟨⟨bD1, bM1⟩, ⟨sv, bL1, hrow⟩, hs1, hB1⟩ hK
    dsimp only [encSeg]
    gi_wp2
    exact hK _ _ ((KeepsOthers.alloc _ _).from _) (KeepT.alloc hB1.size _) ⟨⟨bD1.alloc _, bM1.alloc _⟩, ⟨sv, bL1.alloc _, hrow.alloc _⟩, (by simp; omega), bl_trans hB1 (bl_alloc _ _)⟩ ⟨W.heap.size, hB1.size, Blk.new _ _ _, rfl⟩
  case body =>
    rintro l pre x a' W hl ⟨r, hr⟩ ⟨⟨bD1, bM1⟩, ⟨sv, bL1, hrow⟩, hs1, hB1⟩ ⟨Bx, hBx, bX, rfl⟩ hx hlt
    have cD := bD1.cell 0
    have cM := bM1.cell 0
    have cL := bL1.cell 0
    have fL := bL1.frozen 0
    have x0 := bX.cell 0
    have x1 := bX.cell 1
    have x2 := bX.cell 2
    simp at cD cM cL x0 x1 x2
    obtain ⟨b1, b2, b3, b4, b5, b6⟩ := hx
    have hlen2 : (insS (day * 1440 + m) pre).length ≤ pre.length := by unfold insS; rw [List.length_map]; exact List.length_filter_le _ _
    have hsn := insS_snoc (day * 1440 + m) pre x
    have hinB : inB (day * 1440 + m) x = decide (x.f ≤ day * 1440 + m - x.o ∧ day * 1440 + m - x.o < x.u) := rfl
    rw [hinB] at hsn
    by_cases hin : x.f ≤ day * 1440 + m - x.o ∧ day * 1440 + m - x.o < x.u
    · rw [if_pos (decide_eq_true hin)] at hsn
      have HSN := Lib.hid hsn
      clear hsn hinB
      obtain ⟨hin1, hin2⟩ := hin
      have hvB : Boxed W (w.heap.size + 1 + 1 + 1) 22 sv := bL1
      have hms : maxLen = 9223372036854775807 := rfl
      have HMS := Lib.hid hms; clear hms
      gi_wp2_with (gi_at_builtin; refine wpListIn_append_own _ rfl _ _ 22 rfl (w.heap.size + 5) 3 i0 (.int .i64 0) 1 8 Tryd.underlying22 hi hz0 hz1 hz2 rfl (by decide) _ _ _ rfl (hrow.alloc _) ⟨W.heap.size, 0, none⟩ 1 1 [.int .i64 (day * 1440 + m - x.o)] rfl rfl (cell_one_new _ _ _) (by simp [Value.oneCell']) (by have := HMS.out; omega) (by omega) (by simp; omega) ?_; intro v' w1 hown' hgrow _; obtain ⟨g', cap', rfl⟩ := ownsRow_succ hown'; obtain ⟨hv1, hv2, hr2, hk2, hb2⟩ := hvB.appended (by decide) (row_base hrow (show w.heap.size ≤ w.heap.size + 5 by omega)) hB1.size (by omega) (row_base hown' (show w.heap.size ≤ w.heap.size + 5 by omega)) hgrow; have hc1 := hv1.cell; have hf1 := hv1.frozen)
      have hra := hrow.alloc (.cells #[.int .i64 (day * 1440 + m - x.o)] 3)
      have e1 := (bD1.alloc (.cells #[.int .i64 (day * 1440 + m - x.o)] 3)).kept hgrow (row_far hra (by omega))
      have e2 := (bM1.alloc (.cells #[.int .i64 (day * 1440 + m - x.o)] 3)).kept hgrow (row_far hra (by omega))
      have kp : KeepT segT w.heap.size W (w1.setCell ⟨w.heap.size + 1 + 1 + 1, 0, none⟩ (.slice (some ⟨g', 0, none⟩) ((insS (day * 1440 + m) pre).length + 1) cap')) :=
        keepT_t (keepT_t (KeepT.alloc hB1.size _) (KeepT.grown hgrow (by simp; omega) (row_mine (row_base hra (show w.heap.size ≤ w.heap.size + 5 by omega)) rfl))) (KeepT.set (t := 22) hv1 rfl (by omega) (by have := hgrow.size; simp at this; omega) _ _)
      refine ⟨hk2.from _, kp, ⟨e1.far (by simp) _, e2.far (by simp) _⟩, ⟨_, hv2, ?_⟩, by have := hgrow.size; simp at this ⊢; omega, hB1.trans hb2⟩
      rw [HSN.out]
      simpa using hown'.kept (grown_setAt w1 (w.heap.size + 1 + 1 + 1) 0 (.slice (some ⟨g', 0, none⟩) ((insS (day * 1440 + m) pre).length + 1) cap')) (.inr (row_far hown' (by omega)).symm)
    · rw [if_neg (by rw [decide_eq_true_eq]; exact hin)] at hsn
      have HSN := Lib.hid hsn
      clear hsn hinB
      by_cases hin1 : x.f ≤ day * 1440 + m - x.o
      · have hin2 : ¬ day * 1440 + m - x.o < x.u := fun h => hin ⟨hin1, h⟩
        clear hin
        gi_wp2
        exact ⟨KeepsFrom.refl _ _, KeepT.refl _ _ _, ⟨bD1, bM1⟩, ⟨sv, bL1, by rw [HSN.out]; exact hrow⟩, hs1, hB1⟩
      · clear hin
        gi_wp2
        exact ⟨KeepsFrom.refl _ _, KeepT.refl _ _ _, ⟨bD1, bM1⟩, ⟨sv, bL1, by rw [HSN.out]; exact hrow⟩, hs1, hB1⟩
  case done =>
    rintro D ys W hD rfl ⟨⟨bD1, bM1⟩, ⟨sv, bL1, hrow⟩, hs1, hB1⟩ hK
    have cL := bL1.cell 0
    simp at cL
    have hss : sortI (insS (day * 1440 + m) (segsOf o sh)) = insS (day * 1440 + m) (segsOf o sh) := sortI_self (ins_sorted _ hok.ch)
    have hln : (insS (day * 1440 + m) (segsOf o sh)).length ≤ 2 := ins_len hok.ch ⟨hok.1, hok.2.1⟩
    have HSS := Lib.hid hss; clear hss
    gi_wp2_with (refine ⟨trivial, ?_⟩; gi_at_call 43; refine (callsIn_wide.2 (sort_row hrow (by omega))).mono ?_; rintro e w1 ⟨rfl, hr1, hg1⟩; have cL1 := (bL1.kept hg1 (row_far hrow (by omega))).cell 0; simp at cL1)
    have hKne : some D ≠ sv.ownBlock := by
      intro k
      rcases hrow.2 with ⟨h1, _⟩ | ⟨g', cap', cur, h1, _, hh, _⟩
      · rw [h1] at k; cases k
      · rw [h1] at k
        have : D = g' := by simpa [Value.ownBlock] using k
        rw [← this, hK] at hh; cases hh
    have hK' : w1.heap[D]? = some (.deferred (some [])) := (hg1.block D (Array.getElem?_eq_some_iff.1 hK).1 hKne).trans hK
    have hB2 : Below w.heap.size w w1 := hB1.grown hg1 hB1.size (fun k e => by have := (hrow.lt k e).1; omega)
    refine ⟨by simp, .inl ⟨_, _, rfl, run_takeDeferred hK', ?_⟩⟩
    rw [HSS.out] at hr1
    exact ⟨_, results_tmp rfl _ _ _, sv, rfl, row_base (ownsRow_putObj hr1 _ hK' rfl) (by omega), hB2.trans (belowK_b (w := w) (Nat.le_refl _) w1 D _ _ (by omega) hK' rfl rfl)⟩
  case stop =>
    rintro D c pre W hD hpre h hK
    exact h.elim
end Go.Proofs.YtiilljcnikgeaaaDoor
