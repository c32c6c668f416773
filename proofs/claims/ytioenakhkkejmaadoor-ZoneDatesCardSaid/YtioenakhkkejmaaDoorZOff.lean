/- The walk of zone.Offset. Conditions: the zone lies in memory. -/
import Derived.Test.YtioenakhkkejmaaDoorZIter
namespace Go.Proofs.YtioenakhkkejmaaDoor
open Go.RowKit
attribute [local go_sem] Oper.semAt_some

theorem offS_all {t : Int} : ∀ {ss : List Seg}, (∀ s, s ∈ ss → s.u ≤ t) → offS ss t = 0
  | [], _ => rfl
  | s :: r, h => by
    show (if t < s.u then s.o else offS r t) = 0
    rw [if_neg (by have := h s (by simp); omega)]
    exact offS_all (fun x hx => h x (List.mem_cons_of_mem _ hx))
theorem offS_hit {t : Int} {q : Seg} {rest : List Seg} (hq : t < q.u) : ∀ {ini : List Seg}, (∀ s, s ∈ ini → s.u ≤ t) → offS (ini ++ [q] ++ rest) t = q.o
  | [], _ => by show (if t < q.u then q.o else _) = _; rw [if_pos hq]
  | s :: r, h => by
    show (if t < s.u then s.o else offS (r ++ [q] ++ rest) t) = _
    rw [if_neg (by have := h s (by simp); omega)]
    exact offS_hit hq (fun x hx => h x (List.mem_cons_of_mem _ hx))
theorem below3 (w : World) (a b c : Obj) : Below w.heap.size w (((w.alloc a).alloc b).alloc c) := bl_trans (bl_trans (bl_alloc _ _) (bl_alloc _ _)) (bl_alloc _ _)
theorem below4 (w : World) (a b c d : Obj) : Below w.heap.size w ((((w.alloc a).alloc b).alloc c).alloc d) := bl_trans (below3 w a b c) (bl_alloc _ _)

def OffI (t : Int) (w : World) (pre : List Seg) (W : World) : Prop := (∀ s, s ∈ pre → s.u ≤ t) ∧ Blk W (w.heap.size + 1) 3 #[.int .i64 t] ∧ Blk W (w.heap.size + 1 + 1) 3 #[.int .i64 0] ∧ Below w.heap.size w W
def OffX (t : Int) (w : World) (c : Code) (pre : List Seg) (W : World) : Prop := (c = .ret ∧ ∃ ini last, pre = ini ++ [last] ∧ (∀ s, s ∈ ini → s.u ≤ t) ∧ t < last.u ∧ Blk W (w.heap.size + 1 + 1) 3 #[.int .i64 last.o]) ∧ Below w.heap.size w W

set_option maxRecDepth 100000 in
set_option maxHeartbeats 4000000 in
theorem zoff_any (o t : Int) (v : Value) (sh : Sh) (w : World) (hI : IsSh w v sh) :
    Calls Tryd.prog 11 #[.agg #[.int .i64 o, v], .int .i64 t] w (Ret (.int .i64 (offS (segsOf o sh) t)) w) := by
  refine (callsIn_wide (n := 3)).1 ?_
  refine callsIn_of_wp_marks Tryd.func11 rfl trivial ?_ rfl
  simp only [Tryd.ntmps11, List.size_toArray, List.length_cons, List.length_nil, Nat.reduceAdd, Nat.reduceSub, Array.replicate_succ, Array.replicate_zero, List.push_toArray, List.append_toArray, List.nil_append, List.cons_append]
  gi_wp2_with (refine ⟨trivial, ?_⟩; gi_at_call 23; refine (segments_any _ _ _ _).mono ?_; rintro e w' ⟨rfl, rfl⟩)
  obtain ⟨W0, hW0⟩ : ∃ W0, ((((w.alloc (.cells #[.int .i64 o, v] 25)).alloc (.cells #[.int .i64 t] 3)).alloc (.cells #[.int .i64 0] 3)).alloc (.cells #[.int .i64 o, v] 25)) = W0 := ⟨_, rfl⟩
  have hB0 : Below w.heap.size w W0 := by rw [← hW0]; exact below4 w _ _ _ _
  have hs0 : w.heap.size + 4 ≤ W0.heap.size := by rw [← hW0]; simp
  have bT : Blk W0 (w.heap.size + 1) 3 #[.int .i64 t] := by rw [← hW0]; exact ((Blk.at (by simp) _ _).alloc _).alloc _
  have bR : Blk W0 (w.heap.size + 1 + 1) 3 #[.int .i64 0] := by rw [← hW0]; exact (Blk.at (by simp) _ _).alloc _
  have bZ : Blk W0 (w.heap.size + 1 + 1 + 1) 25 #[.int .i64 o, v] := by rw [← hW0]; exact Blk.at (by simp) _ _
  rw [hW0]
  clear hW0
  refine wpIn_rangeFunc_ownT segT rfl (by omega) (gf := 35) (lb := #[.pointer (some ⟨w.heap.size + 1 + 1 + 1, 0, none⟩)]) rfl trivial (enters_of Tryd.func35 (by kernel_rfl) rfl)
    (segs_stops (3 - 1) (by omega) (w.heap.size + 1 + 1 + 1) w.heap.size o v sh w W0 rfl hI hB0 (by omega) (bZ.cell 0) (bZ.cell 1) (fun _ => True) (fun _ _ => trivial)) keepT_t (keepT_b (by omega)) (Below.refl _ _) (fun _ => rfl)
    (OffI t w) (OffX t w) ?own ?ownx ?start
    (fun x a' W => ∃ Bx, w.heap.size ≤ Bx ∧ Blk W Bx 57 #[.int .i64 x.f, .int .i64 x.u, .int .i64 x.o, .int .i64 x.b] ∧ a' = { tmps := #[.agg #[.int .i64 o, v], .int .i64 t, .pointer (some ⟨w.heap.size, 0, none⟩), .pointer (some ⟨w.heap.size + 1, 0, none⟩), .pointer (some ⟨w.heap.size + 1 + 1, 0, none⟩), .pointer (some ⟨Bx, 0, none⟩), .agg #[.int .i64 o, v], .func (.func 35) #[] #[.pointer (some ⟨w.heap.size + 1 + 1 + 1, 0, none⟩)], .agg #[.int .i64 x.f, .int .i64 x.u, .int .i64 x.o, .int .i64 x.b], undef, undef, undef, undef, undef, undef], defers := [] })
    ?ax ?assign ?body ?done ?stop
  case own => exact (pureT _).and ((Blk.ownT _ _ _ rfl).and ((Blk.ownT _ _ _ rfl).and (belowT (Nat.le_refl _) (by omega))))
  case ownx =>
    intro c s A B row hs hg hr
    obtain ⟨⟨e1, ini, last, e2, e3, e4, e5⟩, hb⟩ := hs
    exact ⟨⟨e1, ini, last, e2, e3, e4, Blk.ownT _ _ (fun (_ : Unit) => #[.int .i64 last.o]) rfl () A B row e5 hg hr⟩, belowT (Nat.le_refl _) (by omega) () A B row hb hg hr⟩
  case start => exact ⟨(fun s hs => by cases hs), bT, bR, hB0⟩
  case ax =>
    intro x a' _ X Y row hs hg hr
    obtain ⟨Bx, h1, h2, h3⟩ := hs
    exact ⟨Bx, h1, h2.kept hg (fun e => by obtain ⟨_, ob, ho, hc⟩ := hr Bx e.symm; rw [show X.heap[Bx]? = _ from h2] at ho; cases ho; cases hc), h3⟩
  case assign =>
    rintro l pre x W K ⟨hp, bT1, bR1, hB1⟩ hK
    dsimp only [encSeg]
    gi_wp2
    exact hK _ _ ((KeepsOthers.alloc _ _).from _) (KeepT.alloc hB1.size _) ⟨hp, bT1.alloc _, bR1.alloc _, bl_trans hB1 (bl_alloc _ _)⟩ ⟨W.heap.size, hB1.size, Blk.new _ _ _, rfl⟩
  case body =>
    rintro l pre x a' W hl ⟨r, hr⟩ ⟨hp, bT1, bR1, hB1⟩ ⟨Bx, hBx, bX, rfl⟩ _ hlt
    have cT := bT1.cell 0
    have x1 := bX.cell 1
    have x2 := bX.cell 2
    have cR := bR1.cell 0
    have fR := bR1.frozen 0
    simp at cT x1 x2 cR
    have HP := Lib.hid hp; clear hp
    by_cases hu : t < x.u
    · gi_wp2
      exact ⟨keepsFrom_set _ _ _ _ _ bR1, ⟨rfl, pre, x, rfl, HP.out, hu, bR1.set 0 _⟩, hB1.setCell (p := ⟨w.heap.size + 1 + 1, 0, none⟩) (by simp; omega) _⟩
    · gi_wp2
      exact ⟨KeepsFrom.refl _ _, KeepT.refl _ _ _, fun s hs => (List.mem_append.1 hs).elim (HP.out s) (fun e => by simp at e; subst e; omega), bT1, bR1, hB1⟩
  case done =>
    rintro D ys W hD rfl ⟨hp, bT1, bR1, hB1⟩ hK
    have cR := bR1.cell 0
    have fR := bR1.frozen 0
    simp at cR
    have HP := Lib.hid hp; clear hp
    gi_wp2
    have hK' := (KeepsOthers.setCell W ⟨w.heap.size + 1 + 1, 0, none⟩ (.int .i64 0)).same D _ hK rfl
    refine ⟨by simp, .inl ⟨_, _, rfl, run_takeDeferred hK', ?_⟩⟩
    have hc5 := (((bR1.set 0 (.int .i64 0)).put hK' (.deferred none))).cell 0
    refine ⟨.int .i64 0, ?_, by rw [offS_all HP.out], (hB1.setCell (p := ⟨w.heap.size + 1 + 1, 0, none⟩) (by simp; omega) _).trans (belowK_b (w := w) (Nat.le_refl _) _ D _ _ (by omega) hK' rfl rfl)⟩
    simp at hc5
    simp [results, Tryd.f11, go_sem, hc5]
  case stop =>
    rintro D c pre W hD hpre ⟨⟨rfl, ini, last, e1, e2, e3, e4⟩, hB⟩ hK
    obtain ⟨rest, hrest⟩ := hpre
    have hoff : offS (segsOf o sh) t = last.o := by rw [← hrest, e1]; exact offS_hit e3 e2
    have HO := Lib.hid hoff; clear hoff hrest e1 e2
    gi_wp2
    refine ⟨by simp, .inl ⟨_, _, rfl, run_takeDeferred hK, ?_⟩⟩
    have hc5 := (e4.put hK (.deferred none)).cell 0
    refine ⟨.int .i64 last.o, ?_, by rw [HO.out], hB.trans (belowK_b (w := w) (Nat.le_refl _) W D _ _ (by omega) hK rfl rfl)⟩
    simp at hc5
    simp [results, Tryd.f11, go_sem, hc5]
end Go.Proofs.YtioenakhkkejmaaDoor
