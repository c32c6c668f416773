/- The walk of zone.Resolve. Conditions: the zone lies in memory and is valid; bounds. -/
import Derived.Test.YtiilljcnikgeaaaDoorZInst
namespace Go.Proofs.YtiilljcnikgeaaaDoor
open Go.RowKit
attribute [local go_sem] Oper.semAt_some

def ResI (n : Int) (w : World) (B : Nat) (pre : List Seg) (W : World) : Prop := (∀ s, s ∈ pre → gapB n s = false) ∧ Blk W B 3 #[.int .i64 n] ∧ Blk W (w.heap.size + 1) 3 #[.int .i64 0] ∧ Below w.heap.size w W
def ResX (n : Int) (w : World) (c : Code) (pre : List Seg) (W : World) : Prop := (c = .ret ∧ ∃ ini last, pre = ini ++ [last] ∧ (∀ s, s ∈ ini → gapB n s = false) ∧ gapB n last = true ∧ Blk W (w.heap.size + 1) 3 #[.int .i64 last.f]) ∧ Below w.heap.size w W
theorem resS_none {n : Int} : ∀ {ss : List Seg}, (∀ s, s ∈ ss → gapB n s = false) → resS n ss = 0
  | [], _ => rfl
  | s :: r, h => by
    show (if gapB n s then s.f else resS n r) = 0
    rw [if_neg (by rw [h s (by simp)]; decide)]
    exact resS_none (fun x hx => h x (List.mem_cons_of_mem _ hx))
theorem resS_hit {n : Int} {q : Seg} {rest : List Seg} (hq : gapB n q = true) : ∀ {ini : List Seg}, (∀ s, s ∈ ini → gapB n s = false) → resS n (ini ++ [q] ++ rest) = q.f
  | [], _ => by show (if gapB n q then q.f else _) = _; rw [if_pos hq]
  | s :: r, h => by
    show (if gapB n s then s.f else resS n (r ++ [q] ++ rest)) = _
    rw [if_neg (by rw [h s (by simp)]; decide)]
    exact resS_hit hq (fun x hx => h x (List.mem_cons_of_mem _ hx))

set_option maxRecDepth 100000 in
set_option maxHeartbeats 4000000 in
theorem zres_gap (o day m : Int) (late : Bool) (v : Value) (sh : Sh) (w : World) (hI : IsSh w v sh) (hok : Ok o sh) (hd1 : -100000000000 ≤ day) (hd2 : day ≤ 100000000000) (hm1 : 0 ≤ m) (hm2 : m < 1440) (hlen : sh.length ≤ 1000000000) (he : ins o sh (day * 1440 + m) = []) :
    Calls Tryd.prog 36 #[.agg #[.int .i64 o, v], .int .i64 day, .int .i64 m, .bool late] w (Ret (.int .i64 (resR (day * 1440 + m) o sh)) w) := by
  refine (callsIn_wide (n := 3)).1 ?_
  refine callsIn_of_wp_marks Tryd.func36 rfl trivial ?_ rfl
  simp only [Tryd.ntmps36, List.size_toArray, List.length_cons, List.length_nil, Nat.reduceAdd, Nat.reduceSub, Array.replicate_succ, Array.replicate_zero, List.push_toArray, List.append_toArray, List.nil_append, List.cons_append]
  have HE := Lib.hid he; clear he
  have hIb := hI.below (bl_trans (bl_alloc w (.cells #[.int .i64 o, v] 28)) (bl_alloc _ (.cells #[.int .i64 0] 3)))
  have hinst := zinst_in o day m v sh _ hIb hok hd1 hd2 hm1 hm2 hlen
  rw [HE.out] at hinst
  have HINST := Lib.hid hinst; clear hinst
  have HI2 := Lib.hid hIb; clear hIb
  gi_wp2_with fail
  refine ⟨trivial, ?_⟩
  refine (callsIn_wide.2 HINST.out).mono ?_
  rintro e w1 ⟨lv, rfl, hrow, hb1⟩
  have hlv : ∃ a cap, lv = .slice a 0 cap := by
    rcases hrow.2 with ⟨h1, _⟩ | ⟨g', cap', cur, h1, _⟩
    · exact ⟨_, _, h1⟩
    · exact ⟨_, _, h1⟩
  obtain ⟨la, lc, rfl⟩ := hlv
  clear hrow
  have bz1 : Blk w1 w.heap.size 28 #[.int .i64 o, v] := ((Blk.at rfl _ _).alloc _).below hb1 (by simp; try omega)
  have bR1 : Blk w1 (w.heap.size + 1) 3 #[.int .i64 0] := (Blk.at (by simp) _ _).below hb1 (by simp; try omega)
  have hB1 : Below w.heap.size w w1 := bl_trans (bl_trans (bl_alloc _ _) (bl_alloc _ _)) hb1
  have hs1 : w.heap.size + 2 ≤ w1.heap.size := by have := hb1.size; simp at this; omega
  have hwl : w.heap.size < w1.heap.size := by omega
  have z0 := bz1.cell 0
  have z1 := bz1.cell 1
  simp at z0 z1
  clear hb1
  gi_wp2_with (refine ⟨trivial, ?_⟩; gi_at_call 52; refine (segments_any _ _ _ _).mono ?_; rintro e w' ⟨rfl, rfl⟩)
  obtain ⟨W0, hW0⟩ : ∃ W0, ((w1.alloc (.cells #[.int .i64 (day * 1440 + m)] 3)).alloc (.cells #[.int .i64 o, v] 28)) = W0 := ⟨_, rfl⟩
  have hB0 : Below w.heap.size w W0 := by rw [← hW0]; exact bl_trans hB1 (bl_trans (bl_alloc _ _) (bl_alloc _ _))
  have hs0 : w1.heap.size + 2 ≤ W0.heap.size := by rw [← hW0]; simp
  have bN : Blk W0 w1.heap.size 3 #[.int .i64 (day * 1440 + m)] := by rw [← hW0]; exact (Blk.at rfl _ _).alloc _
  have bR : Blk W0 (w.heap.size + 1) 3 #[.int .i64 0] := by rw [← hW0]; exact (bR1.alloc _).alloc _
  have bZ : Blk W0 (w1.heap.size + 1) 28 #[.int .i64 o, v] := by rw [← hW0]; exact Blk.at (by simp) _ _
  rw [hW0]
  clear hW0 z0 z1
  refine wpIn_rangeFunc_ownT segT rfl (by omega) (gf := 74) (lb := #[.pointer (some ⟨w1.heap.size + 1, 0, none⟩)]) rfl trivial (enters_of Tryd.func74 (by kernel_rfl) rfl)
    (segs_stops (3 - 1) (by omega) (w1.heap.size + 1) w.heap.size o v sh w W0 rfl hI hB0 (by omega) (bZ.cell 0) (bZ.cell 1) segB hok.segB) keepT_t (keepT_b (by omega)) (Below.refl _ _) (fun _ => rfl)
    (ResI (day * 1440 + m) w w1.heap.size) (ResX (day * 1440 + m) w) ?own ?ownx ?start
    (fun x a' W => ∃ Bx, w.heap.size ≤ Bx ∧ Blk W Bx 89 #[.int .i64 x.f, .int .i64 x.u, .int .i64 x.o, .int .i64 x.b] ∧ a' = { tmps := #[.agg #[.int .i64 o, v], .int .i64 day, .int .i64 m, .bool late, .pointer (some ⟨w.heap.size, 0, none⟩), undef, undef, undef, .pointer (some ⟨w.heap.size + 1, 0, none⟩), .slice la 0 lc, .pointer (some ⟨w1.heap.size, 0, none⟩), .pointer (some ⟨Bx, 0, none⟩), .agg #[.int .i64 o, v], .int .i64 day, .int .i64 m, .slice la 0 lc, .bool false, .slice la 0 lc, .int .i64 0, .bool false, .bool false, undef, .bool false, undef, undef, undef, undef, undef, undef, .bool false, .slice la 0 lc, .int .i64 0, .bool false, undef, undef, undef, .int .i64 day, .int .i64 (day * 1440), .int .i64 m, .int .i64 (day * 1440 + m), .agg #[.int .i64 o, v], .func (.func 74) #[] #[.pointer (some ⟨w1.heap.size + 1, 0, none⟩)], .agg #[.int .i64 x.f, .int .i64 x.u, .int .i64 x.o, .int .i64 x.b], undef, undef, undef, undef, undef, undef, undef, undef, undef, undef, undef, undef, undef, undef, undef, undef, undef, undef], defers := [] })
    ?ax ?assign ?body ?done ?stop
  case own => exact (pureT _).and ((Blk.ownT _ _ _ rfl).and ((Blk.ownT _ _ _ rfl).and (belowT (Nat.le_refl _) (by omega))))
  case ownx =>
    intro c s A B row hs hg hr
    obtain ⟨⟨e1, ini, last, e2, e3, e4, e5⟩, hb⟩ := hs
    exact ⟨⟨e1, ini, last, e2, e3, e4, Blk.ownT _ _ (fun (_ : Unit) => #[.int .i64 last.f]) rfl () A B row e5 hg hr⟩, belowT (Nat.le_refl _) (by omega) () A B row hb hg hr⟩
  case start => exact ⟨(fun s hs => by cases hs), bN, bR, hB0⟩
  case ax =>
    intro x a' _ X Y row hs hg hr
    obtain ⟨Bx, h1, h2, h3⟩ := hs
    exact ⟨Bx, h1, h2.kept hg (fun e => by obtain ⟨_, ob, ho, hc⟩ := hr Bx e.symm; rw [show X.heap[Bx]? = _ from h2] at ho; cases ho; cases hc), h3⟩
  case assign =>
    rintro l pre x W K ⟨hp, bN1, bR1, hB1⟩ hK
    dsimp only [encSeg]
    gi_wp2
    exact hK _ _ ((KeepsOthers.alloc _ _).from _) (KeepT.alloc hB1.size _) ⟨hp, bN1.alloc _, bR1.alloc _, bl_trans hB1 (bl_alloc _ _)⟩ ⟨W.heap.size, hB1.size, Blk.new _ _ _, rfl⟩
  case body =>
    rintro l pre x a' W hl ⟨r, hr⟩ ⟨hp, bN1, bR1, hB1⟩ ⟨Bx, hBx, bX, rfl⟩ hx hlt
    have cN := bN1.cell 0
    have x0 := bX.cell 0
    have x2 := bX.cell 2
    have x3 := bX.cell 3
    have cR := bR1.cell 0
    have fR := bR1.frozen 0
    simp at cN x0 x2 x3 cR
    have HP := Lib.hid hp; clear hp
    obtain ⟨b1, b2, b3, b4, b5, b6⟩ := hx
    by_cases hu1 : x.f + x.b ≤ day * 1440 + m
    · by_cases hu2 : day * 1440 + m < x.f + x.o
      · have hg : gapB (day * 1440 + m) x = true := gapB_yes ⟨hu1, hu2⟩
        have HG := Lib.hid hg; clear hg
        gi_wp2
        exact ⟨keepsFrom_set _ _ _ _ _ bR1, ⟨rfl, pre, x, rfl, HP.out, HG.out, bR1.set 0 _⟩, hB1.setCell (p := ⟨w.heap.size + 1, 0, none⟩) (by simp) _⟩
      · have hg : gapB (day * 1440 + m) x = false := by rw [Bool.eq_false_iff]; exact gapB_no (fun h => hu2 h.2)
        have HG := Lib.hid hg; clear hg
        gi_wp2
        exact ⟨KeepsFrom.refl _ _, KeepT.refl _ _ _, fun s hs => (List.mem_append.1 hs).elim (HP.out s) (fun e => by simp at e; rw [e]; exact HG.out), bN1, bR1, hB1⟩
    · have hg : gapB (day * 1440 + m) x = false := by rw [Bool.eq_false_iff]; exact gapB_no (fun h => hu1 h.1)
      have HG := Lib.hid hg; clear hg
      gi_wp2
      exact ⟨KeepsFrom.refl _ _, KeepT.refl _ _ _, fun s hs => (List.mem_append.1 hs).elim (HP.out s) (fun e => by simp at e; rw [e]; exact HG.out), bN1, bR1, hB1⟩
  case done =>
    rintro D ys W hD rfl ⟨hp, bN1, bR1, hB1⟩ hK
    have cR := bR1.cell 0
    have fR := bR1.frozen 0
    simp at cR
    have hz : resR (day * 1440 + m) o sh = 0 := by rw [← res_seg]; exact resS_none hp
    have HZ := Lib.hid hz; clear hz hp
    gi_wp2
    have hK' := (KeepsOthers.setCell W ⟨w.heap.size + 1, 0, none⟩ (.int .i64 0)).same D _ hK rfl
    refine ⟨by simp, .inl ⟨_, _, rfl, run_takeDeferred hK', ?_⟩⟩
    have hc5 := (((bR1.set 0 (.int .i64 0)).put hK' (.deferred none))).cell 0
    refine ⟨.int .i64 0, ?_, by rw [HZ.out], (hB1.setCell (p := ⟨w.heap.size + 1, 0, none⟩) (by simp) _).trans (belowK_b (w := w) (Nat.le_refl _) _ D _ _ (by omega) hK' rfl rfl)⟩
    simp at hc5
    simp [results, Tryd.f36, go_sem, hc5]
  case stop =>
    rintro D c pre W hD hpre ⟨⟨rfl, ini, last, e1, e2, e3, e4⟩, hB⟩ hK
    obtain ⟨rest, hrest⟩ := hpre
    have hz : resR (day * 1440 + m) o sh = last.f := by rw [← res_seg, ← hrest, e1]; exact resS_hit e3 e2
    have HO := Lib.hid hz; clear hz hrest e1 e2
    gi_wp2
    refine ⟨by simp, .inl ⟨_, _, rfl, run_takeDeferred hK, ?_⟩⟩
    have hc5 := (e4.put hK (.deferred none)).cell 0
    refine ⟨.int .i64 last.f, ?_, by rw [HO.out], hB.trans (belowK_b (w := w) (Nat.le_refl _) W D _ _ (by omega) hK rfl rfl)⟩
    simp at hc5
    simp [results, Tryd.f36, go_sem, hc5]

set_option maxRecDepth 100000 in
set_option maxHeartbeats 4000000 in
theorem zres_one (o day m x : Int) (late : Bool) (v : Value) (sh : Sh) (w : World) (hI : IsSh w v sh) (hok : Ok o sh) (hd1 : -100000000000 ≤ day) (hd2 : day ≤ 100000000000) (hm1 : 0 ≤ m) (hm2 : m < 1440) (hlen : sh.length ≤ 1000000000) (he : ins o sh (day * 1440 + m) = [x]) :
    Calls Tryd.prog 36 #[.agg #[.int .i64 o, v], .int .i64 day, .int .i64 m, .bool late] w (Ret (.int .i64 x) w) := by
  have HE := Lib.hid he; clear he
  have hIb := hI.below (bl_trans (bl_alloc w (.cells #[.int .i64 o, v] 28)) (bl_alloc _ (.cells #[.int .i64 0] 3)))
  have hinst := zinst_in o day m v sh _ hIb hok hd1 hd2 hm1 hm2 hlen
  rw [HE.out] at hinst
  have HINST := Lib.hid hinst; clear hinst
  have HI2 := Lib.hid hIb; clear hIb
  cases late
  all_goals
    go_enter Tryd.func36, Tryd.ntmps36
    go_wp2_with fail
    refine HINST.out.mono ?_
    rintro e w1 ⟨lv, rfl, hrow, hb1⟩
    obtain ⟨g, cap', rfl⟩ := ownsRow_succ hrow
    have hc0 := fun h => hrow.cellAt 0 h
    have h0 : w1.cell? ⟨g, 0, none⟩ = some (.int .i64 x) := by have := hc0 (by simp); simpa using this
    have bR1 : Blk w1 (w.heap.size + 1) 3 #[.int .i64 0] := (Blk.at (by simp) _ _).below hb1 (by simp; try omega)
    have hB1 : Below w.heap.size w w1 := bl_trans (bl_trans (bl_alloc _ _) (bl_alloc _ _)) hb1
    have r0 := bR1.cell 0
    have r1 := bR1.frozen 0
    simp at r0
    clear hrow hb1 hc0
    go_wp2
    have hc5 := (bR1.set 0 (.int .i64 x)).cell 0
    simp at hc5
    refine bodyPost_ret (v := .int .i64 x) (by simp [results, Tryd.f36, go_sem, hc5]) rfl ⟨rfl, hB1.setCell (p := ⟨w.heap.size + 1, 0, none⟩) (by simp) _⟩
set_option maxRecDepth 100000 in
set_option maxHeartbeats 4000000 in
theorem zres_two (o day m x y : Int) (late : Bool) (v : Value) (sh : Sh) (w : World) (hI : IsSh w v sh) (hok : Ok o sh) (hd1 : -100000000000 ≤ day) (hd2 : day ≤ 100000000000) (hm1 : 0 ≤ m) (hm2 : m < 1440) (hlen : sh.length ≤ 1000000000) (he : ins o sh (day * 1440 + m) = [x, y]) :
    Calls Tryd.prog 36 #[.agg #[.int .i64 o, v], .int .i64 day, .int .i64 m, .bool late] w (Ret (.int .i64 (bif late then y else x)) w) := by
  have HE := Lib.hid he; clear he
  have hIb := hI.below (bl_trans (bl_alloc w (.cells #[.int .i64 o, v] 28)) (bl_alloc _ (.cells #[.int .i64 0] 3)))
  have hinst := zinst_in o day m v sh _ hIb hok hd1 hd2 hm1 hm2 hlen
  rw [HE.out] at hinst
  have HINST := Lib.hid hinst; clear hinst
  have HI2 := Lib.hid hIb; clear hIb
  cases late
  all_goals
    go_enter Tryd.func36, Tryd.ntmps36
    go_wp2_with fail
    refine HINST.out.mono ?_
    rintro e w1 ⟨lv, rfl, hrow, hb1⟩
    obtain ⟨g, cap', rfl⟩ := ownsRow_succ hrow
    have hc0 := fun h => hrow.cellAt 0 h
    have hc1 := fun h => hrow.cellAt 1 h
    have h0 : w1.cell? ⟨g, 0, none⟩ = some (.int .i64 x) := by have := hc0 (by simp); simpa using this
    have h1 : w1.cell? ⟨g, 1, none⟩ = some (.int .i64 y) := by have := hc1 (by simp); simpa using this
    have bR1 : Blk w1 (w.heap.size + 1) 3 #[.int .i64 0] := (Blk.at (by simp) _ _).below hb1 (by simp; try omega)
    have hB1 : Below w.heap.size w w1 := bl_trans (bl_trans (bl_alloc _ _) (bl_alloc _ _)) hb1
    have r0 := bR1.cell 0
    have r1 := bR1.frozen 0
    simp at r0
    clear hrow hb1 hc0 hc1
    go_wp2
    first
    | (have hc5 := (bR1.set 0 (.int .i64 x)).cell 0
       simp at hc5
       exact bodyPost_ret (v := .int .i64 x) (by simp [results, Tryd.f36, go_sem, hc5]) rfl ⟨rfl, hB1.setCell (p := ⟨w.heap.size + 1, 0, none⟩) (by simp) _⟩)
    | (have hc5 := (bR1.set 0 (.int .i64 y)).cell 0
       simp at hc5
       exact bodyPost_ret (v := .int .i64 y) (by simp [results, Tryd.f36, go_sem, hc5]) rfl ⟨rfl, hB1.setCell (p := ⟨w.heap.size + 1, 0, none⟩) (by simp) _⟩)
theorem zres_any (o day m : Int) (late : Bool) (v : Value) (sh : Sh) (w : World) (hI : IsSh w v sh) (hok : Ok o sh) (hd1 : -100000000000 ≤ day) (hd2 : day ≤ 100000000000) (hm1 : 0 ≤ m) (hm2 : m < 1440) (hlen : sh.length ≤ 1000000000) :
    Calls Tryd.prog 36 #[.agg #[.int .i64 o, v], .int .i64 day, .int .i64 m, .bool late] w (Ret (.int .i64 (res late o sh (day * 1440 + m))) w) := by
  have hl : (ins o sh (day * 1440 + m)).length ≤ 2 := ins_len hok.ch ⟨hok.1, hok.2.1⟩
  match e : ins o sh (day * 1440 + m) with
  | [] =>
    have r : res late o sh (day * 1440 + m) = resR (day * 1440 + m) o sh := by unfold res; rw [e]
    rw [r]; exact zres_gap o day m late v sh w hI hok hd1 hd2 hm1 hm2 hlen e
  | [x] =>
    have r : res late o sh (day * 1440 + m) = x := by unfold res; rw [e]; cases late <;> rfl
    rw [r]; exact zres_one o day m x late v sh w hI hok hd1 hd2 hm1 hm2 hlen e
  | [x, y] =>
    have r : res late o sh (day * 1440 + m) = bif late then y else x := by unfold res; rw [e]; cases late <;> rfl
    rw [r]; exact zres_two o day m x y late v sh w hI hok hd1 hd2 hm1 hm2 hlen e
  | _ :: _ :: _ :: _ => rw [e] at hl; simp at hl
end Go.Proofs.YtiilljcnikgeaaaDoor
