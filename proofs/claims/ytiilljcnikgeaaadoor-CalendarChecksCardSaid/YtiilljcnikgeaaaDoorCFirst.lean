/- The walks of first, Next and Previous. Conditions: the calendar lies in memory, its rules are valid; the listed tables lie in memory; a step of one day. -/
import Derived.Test.YtiilljcnikgeaaaDoorCShut
import Derived.Test.YtiilljcnikgeaaaDoorCDays
import Derived.Laws.EntriesVeiled
namespace Go.Proofs.YtiilljcnikgeaaaDoor
open Go.RowKit
attribute [local go_sem] Oper.semAt_some

theorem Blk.ownM {β : Type} {M : Nat → Prop} {B : Nat} (g : Nat) (t : TypeId) (f : β → Array Value) (h : ¬ M g) : OwnM M B (fun s W => Blk W g t (f s)) := by
  intro s W W' row hs hg hr
  refine hs.kept hg (fun e => ?_)
  rcases hr g e.symm with q | ⟨_, o, ho, hc⟩
  · exact h q
  · rw [show W.heap[g]? = _ from hs] at ho; cases ho; cases hc
theorem belowM {β : Type} {M : Nat → Prop} {B n₀ : Nat} {w : World} (hw : n₀ ≤ w.heap.size) (hn : n₀ ≤ B) (hM : ∀ r, M r → n₀ ≤ r) : OwnM M B (fun (_ : β) W => Below n₀ w W) :=
  fun _ _ _ _ hs hg hr => hs.grown hg (Nat.le_trans hw hs.size) (fun k e => by rcases hr k e with q | ⟨q, _⟩; exact hM k q; exact Nat.le_trans hn q)
theorem pureM {β : Type} {M : Nat → Prop} {B : Nat} (p : β → Prop) : OwnM M B (fun s (_ : World) => p s) := fun _ _ _ _ hs _ _ => hs
theorem sizeM {β : Type} {M : Nat → Prop} {B n : Nat} : OwnM M B (fun (_ : β) (W : World) => n ≤ W.heap.size) := fun _ _ _ _ hs hg _ => Nat.le_trans hs hg.size
theorem keepsFrom_below {B : Nat} {W W' : World} (h : Below W.heap.size W W') : KeepsFrom B W W' :=
  ⟨h.size, fun k _ _ h0 _ => (h.block k (Array.getElem?_eq_some_iff.1 h0).1).trans h0⟩
theorem KeepsFrom.set2 {B : Nat} {W : World} {g i g' i' : Nat} {v v' : Value} {t cs t' cs'} (h : Blk W g t cs) (h' : Blk W g' t' cs') (hne : g' ≠ g) : KeepsFrom B W ((W.setCell ⟨g, i, none⟩ v).setCell ⟨g', i', none⟩ v') :=
  (keepsFrom_set B W g i v h).trans (keepsFrom_set B _ g' i' v' (h'.far hne v))
def FstI (c : Cal) (vh vc vs : Value) (k : Int) (w : World) (pre : List Int) (W : World) : Prop :=
  (∀ x, x ∈ pre → shutB c k x = true) ∧ (Blk W (w.heap.size + 1 + 1 + 1) 30 (cellsC c vh vc vs) ∧ Blk W (w.heap.size + 1 + 1 + 1 + 1) 3 #[.int .i64 k]) ∧
  Blk W (w.heap.size + 1 + 1 + 1 + 1 + 1) 61 #[shutF (w.heap.size + 1 + 1 + 1) (w.heap.size + 1 + 1 + 1 + 1)] ∧ (Blk W (w.heap.size + 1) 3 #[.int .i64 0] ∧ Blk W (w.heap.size + 1 + 1) 32 #[.int .i64 0]) ∧ w.heap.size + 8 ≤ W.heap.size ∧ Below w.heap.size w W
def FstX (c : Cal) (k : Int) (w : World) (cd : Code) (pre : List Int) (W : World) : Prop :=
  (cd = .ret ∧ ∃ ini last, pre = ini ++ [last] ∧ (∀ s, s ∈ ini → shutB c k s = true) ∧ shutB c k last = false ∧ (Blk W (w.heap.size + 1) 3 #[.int .i64 last] ∧ Blk W (w.heap.size + 1 + 1) 32 #[.int .i64 0])) ∧ Below w.heap.size w W
theorem fnd_none {c : Cal} {k d s : Int} (h : ∀ x, x ∈ daysL 1001 d s → shutB c k x = true) : fndO c k d s = none := by
  unfold fndO; rw [List.find?_eq_none]; intro x hx; rw [h x hx]; simp
theorem fnd_hit {c : Cal} {k d s : Int} {ini rest : List Int} {last : Int} (he : ini ++ [last] ++ rest = daysL 1001 d s) (h : ∀ x, x ∈ ini → shutB c k x = true) (hl : shutB c k last = false) : fndO c k d s = some last := by
  unfold fndO
  rw [← he, List.find?_append, List.find?_append, List.find?_eq_none.2 (by intro x hx; rw [h x hx]; simp)]
  simp [hl]
def FstPost (v e0 : Int) (w : World) (e : Ending) (w' : World) : Prop := Ret (.tuple #[.int .i64 v, .int .i64 e0]) w e w'
set_option maxRecDepth 100000 in
set_option maxHeartbeats 4000000 in
theorem first_yes (c : Cal) (vh vc vs : Value) (d k s : Int) (w : World) (hG : GoodH w) (hc : CalIn w vh vc vs c) (hs1 : -1 ≤ s) (hs2 : s ≤ 1) (hd : inD d = true) :
    Calls Tryd.prog 39 #[aggC c vh vc vs, .int .i64 d, .int .i64 k, .int .i64 s] w (Ret (.tuple #[.int .i64 (fstV c k d s), .int .i64 (fstE c k d s)]) w) := by
  have hv : fstV c k d s = (fndO c k d s).getD 0 := by unfold fstV; rw [if_pos hd]
  have he : fstE c k d s = if (fndO c k d s).isSome then 0 else 31 := by unfold fstE; rw [if_pos hd]
  obtain ⟨hd0, hd1⟩ := inD_iff.1 hd
  have hwi : ∀ w, Calls Tryd.prog 30 #[.int .i64 d] w (Pur (.bool true) w) := fun w => by rw [← hd]; exact cwithin_any d w
  have HV := Lib.hid hv; have HE := Lib.hid he; have HW := Lib.hid hwi; have HC := Lib.hid hc
  clear hv he hwi hd hc
  refine (callsIn_wide (n := 3)).1 ?_
  refine callsIn_of_wp_marks Tryd.func39 rfl trivial ?_ rfl
  simp only [Tryd.ntmps39, List.size_toArray, List.length_cons, List.length_nil, Nat.reduceAdd, Nat.reduceSub, Array.replicate_succ, Array.replicate_zero, List.push_toArray, List.append_toArray, List.nil_append, List.cons_append]
  gi_wp2_with fail
  refine ⟨trivial, ?_⟩
  refine (callsIn_wide.2 (HW.out _)).mono ?_
  rintro e w1 ⟨rfl, rfl⟩
  gi_wp2_with fail
  refine ⟨trivial, ?_⟩
  refine (callsIn_wide.2 (shut_any c vh vc vs k _)).mono ?_
  rintro e w1 ⟨rfl, rfl⟩
  gi_wp2_with fail
  refine ⟨trivial, ?_⟩
  refine (days_any _ d s _).mono ?_
  rintro e w1 ⟨rfl, rfl⟩
  gi_wp2_with fail
  obtain ⟨W0, hW0⟩ : ∃ W0, ((((((((w.alloc (.cells (cellsC c vh vc vs) 30)).alloc (.cells #[.int .i64 0] 3)).alloc (.cells #[.int .i64 0] 32)).alloc (.cells (cellsC c vh vc vs) 30)).alloc (.cells #[.int .i64 k] 3)).alloc (.cells #[shutF (w.heap.size + 1 + 1 + 1) (w.heap.size + 1 + 1 + 1 + 1)] 61)).alloc (.cells #[.int .i64 d] 3)).alloc (.cells #[.int .i64 s] 3)) = W0 := ⟨_, rfl⟩
  have hB0 : Below w.heap.size w W0 := by rw [← hW0]; exact bl_trans (bl_trans (bl_trans (bl_trans (bl_trans (bl_trans (bl_trans (bl_alloc _ _) (bl_alloc _ _)) (bl_alloc _ _)) (bl_alloc _ _)) (bl_alloc _ _)) (bl_alloc _ _)) (bl_alloc _ _)) (bl_alloc _ _)
  have hs0 : W0.heap.size = w.heap.size + 8 := by rw [← hW0]; simp
  have bV : Blk W0 (w.heap.size + 1) 3 #[.int .i64 0] := by rw [← hW0]; exact ((((((Blk.at (by simp) _ _).alloc _).alloc _).alloc _).alloc _).alloc _).alloc _
  have bE : Blk W0 (w.heap.size + 1 + 1) 32 #[.int .i64 0] := by rw [← hW0]; exact (((((Blk.at (by simp) _ _).alloc _).alloc _).alloc _).alloc _).alloc _
  have bC : Blk W0 (w.heap.size + 1 + 1 + 1) 30 (cellsC c vh vc vs) := by rw [← hW0]; exact ((((Blk.at (by simp) _ _).alloc _).alloc _).alloc _).alloc _
  have bK : Blk W0 (w.heap.size + 1 + 1 + 1 + 1) 3 #[.int .i64 k] := by rw [← hW0]; exact (((Blk.at (by simp) _ _).alloc _).alloc _).alloc _
  have bF : Blk W0 (w.heap.size + 1 + 1 + 1 + 1 + 1) 61 #[shutF (w.heap.size + 1 + 1 + 1) (w.heap.size + 1 + 1 + 1 + 1)] := by rw [← hW0]; exact ((Blk.at (by simp) _ _).alloc _).alloc _
  have bD : Blk W0 (w.heap.size + 1 + 1 + 1 + 1 + 1 + 1) 3 #[.int .i64 d] := by rw [← hW0]; exact (Blk.at (by simp) _ _).alloc _
  have bS : Blk W0 (w.heap.size + 1 + 1 + 1 + 1 + 1 + 1 + 1) 3 #[.int .i64 s] := by rw [← hW0]; exact Blk.at (by simp) _ _
  rw [hW0]
  clear hW0
  refine wpIn_rangeFunc_ownM (fun r => r = w.heap.size + 1 + 1 + 1 + 1 + 1 + 1 ∨ r = w.heap.size + 1 + 1 + 1 + 1 + 1 + 1 + 1) rfl (by omega) (gf := 75) (lb := #[.pointer (some ⟨w.heap.size + 1 + 1 + 1 + 1 + 1 + 1, 0, none⟩), .pointer (some ⟨w.heap.size + 1 + 1 + 1 + 1 + 1 + 1 + 1, 0, none⟩)]) rfl trivial (enters_of Tryd.func75 (by kernel_rfl) rfl)
    (days_stops (3 - 1) (by omega) _ _ d s hs1 hs2 (by omega) (by omega) (by omega) W0 bD bS (fun x => inD x = true) (daysL_in _ _ _)) keepM_t (keepM_b (fun r h => by omega)) (fun r h => by omega) (fun _ => rfl)
    (FstI c vh vc vs k w) (FstX c k w) ?own ?ownx ?start
    (fun x a' W => a' = { tmps := #[aggC c vh vc vs, .int .i64 d, .int .i64 k, .int .i64 s, .pointer (some ⟨w.heap.size, 0, none⟩), undef, undef, undef, .pointer (some ⟨w.heap.size + 1, 0, none⟩), .pointer (some ⟨w.heap.size + 1 + 1, 0, none⟩), .pointer (some ⟨w.heap.size + 1 + 1 + 1 + 1 + 1, 0, none⟩), .int .i64 x, .int .i64 d, .bool true, .bool false, aggC c vh vc vs, .int .i64 k, shutF (w.heap.size + 1 + 1 + 1) (w.heap.size + 1 + 1 + 1 + 1), .int .i64 d, .int .i64 s, daysF (w.heap.size + 1 + 1 + 1 + 1 + 1 + 1) (w.heap.size + 1 + 1 + 1 + 1 + 1 + 1 + 1), .int .i64 x, undef, undef, undef, undef, undef], defers := [] })
    ?ax ?assign ?body ?done ?stop
  case own => exact (pureM _).and (((Blk.ownM _ _ _ (by omega)).and (Blk.ownM _ _ _ (by omega))).and ((Blk.ownM _ _ _ (by omega)).and (((Blk.ownM _ _ _ (by omega)).and (Blk.ownM _ _ _ (by omega))).and (sizeM.and (belowM (Nat.le_refl _) (by omega) (fun r h => by omega))))))
  case ownx =>
    intro cd s A B row hs hg hr
    obtain ⟨⟨e1, ini, last, e2, e3, e4, e5, e6⟩, hb⟩ := hs
    exact ⟨⟨e1, ini, last, e2, e3, e4, Blk.ownM _ _ (fun (_ : Unit) => #[.int .i64 last]) (by omega) () A B row e5 hg hr, Blk.ownM _ _ (fun (_ : Unit) => #[.int .i64 0]) (by omega) () A B row e6 hg hr⟩, belowM (Nat.le_refl _) (by omega) (fun r h => by omega) () A B row hb hg hr⟩
  case start => exact ⟨(fun s hs => by cases hs), ⟨bC, bK⟩, bF, ⟨bV, bE⟩, by omega, hB0⟩
  case ax =>
    intro x a' _ X Y row hs hg hr
    exact hs
  case assign =>
    rintro l pre x W K hI hK
    dsimp only [encD]
    gi_wp2
    exact hK _ _ (KeepsFrom.refl _ _) (KeepM.refl _ _) hI rfl
  case body =>
    rintro l pre x a' W hl ⟨r, hr⟩ ⟨hp, bSh, bF1, ⟨bV1, bE1⟩, hs1', hB1⟩ rfl hx hlt
    have cF := bF1.cell 0
    simp at cF
    have hc1 := HC.out.below hB1
    have hG1 := hG.below hB1
    have hsh := shut1_any c vh vc vs k x _ _ W hG1 hc1 bSh
    have HP := Lib.hid hp; have HSH := Lib.hid hsh
    clear hp hsh hc1
    cases hxs : shutB c k x
    · rw [hxs] at HSH
      have HX := Lib.hid hxs; clear hxs
      gi_wp2_with fail
      refine ⟨trivial, ?_⟩
      refine (callsIn_wide.2 HSH.out).mono ?_
      rintro e w1 ⟨rfl, hb⟩
      have bV2 := bV1.below hb (by omega)
      have bE2 := bE1.below hb (by omega)
      have cV := bV2.cell 0
      have fV := bV2.frozen 0
      have cE := bE2.cell 0
      have fE := bE2.frozen 0
      simp at cV cE
      have hB2 := bl_trans hB1 hb
      gi_wp2
      exact ⟨(keepsFrom_below hb).trans (KeepsFrom.set2 bV2 bE2 (by omega)), ⟨rfl, pre, x, rfl, HP.out, HX.out, (bV2.set 0 _).far (by simp) _, (bE2.far (by simp) _).set 0 _⟩, (hB2.setCell (p := ⟨w.heap.size + 1, 0, none⟩) (by simp) _).setCell (p := ⟨w.heap.size + 1 + 1, 0, none⟩) (by simp; omega) _⟩
    · rw [hxs] at HSH
      have HX := Lib.hid hxs; clear hxs
      gi_wp2_with fail
      refine ⟨trivial, ?_⟩
      refine (callsIn_wide.2 HSH.out).mono ?_
      rintro e w1 ⟨rfl, hb⟩
      gi_wp2
      exact ⟨keepsFrom_below hb, ⟨hb.size, fun b h => hb.block b (by omega)⟩, (fun s hs => (List.mem_append.1 hs).elim (HP.out s) (fun e => by simp at e; rw [e]; exact HX.out)), ⟨bSh.1.below hb (by omega), bSh.2.below hb (by omega)⟩, bF1.below hb (by omega), ⟨bV1.below hb (by omega), bE1.below hb (by omega)⟩, Nat.le_trans hs1' hb.size, bl_trans hB1 hb⟩
  case done =>
    rintro D ys W hD rfl ⟨hp, bSh, bF1, ⟨bV1, bE1⟩, hs1', hB1⟩ hK
    have cV := bV1.cell 0
    have fV := bV1.frozen 0
    have cE := bE1.cell 0
    have fE := bE1.frozen 0
    simp at cV cE
    have hz := fnd_none hp
    have HZ := Lib.hid hz; clear hz hp
    gi_wp2
    have hK' := (KeepsOthers.setCell (W.setCell ⟨w.heap.size + 1, 0, none⟩ (.int .i64 0)) ⟨w.heap.size + 1 + 1, 0, none⟩ (.int .i64 31)).same D _ ((KeepsOthers.setCell W ⟨w.heap.size + 1, 0, none⟩ (.int .i64 0)).same D _ hK rfl) rfl
    refine ⟨by simp, .inl ⟨_, _, rfl, run_takeDeferred hK', ?_⟩⟩
    have hc5 := ((((bV1.set 0 (.int .i64 0)).far (p := ⟨w.heap.size + 1 + 1, 0, none⟩) (by simp) (.int .i64 31)).put hK' (.deferred none))).cell 0
    have hc6 := ((((bE1.far (p := ⟨w.heap.size + 1, 0, none⟩) (by simp) (.int .i64 0)).set 0 (.int .i64 31)).put hK' (.deferred none))).cell 0
    refine ⟨.tuple #[.int .i64 0, .int .i64 31], ?_, by rw [HV.out, HE.out, HZ.out]; rfl, ((hB1.setCell (p := ⟨w.heap.size + 1, 0, none⟩) (by simp) _).setCell (p := ⟨w.heap.size + 1 + 1, 0, none⟩) (by simp; omega) _).trans (belowK_b (w := w) (Nat.le_refl _) _ D _ _ (by omega) hK' rfl rfl)⟩
    simp at hc5 hc6
    simp [results, Tryd.f39, go_sem, hc5, hc6]
  case stop =>
    rintro D cd pre W hD hpre ⟨⟨rfl, ini, last, e1, e2, e3, e4, e5⟩, hB⟩ hK
    obtain ⟨rest, hrest⟩ := hpre
    have hz : fndO c k d s = some last := fnd_hit (by rw [← hrest, e1]) e2 e3
    have HO := Lib.hid hz; clear hz hrest e1 e2 e3
    gi_wp2
    refine ⟨by simp, .inl ⟨_, _, rfl, run_takeDeferred hK, ?_⟩⟩
    have hc5 := (e4.put hK (.deferred none)).cell 0
    have hc6 := (e5.put hK (.deferred none)).cell 0
    refine ⟨.tuple #[.int .i64 last, .int .i64 0], ?_, by rw [HV.out, HE.out, HO.out]; rfl, hB.trans (belowK_b (w := w) (Nat.le_refl _) W D _ _ (by omega) hK rfl rfl)⟩
    simp at hc5 hc6
    simp [results, Tryd.f39, go_sem, hc5, hc6]
set_option maxHeartbeats 1000000 in
theorem first_no (c : Cal) (vh vc vs : Value) (d k s : Int) (w : World) (hd : inD d = false) :
    Calls Tryd.prog 39 #[aggC c vh vc vs, .int .i64 d, .int .i64 k, .int .i64 s] w (Ret (.tuple #[.int .i64 0, .int .i64 5]) w) := by
  have hwi : ∀ w, Calls Tryd.prog 30 #[.int .i64 d] w (Pur (.bool false) w) := fun w => by rw [← hd]; exact cwithin_any d w
  have HW := Lib.hid hwi
  clear hwi hd
  go_enter Tryd.func39, Tryd.ntmps39
  go_wp2_with fail
  refine (HW.out _).mono ?_
  rintro e w1 ⟨rfl, rfl⟩
  go_wp2
  refine bodyPost_ret (v := .tuple #[.int .i64 0, .int .i64 5]) (by simp [results, Tryd.f39, go_sem]) rfl ⟨rfl, ?_⟩
  exact bl_trans (bl_trans (bl_alloc _ _) (bl_alloc _ _)) (bl_alloc _ _)
theorem cfirst_any (c : Cal) (vh vc vs : Value) (d k s : Int) (w : World) (hG : GoodH w) (hc : CalIn w vh vc vs c) (hs1 : -1 ≤ s) (hs2 : s ≤ 1) :
    Calls Tryd.prog 39 #[aggC c vh vc vs, .int .i64 d, .int .i64 k, .int .i64 s] w (Ret (.tuple #[.int .i64 (fstV c k d s), .int .i64 (fstE c k d s)]) w) := by
  cases hd : inD d
  · have e1 : fstV c k d s = 0 := by unfold fstV; rw [if_neg (by simp [hd])]
    have e2 : fstE c k d s = 5 := by unfold fstE; rw [if_neg (by simp [hd])]
    rw [e1, e2]; exact first_no c vh vc vs d k s w hd
  · exact first_yes c vh vc vs d k s w hG hc hs1 hs2 hd
set_option maxHeartbeats 1000000 in
theorem next_any (c : Cal) (vh vc vs : Value) (d k : Int) (w : World) (hG : GoodH w) (hc : CalIn w vh vc vs c) :
    Calls Tryd.prog 19 #[aggC c vh vc vs, .int .i64 d, .int .i64 k] w (Ret (.tuple #[.int .i64 (fstV c k d 1), .int .i64 (fstE c k d 1)]) w) := by
  have hf := fun w hG hc => cfirst_any c vh vc vs d k 1 w hG hc (by omega) (by omega)
  generalize fstV c k d 1 = v at *
  generalize fstE c k d 1 = e0 at *
  have HF := Lib.hid hf; have HC := Lib.hid hc; clear hf hc
  go_enter Tryd.func19, Tryd.ntmps19
  go_wp2_with fail
  refine (HF.out _ (hG.alloc _) (HC.out.alloc _)).mono ?_
  rintro e w1 ⟨rfl, hb⟩
  go_wp2
  go_ret2
  exact ⟨rfl, bl_trans (bl_alloc _ _) hb⟩
set_option maxHeartbeats 1000000 in
theorem open_any (c : Cal) (vh vc vs : Value) (d k : Int) (w : World) (hG : GoodH w) (hc : CalIn w vh vc vs c) :
    Calls Tryd.prog 18 #[aggC c vh vc vs, .int .i64 d, .int .i64 k] w (Ret (.bool (openB c k d)) w) := by
  have hwi := fun w => cwithin_any d w
  have ho : openB c k d = (inD d && !shutB c k d) := rfl
  have HO := Lib.hid ho
  clear ho
  cases hd : inD d
  · rw [hd] at hwi
    have hr : openB c k d = false := by rw [HO.out, hd]; rfl
    have HR := Lib.hid hr; have HW := Lib.hid hwi
    clear hr hwi hd hc
    go_enter Tryd.func18, Tryd.ntmps18
    go_wp2_with fail
    refine (HW.out _).mono ?_
    rintro e w1 ⟨rfl, rfl⟩
    go_wp2
    go_ret
    exact ⟨ret_bool (by rw [HR.out]), bl_alloc _ _⟩
  · rw [hd] at hwi
    have hr : openB c k d = !shutB c k d := by rw [HO.out, hd]; rfl
    have HR := Lib.hid hr; have HW := Lib.hid hwi; have HC := Lib.hid hc
    clear hr hwi hd hc
    go_enter Tryd.func18, Tryd.ntmps18
    go_wp2_with fail
    refine (HW.out _).mono ?_
    rintro e w1 ⟨rfl, rfl⟩
    go_wp2_with fail
    refine (shut_any c vh vc vs k _).mono ?_
    rintro e w1 ⟨rfl, rfl⟩
    have hB : Below w.heap.size w (((w.alloc (.cells (cellsC c vh vc vs) 30)).alloc (.cells (cellsC c vh vc vs) 30)).alloc (.cells #[.int .i64 k] 3)) := bl_trans (bl_trans (bl_alloc _ _) (bl_alloc _ _)) (bl_alloc _ _)
    have hsb : ShutBox (((w.alloc (.cells (cellsC c vh vc vs) 30)).alloc (.cells (cellsC c vh vc vs) 30)).alloc (.cells #[.int .i64 k] 3)) (w.heap.size + 1) (w.heap.size + 1 + 1) c vh vc vs k := ⟨(Blk.at (by simp) _ _).alloc _, Blk.at (by simp) _ _⟩
    have hsh := shut1_any c vh vc vs k d _ _ _ (hG.below hB) (HC.out.below hB) hsb
    have HSH := Lib.hid hsh
    clear hsh hsb
    go_wp2_with fail
    refine HSH.out.mono ?_
    rintro e w1 ⟨rfl, hb⟩
    go_wp2
    go_ret
    exact ⟨ret_bool (by rw [HR.out]), bl_trans hB hb⟩
end Go.Proofs.YtiilljcnikgeaaaDoor
