/- The walk of Range. Conditions: the tree lies in memory, its pairs are in order. -/
import Derived.Test.YtaiiibbnjmjamaaGreatDoorTFnd
namespace Go.Proofs.YtaiiibbnjmjamaaGreatDoor
open Go.RowKit
attribute [local go_sem] Oper.semAt_some

set_option maxRecDepth 100000 in
set_option maxHeartbeats 4000000 in
theorem range_any (T : Tre) (a u : ByteArray) (w : World) (h : IsT w T) (hlen : T.l.length ≤ 100000) :
    Calls Tryz.prog 11 #[ptrN T.p, .string a, .string u] w (OwnPost 36 2 (flatE encKV (rangeL T.l a u)) (rangeL T.l a u).length w) := by
  obtain ⟨i0, hi, hz0, hz1, hz2⟩ := info_parts infoP
  obtain ⟨rv, bT, hrt⟩ := h.root
  have hs := h.1
  obtain ⟨o, rfl⟩ : ∃ o, rv = .pointer o := by rcases hrt with ⟨rfl, _⟩ | ⟨_, x, rfl, _⟩; exact ⟨_, rfl⟩; exact ⟨_, rfl⟩
  have bT0 := (bT.alloc (.cells #[.string u] 9)).alloc (.cells #[.slice none 0 0] 34)
  have c0 := bT0.cell 0
  simp at c0
  have HRT := Lib.hid hrt; have HS := Lib.hid hs
  clear h bT bT0 hrt hs
  refine (callsIn_wide (n := 3)).1 ?_
  refine callsIn_of_wp_marks Tryz.func11 rfl trivial ?_ rfl
  simp only [Tryz.ntmps11, List.size_toArray, List.length_cons, List.length_nil, Nat.reduceAdd, Nat.reduceSub, Array.replicate_succ, Array.replicate_zero, List.push_toArray, List.append_toArray, List.nil_append, List.cons_append]
  gi_wp2_with fail
  refine ⟨trivial, ?_⟩
  refine (from_any _ o a _).mono ?_
  rintro e w1 ⟨rfl, rfl⟩
  gi_wp2_with fail
  obtain ⟨W0, hW0⟩ : ∃ W0, ((((w.alloc (.cells #[.string u] 9)).alloc (.cells #[.slice none 0 0] 34)).alloc (.cells #[.pointer o] 59)).alloc (.cells #[.string a] 9)) = W0 := ⟨_, rfl⟩
  have hB0 : Below w.heap.size w W0 := by rw [← hW0]; exact bl_trans (bl_trans (bl_trans (bl_alloc _ _) (bl_alloc _ _)) (bl_alloc _ _)) (bl_alloc _ _)
  have hs0 : W0.heap.size = w.heap.size + 4 := by rw [← hW0]; simp
  have bU : Blk W0 w.heap.size 9 #[.string u] := by rw [← hW0]; exact (((Blk.at (by simp) _ _).alloc _).alloc _).alloc _
  have bO : Blk W0 (w.heap.size + 1) 34 #[.slice none 0 0] := by rw [← hW0]; exact ((Blk.at (by simp) _ _).alloc _).alloc _
  have bN : Blk W0 (w.heap.size + 1 + 1) 59 #[.pointer o] := by rw [← hW0]; exact (Blk.at (by simp) _ _).alloc _
  have bK : Blk W0 (w.heap.size + 1 + 1 + 1) 9 #[.string a] := by rw [← hW0]; exact Blk.at (by simp) _ _
  rw [hW0]
  clear hW0 c0
  refine wpIn_rangeFunc_ownT noT rfl (by omega) (gf := 58) (lb := #[.pointer (some ⟨w.heap.size + 1 + 1, 0, none⟩), .pointer (some ⟨w.heap.size + 1 + 1 + 1, 0, none⟩)]) rfl trivial (enters_of Tryz.func58 (by kernel_rfl) rfl)
    (from_stops (3 - 1) (by omega) (w.heap.size + 1 + 1) (w.heap.size + 1 + 1 + 1) (.pointer o) a T.l w W0 hB0 HRT.out HS.out hlen bN bK) keepT_t (keepT_b (by omega)) (Below.refl _ _) (fun _ => rfl)
    (RngI u w.heap.size (w.heap.size + 1) w) (fun c pre W => c = .exit 0 ∧ RngX u (w.heap.size + 1) w pre W) ?own ?ownx ?start
    (fun x a' W => ∃ Bx, w.heap.size ≤ Bx ∧ Blk W Bx 36 #[.string x.k, .string x.v] ∧ a' = { tmps := #[ptrN T.p, .string a, .string u, undef, undef, .pointer (some ⟨w.heap.size, 0, none⟩), .slice none 0 0, .pointer (some ⟨w.heap.size + 1, 0, none⟩), .pointer (some ⟨Bx, 0, none⟩), ptrN T.p, .pointer (some ⟨T.p, 0, none⟩), .pointer (some ⟨T.p, 0, none⟩), .pointer o, .string a, fromF (w.heap.size + 1 + 1) (w.heap.size + 1 + 1 + 1), aggP x, undef, undef, undef, undef, undef, undef, undef, undef, undef, undef, undef, undef, undef], defers := [] })
    ?ax ?assign ?body ?done ?stop
  case own =>
    refine (pureT _).and ((Blk.ownT _ _ _ rfl).and (OwnT.and ?_ (OwnT.and (fun _ _ _ _ hs hg _ => Nat.le_trans hs hg.size) (belowT (by omega) (by omega)))))
    intro s A B row hs hg hr
    obtain ⟨sv, h1, h2⟩ := hs
    exact ⟨sv, Blk.ownT _ _ (fun (_ : Unit) => #[sv]) rfl () A B row h1 hg hr, row_ownT sv (fun s => s.length) (fun s => flatE encKV s) rfl s A B row h2 hg hr⟩
  case ownx =>
    intro c s A B row hs hg hr
    obtain ⟨e0, ini, last, e1, e2, e3, ⟨sv, h1, h2⟩, hb⟩ := hs
    exact ⟨e0, ini, last, e1, e2, e3, ⟨sv, Blk.ownT _ _ (fun (_ : Unit) => #[sv]) rfl () A B row h1 hg hr, row_ownT sv (fun (s : List KV) => s.length) (fun s => flatE encKV s) rfl ini A B row h2 hg hr⟩, belowT (by omega) (by omega) () A B row hb hg hr⟩
  case start => exact ⟨(fun x hx => by cases hx), bU, ⟨_, bO, World.ownsRow_nil _ _ _ _⟩, by omega, hB0⟩
  case ax =>
    intro x a' _ X Y row hs hg hr
    obtain ⟨Bx, h1, h2, h3⟩ := hs
    exact ⟨Bx, h1, h2.kept hg (fun e => by obtain ⟨_, ob, ho, hc⟩ := hr Bx e.symm; rw [show X.heap[Bx]? = _ from h2] at ho; cases ho; cases hc), h3⟩
  case assign =>
    rintro l pre x W K ⟨hp, bU1, ⟨sv, bO1, hrow⟩, hs1, hB1⟩ hK
    dsimp only [encY]
    gi_wp2
    exact hK _ _ ((KeepsOthers.alloc _ _).from _) (KeepT.alloc hB1.size _) ⟨hp, bU1.alloc _, ⟨sv, bO1.alloc _, hrow.alloc _⟩, (by simp; omega), bl_trans hB1 (bl_alloc _ _)⟩ ⟨W.heap.size, hB1.size, Blk.new _ _ _, rfl⟩
  case body =>
    rintro l pre x a' W hl ⟨r, hr⟩ ⟨hp, bU1, ⟨sv, bO1, hrow⟩, hs1, hB1⟩ ⟨Bx, hBx, bX, rfl⟩ hx hlt
    have cU := bU1.cell 0
    have cO := bO1.cell 0
    have fO := bO1.frozen 0
    have x0 := bX.cell 0
    have x1 := bX.cell 1
    simp at cU cO x0 x1
    have hpl : pre.length ≤ 100000 := by have := List.length_filter_le (fun x => !kl x.k a) T.l; unfold rngL at hlt; omega
    have HP := Lib.hid hp
    clear hp hlt
    have hvB : Boxed W (w.heap.size + 1) 34 sv := bO1
    have hms : maxLen = 9223372036854775807 := rfl
    have HMS := Lib.hid hms; clear hms
    by_cases hu : u.toList = []
    · have hc : cutB u x = false := by unfold cutB; rw [hu]; rfl
      have he0 : (⟨#[]⟩ : ByteArray).toList = [] := by rw [ByteArray.toList_eq]
      have hu2 : (u.toList == (⟨#[]⟩ : ByteArray).toList) = true := by rw [he0, hu]; rfl
      have hu3 : u.toList = (⟨#[]⟩ : ByteArray).toList := by rw [he0]; exact hu
      clear he0 hu
      have HC := Lib.hid hc
      clear hc
      gi_wp2_with (gi_at_builtin; refine wpListIn_append_own _ rfl _ _ 34 rfl (w.heap.size + 1 + 1) 36 i0 _ 2 32 Tryz.underlying34 hi hz0 hz1 hz2 (by rfl) (by decide) _ _ _ rfl (hrow.alloc _) ⟨W.heap.size, 0, none⟩ 1 1 [.string x.k, .string x.v] rfl rfl (fun j u' hj => by rw [Go.WideShapes.add_plain, Nat.zero_add, (Blk.new W 36 #[.string x.k, .string x.v]).cell, List.getElem?_toArray]; exact hj) (by intro u' hu'; simp at hu'; rcases hu' with rfl | rfl <;> rfl) (by have := HMS.out; omega) (by omega) (by simp; omega) ?_; intro v' w1 hown' hgrow _; obtain ⟨g', cap', rfl⟩ := ownsRow_succ hown'; obtain ⟨hv1, hv2, hr2, hk2, hb2⟩ := hvB.appended (by decide) (row_base hrow (show w.heap.size ≤ w.heap.size + 1 + 1 by omega)) hB1.size (by omega) (row_base hown' (show w.heap.size ≤ w.heap.size + 1 + 1 by omega)) hgrow; have hc1 := hv1.cell; have hf1 := hv1.frozen)
      have hra := hrow.alloc (.cells #[.string x.k, .string x.v] 36)
      have e1 := (bU1.alloc (.cells #[.string x.k, .string x.v] 36)).kept hgrow (row_far hra (by omega))
      have kp : KeepT noT w.heap.size W (w1.setCell ⟨w.heap.size + 1, 0, none⟩ (.slice (some ⟨g', 0, none⟩) (pre.length + 1) cap')) := keepT_t (keepT_t (KeepT.alloc hB1.size _) (KeepT.grown hgrow (by simp; omega) (row_mine (row_base hra (show w.heap.size ≤ w.heap.size + 1 + 1 by omega)) rfl))) (KeepT.set (t := 34) hv1 rfl (by omega) (by have := hgrow.size; simp at this; omega) _ _)
      refine ⟨hk2.from _, kp, ?_, e1.far (by simp) _, ⟨_, hv2, ?_⟩, by have := hgrow.size; simp at this ⊢; omega, hB1.trans hb2⟩
      · intro y hy
        rcases List.mem_append.1 hy with q | q
        · exact HP.out y q
        · simp at q; rw [q]; exact HC.out
      · rw [flatE_snoc]
        simpa [encKV] using hown'.kept (grown_setAt w1 (w.heap.size + 1) 0 (.slice (some ⟨g', 0, none⟩) (pre.length + 1) cap')) (.inr (row_far hown' (by omega)).symm)
    · by_cases hk : Op.bytesLess x.k.toList u.toList = true
      · have hc : cutB u x = false := by unfold cutB kl; rw [hk]; simp
        have HC := Lib.hid hc
        clear hc
        gi_wp2_with (gi_at_builtin; refine wpListIn_append_own _ rfl _ _ 34 rfl (w.heap.size + 1 + 1) 36 i0 _ 2 32 Tryz.underlying34 hi hz0 hz1 hz2 (by rfl) (by decide) _ _ _ rfl (hrow.alloc _) ⟨W.heap.size, 0, none⟩ 1 1 [.string x.k, .string x.v] rfl rfl (fun j u' hj => by rw [Go.WideShapes.add_plain, Nat.zero_add, (Blk.new W 36 #[.string x.k, .string x.v]).cell, List.getElem?_toArray]; exact hj) (by intro u' hu'; simp at hu'; rcases hu' with rfl | rfl <;> rfl) (by have := HMS.out; omega) (by omega) (by simp; omega) ?_; intro v' w1 hown' hgrow _; obtain ⟨g', cap', rfl⟩ := ownsRow_succ hown'; obtain ⟨hv1, hv2, hr2, hk2, hb2⟩ := hvB.appended (by decide) (row_base hrow (show w.heap.size ≤ w.heap.size + 1 + 1 by omega)) hB1.size (by omega) (row_base hown' (show w.heap.size ≤ w.heap.size + 1 + 1 by omega)) hgrow; have hc1 := hv1.cell; have hf1 := hv1.frozen)
        have hra := hrow.alloc (.cells #[.string x.k, .string x.v] 36)
        have e1 := (bU1.alloc (.cells #[.string x.k, .string x.v] 36)).kept hgrow (row_far hra (by omega))
        have kp : KeepT noT w.heap.size W (w1.setCell ⟨w.heap.size + 1, 0, none⟩ (.slice (some ⟨g', 0, none⟩) (pre.length + 1) cap')) := keepT_t (keepT_t (KeepT.alloc hB1.size _) (KeepT.grown hgrow (by simp; omega) (row_mine (row_base hra (show w.heap.size ≤ w.heap.size + 1 + 1 by omega)) rfl))) (KeepT.set (t := 34) hv1 rfl (by omega) (by have := hgrow.size; simp at this; omega) _ _)
        refine ⟨hk2.from _, kp, ?_, e1.far (by simp) _, ⟨_, hv2, ?_⟩, by have := hgrow.size; simp at this ⊢; omega, hB1.trans hb2⟩
        · intro y hy
          rcases List.mem_append.1 hy with q | q
          · exact HP.out y q
          · simp at q; rw [q]; exact HC.out
        · rw [flatE_snoc]
          simpa [encKV] using hown'.kept (grown_setAt w1 (w.heap.size + 1) 0 (.slice (some ⟨g', 0, none⟩) (pre.length + 1) cap')) (.inr (row_far hown' (by omega)).symm)
      · have hk' : Op.bytesLess x.k.toList u.toList = false := by simpa using hk
        have hc : cutB u x = true := by unfold cutB kl; rw [hk']; simp [hu]
        have HC := Lib.hid hc
        clear hc hk
        have hu1 : (u.toList == ([] : List UInt8)) = false := by simpa using hu
        have he0 : (⟨#[]⟩ : ByteArray).toList = [] := by rw [ByteArray.toList_eq]
        have hu2 : (u.toList == (⟨#[]⟩ : ByteArray).toList) = false := by rw [he0]; exact hu1
        have hu3 : ¬ (u.toList = (⟨#[]⟩ : ByteArray).toList) := by rw [he0]; exact hu
        clear he0
        gi_wp2
        exact ⟨KeepsFrom.refl _ _, rfl, pre, x, rfl, HP.out, HC.out, ⟨sv, bO1, hrow⟩, hB1⟩
  case done =>
    rintro D ys W hD rfl ⟨hp, bU1, ⟨sv, bO1, hrow⟩, hs1, hB1⟩ hK
    have cO := bO1.cell 0
    simp at cO
    have hz : rangeL T.l a u = rngL T.l a := take_all (fun x hx => by rw [hp x hx]; rfl)
    have HZ := Lib.hid hz; clear hz hp
    gi_wp2
    refine ⟨by simp, .inl ⟨_, _, rfl, run_takeDeferred hK, ?_⟩⟩
    refine ⟨_, results_tmp rfl _ _ _, sv, rfl, ?_, hB1.trans (belowK_b (w := w) (Nat.le_refl _) W D _ _ (by omega) hK rfl rfl)⟩
    rw [HZ.out]
    exact row_base (ownsRow_putObj hrow _ hK rfl) (by omega)
  case stop =>
    rintro D c pre W hD hpre ⟨rfl, ini, last, e1, e2, e3, ⟨sv, bO1, hrow⟩, hB1⟩ hK
    have cO := bO1.cell 0
    simp at cO
    obtain ⟨rest, hrest⟩ := hpre
    have hz : rangeL T.l a u = ini := by
      unfold rangeL
      rw [← hrest, e1, List.append_assoc]
      exact take_hit (fun y hy => by rw [e2 y hy]; rfl) (by rw [e3]; rfl)
    have HZ := Lib.hid hz; clear hz hrest e1 e2 e3
    gi_wp2
    refine ⟨by simp, .inl ⟨_, _, rfl, run_takeDeferred hK, ?_⟩⟩
    refine ⟨_, results_tmp rfl _ _ _, sv, rfl, ?_, hB1.trans (belowK_b (w := w) (Nat.le_refl _) W D _ _ (by omega) hK rfl rfl)⟩
    rw [HZ.out]
    exact row_base (ownsRow_putObj hrow _ hK rfl) (by omega)
end Go.Proofs.YtaiiibbnjmjamaaGreatDoor
