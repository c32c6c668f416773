/- The walks of slices.Insert at pairs and at nodes: one element put in. Conditions: the slice is a row of the call's own, the element lies in a block of its own. -/
import Derived.Test.YtaiiibbnjmjamaaGreatDoorTCopy
import Derived.Test.YtaiiibbnjmjamaaGreatDoorKCopy
import Derived.Deep.RegionLaw
namespace Go.Proofs.YtaiiibbnjmjamaaGreatDoor
open Go.RowKit

def InsPost {α : Type} (E k : Nat) (enc : α → List Value) (B : Nat) (L : List α) (x : α) (i : Nat) (v : Value) (w : World) (e : Ending) (w' : World) : Prop :=
  ∃ v', e = .returned v' ∧ w'.ownsRow B E k v' (L.length + 1) (flatE enc (L.take i ++ x :: L.drop i)) ∧ w.grownBy w' v.ownBlock ∧ (v'.ownBlock = v.ownBlock ∨ v'.ownBlock = some w.heap.size)
theorem World.grownBy_drew (w : World) (row : Option Nat) : w.grownBy w.drew row := ⟨rfl, rfl, rfl, Nat.le_refl _, fun _ _ _ => rfl⟩

set_option maxRecDepth 100000 in
set_option maxHeartbeats 4000000 in
theorem insP_end (L : List KV) (x : KV) (B g : Nat) (v : Value) (w : World) (hown : w.ownsRow B 36 2 v L.length (flatE encKV L)) (bV : Blk w g 36 (encKV x).toArray) (hB : B ≤ w.heap.size) (hl : L.length ≤ 1000000) :
    Calls Tryz.prog 49 #[v, .int .i64 L.length, .slice (some ⟨g, 0, none⟩) 1 1] w (InsPost 36 2 encKV B L x L.length v w) := by
  obtain ⟨i0, hi, hz0, hz1, hz2⟩ := info_parts infoP
  have hms : maxLen = 9223372036854775807 := rfl
  have hsrc : SrcIs w (.slice (some ⟨g, 0, none⟩) 1 1) 2 1 (encKV x) := .inr ⟨⟨g, 0, none⟩, 1, rfl, rfl, fun j u hj => by
    rw [Go.WideShapes.add_plain, Nat.zero_add, bV.cell, List.getElem?_toArray]; exact hj⟩
  have hone : ∀ u ∈ encKV x, u.oneCell' = true := encKV_one x
  have HW := Lib.hid hown; have HSRC := Lib.hid hsrc; have H1 := Lib.hid hone; have HMS := Lib.hid hms
  have hfl : flatE encKV (L.take L.length ++ x :: L.drop L.length) = flatE encKV L ++ encKV x := by
    rw [List.take_length, List.drop_length, flatE_append, flatE_one]
  rcases hown.2 with ⟨rfl, hn⟩ | ⟨g1, cap, cur, rfl, hg1, hh, hnc, hcm, hsz, htk⟩
  · have hL : L.length = 0 := hn
    have HW0 := HW.out
    rw [hL] at HW0 ⊢
    have HW1 := Lib.hid HW0
    clear hown hsrc hone hms HW0 hn bV
    go_enter Tryz.func49, Tryz.ntmps49
    go_wp2_with (at_builtin; refine wpList_append_any_at rfl _ _ 34 rfl B 36 i0 _ 2 32 Tryz.underlying34 hi hz0 hz1 hz2 (by rfl) (by decide) _ 0 (flatE encKV L) rfl HW1.out _ 1 (encKV x) rfl HSRC.out H1.out (by have := HMS.out; omega) (by omega) hB ?_)
    intro v' w1 ho hg hv
    go_wp2
    go_ret
    refine ⟨v', rfl, ?_, hg, hv⟩
    rw [show L.take 0 ++ x :: L.drop 0 = L.take L.length ++ x :: L.drop L.length by rw [hL], hfl, hL]
    exact ho
  · clear hown hsrc hone hms bV hh hsz htk hg1
    have hcap : cap ≤ 9223372036854775807 := by have := HMS.out; omega
    go_enter Tryz.func49, Tryz.ntmps49
    go_wp2_with (at_builtin; refine wpList_append_any_at rfl _ _ 34 rfl B 36 i0 _ 2 32 Tryz.underlying34 hi hz0 hz1 hz2 (by rfl) (by decide) _ L.length (flatE encKV L) rfl HW.out _ 1 (encKV x) rfl HSRC.out H1.out (by have := HMS.out; omega) (by omega) hB ?_)
    all_goals
      intro v' w1 ho hg hv
      go_wp2
      go_ret
      refine ⟨v', rfl, ?_, hg, hv⟩
      rw [hfl]
      exact ho
set_option maxRecDepth 100000 in
set_option maxHeartbeats 4000000 in
theorem insP_shift (L : List KV) (x : KV) (B g g1 cap i : Nat) (cur : Array Value) (w : World) (hB1 : B ≤ g1) (hh : Blk w g1 36 cur) (hcm : cap ≤ maxLen) (hsz : cur.size = cap * 2) (htk : cur.toList.take (L.length * 2) = flatE encKV L)
    (bV : Blk w g 36 (encKV x).toArray) (hne : g ≠ g1) (hi : i < L.length) (hroom : L.length + 1 ≤ cap) :
    Calls Tryz.prog 49 #[.slice (some ⟨g1, 0, none⟩) L.length cap, .int .i64 i, .slice (some ⟨g, 0, none⟩) 1 1] w (InsPost 36 2 encKV B L x i (.slice (some ⟨g1, 0, none⟩) L.length cap) w) := by
  have hms : maxLen = 9223372036854775807 := rfl
  have hcap : cap ≤ 9223372036854775807 := by omega
  have hss : (Tryz.prog.info? 36).map (·.size) = some 2 := by
    obtain ⟨i0, h0, h1, h2, h3⟩ := info_parts infoP
    rw [h0]; simp [h2]
  have hov : ∀ lb cb, (callFunc 72 #[.slice (some ⟨g, 0, none⟩) 1 1, .slice (some ⟨g1, (i + 1) * 2, none⟩) lb cb]).run Tryz.prog w = .ok (.value (.bool false)) w := fun lb cb => by
    rw [run_callFunc_extern Tryz.func72 (by kernel_rfl) (by kernel_rfl) (by kernel_rfl) (e := Extern.SlicesOverlaps.overlaps #[34, 34] #[4]) (by kernel_rfl),
      Lib.run_overlaps_apart w 34 4 36 Tryz.underlying34 2 (fun w => by obtain ⟨i0, h0, h1, h2, h3⟩ := info_parts infoP; simp [sizeOf, typeInfo, h0, h2]) ⟨g, 0, none⟩ ⟨g1, (i + 1) * 2, none⟩ 1 1 lb cb hne 36 36 (encKV x).length cur.size (by simp [World.shape?, show w.heap[g]? = _ from bV]) (by simp [World.shape?, show w.heap[g1]? = _ from hh]) (by omega) (bV.frozen _) (bV.frozen _)]
    rfl
  have hk1 := flatE_len encKV_len L
  have hcl : ∀ j, (flatE encKV (L.drop j)).length = (L.length - j) * 2 := fun j => by rw [flatE_len encKV_len, List.length_drop]
  have htk0 : cur.toList.take (i * 2) = flatE encKV (L.take i) := by
    rw [flatE_take encKV_len, ← htk, List.take_take, Nat.min_eq_left (Nat.mul_le_mul_right _ (by omega))]
  obtain ⟨e1, e2⟩ := ins_cells encKV_len L x i (by omega) cur.toList htk0 (by simp; omega)
  have hcp1 : ∀ ty dc sc, (Builtin.copy_ #[34, 34] ty #[.slice (some ⟨g1, (i + 1) * 2, none⟩) (L.length - i) dc, .slice (some ⟨g1, i * 2, none⟩) (L.length + 1 - i) sc]).run Tryz.prog w.drew = .ok (goInt (L.length - i : Nat)) (w.drew.setRow g1 (cur.toList.take ((i + 1) * 2) ++ flatE encKV (L.drop i) ++ cur.toList.drop ((i + 1) * 2 + (flatE encKV (L.drop i)).length)).toArray) := fun ty dc sc => by
    refine run_copy_rowk w.drew _ _ ty 36 2 g1 ((i + 1) * 2) (L.length - i) dc ⟨g1, i * 2, none⟩ (L.length + 1 - i) sc (L.length - i) cur 36 (flatE encKV (L.drop i)) Tryz.underlying34 hss hh.drew (by simp only [Nat.min_def]; split <;> omega) (hcl i) (fun j u hj => ?_) (by rw [hcl]; omega) (one_flat encKV_one _)
    rw [Go.WideShapes.add_plain]
    refine blk_cells hh.drew htk _ u ?_
    rwa [flatE_drop encKV_len, List.getElem?_drop] at hj
  obtain ⟨c1, hc1⟩ : ∃ c1 : List Value, c1 = cur.toList.take ((i + 1) * 2) ++ flatE encKV (L.drop i) ++ cur.toList.drop ((i + 1) * 2 + (flatE encKV (L.drop i)).length) := ⟨_, rfl⟩
  simp only [← hc1] at hcp1 e1 e2
  have hl1 : c1.length = cap * 2 := by
    rw [hc1]
    simp only [List.length_append, List.length_take, List.length_drop, hcl, Array.length_toList, hsz]
    omega
  have bV1 : Blk (w.drew.setRow g1 c1.toArray) g 36 (encKV x).toArray := bV.drew.setRow_far hne _
  have bH1 : Blk (w.drew.setRow g1 c1.toArray) g1 36 c1.toArray := hh.drew.setRow _
  have hg1 : w.grownBy (w.drew.setRow g1 c1.toArray) (some g1) := (World.grownBy_drew w _).trans (grown_setRow _ _ _)
  obtain ⟨W1, hW1⟩ : ∃ W1, W1 = w.drew.setRow g1 c1.toArray := ⟨_, rfl⟩
  rw [← hW1] at bV1 bH1 hcp1 hg1
  have hcp2 : ∀ ty dc, (Builtin.copy_ #[34, 34] ty #[.slice (some ⟨g1, i * 2, none⟩) (L.length + 1 - i) dc, .slice (some ⟨g, 0, none⟩) 1 1]).run Tryz.prog W1 = .ok (goInt 1) (W1.setRow g1 (c1.take (i * 2) ++ encKV x ++ c1.drop (i * 2 + (encKV x).length)).toArray) := fun ty dc => by
    refine run_copy_rowk W1 _ _ ty 36 2 g1 (i * 2) (L.length + 1 - i) dc ⟨g, 0, none⟩ 1 1 1 c1.toArray 36 (encKV x) Tryz.underlying34 hss bH1 (by simp only [Nat.min_def]; split <;> omega) rfl (fun j u hj => ?_) (by rw [encKV_len]; simp [hl1]; omega) (encKV_one x)
    rw [Go.WideShapes.add_plain, Nat.zero_add, bV1.cell, List.getElem?_toArray]; exact hj
  obtain ⟨c2, hc2⟩ : ∃ c2 : List Value, c2 = c1.take (i * 2) ++ encKV x ++ c1.drop (i * 2 + (encKV x).length) := ⟨_, rfl⟩
  simp only [← hc2] at hcp2 e1 e2
  have bH2 := bH1.setRow c2.toArray
  have hg2 := hg1.trans (grown_setRow W1 g1 c2.toArray)
  have hl2 : c2.length = cap * 2 := by rw [e1]; simp [hsz]
  have hfin : InsPost 36 2 encKV B L x i (.slice (some ⟨g1, 0, none⟩) L.length cap) w (.returned (.slice (some ⟨g1, 0, none⟩) (L.length + 1) cap)) (W1.setRow g1 c2.toArray) := by
    refine ⟨_, rfl, ⟨?_, .inr ⟨g1, cap, c2.toArray, rfl, hB1, bH2, hroom, hcm, by simpa using hl2, by simpa using e2⟩⟩, hg2, .inl rfl⟩
    rw [flatE_len encKV_len]
    simp
    omega
  have HFIN := Lib.hid hfin
  have HC1 := Lib.hid hcp1; have HC2 := Lib.hid hcp2; have HOV := Lib.hid hov
  clear hfin hcp1 hcp2 hov hc1 hc2 e1 e2 bH1 bH2 hg1 hg2 hl1 hl2 bV1 htk0 hcl hk1 bV hh htk hsz hss hcm hms hne hW1
  have hw1 : IntKind.i64.wrap ((i : Int) + 1) = (i : Int) + 1 := IntWalk.i64_in _ (by omega)
  have hw2 : IntKind.i64.wrap ((L.length : Int) + 1) = (L.length : Int) + 1 := IntWalk.i64_in _ (by omega)
  have htn : ((i : Int) + 1).toNat = i + 1 := by omega
  have hb1 : (0 : Int) ≤ (i : Int) + 1 := by omega
  have hin : i ≤ L.length := by omega
  have hb3 : (i : Int) ≤ (L.length : Int) + 1 := by omega
  have hb5 : (i : Int) + 1 ≤ (L.length : Int) + 1 := by omega
  have hb6 : (i : Int) ≤ (L.length : Int) := by omega
  have hb2 : ¬ (cap = i + 1) := by omega
  have hb4 : ¬ (cap = i) := by omega
  have hz2 : ¬ ((i : Int) = (L.length : Int)) := by omega
  go_enter Tryz.func49, Tryz.ntmps49
  go_wp2_with (simp only [HOV.out])
  go_region_law (refine step_copy_runI rfl _ _ 34 34 rfl (.slice (some ⟨g1, (i + 1) * 2, none⟩) (L.length - i) (cap - (i + 1))) (.slice (some ⟨g1, (i) * 2, none⟩) (L.length + 1 - i) (cap - i)) (by simp [Act.eval, Act.put]) (by simp [Act.eval, Act.put]) (HC1.out _ _ _) ?_)
  go_wp2
  rw [HC2.out]
  simp only [Result.andThen]
  rw [Oper.upon_value]
  go_wp2
  go_ret
  exact HFIN.out
set_option maxRecDepth 100000 in
set_option maxHeartbeats 4000000 in
theorem insP_grow (L : List KV) (x : KV) (B g g1 cap i : Nat) (cur : Array Value) (w : World) (hB : B ≤ w.heap.size) (hh : Blk w g1 36 cur) (hnc : L.length ≤ cap) (htk : cur.toList.take (L.length * 2) = flatE encKV L)
    (bV : Blk w g 36 (encKV x).toArray) (hi : i < L.length) (hroom : cap < L.length + 1) (hl : L.length ≤ 1000000) :
    Calls Tryz.prog 49 #[.slice (some ⟨g1, 0, none⟩) L.length cap, .int .i64 i, .slice (some ⟨g, 0, none⟩) 1 1] w (InsPost 36 2 encKV B L x i (.slice (some ⟨g1, 0, none⟩) L.length cap) w) := by
  have hms : maxLen = 9223372036854775807 := rfl
  obtain ⟨i0, hi0, hz0, hzs, hzb⟩ := info_parts infoP
  have hss : (Tryz.prog.info? 36).map (·.size) = some 2 := by rw [hi0]; simp [hzs]
  have hcl : ∀ j, (flatE encKV (L.drop j)).length = (L.length - j) * 2 := fun j => by rw [flatE_len encKV_len, List.length_drop]
  have hct : (flatE encKV (L.take i)).length = i * 2 := by rw [flatE_len encKV_len, List.length_take, Nat.min_eq_left (by omega)]
  have hkk : (L.length : Int) + 1 - (i : Int) = ((L.length + 1 - i : Nat) : Int) := by omega
  have hik : i + (L.length + 1 - i) = L.length + 1 := by omega
  have hcell : ∀ (j : Nat) (u : Value), (flatE encKV L)[j]? = some u → w.cell? ⟨g1, j, none⟩ = some u := fun j u hu => blk_cells hh htk j u hu
  have hold : (Builtin.firstCells i0.size i (.slice (some ⟨g1, 0, none⟩) i cap)).run Tryz.prog w.drew = .ok (flatE encKV (L.take i)).toArray w.drew := by
    rw [hzs]
    exact run_firstCells_some w.drew 2 i ⟨g1, 0, none⟩ i cap (flatE encKV (L.take i)) hct (fun j v hj => by
      rw [Go.WideShapes.add_plain, Nat.zero_add]
      refine hcell j v ?_
      rw [flatE_take encKV_len] at hj
      have : j < i * 2 := by
        have := (List.getElem?_eq_some_iff.1 hj).1
        rw [List.length_take] at this; omega
      rwa [List.getElem?_take_of_lt this] at hj)
  obtain ⟨G, hG⟩ : ∃ G, G = grownCap w (L.length + 1) cap 36 := ⟨_, rfl⟩
  obtain ⟨ROW, hROW⟩ : ∃ ROW : Array Value, ROW = (flatE encKV (L.take i)).toArray ++ Builtin.zeroCells (.agg #[.string ⟨#[]⟩, .string ⟨#[]⟩] : Value).cells (L.length + 1 - i) ++ Builtin.zeroCells (.agg #[.string ⟨#[]⟩, .string ⟨#[]⟩] : Value).cells (G - (L.length + 1)) := ⟨_, rfl⟩
  have hrz : ∀ ty, (Builtin.append_ #[34, 3] ty #[.slice (some ⟨g1, 0, none⟩) i cap, .int .i64 ((L.length : Int) + 1 - (i : Int))]).run Tryz.prog w =
      .ok (.slice (some ⟨w.heap.size, 0, none⟩) (L.length + 1) G) (w.drew.alloc (.cells ROW 36)) := fun ty => by
    have h := Lib.run_append_grow_zeros w 34 3 ty 36 i0 _ .i64 .i64 Tryz.underlying34 Tryz.underlying3 hi0 hz0 (some ⟨g1, 0, none⟩) i cap (flatE encKV (L.take i)) hold (L.length + 1 - i) (by omega) (by omega) (by omega) (by omega) (by rw [hzb]; omega) (by rw [hzb, hik]; exact growslice_fits hroom (by omega))
    rw [hik, ← hG, ← hROW] at h
    rw [hkk]
    exact h
  have hGn : L.length + 1 ≤ G := by rw [hG]; exact grownCap_ge w _ _ _
  have hG63 : G ≤ maxLen := by rw [hG]; exact grownCap_le_maxLen w (L.length + 1) cap 36 (by omega)
  have hRsz : ROW.size = G * 2 := by
    rw [hROW]
    simp [Builtin.zeroCells, Value.cells, hct]
    omega
  have hRtk : ROW.toList.take (i * 2) = flatE encKV (L.take i) := by
    rw [hROW]
    simp only [Array.toList_append, List.append_assoc]
    rw [List.take_append, hct, Nat.sub_self, List.take_zero, List.append_nil, List.take_of_length_le (by omega)]
  have bR : Blk (w.drew.alloc (.cells ROW 36)) w.heap.size 36 ROW := Blk.at (w := w.drew) rfl _ _
  have bV1 : Blk (w.drew.alloc (.cells ROW 36)) g 36 (encKV x).toArray := bV.drew.alloc _
  have hh1 : Blk (w.drew.alloc (.cells ROW 36)) g1 36 cur := hh.drew.alloc _
  have hg1 : w.grownBy (w.drew.alloc (.cells ROW 36)) (some g1) := (World.grownBy_drew w _).trans (World.grownBy_alloc _ _ _)
  have hlt1 := hh.lt
  have hltv := bV.lt
  obtain ⟨N, hN⟩ : ∃ N, N = w.heap.size := ⟨_, rfl⟩
  obtain ⟨W1, hW1⟩ : ∃ W1, W1 = w.drew.alloc (.cells ROW 36) := ⟨_, rfl⟩
  rw [← hW1] at bR bV1 hh1 hrz hg1
  rw [← hN] at bR hrz hlt1 hltv
  obtain ⟨e0, e1, e2⟩ := ins_cells2 encKV_len L x i (by omega) ROW.toList hRtk (by simp [hRsz]; omega)
  have hcpA : ∀ ty dc, (Builtin.copy_ #[34, 34] ty #[.slice (some ⟨N, i * 2, none⟩) (L.length + 1 - i) dc, .slice (some ⟨g, 0, none⟩) 1 1]).run Tryz.prog W1 = .ok (goInt 1) (W1.setRow N (ROW.toList.take (i * 2) ++ encKV x ++ ROW.toList.drop (i * 2 + (encKV x).length)).toArray) := fun ty dc => by
    refine run_copy_rowk W1 _ _ ty 36 2 N (i * 2) (L.length + 1 - i) dc ⟨g, 0, none⟩ 1 1 1 ROW 36 (encKV x) Tryz.underlying34 hss bR (by simp only [Nat.min_def]; split <;> omega) rfl (fun j u hj => ?_) (by rw [encKV_len, hRsz]; omega) (encKV_one x)
    rw [Go.WideShapes.add_plain, Nat.zero_add, bV1.cell, List.getElem?_toArray]; exact hj
  obtain ⟨c1, hc1⟩ : ∃ c1 : List Value, c1 = ROW.toList.take (i * 2) ++ encKV x ++ ROW.toList.drop (i * 2 + (encKV x).length) := ⟨_, rfl⟩
  simp only [← hc1] at hcpA e0 e1 e2
  have bR2 : Blk (W1.setRow N c1.toArray) N 36 c1.toArray := bR.setRow _
  have hh2 : Blk (W1.setRow N c1.toArray) g1 36 cur := hh1.setRow_far (by omega) _
  have hg2 : w.grownBy (W1.setRow N c1.toArray) (some g1) := hg1.andThen (grown_setRow _ _ _) (fun j e => by cases e; exact .inl (by omega))
  obtain ⟨W2, hW2⟩ : ∃ W2, W2 = W1.setRow N c1.toArray := ⟨_, rfl⟩
  rw [← hW2] at bR2 hh2 hcpA hg2
  have hcpB : ∀ ty dc sc, (Builtin.copy_ #[34, 34] ty #[.slice (some ⟨N, (i + 1) * 2, none⟩) (L.length - i) dc, .slice (some ⟨g1, i * 2, none⟩) (L.length - i) sc]).run Tryz.prog W2.drew = .ok (goInt (L.length - i : Nat)) (W2.drew.setRow N (c1.take ((i + 1) * 2) ++ flatE encKV (L.drop i) ++ c1.drop ((i + 1) * 2 + (flatE encKV (L.drop i)).length)).toArray) := fun ty dc sc => by
    refine run_copy_rowk W2.drew _ _ ty 36 2 N ((i + 1) * 2) (L.length - i) dc ⟨g1, i * 2, none⟩ (L.length - i) sc (L.length - i) c1.toArray 36 (flatE encKV (L.drop i)) Tryz.underlying34 hss bR2.drew (by simp only [Nat.min_def]; split <;> omega) (hcl i) (fun j u hj => ?_) (by rw [hcl]; simp [e0, hRsz]; omega) (one_flat encKV_one _)
    rw [Go.WideShapes.add_plain]
    refine blk_cells hh2.drew htk _ u ?_
    rwa [flatE_drop encKV_len, List.getElem?_drop] at hj
  obtain ⟨c2, hc2⟩ : ∃ c2 : List Value, c2 = c1.take ((i + 1) * 2) ++ flatE encKV (L.drop i) ++ c1.drop ((i + 1) * 2 + (flatE encKV (L.drop i)).length) := ⟨_, rfl⟩
  simp only [← hc2] at hcpB e1 e2
  have bR3 : Blk (W2.drew.setRow N c2.toArray) N 36 c2.toArray := bR2.drew.setRow _
  have hg3 : w.grownBy (W2.drew.setRow N c2.toArray) (some g1) := (hg2.trans (World.grownBy_drew _ _)).andThen (grown_setRow _ _ _) (fun j e => by cases e; exact .inl (by omega))
  have hfin : InsPost 36 2 encKV B L x i (.slice (some ⟨g1, 0, none⟩) L.length cap) w (.returned (.slice (some ⟨N, 0, none⟩) (L.length + 1) G)) (W2.drew.setRow N c2.toArray) := by
    refine ⟨_, rfl, ⟨?_, .inr ⟨N, G, c2.toArray, rfl, by omega, bR3, hGn, hG63, by simp [e1, hRsz], by simpa using e2⟩⟩, hg3, .inr (by rw [hN]; rfl)⟩
    rw [flatE_len encKV_len]
    simp
    omega
  have HFIN := Lib.hid hfin
  have HR := Lib.hid hrz; have HA := Lib.hid hcpA; have HBB := Lib.hid hcpB
  have hcap0 : cap ≤ 9223372036854775807 := by omega
  have hG0 : G ≤ 9223372036854775807 := by omega
  clear hfin hrz hcpA hcpB hc1 hc2 e0 e1 e2 bR bR2 bR3 hg1 hg2 hg3 bV1 hh1 hh2 hcl hct bV hh htk hRsz hRtk hROW hold hcell hkk hss hms hN hW1 hW2 hG hG63 hi0 hz0 hzs hzb hlt1 hltv
  have hw1 : IntKind.i64.wrap ((i : Int) + 1) = (i : Int) + 1 := IntWalk.i64_in _ (by omega)
  have hw2 : IntKind.i64.wrap ((L.length : Int) + 1) = (L.length : Int) + 1 := IntWalk.i64_in _ (by omega)
  have htn : ((i : Int) + 1).toNat = i + 1 := by omega
  have hb1 : (0 : Int) ≤ (i : Int) + 1 := by omega
  have hin : i ≤ L.length := by omega
  have hb3 : (i : Int) ≤ (L.length : Int) + 1 := by omega
  have hb5 : (i : Int) + 1 ≤ (L.length : Int) + 1 := by omega
  have hb6 : (i : Int) ≤ (L.length : Int) := by omega
  have hGi : ¬ (G = i) := by omega
  have hGim : ¬ (G = i + 1) := by omega
  have hci : ¬ (cap = i) := by omega
  have hz2 : ¬ ((i : Int) = (L.length : Int)) := by omega
  have hz3 : (cap : Int) < (L.length : Int) + 1 := by omega
  go_enter Tryz.func49, Tryz.ntmps49
  go_wp2_with (at_builtin; refine Lib.wpList_append_run _ rfl _ _ _ _ rfl _ _ rfl rfl _ _ (HR.out _) ?_)
  rw [HA.out]
  simp only [Result.andThen]
  rw [Oper.upon_value]
  go_wp2
  go_region_law (refine step_copy_runI rfl _ _ 34 34 rfl (.slice (some ⟨N, (i + 1) * 2, none⟩) (L.length - i) (G - (i + 1))) (.slice (some ⟨g1, (i) * 2, none⟩) (L.length - i) (cap - i)) (by simp [Act.eval, Act.put]) (by simp [Act.eval, Act.put]) (HBB.out _ _ _) ?_)
  go_wp2
  go_ret
  exact HFIN.out
theorem insP_any (L : List KV) (x : KV) (B g i : Nat) (v : Value) (w : World) (hown : w.ownsRow B 36 2 v L.length (flatE encKV L)) (bV : Blk w g 36 (encKV x).toArray) (hne : v.ownBlock ≠ some g) (hB : B ≤ w.heap.size) (hi : i ≤ L.length) (hl : L.length ≤ 1000000) :
    Calls Tryz.prog 49 #[v, .int .i64 i, .slice (some ⟨g, 0, none⟩) 1 1] w (InsPost 36 2 encKV B L x i v w) := by
  by_cases h : i = L.length
  · subst h
    exact insP_end L x B g v w hown bV hB hl
  · rcases hown.2 with ⟨rfl, hn⟩ | ⟨g1, cap, cur, rfl, hg1, hh, hnc, hcm, hsz, htk⟩
    · omega
    · have hgg : g ≠ g1 := fun e => hne (by rw [e]; rfl)
      by_cases hr : L.length + 1 ≤ cap
      · exact insP_shift L x B g g1 cap i cur w hg1 hh hcm hsz htk bV hgg (by omega) hr
      · exact insP_grow L x B g g1 cap i cur w hB hh hnc htk bV (by omega) (by omega) hl

set_option maxRecDepth 100000 in
set_option maxHeartbeats 4000000 in
theorem insK_end (L : List Kid) (x : Kid) (B g : Nat) (v : Value) (w : World) (hown : w.ownsRow B 59 1 v L.length (flatE encK L)) (bV : Blk w g 59 (encK x).toArray) (hB : B ≤ w.heap.size) (hl : L.length ≤ 1000000) :
    Calls Tryz.prog 50 #[v, .int .i64 L.length, .slice (some ⟨g, 0, none⟩) 1 1] w (InsPost 59 1 encK B L x L.length v w) := by
  obtain ⟨i0, hi, hz0, hz1, hz2⟩ := info_parts infoK
  have hms : maxLen = 9223372036854775807 := rfl
  have hsrc : SrcIs w (.slice (some ⟨g, 0, none⟩) 1 1) 1 1 (encK x) := .inr ⟨⟨g, 0, none⟩, 1, rfl, rfl, fun j u hj => by
    rw [Go.WideShapes.add_plain, Nat.zero_add, bV.cell, List.getElem?_toArray]; exact hj⟩
  have hone : ∀ u ∈ encK x, u.oneCell' = true := encK_one x
  have HW := Lib.hid hown; have HSRC := Lib.hid hsrc; have H1 := Lib.hid hone; have HMS := Lib.hid hms
  have hfl : flatE encK (L.take L.length ++ x :: L.drop L.length) = flatE encK L ++ encK x := by
    rw [List.take_length, List.drop_length, flatE_append, flatE_one]
  rcases hown.2 with ⟨rfl, hn⟩ | ⟨g1, cap, cur, rfl, hg1, hh, hnc, hcm, hsz, htk⟩
  · have hL : L.length = 0 := hn
    have HW0 := HW.out
    rw [hL] at HW0 ⊢
    have HW1 := Lib.hid HW0
    clear hown hsrc hone hms HW0 hn bV
    go_enter Tryz.func50, Tryz.ntmps50
    go_wp2_with (at_builtin; refine wpList_append_any_at rfl _ _ 65 rfl B 59 i0 _ 1 8 Tryz.underlying65 hi hz0 hz1 hz2 (by rfl) (by decide) _ 0 (flatE encK L) rfl HW1.out _ 1 (encK x) rfl HSRC.out H1.out (by have := HMS.out; omega) (by omega) hB ?_)
    intro v' w1 ho hg hv
    go_wp2
    go_ret
    refine ⟨v', rfl, ?_, hg, hv⟩
    rw [show L.take 0 ++ x :: L.drop 0 = L.take L.length ++ x :: L.drop L.length by rw [hL], hfl, hL]
    exact ho
  · clear hown hsrc hone hms bV hh hsz htk hg1
    have hcap : cap ≤ 9223372036854775807 := by have := HMS.out; omega
    go_enter Tryz.func50, Tryz.ntmps50
    go_wp2_with (at_builtin; refine wpList_append_any_at rfl _ _ 65 rfl B 59 i0 _ 1 8 Tryz.underlying65 hi hz0 hz1 hz2 (by rfl) (by decide) _ L.length (flatE encK L) rfl HW.out _ 1 (encK x) rfl HSRC.out H1.out (by have := HMS.out; omega) (by omega) hB ?_)
    all_goals
      intro v' w1 ho hg hv
      go_wp2
      go_ret
      refine ⟨v', rfl, ?_, hg, hv⟩
      rw [hfl]
      exact ho
set_option maxRecDepth 100000 in
set_option maxHeartbeats 4000000 in
theorem insK_shift (L : List Kid) (x : Kid) (B g g1 cap i : Nat) (cur : Array Value) (w : World) (hB1 : B ≤ g1) (hh : Blk w g1 59 cur) (hcm : cap ≤ maxLen) (hsz : cur.size = cap * 1) (htk : cur.toList.take (L.length * 1) = flatE encK L)
    (bV : Blk w g 59 (encK x).toArray) (hne : g ≠ g1) (hi : i < L.length) (hroom : L.length + 1 ≤ cap) :
    Calls Tryz.prog 50 #[.slice (some ⟨g1, 0, none⟩) L.length cap, .int .i64 i, .slice (some ⟨g, 0, none⟩) 1 1] w (InsPost 59 1 encK B L x i (.slice (some ⟨g1, 0, none⟩) L.length cap) w) := by
  have hms : maxLen = 9223372036854775807 := rfl
  have hcap : cap ≤ 9223372036854775807 := by omega
  have hss : (Tryz.prog.info? 59).map (·.size) = some 1 := by
    obtain ⟨i0, h0, h1, h2, h3⟩ := info_parts infoK
    rw [h0]; simp [h2]
  have hov : ∀ lb cb, (callFunc 74 #[.slice (some ⟨g, 0, none⟩) 1 1, .slice (some ⟨g1, i + 1, none⟩) lb cb]).run Tryz.prog w = .ok (.value (.bool false)) w := fun lb cb => by
    rw [run_callFunc_extern Tryz.func74 (by kernel_rfl) (by kernel_rfl) (by kernel_rfl) (e := Extern.SlicesOverlaps.overlaps #[65, 65] #[4]) (by kernel_rfl),
      Lib.run_overlaps_apart w 65 4 59 Tryz.underlying65 1 (fun w => by obtain ⟨i0, h0, h1, h2, h3⟩ := info_parts infoK; simp [sizeOf, typeInfo, h0, h2]) ⟨g, 0, none⟩ ⟨g1, i + 1, none⟩ 1 1 lb cb hne 59 59 (encK x).length cur.size (by simp [World.shape?, show w.heap[g]? = _ from bV]) (by simp [World.shape?, show w.heap[g1]? = _ from hh]) (by omega) (bV.frozen _) (bV.frozen _)]
    rfl
  have hk1 := flatE_len encK_len L
  have hcl : ∀ j, (flatE encK (L.drop j)).length = (L.length - j) * 1 := fun j => by rw [flatE_len encK_len, List.length_drop]
  have htk0 : cur.toList.take (i * 1) = flatE encK (L.take i) := by
    rw [flatE_take encK_len, ← htk, List.take_take, Nat.min_eq_left (Nat.mul_le_mul_right _ (by omega))]
  obtain ⟨e1, e2⟩ := ins_cells encK_len L x i (by omega) cur.toList htk0 (by simp; omega)
  have hcp1 : ∀ ty dc sc, (Builtin.copy_ #[65, 65] ty #[.slice (some ⟨g1, (i + 1) * 1, none⟩) (L.length - i) dc, .slice (some ⟨g1, i * 1, none⟩) (L.length + 1 - i) sc]).run Tryz.prog w.drew = .ok (goInt (L.length - i : Nat)) (w.drew.setRow g1 (cur.toList.take ((i + 1) * 1) ++ flatE encK (L.drop i) ++ cur.toList.drop ((i + 1) * 1 + (flatE encK (L.drop i)).length)).toArray) := fun ty dc sc => by
    refine run_copy_rowk w.drew _ _ ty 59 1 g1 ((i + 1) * 1) (L.length - i) dc ⟨g1, i * 1, none⟩ (L.length + 1 - i) sc (L.length - i) cur 59 (flatE encK (L.drop i)) Tryz.underlying65 hss hh.drew (by simp only [Nat.min_def]; split <;> omega) (hcl i) (fun j u hj => ?_) (by rw [hcl]; omega) (one_flat encK_one _)
    rw [Go.WideShapes.add_plain]
    refine blk_cells hh.drew htk _ u ?_
    rwa [flatE_drop encK_len, List.getElem?_drop] at hj
  obtain ⟨c1, hc1⟩ : ∃ c1 : List Value, c1 = cur.toList.take ((i + 1) * 1) ++ flatE encK (L.drop i) ++ cur.toList.drop ((i + 1) * 1 + (flatE encK (L.drop i)).length) := ⟨_, rfl⟩
  simp only [← hc1] at hcp1 e1 e2
  simp only [Nat.mul_one] at hcp1
  have hl1 : c1.length = cap * 1 := by
    rw [hc1]
    simp only [List.length_append, List.length_take, List.length_drop, hcl, Array.length_toList, hsz]
    omega
  have bV1 : Blk (w.drew.setRow g1 c1.toArray) g 59 (encK x).toArray := bV.drew.setRow_far hne _
  have bH1 : Blk (w.drew.setRow g1 c1.toArray) g1 59 c1.toArray := hh.drew.setRow _
  have hg1 : w.grownBy (w.drew.setRow g1 c1.toArray) (some g1) := (World.grownBy_drew w _).trans (grown_setRow _ _ _)
  obtain ⟨W1, hW1⟩ : ∃ W1, W1 = w.drew.setRow g1 c1.toArray := ⟨_, rfl⟩
  rw [← hW1] at bV1 bH1 hcp1 hg1
  have hcp2 : ∀ ty dc, (Builtin.copy_ #[65, 65] ty #[.slice (some ⟨g1, i * 1, none⟩) (L.length + 1 - i) dc, .slice (some ⟨g, 0, none⟩) 1 1]).run Tryz.prog W1 = .ok (goInt 1) (W1.setRow g1 (c1.take (i * 1) ++ encK x ++ c1.drop (i * 1 + (encK x).length)).toArray) := fun ty dc => by
    refine run_copy_rowk W1 _ _ ty 59 1 g1 (i * 1) (L.length + 1 - i) dc ⟨g, 0, none⟩ 1 1 1 c1.toArray 59 (encK x) Tryz.underlying65 hss bH1 (by simp only [Nat.min_def]; split <;> omega) rfl (fun j u hj => ?_) (by rw [encK_len]; simp [hl1]; omega) (encK_one x)
    rw [Go.WideShapes.add_plain, Nat.zero_add, bV1.cell, List.getElem?_toArray]; exact hj
  obtain ⟨c2, hc2⟩ : ∃ c2 : List Value, c2 = c1.take (i * 1) ++ encK x ++ c1.drop (i * 1 + (encK x).length) := ⟨_, rfl⟩
  simp only [← hc2] at hcp2 e1 e2
  simp only [Nat.mul_one] at hcp2
  have bH2 := bH1.setRow c2.toArray
  have hg2 := hg1.trans (grown_setRow W1 g1 c2.toArray)
  have hl2 : c2.length = cap * 1 := by rw [e1]; simp [hsz]
  have hfin : InsPost 59 1 encK B L x i (.slice (some ⟨g1, 0, none⟩) L.length cap) w (.returned (.slice (some ⟨g1, 0, none⟩) (L.length + 1) cap)) (W1.setRow g1 c2.toArray) := by
    refine ⟨_, rfl, ⟨?_, .inr ⟨g1, cap, c2.toArray, rfl, hB1, bH2, hroom, hcm, by simpa using hl2, by simpa using e2⟩⟩, hg2, .inl rfl⟩
    rw [flatE_len encK_len]
    simp
    omega
  have HFIN := Lib.hid hfin
  have HC1 := Lib.hid hcp1; have HC2 := Lib.hid hcp2; have HOV := Lib.hid hov
  clear hfin hcp1 hcp2 hov hc1 hc2 e1 e2 bH1 bH2 hg1 hg2 hl1 hl2 bV1 htk0 hcl hk1 bV hh htk hsz hss hcm hms hne hW1
  have hw1 : IntKind.i64.wrap ((i : Int) + 1) = (i : Int) + 1 := IntWalk.i64_in _ (by omega)
  have hw2 : IntKind.i64.wrap ((L.length : Int) + 1) = (L.length : Int) + 1 := IntWalk.i64_in _ (by omega)
  have htn : ((i : Int) + 1).toNat = i + 1 := by omega
  have hb1 : (0 : Int) ≤ (i : Int) + 1 := by omega
  have hin : i ≤ L.length := by omega
  have hb3 : (i : Int) ≤ (L.length : Int) + 1 := by omega
  have hb5 : (i : Int) + 1 ≤ (L.length : Int) + 1 := by omega
  have hb6 : (i : Int) ≤ (L.length : Int) := by omega
  have hb2 : ¬ (cap = i + 1) := by omega
  have hb4 : ¬ (cap = i) := by omega
  have hz2 : ¬ ((i : Int) = (L.length : Int)) := by omega
  go_enter Tryz.func50, Tryz.ntmps50
  go_wp2_with (simp only [HOV.out])
  go_region_law (refine step_copy_runI rfl _ _ 65 65 rfl (.slice (some ⟨g1, i + 1, none⟩) (L.length - i) (cap - (i + 1))) (.slice (some ⟨g1, i, none⟩) (L.length + 1 - i) (cap - i)) (by simp [Act.eval, Act.put]) (by simp [Act.eval, Act.put]) (HC1.out _ _ _) ?_)
  go_wp2
  rw [HC2.out]
  simp only [Result.andThen]
  rw [Oper.upon_value]
  go_wp2
  go_ret
  exact HFIN.out
set_option maxRecDepth 100000 in
set_option maxHeartbeats 4000000 in
theorem insK_grow (L : List Kid) (x : Kid) (B g g1 cap i : Nat) (cur : Array Value) (w : World) (hB : B ≤ w.heap.size) (hh : Blk w g1 59 cur) (hnc : L.length ≤ cap) (htk : cur.toList.take (L.length * 1) = flatE encK L)
    (bV : Blk w g 59 (encK x).toArray) (hi : i < L.length) (hroom : cap < L.length + 1) (hl : L.length ≤ 1000000) :
    Calls Tryz.prog 50 #[.slice (some ⟨g1, 0, none⟩) L.length cap, .int .i64 i, .slice (some ⟨g, 0, none⟩) 1 1] w (InsPost 59 1 encK B L x i (.slice (some ⟨g1, 0, none⟩) L.length cap) w) := by
  have hms : maxLen = 9223372036854775807 := rfl
  obtain ⟨i0, hi0, hz0, hzs, hzb⟩ := info_parts infoK
  have hss : (Tryz.prog.info? 59).map (·.size) = some 1 := by rw [hi0]; simp [hzs]
  have hcl : ∀ j, (flatE encK (L.drop j)).length = (L.length - j) * 1 := fun j => by rw [flatE_len encK_len, List.length_drop]
  have hct : (flatE encK (L.take i)).length = i * 1 := by rw [flatE_len encK_len, List.length_take, Nat.min_eq_left (by omega)]
  have hkk : (L.length : Int) + 1 - (i : Int) = ((L.length + 1 - i : Nat) : Int) := by omega
  have hik : i + (L.length + 1 - i) = L.length + 1 := by omega
  have hcell : ∀ (j : Nat) (u : Value), (flatE encK L)[j]? = some u → w.cell? ⟨g1, j, none⟩ = some u := fun j u hu => blk_cells hh htk j u hu
  have hold : (Builtin.firstCells i0.size i (.slice (some ⟨g1, 0, none⟩) i cap)).run Tryz.prog w.drew = .ok (flatE encK (L.take i)).toArray w.drew := by
    rw [hzs]
    exact run_firstCells_some w.drew 1 i ⟨g1, 0, none⟩ i cap (flatE encK (L.take i)) hct (fun j v hj => by
      rw [Go.WideShapes.add_plain, Nat.zero_add]
      refine hcell j v ?_
      rw [flatE_take encK_len] at hj
      have : j < i * 1 := by
        have := (List.getElem?_eq_some_iff.1 hj).1
        rw [List.length_take] at this; omega
      rwa [List.getElem?_take_of_lt this] at hj)
  obtain ⟨G, hG⟩ : ∃ G, G = grownCap w (L.length + 1) cap 59 := ⟨_, rfl⟩
  obtain ⟨ROW, hROW⟩ : ∃ ROW : Array Value, ROW = (flatE encK (L.take i)).toArray ++ Builtin.zeroCells (.pointer none : Value).cells (L.length + 1 - i) ++ Builtin.zeroCells (.pointer none : Value).cells (G - (L.length + 1)) := ⟨_, rfl⟩
  have hrz : ∀ ty, (Builtin.append_ #[65, 3] ty #[.slice (some ⟨g1, 0, none⟩) i cap, .int .i64 ((L.length : Int) + 1 - (i : Int))]).run Tryz.prog w =
      .ok (.slice (some ⟨w.heap.size, 0, none⟩) (L.length + 1) G) (w.drew.alloc (.cells ROW 59)) := fun ty => by
    have h := Lib.run_append_grow_zeros w 65 3 ty 59 i0 _ .i64 .i64 Tryz.underlying65 Tryz.underlying3 hi0 hz0 (some ⟨g1, 0, none⟩) i cap (flatE encK (L.take i)) hold (L.length + 1 - i) (by omega) (by omega) (by omega) (by omega) (by rw [hzb]; omega) (by rw [hzb, hik]; exact growslice_fits hroom (by omega))
    rw [hik, ← hG, ← hROW] at h
    rw [hkk]
    exact h
  have hGn : L.length + 1 ≤ G := by rw [hG]; exact grownCap_ge w _ _ _
  have hG63 : G ≤ maxLen := by rw [hG]; exact grownCap_le_maxLen w (L.length + 1) cap 59 (by omega)
  have hRsz : ROW.size = G * 1 := by
    rw [hROW]
    simp [Builtin.zeroCells, Value.cells, hct]
    omega
  have hRtk : ROW.toList.take (i * 1) = flatE encK (L.take i) := by
    rw [hROW]
    simp only [Array.toList_append, List.append_assoc]
    rw [List.take_append, hct, Nat.sub_self, List.take_zero, List.append_nil, List.take_of_length_le (by omega)]
  have bR : Blk (w.drew.alloc (.cells ROW 59)) w.heap.size 59 ROW := Blk.at (w := w.drew) rfl _ _
  have bV1 : Blk (w.drew.alloc (.cells ROW 59)) g 59 (encK x).toArray := bV.drew.alloc _
  have hh1 : Blk (w.drew.alloc (.cells ROW 59)) g1 59 cur := hh.drew.alloc _
  have hg1 : w.grownBy (w.drew.alloc (.cells ROW 59)) (some g1) := (World.grownBy_drew w _).trans (World.grownBy_alloc _ _ _)
  have hlt1 := hh.lt
  have hltv := bV.lt
  obtain ⟨N, hN⟩ : ∃ N, N = w.heap.size := ⟨_, rfl⟩
  obtain ⟨W1, hW1⟩ : ∃ W1, W1 = w.drew.alloc (.cells ROW 59) := ⟨_, rfl⟩
  rw [← hW1] at bR bV1 hh1 hrz hg1
  rw [← hN] at bR hrz hlt1 hltv
  obtain ⟨e0, e1, e2⟩ := ins_cells2 encK_len L x i (by omega) ROW.toList hRtk (by simp [hRsz]; omega)
  have hcpA : ∀ ty dc, (Builtin.copy_ #[65, 65] ty #[.slice (some ⟨N, i * 1, none⟩) (L.length + 1 - i) dc, .slice (some ⟨g, 0, none⟩) 1 1]).run Tryz.prog W1 = .ok (goInt 1) (W1.setRow N (ROW.toList.take (i * 1) ++ encK x ++ ROW.toList.drop (i * 1 + (encK x).length)).toArray) := fun ty dc => by
    refine run_copy_rowk W1 _ _ ty 59 1 N (i * 1) (L.length + 1 - i) dc ⟨g, 0, none⟩ 1 1 1 ROW 59 (encK x) Tryz.underlying65 hss bR (by simp only [Nat.min_def]; split <;> omega) rfl (fun j u hj => ?_) (by rw [encK_len, hRsz]; omega) (encK_one x)
    rw [Go.WideShapes.add_plain, Nat.zero_add, bV1.cell, List.getElem?_toArray]; exact hj
  obtain ⟨c1, hc1⟩ : ∃ c1 : List Value, c1 = ROW.toList.take (i * 1) ++ encK x ++ ROW.toList.drop (i * 1 + (encK x).length) := ⟨_, rfl⟩
  simp only [← hc1] at hcpA e0 e1 e2
  simp only [Nat.mul_one] at hcpA
  have bR2 : Blk (W1.setRow N c1.toArray) N 59 c1.toArray := bR.setRow _
  have hh2 : Blk (W1.setRow N c1.toArray) g1 59 cur := hh1.setRow_far (by omega) _
  have hg2 : w.grownBy (W1.setRow N c1.toArray) (some g1) := hg1.andThen (grown_setRow _ _ _) (fun j e => by cases e; exact .inl (by omega))
  obtain ⟨W2, hW2⟩ : ∃ W2, W2 = W1.setRow N c1.toArray := ⟨_, rfl⟩
  rw [← hW2] at bR2 hh2 hcpA hg2
  have hcpB : ∀ ty dc sc, (Builtin.copy_ #[65, 65] ty #[.slice (some ⟨N, (i + 1) * 1, none⟩) (L.length - i) dc, .slice (some ⟨g1, i * 1, none⟩) (L.length - i) sc]).run Tryz.prog W2.drew = .ok (goInt (L.length - i : Nat)) (W2.drew.setRow N (c1.take ((i + 1) * 1) ++ flatE encK (L.drop i) ++ c1.drop ((i + 1) * 1 + (flatE encK (L.drop i)).length)).toArray) := fun ty dc sc => by
    refine run_copy_rowk W2.drew _ _ ty 59 1 N ((i + 1) * 1) (L.length - i) dc ⟨g1, i * 1, none⟩ (L.length - i) sc (L.length - i) c1.toArray 59 (flatE encK (L.drop i)) Tryz.underlying65 hss bR2.drew (by simp only [Nat.min_def]; split <;> omega) (hcl i) (fun j u hj => ?_) (by rw [hcl]; simp [e0, hRsz]; omega) (one_flat encK_one _)
    rw [Go.WideShapes.add_plain]
    refine blk_cells hh2.drew htk _ u ?_
    rwa [flatE_drop encK_len, List.getElem?_drop] at hj
  obtain ⟨c2, hc2⟩ : ∃ c2 : List Value, c2 = c1.take ((i + 1) * 1) ++ flatE encK (L.drop i) ++ c1.drop ((i + 1) * 1 + (flatE encK (L.drop i)).length) := ⟨_, rfl⟩
  simp only [← hc2] at hcpB e1 e2
  simp only [Nat.mul_one] at hcpB
  have bR3 : Blk (W2.drew.setRow N c2.toArray) N 59 c2.toArray := bR2.drew.setRow _
  have hg3 : w.grownBy (W2.drew.setRow N c2.toArray) (some g1) := (hg2.trans (World.grownBy_drew _ _)).andThen (grown_setRow _ _ _) (fun j e => by cases e; exact .inl (by omega))
  have hfin : InsPost 59 1 encK B L x i (.slice (some ⟨g1, 0, none⟩) L.length cap) w (.returned (.slice (some ⟨N, 0, none⟩) (L.length + 1) G)) (W2.drew.setRow N c2.toArray) := by
    refine ⟨_, rfl, ⟨?_, .inr ⟨N, G, c2.toArray, rfl, by omega, bR3, hGn, hG63, by simp [e1, hRsz], by simpa using e2⟩⟩, hg3, .inr (by rw [hN]; rfl)⟩
    rw [flatE_len encK_len]
    simp
    omega
  have HFIN := Lib.hid hfin
  have HR := Lib.hid hrz; have HA := Lib.hid hcpA; have HBB := Lib.hid hcpB
  have hcap0 : cap ≤ 9223372036854775807 := by omega
  have hG0 : G ≤ 9223372036854775807 := by omega
  clear hfin hrz hcpA hcpB hc1 hc2 e0 e1 e2 bR bR2 bR3 hg1 hg2 hg3 bV1 hh1 hh2 hcl hct bV hh htk hRsz hRtk hROW hold hcell hkk hss hms hN hW1 hW2 hG hG63 hi0 hz0 hzs hzb hlt1 hltv
  have hw1 : IntKind.i64.wrap ((i : Int) + 1) = (i : Int) + 1 := IntWalk.i64_in _ (by omega)
  have hw2 : IntKind.i64.wrap ((L.length : Int) + 1) = (L.length : Int) + 1 := IntWalk.i64_in _ (by omega)
  have htn : ((i : Int) + 1).toNat = i + 1 := by omega
  have hb1 : (0 : Int) ≤ (i : Int) + 1 := by omega
  have hin : i ≤ L.length := by omega
  have hb3 : (i : Int) ≤ (L.length : Int) + 1 := by omega
  have hb5 : (i : Int) + 1 ≤ (L.length : Int) + 1 := by omega
  have hb6 : (i : Int) ≤ (L.length : Int) := by omega
  have hGi : ¬ (G = i) := by omega
  have hGim : ¬ (G = i + 1) := by omega
  have hci : ¬ (cap = i) := by omega
  have hz2 : ¬ ((i : Int) = (L.length : Int)) := by omega
  have hz3 : (cap : Int) < (L.length : Int) + 1 := by omega
  go_enter Tryz.func50, Tryz.ntmps50
  go_wp2_with (at_builtin; refine Lib.wpList_append_run _ rfl _ _ _ _ rfl _ _ rfl rfl _ _ (HR.out _) ?_)
  rw [HA.out]
  simp only [Result.andThen]
  rw [Oper.upon_value]
  go_wp2
  go_region_law (refine step_copy_runI rfl _ _ 65 65 rfl (.slice (some ⟨N, i + 1, none⟩) (L.length - i) (G - (i + 1))) (.slice (some ⟨g1, i, none⟩) (L.length - i) (cap - i)) (by simp [Act.eval, Act.put]) (by simp [Act.eval, Act.put]) (HBB.out _ _ _) ?_)
  go_wp2
  go_ret
  exact HFIN.out
theorem insK_any (L : List Kid) (x : Kid) (B g i : Nat) (v : Value) (w : World) (hown : w.ownsRow B 59 1 v L.length (flatE encK L)) (bV : Blk w g 59 (encK x).toArray) (hne : v.ownBlock ≠ some g) (hB : B ≤ w.heap.size) (hi : i ≤ L.length) (hl : L.length ≤ 1000000) :
    Calls Tryz.prog 50 #[v, .int .i64 i, .slice (some ⟨g, 0, none⟩) 1 1] w (InsPost 59 1 encK B L x i v w) := by
  by_cases h : i = L.length
  · subst h
    exact insK_end L x B g v w hown bV hB hl
  · rcases hown.2 with ⟨rfl, hn⟩ | ⟨g1, cap, cur, rfl, hg1, hh, hnc, hcm, hsz, htk⟩
    · omega
    · have hgg : g ≠ g1 := fun e => hne (by rw [e]; rfl)
      by_cases hr : L.length + 1 ≤ cap
      · exact insK_shift L x B g g1 cap i cur w hg1 hh hcm hsz htk bV hgg (by omega) hr
      · exact insK_grow L x B g g1 cap i cur w hB hh hnc htk bV (by omega) (by omega) hl
end Go.Proofs.YtaiiibbnjmjamaaGreatDoor
