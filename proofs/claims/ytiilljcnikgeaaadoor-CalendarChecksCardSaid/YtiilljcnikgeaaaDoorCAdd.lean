/- The walks of Add and Count. Conditions: the calendar lies in memory, its rules are valid; the listed tables lie in memory. -/
import Derived.Test.YtiilljcnikgeaaaDoorCFirst
namespace Go.Proofs.YtiilljcnikgeaaaDoor
open Go.RowKit

theorem addO_bd {c : Cal} {k s : Int} : ∀ {n : Nat} {d e : Int}, inD d = true → addO c k s n d = some e → inD e = true
  | 0, d, e, h, h1 => by cases h1; exact h
  | n + 1, d, e, h, h1 => by
    have h2 : (if fstE c k (d + s) s = 0 then addO c k s n (fstV c k (d + s) s) else none) = some e := h1
    by_cases g : fstE c k (d + s) s = 0
    · rw [if_pos g] at h2; exact addO_bd (openB_in (fst_in g)) h2
    · rw [if_neg g] at h2; cases h2
set_option maxRecDepth 100000 in
set_option maxHeartbeats 4000000 in
theorem add_pos (c : Cal) (vh vc vs : Value) (d n k : Int) (w : World) (hG : GoodH w) (hc : CalIn w vh vc vs c) (hd : inD d = true) (hn1 : -1000 ≤ n) (hn2 : n ≤ 1000) (hneg : ¬ n < 0) :
    Calls Tryd.prog 21 #[aggC c vh vc vs, .int .i64 d, .int .i64 n, .int .i64 k] w (Ret (.tuple #[.int .i64 (addV c k d n), .int .i64 (addE c k d n)]) w) := by
  have hss : addS n = 1 := by unfold addS; rw [if_neg hneg]
  have hv : addV c k d n = (addO c k (1) n.natAbs d).getD 0 := by unfold addV; rw [if_pos hd, if_neg (by omega), hss]
  have he : addE c k d n = if (addO c k (1) n.natAbs d).isSome then 0 else 31 := by unfold addE; rw [if_pos hd, if_neg (by omega), hss]
  have hwi : ∀ w, Calls Tryd.prog 30 #[.int .i64 d] w (Pur (.bool true) w) := fun w => by rw [← hd]; exact cwithin_any d w
  obtain ⟨m, hm⟩ : ∃ m, m = n.natAbs := ⟨_, rfl⟩
  rw [← hm] at hv he
  have hm2 : m ≤ 1000 := by omega
  have hf := fun d w hG hc => cfirst_any c vh vc vs d k (1) w hG hc (by omega) (by omega)
  obtain ⟨V, hV⟩ : ∃ V, V = addV c k d n := ⟨_, rfl⟩
  obtain ⟨E, hE⟩ : ∃ E, E = addE c k d n := ⟨_, rfl⟩
  rw [← hV] at hv ⊢
  rw [← hE] at he ⊢
  have HV := Lib.hid hv; have HE := Lib.hid he; have HW := Lib.hid hwi; have HC := Lib.hid hc; have HF := Lib.hid hf; have HM := Lib.hid hm
  obtain ⟨d1, d2⟩ := inD_iff.1 hd
  have HD := Lib.hid hd
  clear hv he hwi hc hf hV hE hm hss hd
  have e1 : decide (n < -1000) = false := decide_eq_false (by omega)
  have e2 : decide (1000 < n) = false := decide_eq_false (by omega)
  have e3 : decide (n < 0) = false := decide_eq_false hneg
  go_enter Tryd.func21, Tryd.ntmps21
  go_wp2_with fail
  refine (HW.out _).mono ?_
  rintro e w1 ⟨rfl, rfl⟩
  have bX := Blk.new w 30 (cellsC c vh vc vs)
  have hB0 := bl_alloc w (.cells (cellsC c vh vc vs) 30)
  obtain ⟨W1, hW1⟩ : ∃ W1, W1 = w.alloc (.cells (cellsC c vh vc vs) 30) := ⟨_, rfl⟩
  have hbz : w.heap.size < W1.heap.size := by rw [hW1]; simp
  go_wp2
  rw [← hW1] at bX hB0 ⊢
  clear hW1
  go_loopw [1, 11, 12, 29] (fun x _ _ i wr => ∃ (j : Nat) (y : Int), j ≤ m ∧ i = .int .i64 j ∧ x = .int .i64 y ∧ 0 ≤ y ∧ y ≤ 3652058 ∧ Hid (addO c k (1) m d = addO c k (1) (m - j) y) ∧ Below W1.heap.size W1 wr) (fun _ _ _ i _ => 1000 - (intOf i).toNat)
  case atStart => exact ⟨0, d, Nat.zero_le _, rfl, rfl, d1, d2, rfl, bl_refl _⟩
  case round =>
    obtain ⟨j, y, hj, rfl, rfl, y1, y2, hy, hbw⟩ := hrel
    by_cases hlt : j < m
    · have hmn : (j : Int) < n := by have := HM.out; omega
      have bX1 := bX.below hbw hbz
      have hBw := bl_trans hB0 hbw
      have c0 := bX1.cell 0
      have c1 := bX1.cell 1
      have c2 := bX1.cell 2
      have c3 := bX1.cell 3
      have c4 := bX1.cell 4
      have c5 := bX1.cell 5
      have c6 := bX1.cell 6
      have c7 := bX1.cell 7
      have c8 := bX1.cell 8
      have c9 := bX1.cell 9
      have c10 := bX1.cell 10
      have c11 := bX1.cell 11
      simp at c0 c1 c2 c3 c4 c5 c6 c7 c8 c9 c10 c11
      have hstep : addO c k (1) (m - j) y = if fstE c k (y + 1) (1) = 0 then addO c k (1) (m - (j + 1)) (fstV c k (y + 1) (1)) else none := by
        rw [show m - j = (m - (j + 1)) + 1 by omega]; rfl
      have hfy := HF.out (y + 1)
      have hvb := fstV_bd c k (y + 1) (1)
      obtain ⟨v1, v2⟩ := hvb
      have hec := fstE_cases c k (y + 1) (1)
      have hbl : w.heap.size < wr.heap.size := bX1.lt
      generalize fstV c k (y + 1) (1) = nv at *
      generalize fstE c k (y + 1) (1) = ne at *
      have HS := Lib.hid hstep; have HFY := Lib.hid hfy; have HCW := Lib.hid (HC.out.below hBw)
      have hGw := hG.below hBw
      clear hstep hfy bX1
      by_cases h0 : ne = 0
      · obtain rfl := h0
        have hyes : Hid (addO c k (1) m d = addO c k (1) (m - (j + 1)) nv) := by show _ = _; rw [hy.out, HS.out, if_pos rfl]
        clear hec HS hy
        go_wp2_with fail
        refine (HFY.out _ hGw HCW.out).mono ?_
        rintro e w2 ⟨rfl, hb⟩
        go_wp2
        go_roundw
        case rel => exact ⟨j + 1, nv, by omega, by go_num, rfl, v1, v2, hyes, bl_trans hbw hb⟩
        case measure => simp [intOf]; omega
      · have hq : (ne != 0) = true := by simpa using h0
        have hq2 : (ne == 0) = false := by simpa using h0
        have hno : Hid (addO c k (1) m d = none) := by show _ = _; rw [hy.out, HS.out, if_neg h0]
        clear hec HS hy h0
        go_wp2_with fail
        refine (HFY.out _ hGw HCW.out).mono ?_
        rintro e w2 ⟨rfl, hb⟩
        go_wp2
        go_ret2
        exact ⟨by rw [HV.out, HE.out, hno.out]; rfl, bl_trans hBw hb⟩
    · have hmn : ¬ (j : Int) < n := by have := HM.out; omega
      have hfin : Hid (addO c k (1) m d = some y) := by show _ = _; rw [hy.out, show m - j = 0 by omega]; rfl
      clear hy
      go_wp2
      go_ret2
      exact ⟨by rw [HV.out, HE.out, hfin.out]; rfl, bl_trans hB0 hbw⟩
set_option maxRecDepth 100000 in
set_option maxHeartbeats 4000000 in
theorem add_neg (c : Cal) (vh vc vs : Value) (d n k : Int) (w : World) (hG : GoodH w) (hc : CalIn w vh vc vs c) (hd : inD d = true) (hn1 : -1000 ≤ n) (hn2 : n ≤ 1000) (hneg : n < 0) :
    Calls Tryd.prog 21 #[aggC c vh vc vs, .int .i64 d, .int .i64 n, .int .i64 k] w (Ret (.tuple #[.int .i64 (addV c k d n), .int .i64 (addE c k d n)]) w) := by
  have hss : addS n = -1 := by unfold addS; rw [if_pos hneg]
  have hv : addV c k d n = (addO c k (-1) n.natAbs d).getD 0 := by unfold addV; rw [if_pos hd, if_neg (by omega), hss]
  have he : addE c k d n = if (addO c k (-1) n.natAbs d).isSome then 0 else 31 := by unfold addE; rw [if_pos hd, if_neg (by omega), hss]
  have hwi : ∀ w, Calls Tryd.prog 30 #[.int .i64 d] w (Pur (.bool true) w) := fun w => by rw [← hd]; exact cwithin_any d w
  obtain ⟨m, hm⟩ : ∃ m, m = n.natAbs := ⟨_, rfl⟩
  rw [← hm] at hv he
  have hm2 : m ≤ 1000 := by omega
  have hf := fun d w hG hc => cfirst_any c vh vc vs d k (-1) w hG hc (by omega) (by omega)
  obtain ⟨V, hV⟩ : ∃ V, V = addV c k d n := ⟨_, rfl⟩
  obtain ⟨E, hE⟩ : ∃ E, E = addE c k d n := ⟨_, rfl⟩
  rw [← hV] at hv ⊢
  rw [← hE] at he ⊢
  have HV := Lib.hid hv; have HE := Lib.hid he; have HW := Lib.hid hwi; have HC := Lib.hid hc; have HF := Lib.hid hf; have HM := Lib.hid hm
  obtain ⟨d1, d2⟩ := inD_iff.1 hd
  have HD := Lib.hid hd
  clear hv he hwi hc hf hV hE hm hss hd
  have e1 : decide (n < -1000) = false := decide_eq_false (by omega)
  have e2 : decide (1000 < n) = false := decide_eq_false (by omega)
  have e3 : decide (n < 0) = true := decide_eq_true hneg
  go_enter Tryd.func21, Tryd.ntmps21
  go_wp2_with fail
  refine (HW.out _).mono ?_
  rintro e w1 ⟨rfl, rfl⟩
  have bX := Blk.new w 30 (cellsC c vh vc vs)
  have hB0 := bl_alloc w (.cells (cellsC c vh vc vs) 30)
  obtain ⟨W1, hW1⟩ : ∃ W1, W1 = w.alloc (.cells (cellsC c vh vc vs) 30) := ⟨_, rfl⟩
  have hbz : w.heap.size < W1.heap.size := by rw [hW1]; simp
  go_wp2
  rw [← hW1] at bX hB0 ⊢
  clear hW1
  go_loopw [1, 11, 12, 29] (fun x _ _ i wr => ∃ (j : Nat) (y : Int), j ≤ m ∧ i = .int .i64 j ∧ x = .int .i64 y ∧ 0 ≤ y ∧ y ≤ 3652058 ∧ Hid (addO c k (-1) m d = addO c k (-1) (m - j) y) ∧ Below W1.heap.size W1 wr) (fun _ _ _ i _ => 1000 - (intOf i).toNat)
  case atStart => exact ⟨0, d, Nat.zero_le _, rfl, rfl, d1, d2, rfl, bl_refl _⟩
  case round =>
    obtain ⟨j, y, hj, rfl, rfl, y1, y2, hy, hbw⟩ := hrel
    by_cases hlt : j < m
    · have hmn : (j : Int) < -n := by have := HM.out; omega
      have bX1 := bX.below hbw hbz
      have hBw := bl_trans hB0 hbw
      have c0 := bX1.cell 0
      have c1 := bX1.cell 1
      have c2 := bX1.cell 2
      have c3 := bX1.cell 3
      have c4 := bX1.cell 4
      have c5 := bX1.cell 5
      have c6 := bX1.cell 6
      have c7 := bX1.cell 7
      have c8 := bX1.cell 8
      have c9 := bX1.cell 9
      have c10 := bX1.cell 10
      have c11 := bX1.cell 11
      simp at c0 c1 c2 c3 c4 c5 c6 c7 c8 c9 c10 c11
      have hstep : addO c k (-1) (m - j) y = if fstE c k (y + -1) (-1) = 0 then addO c k (-1) (m - (j + 1)) (fstV c k (y + -1) (-1)) else none := by
        rw [show m - j = (m - (j + 1)) + 1 by omega]; rfl
      have hfy := HF.out (y + -1)
      have hvb := fstV_bd c k (y + -1) (-1)
      obtain ⟨v1, v2⟩ := hvb
      have hec := fstE_cases c k (y + -1) (-1)
      have hbl : w.heap.size < wr.heap.size := bX1.lt
      generalize fstV c k (y + -1) (-1) = nv at *
      generalize fstE c k (y + -1) (-1) = ne at *
      have HS := Lib.hid hstep; have HFY := Lib.hid hfy; have HCW := Lib.hid (HC.out.below hBw)
      have hGw := hG.below hBw
      clear hstep hfy bX1
      by_cases h0 : ne = 0
      · obtain rfl := h0
        have hyes : Hid (addO c k (-1) m d = addO c k (-1) (m - (j + 1)) nv) := by show _ = _; rw [hy.out, HS.out, if_pos rfl]
        clear hec HS hy
        go_wp2_with fail
        refine (HFY.out _ hGw HCW.out).mono ?_
        rintro e w2 ⟨rfl, hb⟩
        go_wp2
        go_roundw
        case rel => exact ⟨j + 1, nv, by omega, by go_num, rfl, v1, v2, hyes, bl_trans hbw hb⟩
        case measure => simp [intOf]; omega
      · have hq : (ne != 0) = true := by simpa using h0
        have hq2 : (ne == 0) = false := by simpa using h0
        have hno : Hid (addO c k (-1) m d = none) := by show _ = _; rw [hy.out, HS.out, if_neg h0]
        clear hec HS hy h0
        go_wp2_with fail
        refine (HFY.out _ hGw HCW.out).mono ?_
        rintro e w2 ⟨rfl, hb⟩
        go_wp2
        go_ret2
        exact ⟨by rw [HV.out, HE.out, hno.out]; rfl, bl_trans hBw hb⟩
    · have hmn : ¬ (j : Int) < -n := by have := HM.out; omega
      have hfin : Hid (addO c k (-1) m d = some y) := by show _ = _; rw [hy.out, show m - j = 0 by omega]; rfl
      clear hy
      go_wp2
      go_ret2
      exact ⟨by rw [HV.out, HE.out, hfin.out]; rfl, bl_trans hB0 hbw⟩
set_option maxHeartbeats 1000000 in
theorem add_no (c : Cal) (vh vc vs : Value) (d n k : Int) (w : World) (hd : inD d = false) :
    Calls Tryd.prog 21 #[aggC c vh vc vs, .int .i64 d, .int .i64 n, .int .i64 k] w (Ret (.tuple #[.int .i64 0, .int .i64 5]) w) := by
  have hwi : ∀ w, Calls Tryd.prog 30 #[.int .i64 d] w (Pur (.bool false) w) := fun w => by rw [← hd]; exact cwithin_any d w
  have HW := Lib.hid hwi
  clear hwi hd
  go_enter Tryd.func21, Tryd.ntmps21
  go_wp2_with fail
  refine (HW.out _).mono ?_
  rintro e w1 ⟨rfl, rfl⟩
  go_wp2
  go_ret2
  exact ⟨rfl, bl_alloc _ _⟩
set_option maxHeartbeats 1000000 in
theorem add_far (c : Cal) (vh vc vs : Value) (d n k : Int) (w : World) (hd : inD d = true) (hn : n < -1000 ∨ 1000 < n) :
    Calls Tryd.prog 21 #[aggC c vh vc vs, .int .i64 d, .int .i64 n, .int .i64 k] w (Ret (.tuple #[.int .i64 0, .int .i64 2]) w) := by
  have hwi : ∀ w, Calls Tryd.prog 30 #[.int .i64 d] w (Pur (.bool true) w) := fun w => by rw [← hd]; exact cwithin_any d w
  have HW := Lib.hid hwi
  clear hwi hd
  by_cases h1 : n < -1000
  · have e1 : decide (n < -1000) = true := decide_eq_true h1
    clear hn
    go_enter Tryd.func21, Tryd.ntmps21
    go_wp2_with fail
    refine (HW.out _).mono ?_
    rintro e w1 ⟨rfl, rfl⟩
    go_wp2
    go_ret2
    exact ⟨rfl, bl_alloc _ _⟩
  · have e1 : decide (n < -1000) = false := decide_eq_false h1
    have h2 : 1000 < n := by omega
    have e2 : decide (1000 < n) = true := decide_eq_true h2
    clear hn
    go_enter Tryd.func21, Tryd.ntmps21
    go_wp2_with fail
    refine (HW.out _).mono ?_
    rintro e w1 ⟨rfl, rfl⟩
    go_wp2
    go_ret2
    exact ⟨rfl, bl_alloc _ _⟩
theorem add_any (c : Cal) (vh vc vs : Value) (d n k : Int) (w : World) (hG : GoodH w) (hc : CalIn w vh vc vs c) :
    Calls Tryd.prog 21 #[aggC c vh vc vs, .int .i64 d, .int .i64 n, .int .i64 k] w (Ret (.tuple #[.int .i64 (addV c k d n), .int .i64 (addE c k d n)]) w) := by
  cases hd : inD d
  · have e1 : addV c k d n = 0 := by unfold addV; rw [if_neg (by simp [hd])]
    have e2 : addE c k d n = 5 := by unfold addE; rw [if_neg (by simp [hd])]
    rw [e1, e2]; exact add_no c vh vc vs d n k w hd
  · by_cases hn : n < -1000 ∨ 1000 < n
    · have e1 : addV c k d n = 0 := by unfold addV; rw [if_pos hd, if_pos hn]
      have e2 : addE c k d n = 2 := by unfold addE; rw [if_pos hd, if_pos hn]
      rw [e1, e2]; exact add_far c vh vc vs d n k w hd hn
    · by_cases hneg : n < 0
      · exact add_neg c vh vc vs d n k w hG hc hd (by omega) (by omega) hneg
      · exact add_pos c vh vc vs d n k w hG hc hd (by omega) (by omega) hneg
set_option maxRecDepth 100000 in
set_option maxHeartbeats 4000000 in
theorem count_any (c : Cal) (vh vc vs : Value) (a b k : Int) (w : World) (hG : GoodH w) (hc : CalIn w vh vc vs c) (ha1 : -1000000000 ≤ a) (ha2 : a ≤ 1000000000) (hb1 : -1000000000 ≤ b) (hb2 : b ≤ 1000000000) :
    Calls Tryd.prog 23 #[aggC c vh vc vs, .int .i64 a, .int .i64 b, .int .i64 k] w (Ret (.int .i64 (cntV c k a b)) w) := by
  obtain ⟨N, hN⟩ : ∃ N, N = (b - a + 1).toNat := ⟨_, rfl⟩
  have hcv : cntV c k a b = cntN c k N a := by unfold cntV; rw [hN]
  rw [hcv]
  have HN := Lib.hid hN; have HC := Lib.hid hc
  clear hcv hN hc
  go_enter Tryd.func23, Tryd.ntmps23
  go_wp2_with fail
  refine (shut_any c vh vc vs k _).mono ?_
  rintro e w1 ⟨rfl, rfl⟩
  have hB : Below w.heap.size w (((w.alloc (.cells (cellsC c vh vc vs) 30)).alloc (.cells (cellsC c vh vc vs) 30)).alloc (.cells #[.int .i64 k] 3)) := bl_trans (bl_trans (bl_alloc _ _) (bl_alloc _ _)) (bl_alloc _ _)
  have hsb : ShutBox (((w.alloc (.cells (cellsC c vh vc vs) 30)).alloc (.cells (cellsC c vh vc vs) 30)).alloc (.cells #[.int .i64 k] 3)) (w.heap.size + 1) (w.heap.size + 1 + 1) c vh vc vs k := ⟨(Blk.at (by simp) _ _).alloc _, Blk.at (by simp) _ _⟩
  go_wp2
  obtain ⟨W1, hW1⟩ : ∃ W1, W1 = (((w.alloc (.cells (cellsC c vh vc vs) 30)).alloc (.cells (cellsC c vh vc vs) 30)).alloc (.cells #[.int .i64 k] 3)) := ⟨_, rfl⟩
  rw [← hW1] at hB hsb ⊢
  clear hW1
  have hbz := hB.size
  go_loopw [10, 11] (fun n x wr => ∃ j : Nat, j ≤ N ∧ x = .int .i64 (a + j) ∧ n = .int .i64 (cntN c k j a) ∧ Below W1.heap.size W1 wr) (fun _ x _ => (2000000001 - intOf x).toNat)
  case atStart => exact ⟨0, Nat.zero_le _, by simp, rfl, bl_refl _⟩
  case round =>
    obtain ⟨j, hj, rfl, rfl, hbw⟩ := hrel
    have hsn := cntN_snoc c k j a
    have hle := cntN_le c k j a
    have hjN : (N : Int) ≤ 2000000001 := by have := HN.out; omega
    have hBw := bl_trans hB hbw
    by_cases hlt : j < N
    · have hx : a + (j : Int) ≤ b := by have := HN.out; omega
      obtain ⟨x, hxx⟩ : ∃ x, x = a + (j : Int) := ⟨_, rfl⟩
      rw [← hxx] at hsn hx ⊢
      obtain ⟨m, hm⟩ : ∃ m, m = cntN c k j a := ⟨_, rfl⟩
      rw [← hm] at hsn hle ⊢
      have x1 : -1000000000 ≤ x := by omega
      have x2 : x ≤ 1000000000 := by omega
      have hxs : x + 1 = a + ((j + 1 : Nat) : Int) := by omega
      have hm2 : m ≤ 2000000001 := by omega
      have HS := Lib.hid hsn; have HX := Lib.hid hxs; have HXX := Lib.hid hxx
      have hwi := fun w => cwithin_any x w
      have hsh := shut1_any c vh vc vs k x _ _ wr (hG.below hBw) (HC.out.below hBw) (hsb.below hbw)
      have ho : openB c k x = (inD x && !shutB c k x) := rfl
      rw [ho] at HS
      clear hsn hxs hxx hm ho
      cases hd : inD x
      · rw [hd] at hwi HS
        have HW := Lib.hid hwi
        clear hwi hsh hd
        go_wp2_with fail
        refine (HW.out _).mono ?_
        rintro e w2 ⟨rfl, rfl⟩
        go_wp2
        go_roundw
        case rel => exact ⟨j + 1, by omega, by rw [HX.out], by rw [HS.out]; simp, hbw⟩
        case measure => simp [intOf]; omega
      · rw [hd] at hwi HS
        have HW := Lib.hid hwi
        cases hq : shutB c k x
        · rw [hq] at hsh HS
          have HSH := Lib.hid hsh
          clear hwi hsh hd hq
          go_wp2_with fail
          refine (HW.out _).mono ?_
          rintro e w2 ⟨rfl, rfl⟩
          go_wp2_with fail
          refine HSH.out.mono ?_
          rintro e w2 ⟨rfl, hb⟩
          go_wp2
          go_roundw
          case rel => exact ⟨j + 1, by omega, by rw [HX.out], by rw [HS.out]; simp, bl_trans hbw hb⟩
          case measure => simp [intOf]; omega
        · rw [hq] at hsh HS
          have HSH := Lib.hid hsh
          clear hwi hsh hd hq
          go_wp2_with fail
          refine (HW.out _).mono ?_
          rintro e w2 ⟨rfl, rfl⟩
          go_wp2_with fail
          refine HSH.out.mono ?_
          rintro e w2 ⟨rfl, hb⟩
          go_wp2
          go_roundw
          case rel => exact ⟨j + 1, by omega, by rw [HX.out], by rw [HS.out]; simp, bl_trans hbw hb⟩
          case measure => simp [intOf]; omega
    · obtain rfl : j = N := by omega
      have hx : ¬ a + (j : Int) ≤ b := by have := HN.out; omega
      clear hsn
      go_wp2
      go_ret
      exact ⟨rfl, bl_trans hB hbw⟩
end Go.Proofs.YtiilljcnikgeaaaDoor
