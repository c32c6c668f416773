/- The walk of the law HolidayWeekdays: it returns true at every input. Conditions: the numbers are ints that lie in memory, the listed tables lie in memory. -/
import Derived.Test.YtnemgohcjjhfmaaDoorHLives
import Derived.Test.YtnemgohcjjhfmaaDoorHMk
import Derived.Test.YtnemgohcjjhfmaaDoorHWkP
namespace Go.Proofs.YtnemgohcjjhfmaaDoor
open Go.RowKit

theorem mkHols_nth (zs : List Int) : ∀ x, x ∈ mkHols zs → 1 ≤ x.nth ∧ x.nth ≤ 5 := by
  intro x hx
  unfold mkHols mkPre at hx
  obtain ⟨j, _, rfl⟩ := List.mem_map.1 hx
  show 1 ≤ 1 + around (zs[3 * j + 1]?.getD 0) 1000000 / 217 % 5 ∧ 1 + around (zs[3 * j + 1]?.getD 0) 1000000 / 217 % 5 ≤ 5
  have := around_bd (zs[3 * j + 1]?.getD 0) (m := 1000000) (by omega)
  omega
/-- what the law tests of a kept day -/
def wkCase (h : Hol) (D : Int) : Prop :=
  ((h.mv != 0) = true ∧ D % 7 ≤ 4) ∨ ((h.mv != 0) = false ∧ (h.k != 2) = true ∧ (h.k != 3) = true) ∨
  ((h.mv != 0) = false ∧ (h.k != 2) = false ∧ (h.k == 3) = false ∧ ((D % 7) != h.wd) = false ∧ (ofM D != h.mo) = false ∧ 7 * h.nth - 6 ≤ ofD D ∧ ofD D ≤ 7 * h.nth) ∨
  ((h.mv != 0) = false ∧ (h.k != 2) = true ∧ (h.k != 3) = false ∧ (h.k == 3) = true ∧ ((D % 7) != h.wd) = false ∧ (ofM D != h.mo) = false ∧ len (ofY D) (ofM D) - 7 < ofD D ∧ ¬ 7 * h.nth - 6 ≤ ofD D) ∨
  ((h.mv != 0) = false ∧ (h.k != 2) = true ∧ (h.k != 3) = false ∧ (h.k == 3) = true ∧ ((D % 7) != h.wd) = false ∧ (ofM D != h.mo) = false ∧ len (ofY D) (ofM D) - 7 < ofD D ∧ 7 * h.nth - 6 ≤ ofD D ∧ ¬ ofD D ≤ 7 * h.nth) ∨
  ((h.mv != 0) = false ∧ (h.k != 2) = true ∧ (h.k != 3) = false ∧ (h.k == 3) = true ∧ ((D % 7) != h.wd) = false ∧ (ofM D != h.mo) = false ∧ len (ofY D) (ofM D) - 7 < ofD D ∧ 7 * h.nth - 6 ≤ ofD D ∧ ofD D ≤ 7 * h.nth)
theorem wk_case {h : Hol} {y : Int} (hv : hvB h = true) (hk : kB h y = true) : wkCase h (kV h y) := by
  unfold wkCase
  simp only [bne_iff_ne, bne_eq_false_iff_eq, beq_iff_eq, beq_eq_false_iff_ne, ne_eq]
  by_cases hm : h.mv = 0
  · by_cases k2 : h.k = 2
    · obtain ⟨a, b, c, d, _, _⟩ := wk_nth hv hk k2 hm
      refine .inr (.inr (.inl ⟨hm, k2, by omega, b, a, c, d⟩))
    · by_cases k3 : h.k = 3
      · obtain ⟨a, b, c⟩ := wk_last hv hk k3 hm
        by_cases q1 : 7 * h.nth - 6 ≤ ofD (kV h y)
        · by_cases q2 : ofD (kV h y) ≤ 7 * h.nth
          · exact .inr (.inr (.inr (.inr (.inr ⟨hm, k2, k3, k3, b, a, c, q1, q2⟩))))
          · exact .inr (.inr (.inr (.inr (.inl ⟨hm, k2, k3, k3, b, a, c, q1, q2⟩))))
        · exact .inr (.inr (.inr (.inl ⟨hm, k2, k3, k3, b, a, c, q1⟩)))
      · exact .inr (.inl ⟨hm, k2, k3⟩)
  · exact .inl ⟨hm, move_wk hv hm⟩
set_option maxRecDepth 100000 in
set_option maxHeartbeats 8000000 in
theorem law_hweekdays (v : Value) (zs : List Int) (yr : Int) (w : World) (hI : IsInts w v zs) (hz : InR zs) (hG : GoodH w) (h1 : -9223372036854775808 ≤ yr) (h2 : yr ≤ 9223372036854775807) :
    Calls Tryd.prog 5 #[v, .int .i64 yr] w (Ret (.bool true) w) := by
  have hmk := mk_any v zs w hI hz
  have hl6 := mkHols_len zs
  have hval := mkHols_valid zs
  have hnth := mkHols_nth zs
  generalize mkHols zs = l at *
  have hlm : l.length ≤ maxLen := by unfold maxLen; omega
  have hof := fun v y w hG h => hof_any v l y w hG h (by omega) hval
  have hA := fun w => around01 yr 160 w h1 h2 (by omega) (by omega)
  obtain ⟨a1, a2⟩ := around_bd yr (m := 160) (by omega)
  generalize around yr 160 = a at *
  have hmem : ∀ (k : Nat) (p : Int × Int), (ofP (1950 + a) l)[k]? = some p → ∃ (j : Nat) (h : Hol), l[j]? = some h ∧ p = (kV h (1950 + a), (j : Int)) ∧ wkCase h (kV h (1950 + a)) ∧ 0 ≤ kV h (1950 + a) ∧ kV h (1950 + a) ≤ 3652058 ∧ 1 ≤ h.nth ∧ h.nth ≤ 5 := by
    intro k p hp
    obtain ⟨j, h, q1, q2, q3⟩ := ofP_mem.1 (List.mem_of_getElem? hp)
    have hm := List.mem_of_getElem? q1
    have hb := (kB_bd q2).2.2
    exact ⟨j, h, q1, q3, wk_case (hval h hm) q2, hb.1, hb.2, (hnth h hm).1, (hnth h hm).2⟩
  have hlen := Nat.le_trans (ofP_len (1950 + a) l) hl6
  have HMK := Lib.hid hmk; have HA := Lib.hid hA; have HOF := Lib.hid hof; have HMEM := Lib.hid hmem
  clear hmk hA hof hmem hI hz hval hnth
  go_enter Tryd.func5, Tryd.ntmps5
  go_wp2_with fail
  refine HMK.out.mono ?_
  intro e w1 hp
  obtain ⟨p, cap, rfl, hm, hb1⟩ := HolsPost.hs hp hlm
  have hG1 := hG.below hb1
  clear hp
  go_wp2_with fail
  refine (HA.out _).mono ?_
  rintro e w2 ⟨rfl, rfl⟩
  go_wp2_with fail
  refine (HOF.out _ _ _ hG1 hm).mono ?_
  intro e w2 hp
  obtain ⟨pa, ca, rfl, hns, hb2⟩ := OfPost.ns hp (by unfold maxLen; omega)
  have hB := bl_trans hb1 hb2
  have hG2 := hG1.below hb2
  have HM := Lib.hid (hm.below hb2)
  have HNS := Lib.hid hns
  generalize ofP (1950 + a) l = ns at *
  clear hp hm hns hb1 hb2 hG1
  go_wp2
  go_loopw [7] (fun i wr => ∃ k : Nat, k ≤ ns.length ∧ i = .int .i64 k ∧ Below w2.heap.size w2 wr) (fun i _ => 100 - (intOf i).toNat)
  case atStart => exact ⟨0, Nat.zero_le _, rfl, bl_refl _⟩
  case round =>
    obtain ⟨k, hk, rfl, hbw⟩ := hrel
    by_cases hlt : k < ns.length
    · obtain ⟨q, hq⟩ : ∃ q, ns[k]? = some q := ⟨_, List.getElem?_eq_getElem hlt⟩
      obtain ⟨j, h, hj, rfl, hcase, D0, D1, n1, n2⟩ := HMEM.out k q hq
      have hjl : j < l.length := (List.getElem?_eq_some_iff.1 hj).1
      obtain ⟨bn, on, rfl, -, hln, hcn⟩ := ns_get HNS.out (by omega)
      obtain ⟨c0, c1⟩ := IsNs.at (fun j x hx i u hu => (hbw.cell (p := ⟨bn, on + j * 2 + i, none⟩) hln).trans (hcn j x hx i u hu)) hq
      rcases HM.out with ⟨_, _, _, h0⟩ | ⟨b, off, cap', e1, hblt, _, hc⟩
      · rw [h0] at hjl; simp at hjl
      cases e1
      obtain ⟨d0, d1, d2, d3, d4, d5, d6, d7, d8⟩ := IsHols.at (w := wr) (fun j x hx i u hu => (hbw.cell (p := ⟨b, off + j * 9 + i, none⟩) hblt).trans (hc j x hx i u hu)) hj
      have hGw := hG2.below hbw
      have hbnr : bn < wr.heap.size := Nat.lt_of_lt_of_le hln hbw.size
      simp only at c0 c1
      clear hc hcn hq hj
      have hj0 : ¬ (j : Int) < 0 := by omega
      have hjl2 : ¬ (l.length : Int) ≤ j := by omega
      have hj6 : j ≤ 6 := by omega
      unfold wkCase at hcase
      generalize kV h (1950 + a) = D at *
      have hdo := fun w => of_yes D w D0 D1
      have hwk := fun w => weekday_any D w
      have hle := fun w hG => len_any (ofY D) (ofM D) w hG
      have HDO := Lib.hid hdo; have HWK := Lib.hid hwk; have HLE := Lib.hid hle
      clear hdo hwk hle
      go_upto_region 9 with (fail)
      have bH : Blk (wr.alloc (.cells (cellsH h) 27)) wr.heap.size 27 (cellsH h) := Blk.new _ _ _
      have hBx : Below wr.heap.size wr (wr.alloc (.cells (cellsH h) 27)) := bl_alloc _ _
      obtain ⟨gh, hgh⟩ : ∃ g, g = wr.heap.size := ⟨_, rfl⟩
      obtain ⟨W, hW⟩ : ∃ W, W = wr.alloc (.cells (cellsH h) 27) := ⟨_, rfl⟩
      rw [← hgh, ← hW]
      rw [← hW, ← hgh] at bH
      rw [← hW] at hBx
      have e0 := (hBx.cell (p := ⟨bn, on + k * 2, none⟩) hbnr).trans c0
      have hbnW : bn < W.heap.size := Nat.lt_of_lt_of_le hbnr hBx.size
      clear hW hgh c0 c1 d0 d1 d2 d3 d4 d5 d6 d7 d8
      go_wp2_with fail
      refine (HDO.out _).mono ?_
      rintro e w3 ⟨rfl, hb3⟩
      have bH := bH.below hb3 bH.lt
      have e0 := (hb3.cell (p := ⟨bn, on + k * 2, none⟩) hbnW).trans e0
      have hBx := bl_trans hBx hb3
      have bD := Blk.new w3 40 #[.int .i64 (ofY D), .int .i64 (ofM D), .int .i64 (ofD D)]
      have bH := bH.alloc (.cells #[.int .i64 (ofY D), .int .i64 (ofM D), .int .i64 (ofD D)] 40)
      have hBx := bl_trans hBx (bl_alloc w3 (.cells #[.int .i64 (ofY D), .int .i64 (ofM D), .int .i64 (ofD D)] 40))
      have hbn3 : bn < w3.heap.size := Nat.lt_of_lt_of_le hbnW hb3.size
      go_wp2_with fail
      refine (HWK.out _).mono ?_
      rintro e w4 ⟨rfl, rfl⟩
      obtain ⟨gd, hgd⟩ : ∃ g, g = w3.heap.size := ⟨_, rfl⟩
      obtain ⟨W4, hW4⟩ : ∃ W4, W4 = w3.alloc (.cells #[.int .i64 (ofY D), .int .i64 (ofM D), .int .i64 (ofD D)] 40) := ⟨_, rfl⟩
      rw [← hgd, ← hW4]
      rw [← hW4, ← hgd] at bD
      rw [← hW4] at bH hBx
      have hbw4 := bl_trans hbw hBx
      have hG4 := hGw.below hBx
      have x0 := bH.cell 0
      have x1 := bH.cell 1
      have x3 := bH.cell 3
      have x4 := bH.cell 4
      have x6 := bH.cell 6
      have y0 := bD.cell 0
      have y1 := bD.cell 1
      have y2 := bD.cell 2
      simp at x0 x1 x3 x4 x6 y0 y1 y2
      clear hW4 hgd bD bH hBx hb3 e0 HWK HDO hGw hbw
      have hD7 : 0 ≤ D % 7 := by omega
      have hl31 := len_le (ofY D) (ofM D)
      generalize len (ofY D) (ofM D) = L at *
      generalize ofY D = Y at *
      generalize ofM D = M at *
      generalize ofD D = DD at *
      generalize D % 7 = wd at *
      obtain ⟨L1, L2⟩ := hl31
      rcases hcase with ⟨t1, t2⟩ | ⟨t1, t2, t3⟩ | ⟨t1, t2, t3, t4, t5, t6, t7⟩ | ⟨t1, t2, t3, t3', t4, t5, t6, t7⟩ | ⟨t1, t2, t3, t3', t4, t5, t6, t7, t8⟩ | ⟨t1, t2, t3, t3', t4, t5, t6, t7, t8⟩
      · go_wp2
        go_roundw
        case rel => exact ⟨k + 1, by omega, by go_num, hbw4⟩
        case measure => simp [intOf]; omega
      · go_wp2
        go_roundw
        case rel => exact ⟨k + 1, by omega, by go_num, hbw4⟩
        case measure => simp [intOf]; omega
      · go_wp2
        go_roundw
        case rel => exact ⟨k + 1, by omega, by go_num, hbw4⟩
        case measure => simp [intOf]; omega
      · have s1 : IntKind.i64.wrap (L - 7) = L - 7 := IntWalk.i64_in _ (by omega)
        go_wp2
        go_big_quiet ((go_at_call 21; exact Pur.quiet (HLE.out _ (hG4.1.drewN _))))
        go_wp2
        go_roundw
        case rel => exact ⟨k + 1, by omega, by go_num, bl_drewN hbw4 _⟩
        case measure => simp [intOf]; omega
      · have s1 : IntKind.i64.wrap (L - 7) = L - 7 := IntWalk.i64_in _ (by omega)
        go_wp2
        go_big_quiet ((go_at_call 21; exact Pur.quiet (HLE.out _ (hG4.1.drewN _))))
        go_wp2
        go_roundw
        case rel => exact ⟨k + 1, by omega, by go_num, bl_drewN hbw4 _⟩
        case measure => simp [intOf]; omega
      · have s1 : IntKind.i64.wrap (L - 7) = L - 7 := IntWalk.i64_in _ (by omega)
        go_wp2
        go_big_quiet ((go_at_call 21; exact Pur.quiet (HLE.out _ (hG4.1.drewN _))))
        go_wp2
        go_roundw
        case rel => exact ⟨k + 1, by omega, by go_num, bl_drewN hbw4 _⟩
        case measure => simp [intOf]; omega
    · obtain rfl : k = ns.length := by omega
      go_wp2_with fail
      refine (hlives_any _ (hG2.below hbw)).mono ?_
      rintro e w5 ⟨rfl, hb5⟩
      go_wp2
      go_ret
      exact ⟨rfl, bl_trans hB (bl_trans hbw hb5)⟩
end Go.Proofs.YtnemgohcjjhfmaaDoor
