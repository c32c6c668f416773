/- The walk of the reference's Is of a list of rules. Conditions: the rules lie in memory and are valid. -/
import Derived.Test.YtiilljcnikgeaaaGreatDoorHLoc
import Derived.Test.YtiilljcnikgeaaaGreatDoorHRNom
import Derived.Test.YtiilljcnikgeaaaGreatDoorDRef2o
namespace Go.Proofs.YtiilljcnikgeaaaGreatDoor
open Go.RowKit

set_option maxRecDepth 100000 in
set_option maxHeartbeats 4000000 in
theorem ris_some (pa : Option Addr) (cap : Nat) (l : List Hol) (d : Int) (w : World) (hlen : l.length < 20)
    (hc : 0 < l.length → ∃ b off, pa = some ⟨b, off, none⟩ ∧ b < w.heap.size ∧ ∀ j x, l[j]? = some x → ∀ i u, (encH x)[i]? = some u → w.cell? ⟨b, off + j * 9 + i, none⟩ = some u) (hval : ∀ x, x ∈ l → hvB x = true) (h0 : 0 ≤ d) (h9 : d ≤ 3652058) :
    Calls Tryz.prog 38 #[.slice pa l.length cap, .int .i64 d] w (Ret (.bool (isB l d)) w) := by
  have hiff := isB_iff hval (d := d)
  have hloc : ∀ h ∈ l, ∀ y, kB h y = true → kV h y = d → ofY d - 1 ≤ y ∧ y ≤ ofY d + 1 := fun h hh y h1 h2 => by have := kV_loc (hval h hh) h1; rw [h2] at this; exact this
  have HIFF := Lib.hid hiff; have HLOC := Lib.hid hloc; have HC := Lib.hid hc; have HVV := Lib.hid hval
  clear hiff hloc hc hval
  obtain ⟨y1, y2, _, _, _, _⟩ := valid_of h0 h9
  have hda := fun w => rof_yes d w h0 h9
  generalize ofY d = Y at *
  have HDA := Lib.hid hda; clear hda
  go_enter Tryz.func38, Tryz.ntmps38
  go_wp2_with fail
  refine (HDA.out _).mono ?_
  rintro e w1 ⟨rfl, hb1⟩
  have bA := Blk.new w1 75 #[.int .i64 Y, .int .i64 (ofM d), .int .i64 (ofD d)]
  have hB := bl_trans hb1 (bl_alloc w1 (.cells #[.int .i64 Y, .int .i64 (ofM d), .int .i64 (ofD d)] 75))
  obtain ⟨g, hg⟩ : ∃ g, g = w1.heap.size := ⟨_, rfl⟩
  rw [← hg] at bA
  obtain ⟨W1, hW1⟩ : ∃ W1, W1 = w1.alloc (.cells #[.int .i64 Y, .int .i64 (ofM d), .int .i64 (ofD d)] 75) := ⟨_, rfl⟩
  rw [← hW1] at bA hB
  have cA := bA.cell 0
  simp at cA
  go_wp2
  rw [← hg, ← hW1]
  clear hg hW1 cA hb1
  have hbz := hB.size
  go_loopw [7] (fun y wr => ∃ j : Nat, j ≤ 3 ∧ y = .int .i64 (Y - 1 + j) ∧ Below W1.heap.size W1 wr ∧ ∀ h ∈ l, ∀ i : Nat, i < j → ¬ (kB h (Y - 1 + (i : Int)) = true ∧ kV h (Y - 1 + (i : Int)) = d)) (fun y _ => (20000 - intOf y).toNat)
  case atStart => exact ⟨0, by omega, by simp, bl_refl _, fun h hh i hi => absurd hi (by omega)⟩
  case round =>
    obtain ⟨j, hj, rfl, hbw, hno⟩ := hrel
    have hcA := (bA.below hbw bA.lt).cell 0
    simp at hcA
    obtain ⟨y, hy⟩ : ∃ y, y = Y - 1 + (j : Int) := ⟨_, rfl⟩
    rw [← hy]
    have HNO := Lib.hid hno
    clear hno
    by_cases hlt : j < 3
    · have hly : y ≤ Y + 1 := by omega
      obtain ⟨wo, rfl⟩ : ∃ wo : World, wo = wr := ⟨_, rfl⟩
      have HY := Lib.hid hy; clear hy
      have y3 : 0 ≤ y := by have := HY.out; omega
      have y4 : y ≤ 10011 := by have := HY.out; omega
      go_wp2
      go_loopw [8] (fun i wr2 => ∃ k : Nat, k ≤ l.length ∧ i = .int .i64 k ∧ Below W1.heap.size W1 wr2 ∧ ∀ h ∈ l.take k, ¬ (kB h y = true ∧ kV h y = d)) (fun i _ => 100 - (intOf i).toNat)
      case atStart => exact ⟨0, Nat.zero_le _, rfl, hbw, by simp⟩
      case round =>
        obtain ⟨k, hk, rfl, hbw4, hn2⟩ := hrel
        have HN2 := Lib.hid hn2; clear hn2
        by_cases hlk : k < l.length
        · obtain ⟨h, hh⟩ : ∃ h, l[k]? = some h := ⟨_, List.getElem?_eq_getElem hlk⟩
          obtain ⟨b, off, rfl, hb, hcc⟩ := HC.out (by omega)
          have hcw : ∀ j x, l[j]? = some x → ∀ i u, (encH x)[i]? = some u → wr.cell? ⟨b, off + j * 9 + i, none⟩ = some u := fun j x hx i u hu => ((bl_trans hB hbw4).cell (p := ⟨b, off + j * 9 + i, none⟩) hb).trans (hcc j x hx i u hu)
          obtain ⟨c0, c1, c2, c3, c4, c5, c6, c7, c8⟩ := IsHols.at hcw hh
          have hmem := List.mem_of_getElem? hh
          have hvh := HVV.out h hmem
          have htk : l.take (k + 1) = l.take k ++ [h] := by rw [List.take_add_one, hh]; rfl
          have hkp := fun w => rkept_any h y w hvh
          have HM := Lib.hid hmem; have HTK := Lib.hid htk
          clear hh hcw hvh hmem htk hcc
          cases eB : kB h y
          · rw [eB] at hkp
            have HKP := Lib.hid hkp
            have hn3 : ∀ g ∈ l.take (k + 1), ¬ (kB g y = true ∧ kV g y = d) := by
              intro g hg
              rw [HTK.out] at hg
              rcases List.mem_append.1 hg with q | q
              · exact HN2.out g q
              · simp at q; subst q; rw [eB]; simp
            have HN3 := Lib.hid hn3
            clear hkp eB hn3
            go_wp2_with fail
            refine (HKP.out _).mono ?_
            rintro e w4 ⟨rfl, hb4⟩
            go_wp2
            go_roundw
            case rel => exact ⟨k + 1, by omega, by go_num, bl_trans hbw4 hb4, HN3.out⟩
            case measure => simp [intOf]; omega
          have hrk : rkV h y = kV h y := by
            unfold rkV
            have : rnB h y = true := by
              have e : kB h y = (rnB h y && win (kV h y) 0 3652058) := rfl
              rw [e] at eB
              cases hq : rnB h y
              · rw [hq] at eB; cases eB
              · rfl
            rw [if_pos this]
          rw [eB, hrk] at hkp
          have HKP := Lib.hid hkp
          by_cases ed : kV h y = d
          · have hyes : isB l d = true := HIFF.out.2 ⟨y, h, HM.out, eB, ed⟩
            have HYES := Lib.hid hyes
            rw [ed] at HKP
            clear hkp eB hrk hyes ed
            go_wp2_with fail
            refine (HKP.out _).mono ?_
            rintro e w4 ⟨rfl, hb4⟩
            go_wp2
            go_ret
            exact ⟨ret_bool (by rw [HYES.out]), bl_trans hB (bl_trans hbw4 hb4)⟩
          · have hn3 : ∀ g ∈ l.take (k + 1), ¬ (kB g y = true ∧ kV g y = d) := by
              intro g hg
              rw [HTK.out] at hg
              rcases List.mem_append.1 hg with q | q
              · exact HN2.out g q
              · simp at q; subst q; exact fun h => ed h.2
            have HN3 := Lib.hid hn3
            have hq : (kV h y == d) = false := by rw [beq_eq_false_iff_ne]; exact ed
            generalize kV h y = kk at *
            clear hkp eB hrk hn3
            go_wp2_with fail
            refine (HKP.out _).mono ?_
            rintro e w4 ⟨rfl, hb4⟩
            go_wp2
            go_roundw
            case rel => exact ⟨k + 1, by omega, by go_num, bl_trans hbw4 hb4, HN3.out⟩
            case measure => simp [intOf]; omega
        · obtain rfl : k = l.length := by omega
          have hn3 : ∀ h ∈ l, ∀ i : Nat, i < j + 1 → ¬ (kB h (Y - 1 + (i : Int)) = true ∧ kV h (Y - 1 + (i : Int)) = d) := by
            intro h hh i hi
            by_cases e : i = j
            · subst e; rw [← HY.out]; exact HN2.out h (by rw [List.take_length]; exact hh)
            · exact HNO.out h hh i (by omega)
          have HN3 := Lib.hid hn3
          clear hn3
          go_wp2
          go_roundw
          case rel => exact ⟨j + 1, by omega, by rw [show y + 1 = Y - 1 + ((j + 1 : Nat) : Int) by rw [HY.out]; omega], hbw4, HN3.out⟩
          case measure => simp [intOf]; omega
    · have hly : ¬ y ≤ Y + 1 := by omega
      have hnot : isB l d = false := by
        cases e : isB l d
        · rfl
        · obtain ⟨yy, h, g1, g2, g3⟩ := HIFF.out.1 e
          have g4 := HLOC.out h g1 yy g2 g3
          have h5 := HNO.out h g1 (yy - (Y - 1)).toNat (by omega)
          rw [show Y - 1 + (((yy - (Y - 1)).toNat : Nat) : Int) = yy by omega] at h5
          exact absurd ⟨g2, g3⟩ h5
      have HNOT := Lib.hid hnot
      clear hnot hy
      go_wp2
      go_ret
      exact ⟨ret_bool (by rw [HNOT.out]), bl_trans hB hbw⟩
set_option maxHeartbeats 1000000 in
theorem ris_any (v : Value) (d : Int) (l : List Hol) (w : World) (hv : IsHols w v l) (hlen : l.length < 20) (hval : ∀ x, x ∈ l → hvB x = true) : Calls Tryz.prog 38 #[v, .int .i64 d] w (Ret (.bool (isB l d)) w) := by
  obtain ⟨pa, cap, rfl, hc⟩ : ∃ pa cap, v = .slice pa l.length cap ∧ (0 < l.length → ∃ b off, pa = some ⟨b, off, none⟩ ∧ b < w.heap.size ∧ ∀ j x, l[j]? = some x → ∀ i u, (encH x)[i]? = some u → w.cell? ⟨b, off + j * 9 + i, none⟩ = some u) := by
    rcases hv with ⟨a, cap, rfl, rfl⟩ | ⟨b, off, cap, rfl, hlt, hm, hc⟩
    · exact ⟨a, cap, rfl, fun h => absurd h (by simp)⟩
    · exact ⟨_, cap, rfl, fun _ => ⟨b, off, rfl, hlt, hc⟩⟩
  by_cases h : 0 ≤ d ∧ d ≤ 3652058
  · exact ris_some pa cap l d w hlen hc hval h.1 h.2
  · have hn : isB l d = false := by
      cases e : isB l d
      · rfl
      · exact absurd ((isB_iff hval).1 e).bd h
    have hno := fun w => rof_no d w (by omega)
    have HNO := Lib.hid hno
    rw [hn]
    clear hn hno hc hval
    go_enter Tryz.func38, Tryz.ntmps38
    go_wp2_with fail
    refine (HNO.out _).mono ?_
    rintro e w1 ⟨rfl, hb⟩
    go_wp2
    go_ret
    exact ⟨rfl, bl_trans hb (bl_alloc _ _)⟩
end Go.Proofs.YtiilljcnikgeaaaGreatDoor
