/- The walk of the law HolidayDays: it returns true at every input. Conditions: the numbers are ints that lie in memory, the listed tables lie in memory. -/
import Derived.Test.YtnemgohcjjhfmaaGreatDoorHLives
import Derived.Test.YtnemgohcjjhfmaaGreatDoorHMk
import Derived.Test.YtnemgohcjjhfmaaGreatDoorHLoc
import Derived.Test.YtnemgohcjjhfmaaGreatDoorHROf
import Derived.Test.YtnemgohcjjhfmaaGreatDoorHRIs
import Derived.Test.YtnemgohcjjhfmaaGreatDoorHNum
namespace Go.Proofs.YtnemgohcjjhfmaaGreatDoor
open Go.RowKit
set_option maxRecDepth 100000 in
set_option maxHeartbeats 8000000 in
theorem law_hdays (v : Value) (zs : List Int) (dy yr : Int) (w : World) (hI : IsInts w v zs) (hz : InR zs) (hG : GoodH w) (_d1 : -9223372036854775808 ≤ dy) (_d2 : dy ≤ 9223372036854775807) (h1 : -9223372036854775808 ≤ yr) (h2 : yr ≤ 9223372036854775807) :
    Calls Tryz.prog 3 #[v, .int .i64 dy, .int .i64 yr] w (Ret (.bool true) w) := by
  have hmk := mk_any v zs w hI hz
  have hl6 := mkHols_len zs
  have hval := mkHols_valid zs
  generalize mkHols zs = l at *
  have hlm : l.length ≤ maxLen := by unfold maxLen; omega
  have hof := fun v y w h => rhof_any v l y w h (by omega) hval
  have hke := fun y (p : Int × Int) (hp : p ∈ ofP y l) => (keptOn_of hp).bd
  have his := fun v d w hG h => is_any v d l w hG h (by omega) hval
  have hri := fun v d w h => ris_any v d l w h (by omega) hval
  have hA := fun w => around01 yr 160 w h1 h2 (by omega) (by omega)
  obtain ⟨a1, a2⟩ := around_bd yr (m := 160) (by omega)
  generalize around yr 160 = a at *
  generalize isB l = F at *
  have HMK := Lib.hid hmk; have HA := Lib.hid hA; have HOF := Lib.hid hof; have HKE := Lib.hid hke; have HIS := Lib.hid his; have HRI := Lib.hid hri
  clear hmk hA hof hke his hri hI hz hval
  go_enter Tryz.func3, Tryz.ntmps3
  go_wp2_with fail
  refine HMK.out.mono ?_
  intro e w1 hp
  obtain ⟨p, cap, rfl, hm, hb1⟩ := HolsPost.hs hp hlm
  have hG1 := hG.below hb1
  clear hp
  have e1 := HIS.out (.slice p l.length cap) dy
  have e2 := HRI.out (.slice p l.length cap) dy
  generalize F dy = t at *
  have hne : (t != t) = false := by simp
  have E1 := Lib.hid e1; have E2 := Lib.hid e2
  clear e1 e2
  go_wp2_with fail
  refine (E1.out _ hG1 hm).mono ?_
  rintro e w2 ⟨rfl, hb⟩
  have hG1 := hG1.below hb
  have hm := hm.below hb
  have hB := bl_trans hb1 hb
  clear hb hb1
  go_wp2_with fail
  refine (E2.out _ hm).mono ?_
  rintro e w3 ⟨rfl, hb⟩
  have hG1 := hG1.below hb
  have hm := hm.below hb
  have hB := bl_trans hB hb
  clear hb
  go_wp2_with fail
  refine (HA.out _).mono ?_
  rintro e w4 ⟨rfl, rfl⟩
  go_wp2_with fail
  refine (HOF.out _ _ _ hm).mono ?_
  intro e w4 hp
  have hol : (ofP (1950 + a) l).length ≤ 6 := Nat.le_trans (ofP_len _ l) hl6
  obtain ⟨pa, ca, rfl, hb, hns⟩ := OfPost.mid hp
  have hke := HKE.out (1950 + a)
  generalize ofP (1950 + a) l = ns at *
  have HNS := Lib.hid hns; have HKP := Lib.hid hke
  have hG1 := hG1.below hb
  have hm := hm.below hb
  have hB := bl_trans hB hb
  have HM := Lib.hid hm
  have hbz := hb.size
  clear hp hb hns hm hke
  go_wp2
  go_loopw [9] (fun i wr => ∃ k : Nat, k ≤ ns.length ∧ i = .int .i64 k ∧ Below w4.heap.size w4 wr) (fun i _ => 100 - (intOf i).toNat)
  case atStart => exact ⟨0, Nat.zero_le _, rfl, bl_refl _⟩
  case round =>
    obtain ⟨k, hk, rfl, hbw⟩ := hrel
    by_cases hlt : k < ns.length
    · obtain ⟨bn, rfl, hlo, hln, hcn⟩ := HNS.out (by omega)
      obtain ⟨q, hq⟩ : ∃ q, ns[k]? = some q := ⟨_, List.getElem?_eq_getElem hlt⟩
      have hqb := HKP.out q (List.mem_of_getElem? hq)
      obtain ⟨c0, -⟩ := IsNs.at (fun j x hx i u hu => (hbw.cell (p := ⟨bn, 0 + j * 2 + i, none⟩) hln).trans (hcn j x hx i u hu)) hq
      obtain ⟨d0, -⟩ := IsNs.at hcn hq
      simp only [Nat.zero_add] at c0 d0
      have HD0 := Lib.hid d0
      generalize q.1 = D at *
      obtain ⟨wo, rfl⟩ : ∃ wo : World, wo = wr := ⟨_, rfl⟩
      clear hq hcn d0
      go_wp2
      go_loopw [10] (fun x wr2 => ∃ d : Int, D - 2 ≤ d ∧ d ≤ D + 3 ∧ x = .int .i64 d ∧ Below w4.heap.size w4 wr2) (fun x _ => (D + 5 - intOf x).toNat)
      case atStart => exact ⟨D - 2, by omega, by omega, rfl, hbw⟩
      case round =>
        obtain ⟨d, d1, d2, rfl, hbw2⟩ := hrel
        have c1 := (hbw2.cell (p := ⟨bn, k * 2, none⟩) hln).trans HD0.out
        have e1 := HIS.out (.slice p l.length cap) d
        have e2 := HRI.out (.slice p l.length cap) d
        generalize F d = t2 at *
        have hne2 : (t2 != t2) = false := by simp
        have E3 := Lib.hid e1; have E4 := Lib.hid e2
        clear e1 e2
        by_cases hd : d ≤ D + 2
        · go_wp2_with fail
          refine (E3.out _ (hG1.below hbw2) (HM.out.below hbw2)).mono ?_
          rintro e w5 ⟨rfl, hb⟩
          have hbw3 := bl_trans hbw2 hb
          clear hb
          go_wp2_with fail
          refine (E4.out _ (HM.out.below hbw3)).mono ?_
          rintro e w6 ⟨rfl, hb⟩
          have hbw4 := bl_trans hbw3 hb
          clear hb
          go_wp2
          go_roundw
          case rel => exact ⟨d + 1, by omega, by omega, by go_num, hbw4⟩
          case measure => simp [intOf]; omega
        · go_wp2
          go_roundw
          case rel => exact ⟨k + 1, by omega, by go_num, hbw2⟩
          case measure => simp [intOf]; omega
    · obtain rfl : k = ns.length := by omega
      go_wp2_with fail
      refine (hlives_any _ (hG1.below hbw)).mono ?_
      rintro e w7 ⟨rfl, hb⟩
      go_wp2
      go_ret
      exact ⟨rfl, bl_trans hB (bl_trans hbw hb)⟩
end Go.Proofs.YtnemgohcjjhfmaaGreatDoor
