/- The walks of the reference's Between and Is of a list of rules. Conditions: the rules lie in memory and are valid, fewer than 20 of them. -/
import Derived.Test.YtnemgohcjjhfmaaGreatDoorHLoc
import Derived.Test.YtnemgohcjjhfmaaGreatDoorHSd
import Derived.Test.YtnemgohcjjhfmaaGreatDoorHROf
import Derived.Test.YtnemgohcjjhfmaaGreatDoorHNum
import Derived.Test.YtnemgohcjjhfmaaGreatDoorDRef2o
namespace Go.Proofs.YtnemgohcjjhfmaaGreatDoor
open Go.RowKit

theorem btw_gat {l : List Hol} {f u : Int} (h : ¬ max f 0 > min u 3652058) : btw l f u = srtI (gatU (rawD l (max f 0) (min u 3652058) (ofY (max f 0) - 1) (nYears (max f 0) (min u 3652058))) []) := by
  refine rise_eq (btw_rise _ _ _) (srtI_rise (gatU_nodup _ _ (by simp))) (fun x => ?_)
  rw [srtI_mem, gatU_mem]
  unfold btw
  rw [if_neg h, comp_mem (sortI_sorted _), sortI_mem]
  simp
theorem gat_pre (ns : List (Int × Int)) (a b : Int) (R : List Int) (m : Nat) {p : Int × Int} (hp : ns[m]? = some p) :
    gatU (((ns.take (m + 1)).map (·.1)).filter (fun d => win d a b)) R = if win p.1 a b then addU (gatU (((ns.take m).map (·.1)).filter (fun d => win d a b)) R) p.1 else gatU (((ns.take m).map (·.1)).filter (fun d => win d a b)) R := by
  rw [List.take_add_one, hp, List.map_append, List.filter_append]
  cases e : win p.1 a b
  · simp [e]
  · rw [if_pos rfl, ← gatU_snoc]; simp [e]
theorem gatU_app (a b R : List Int) : gatU (a ++ b) R = gatU b (gatU a R) := by unfold gatU; rw [List.foldl_append]
set_option maxHeartbeats 1000000 in
theorem rbtw_none (v : Value) (f u : Int) (l : List Hol) (w : World) (h : max f 0 > min u 3652058) : Calls Tryz.prog 14 #[v, .int .i64 f, .int .i64 u] w (BtwPost (btw l f u) w) := by
  have e : btw l f u = [] := by unfold btw; rw [if_pos h]
  rw [e]
  clear e
  go_enter Tryz.func14, Tryz.ntmps14
  go_wp2
  go_ret
  exact ⟨_, rfl, World.ownsRow_nil _ _ _ _, bl_refl _⟩
set_option maxRecDepth 100000 in
set_option maxHeartbeats 8000000 in
theorem rbtw_some (v : Value) (f u : Int) (l : List Hol) (w : World) (hv : IsHols w v l) (hlen : l.length < 20) (hval : ∀ x, x ∈ l → hvB x = true) (h : ¬ max f 0 > min u 3652058) : Calls Tryz.prog 14 #[v, .int .i64 f, .int .i64 u] w (BtwPost (btw l f u) w) := by
  rw [btw_gat h]
  have h0 : 0 ≤ max f 0 := by omega
  have h9 : min u 3652058 ≤ 3652058 := by omega
  have hab : max f 0 ≤ min u 3652058 := by omega
  clear h
  obtain ⟨i0, hi, hz0, hz1, hz2⟩ := info_parts infoInt
  have hms : maxLen = 9223372036854775807 := rfl
  have HMS := Lib.hid hms; clear hms
  have hof := fun y w h => rhof_any v l y w h hlen hval
  have HOF := Lib.hid hof; clear hof hval
  go_enter Tryz.func14, Tryz.ntmps14
  go_upto_region 4 with (fail)
  generalize max f 0 = a at *
  generalize min u 3652058 = b at *
  obtain ⟨y1, y2, _, _, _, _⟩ := valid_of h0 (by omega)
  obtain ⟨z1, z2, _, _, _, _⟩ := valid_of (n := b) (by omega) h9
  have hmo := ofY_mono h0 hab h9
  have hna : ¬ b < a := by omega
  have hda := fun w => rof_yes a w h0 (by omega)
  have hdb := fun w => rof_yes b w (by omega) h9
  have hny : nYears a b = (ofY b - ofY a + 3).toNat := rfl
  generalize ofY a = Ya at *
  generalize ofY b = Yb at *
  generalize nYears a b = N at *
  have HDA := Lib.hid hda; have HDB := Lib.hid hdb; have HNY := Lib.hid hny
  clear hda hdb hny
  go_wp2_with fail
  refine (HDA.out _).mono ?_
  rintro e w1 ⟨rfl, hb1⟩
  have bA := Blk.new w1 51 #[.int .i64 Ya, .int .i64 (ofM a), .int .i64 (ofD a)]
  have hB := bl_trans hb1 (bl_alloc w1 (.cells #[.int .i64 Ya, .int .i64 (ofM a), .int .i64 (ofD a)] 51))
  go_wp2_with fail
  refine (HDB.out _).mono ?_
  rintro e w2 ⟨rfl, hb2⟩
  have bA2 := (bA.below hb2 bA.lt).alloc (.cells #[.int .i64 Yb, .int .i64 (ofM b), .int .i64 (ofD b)] 51)
  have bB2 := Blk.new w2 51 #[.int .i64 Yb, .int .i64 (ofM b), .int .i64 (ofD b)]
  have hB2 := bl_trans (bl_trans hB hb2) (bl_alloc w2 (.cells #[.int .i64 Yb, .int .i64 (ofM b), .int .i64 (ofD b)] 51))
  have cA := bA2.cell 0
  simp at cA
  obtain ⟨g, hg⟩ : ∃ g, g = w2.heap.size := ⟨_, rfl⟩
  rw [← hg] at bB2
  obtain ⟨W1, hW1⟩ : ∃ W1, W1 = w2.alloc (.cells #[.int .i64 Yb, .int .i64 (ofM b), .int .i64 (ofD b)] 51) := ⟨_, rfl⟩
  rw [← hW1] at bB2 hB2
  go_wp2
  rw [← hg, ← hW1]
  clear hg hW1 bA2 bA hB cA hb2 hb1
  have hv1 := hv.below hB2
  have HV1 := Lib.hid hv1; clear hv1
  go_loopw [7, 14] (fun o y wr => ∃ j : Nat, j ≤ N ∧ y = .int .i64 (Ya - 1 + j) ∧ IntRow wr W1.heap.size o (gatU (rawD l a b (Ya - 1) j) []) ∧ Below W1.heap.size W1 wr) (fun _ y _ => (20000 - intOf y).toNat)
  case atStart => exact ⟨0, Nat.zero_le _, by simp, World.ownsRow_nil _ _ _ _, bl_refl _⟩
  case round =>
    obtain ⟨j, hj, rfl, hrow, hbw⟩ := hrel
    have hcB := (bB2.below hbw bB2.lt).cell 0
    simp at hcB
    have hN := HNY.out
    have hrl := rawD_len l a b (Ya - 1) j
    have hgl := gatU_len (rawD l a b (Ya - 1) j) []
    have hrs := rawD_succ l a b (Ya - 1) j
    have hjN : j ≤ 10010 := by omega
    have hg18 : (gatU (rawD l a b (Ya - 1) j) []).length ≤ 250000 := by
      have h1 : j * l.length ≤ 10010 * 20 := Nat.mul_le_mul hjN (by omega)
      simp only [List.length_nil, Nat.zero_add] at hgl
      omega
    obtain ⟨y, hy⟩ : ∃ y, y = Ya - 1 + (j : Int) := ⟨_, rfl⟩
    rw [← hy] at hrs ⊢
    have y3 : 0 ≤ y := by omega
    have y4 : y ≤ 10011 := by omega
    by_cases hlt : j < N
    · have hly : y ≤ Yb + 1 := by omega
      have HY := Lib.hid hy; have HRS := Lib.hid hrs; have HN := Lib.hid hN
      clear hy hrs hN hrl hgl
      obtain ⟨wo, rfl⟩ : ∃ wo : World, wo = wr := ⟨_, rfl⟩
      go_wp2_with fail
      refine (HOF.out _ _ (HV1.out.below hbw)).mono ?_
      intro e w4 hp
      have hol : (ofP y l).length ≤ 20 := Nat.le_trans (ofP_len y l) (by omega)
      obtain ⟨pa, ca, rfl, hb3, hns⟩ := OfPost.mid hp
      have hm0 := hb3.size
      have hr3 := row_below hrow hb3
      have hbw3 : Below W1.heap.size W1 w4 := hbw.trans (hb3.mono hbw.size)
      have hyd : ((((ofP y l).map (·.1)).filter (fun d => win d a b))) = yDays l a b y := rfl
      have HOB : Hid (OutB wo.heap.size w4.heap.size u7) := OutB.of_lt hrow (Nat.le_refl _)
      generalize ofP y l = ns at *
      have HNS := Lib.hid hns; have HYD := Lib.hid hyd
      clear hp hb3 hrow hbw hns hyd hcB
      generalize hRg : gatU (rawD l a b (Ya - 1) j) [] = R at *
      have HRG := Lib.hid hRg; clear hRg
      go_wp2
      go_loopw [7, 16] (fun o i wr2 => ∃ m : Nat, m ≤ ns.length ∧ i = .int .i64 m ∧ IntRow wr2 W1.heap.size o (gatU (((ns.take m).map (·.1)).filter (fun d => win d a b)) R) ∧ Below W1.heap.size W1 wr2 ∧ Mid wo.heap.size w4.heap.size w4 wr2 ∧ OutB wo.heap.size w4.heap.size o) (fun _ i _ => 100 - (intOf i).toNat)
      case atStart => exact ⟨0, Nat.zero_le _, rfl, by simpa [gatU] using hr3, hbw3, Mid.refl (Nat.le_refl _), HOB.out⟩
      case round =>
        obtain ⟨m, hm, rfl, hrw, hbw4, hmid, hout⟩ := hrel
        by_cases hml : m < ns.length
        · obtain ⟨bn, rfl, hlo, hln, hcn⟩ := HNS.out (by omega)
          obtain ⟨q, hq⟩ : ∃ q, ns[m]? = some q := ⟨_, List.getElem?_eq_getElem hml⟩
          obtain ⟨c0, c1⟩ := IsNs.at (fun j x hx i u hu => (hmid.cell hlo hln (0 + j * 2 + i)).trans (hcn j x hx i u hu)) hq
          simp only [Nat.zero_add] at c0 c1
          have hst := gat_pre ns a b R m hq
          have hln2 : (gatU (((ns.take m).map (·.1)).filter (fun d => win d a b)) R).length ≤ 250030 := by
            refine Nat.le_trans (gatU_len _ _) ?_
            have h1 : (((ns.take m).map (·.1)).filter (fun d => win d a b)).length ≤ 20 := by
              refine Nat.le_trans (List.length_filter_le _ _) ?_
              rw [List.length_map, List.length_take]; omega
            omega
          have hz4 := hbw4.size
          clear hq hcn
          generalize gatU (((ns.take m).map (·.1)).filter (fun d => win d a b)) R = P at *
          by_cases hwn : a ≤ q.1 ∧ q.1 ≤ b
          · rw [win_iff.2 hwn, if_pos rfl] at hst
            obtain ⟨g1, g2⟩ := hwn
            have hPI : IsInts wr u7 P := IsInts.of_row hrw (by have := HMS.out; omega)
            have hhas := fun w h => has01 u7 P q.1 w h
            by_cases hin : q.1 ∈ P
            · rw [decide_eq_true hin] at hhas
              unfold addU at hst
              rw [if_pos hin] at hst
              have HST := Lib.hid hst; have HHS := Lib.hid hhas
              clear hst hhas hin
              go_wp2_with fail
              refine (HHS.out _ hPI).mono ?_
              rintro e w5 ⟨rfl, rfl⟩
              go_wp2
              go_roundw
              case rel => exact ⟨m + 1, by omega, by go_num, by rw [HST.out]; exact hrw, hbw4, hmid, hout⟩
              case measure => simp [intOf]; omega
            · rw [decide_eq_false hin] at hhas
              unfold addU at hst
              rw [if_neg hin] at hst
              have HST := Lib.hid hst; have HHS := Lib.hid hhas
              clear hst hhas hin
              go_wp2_with fail
              refine (HHS.out _ hPI).mono ?_
              rintro e w5 ⟨rfl, rfl⟩
              go_wp2_with (at_builtin; refine wpList_append_any_at (by rfl) (.tmp 80) (.tmp 86) 22 (by rfl) W1.heap.size 3 i0 _ 1 8 Tryz.underlying22 hi hz0 hz1 hz2 rfl (by omega) _ P.length _ (by rfl) (hrw.alloc _) (.slice (some ⟨wr.heap.size, 0, none⟩) 1 1) 1 [.int .i64 q.1] (by rfl) (.inr ⟨_, _, rfl, rfl, (World.news_of_block (cs := #[.int .i64 q.1]) (t := 3) (fr := (0, 0)) (heap_alloc_new wr _))⟩) (by simp [Value.oneCell']) (by have := HMS.out; omega) (by omega) (by simp; omega) ?_; intro v1 w5 hown1 hgrow1 hat1)
              have hmz := hmid.1
              go_roundw
              case rel => exact ⟨m + 1, by omega, by go_num, by rw [HST.out]; show w5.ownsRow _ _ _ _ _ _; rw [List.length_append, List.map_append]; exact hown1, (hbw4.trans ((bl_alloc _ _).mono hz4)).grown hgrow1 (by simp; omega) (fun r e => (hrw.lt r e).1), (hmid.alloc _).grown hgrow1 hout, hout.at hat1 (by simp; omega)⟩
              case measure => simp [intOf]; omega
          · have hwf : win q.1 a b = false := by cases e : win q.1 a b; rfl; exact absurd (win_iff.1 e) hwn
            rw [hwf, if_neg (by simp)] at hst
            have HST := Lib.hid hst
            clear hst hwf
            by_cases g1 : a ≤ q.1
            · have g2 : ¬ q.1 ≤ b := fun h => hwn ⟨g1, h⟩
              clear hwn
              go_wp2
              go_roundw
              case rel => exact ⟨m + 1, by omega, by go_num, by rw [HST.out]; exact hrw, hbw4, hmid, hout⟩
              case measure => simp [intOf]; omega
            · clear hwn
              go_wp2
              go_roundw
              case rel => exact ⟨m + 1, by omega, by go_num, by rw [HST.out]; exact hrw, hbw4, hmid, hout⟩
              case measure => simp [intOf]; omega
        · obtain rfl : m = ns.length := by omega
          rw [List.take_length, HYD.out, ← HRG.out, ← gatU_app, ← HRS.out] at hrw
          clear hout hmid
          go_wp2
          go_roundw
          case rel => exact ⟨j + 1, by omega, by rw [show y + 1 = Ya - 1 + ((j + 1 : Nat) : Int) by rw [HY.out]; omega], hrw, hbw4⟩
          case measure => simp [intOf]; omega
    · have hly : ¬ y ≤ Yb + 1 := by omega
      obtain rfl : j = N := by omega
      have hPI : IsInts wr u7 (gatU (rawD l a b (Ya - 1) j) []) := IsInts.of_row hrow (by have := HMS.out; omega)
      have hst := fun w h => srt_any u7 (gatU (rawD l a b (Ya - 1) j) []) w h (by omega)
      generalize gatU (rawD l a b (Ya - 1) j) [] = P at *
      have HST := Lib.hid hst; have HPI := Lib.hid hPI
      clear hst hPI hrs hrl hgl hy hN
      go_wp2_with fail
      refine (HST.out _ HPI.out).mono ?_
      rintro e w4 ⟨v4, rfl, hr4, hb4⟩
      go_wp2
      go_ret
      have hz := hbw.size
      exact ⟨v4, rfl, row_base hr4 (Nat.le_trans hB2.size hz), bl_trans hB2 (bl_trans hbw hb4)⟩
theorem rbtw_any (v : Value) (f u : Int) (l : List Hol) (w : World) (hv : IsHols w v l) (hlen : l.length < 20) (hval : ∀ x, x ∈ l → hvB x = true) : Calls Tryz.prog 14 #[v, .int .i64 f, .int .i64 u] w (BtwPost (btw l f u) w) := by
  by_cases h : max f 0 > min u 3652058
  · exact rbtw_none v f u l w h
  · exact rbtw_some v f u l w hv hlen hval h
end Go.Proofs.YtnemgohcjjhfmaaGreatDoor
