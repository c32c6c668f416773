/- The walk of the law HolidayNeighbours: it returns true at every input. Conditions: the numbers are ints that lie in memory, the listed tables lie in memory. -/
import Derived.Test.YtnemgohcjjhfmaaDoorHLives
import Derived.Test.YtnemgohcjjhfmaaDoorHMk
import Derived.Test.YtnemgohcjjhfmaaDoorHSd
namespace Go.Proofs.YtnemgohcjjhfmaaDoor
open Go.RowKit

theorem year_ends {n : Int} (h0 : 1 ≤ n) (h1 : n ≤ 9999) : dayN n 1 1 = num n 1 1 ∧ chk n 1 1 = 0 ∧ dayN n 12 31 = num n 12 31 ∧ chk n 12 31 = 0 ∧ ofY (num n 1 1) = n ∧ ofY (num n 12 31) = n ∧ 0 ≤ num n 1 1 ∧ num n 1 1 ≤ num n 12 31 ∧ num n 12 31 ≤ 3652058 := by
  have v1 : validB n 1 1 = true := valid_iff.2 ⟨h0, h1, by omega, by omega, by omega, by rw [len1]; omega⟩
  have v2 : validB n 12 31 = true := valid_iff.2 ⟨h0, h1, by omega, by omega, by omega, by rw [len12]; omega⟩
  have r1 := num_range (y := n) (m := 1) (d := 1) h0 h1 (by omega) (by omega) (by omega) (by rw [len1]; omega)
  have r2 := num_range (y := n) (m := 12) (d := 31) h0 h1 (by omega) (by omega) (by omega) (by rw [len12]; omega)
  have i2 := num_in (y := n) (m := 12) (d := 31) (by omega) (by omega) (by omega) (by rw [len12]; omega)
  have u1 := of_unique (n := num n 1 1) (y := n) (m := 1) (d := 1) r1.1 r1.2 (by omega) (by omega) (by omega) (by rw [len1]; omega) rfl
  have u2 := of_unique (n := num n 12 31) (y := n) (m := 12) (d := 31) r2.1 r2.2 (by omega) (by omega) (by omega) (by rw [len12]; omega) rfl
  unfold dayN chk
  rw [v1, v2]
  exact ⟨rfl, rfl, rfl, rfl, u1.1.symm, u2.1.symm, r1.1, i2.1, r2.2⟩
theorem btw_year {l : List Hol} {n : Int} (h0 : 1 ≤ n) (h1 : n ≤ 9999) : btw l (num n 1 1) (num n 12 31) = srtI (gatU (rawD l (num n 1 1) (num n 12 31) (n - 1) 3) []) := by
  obtain ⟨_, _, _, _, y1, y2, r0, r1, r2⟩ := year_ends h0 h1
  refine rise_eq (btw_rise _ _ _) (srtI_rise (gatU_nodup _ _ (by simp))) (fun x => ?_)
  rw [srtI_mem, gatU_mem]
  unfold btw
  have e1 : max (num n 1 1) 0 = num n 1 1 := by omega
  have e2 : min (num n 12 31) 3652058 = num n 12 31 := by omega
  rw [e1, e2, if_neg (by omega), comp_mem (sortI_sorted _), sortI_mem]
  have e3 : nYears (num n 1 1) (num n 12 31) = 3 := by unfold nYears; rw [y1, y2]; omega
  rw [e3, y1]; simp
theorem gat_pre (ns : List (Int × Int)) (a b : Int) (R : List Int) (m : Nat) {p : Int × Int} (hp : ns[m]? = some p) :
    gatU (((ns.take (m + 1)).map (·.1)).filter (fun d => win d a b)) R = if win p.1 a b then addU (gatU (((ns.take m).map (·.1)).filter (fun d => win d a b)) R) p.1 else gatU (((ns.take m).map (·.1)).filter (fun d => win d a b)) R := by
  rw [List.take_add_one, hp, List.map_append, List.filter_append]
  cases e : win p.1 a b
  · simp [e]
  · rw [if_pos rfl, ← gatU_snoc]; simp [e]
theorem gatU_app (a b R : List Int) : gatU (a ++ b) R = gatU b (gatU a R) := by unfold gatU; rw [List.foldl_append]
set_option maxRecDepth 100000 in
set_option maxHeartbeats 8000000 in
theorem law_hneigh (v : Value) (zs : List Int) (yr : Int) (w : World) (hI : IsInts w v zs) (hz : InR zs) (hG : GoodH w) (h1 : -9223372036854775808 ≤ yr) (h2 : yr ≤ 9223372036854775807) :
    Calls Tryd.prog 7 #[v, .int .i64 yr] w (Ret (.bool true) w) := by
  have hmk := mk_any v zs w hI hz
  have hl6 := mkHols_len zs
  have hval := mkHols_valid zs
  generalize mkHols zs = l at *
  have hlm : l.length ≤ maxLen := by unfold maxLen; omega
  have hof := fun v y w hG h => hof_any v l y w hG h (by omega) hval
  have hbt := fun v f u w hG h => btw_any v f u l w hG h (by omega) hval
  have hA := fun w => around01 yr 158 w h1 h2 (by omega) (by omega)
  obtain ⟨a1, a2⟩ := around_bd yr (m := 158) (by omega)
  generalize around yr 158 = a at *
  obtain ⟨e1, e2, e3, e4, _, _, r0, r1, r2⟩ := year_ends (n := 1951 + a) (by omega) (by omega)
  have hby := btw_year (l := l) (n := 1951 + a) (by omega) (by omega)
  have hd1 := fun w hG => day_any (1951 + a) 1 1 w hG
  have hd2 := fun w hG => day_any (1951 + a) 12 31 w hG
  rw [e1, e2] at hd1
  rw [e3, e4] at hd2
  generalize num (1951 + a) 1 1 = F at *
  generalize num (1951 + a) 12 31 = U at *
  obtain ⟨i0, hi, hz0, hz1, hz2⟩ := info_parts infoInt
  have hms : maxLen = 9223372036854775807 := rfl
  have HMS := Lib.hid hms
  have HMK := Lib.hid hmk; have HA := Lib.hid hA; have HOF := Lib.hid hof; have HBT := Lib.hid hbt; have HBY := Lib.hid hby; have HD1 := Lib.hid hd1; have HD2 := Lib.hid hd2
  clear hmk hA hof hbt hby hd1 hd2 hI hz hval hms e1 e2 e3 e4
  go_enter Tryd.func7, Tryd.ntmps7
  go_wp2_with fail
  refine HMK.out.mono ?_
  intro e w1 hp
  obtain ⟨p, cap, rfl, hm, hb1⟩ := HolsPost.hs hp hlm
  have hG1 := hG.below hb1
  clear hp
  go_wp2_with fail
  refine (HA.out _).mono ?_
  rintro e w2 ⟨rfl, rfl⟩
  go_wp2_with fail
  refine (HD1.out _ hG1.1).mono ?_
  rintro e w2 ⟨rfl, hb⟩
  have hG1 := hG1.below hb
  have hm := hm.below hb
  have hB := bl_trans hb1 hb
  clear hb hb1
  go_wp2_with fail
  refine (HD2.out _ hG1.1).mono ?_
  rintro e w3 ⟨rfl, hb⟩
  have hG1 := hG1.below hb
  have hm := hm.below hb
  have hB := bl_trans hB hb
  have HM := Lib.hid hm
  clear hb hm
  go_wp2
  generalize hn : 1951 + a = n at *
  have n1 : 1951 ≤ n := by omega
  have n2 : n ≤ 2108 := by omega
  clear hn
  go_loopw [11, 12] (fun o y wr => ∃ j : Nat, j ≤ 3 ∧ y = .int .i64 (n - 1 + j) ∧ IntRow wr w3.heap.size o (gatU (rawD l F U (n - 1) j) []) ∧ Below w3.heap.size w3 wr) (fun _ y _ => (20000 - intOf y).toNat)
  case atStart => exact ⟨0, by omega, by simp, World.ownsRow_nil _ _ _ _, bl_refl _⟩
  case round =>
    obtain ⟨j, hj, rfl, hrow, hbw⟩ := hrel
    have hrl := rawD_len l F U (n - 1) j
    have hgl := gatU_len (rawD l F U (n - 1) j) []
    have hrs := rawD_succ l F U (n - 1) j
    have hg18 : (gatU (rawD l F U (n - 1) j) []).length ≤ 20 := by
      have h1 : j * l.length ≤ 3 * 6 := Nat.mul_le_mul hj hl6
      simp only [List.length_nil, Nat.zero_add] at hgl
      omega
    obtain ⟨y, hy⟩ : ∃ y, y = n - 1 + (j : Int) := ⟨_, rfl⟩
    rw [← hy] at hrs ⊢
    have y3 : 0 ≤ y := by omega
    have y4 : y ≤ 3000 := by omega
    by_cases hlt : j < 3
    · have hly : y ≤ n + 1 := by omega
      have HY := Lib.hid hy; have HRS := Lib.hid hrs
      clear hy hrs hrl hgl
      obtain ⟨wo, rfl⟩ : ∃ wo : World, wo = wr := ⟨_, rfl⟩
      go_wp2_with fail
      refine (HOF.out _ _ _ (hG1.below hbw) (HM.out.below hbw)).mono ?_
      intro e w4 hp
      have hol : (ofP y l).length ≤ 6 := Nat.le_trans (ofP_len y l) hl6
      obtain ⟨pa, ca, rfl, hb3, hns⟩ := OfPost.mid hp
      have hm0 := hb3.size
      have hr3 := row_below hrow hb3
      have hbw3 : Below w3.heap.size w3 w4 := hbw.trans (hb3.mono hbw.size)
      have hyd : ((((ofP y l).map (·.1)).filter (fun d => win d F U))) = yDays l F U y := rfl
      have HOB : Hid (OutB wo.heap.size w4.heap.size u11) := OutB.of_lt hrow (Nat.le_refl _)
      generalize ofP y l = ns at *
      have HNS := Lib.hid hns; have HYD := Lib.hid hyd
      clear hp hb3 hrow hbw hns hyd
      generalize hRg : gatU (rawD l F U (n - 1) j) [] = R at *
      have HRG := Lib.hid hRg; clear hRg
      go_wp2
      go_loopw [11, 14] (fun o i wr2 => ∃ m : Nat, m ≤ ns.length ∧ i = .int .i64 m ∧ IntRow wr2 w3.heap.size o (gatU (((ns.take m).map (·.1)).filter (fun d => win d F U)) R) ∧ Below w3.heap.size w3 wr2 ∧ Mid wo.heap.size w4.heap.size w4 wr2 ∧ OutB wo.heap.size w4.heap.size o) (fun _ i _ => 100 - (intOf i).toNat)
      case atStart => exact ⟨0, Nat.zero_le _, rfl, by simpa [gatU] using hr3, hbw3, Mid.refl (Nat.le_refl _), HOB.out⟩
      case round =>
        obtain ⟨m, hm, rfl, hrw, hbw4, hmid, hout⟩ := hrel
        by_cases hml : m < ns.length
        · obtain ⟨bn, rfl, hlo, hln, hcn⟩ := HNS.out (by omega)
          obtain ⟨q, hq⟩ : ∃ q, ns[m]? = some q := ⟨_, List.getElem?_eq_getElem hml⟩
          obtain ⟨c0, c1⟩ := IsNs.at (fun j x hx i u hu => (hmid.cell hlo hln (0 + j * 2 + i)).trans (hcn j x hx i u hu)) hq
          simp only [Nat.zero_add] at c0 c1
          have hst := gat_pre ns F U R m hq
          have hln2 : (gatU (((ns.take m).map (·.1)).filter (fun d => win d F U)) R).length ≤ 26 := by
            refine Nat.le_trans (gatU_len _ _) ?_
            have h1 : (((ns.take m).map (·.1)).filter (fun d => win d F U)).length ≤ 6 := by
              refine Nat.le_trans (List.length_filter_le _ _) ?_
              rw [List.length_map, List.length_take]; omega
            omega
          have hz4 := hbw4.size
          clear hq hcn
          generalize gatU (((ns.take m).map (·.1)).filter (fun d => win d F U)) R = P at *
          by_cases hwn : F ≤ q.1 ∧ q.1 ≤ U
          · rw [win_iff.2 hwn, if_pos rfl] at hst
            obtain ⟨g1, g2⟩ := hwn
            have hPI : IsInts wr u11 P := IsInts.of_row hrw (by have := HMS.out; omega)
            have hhas := fun w h => has01 u11 P q.1 w h
            by_cases hin : q.1 ∈ P
            · rw [decide_eq_true hin] at hhas
              unfold addU at hst
              rw [if_pos hin] at hst
              have HST := Lib.hid hst; have HHS := Lib.hid hhas
              clear hst hhas hin
              go_wp2_with fail
              refine (HHS.out _ hPI).mono ?_
              rintro e w5 ⟨rfl, rfl⟩
              go_wp2
              go_roundw
              case rel => exact ⟨m + 1, by omega, by go_num, by rw [HST.out]; exact hrw, hbw4, hmid, hout⟩
              case measure => simp [intOf]; omega
            · rw [decide_eq_false hin] at hhas
              unfold addU at hst
              rw [if_neg hin] at hst
              have HST := Lib.hid hst; have HHS := Lib.hid hhas
              clear hst hhas hin
              go_wp2_with fail
              refine (HHS.out _ hPI).mono ?_
              rintro e w5 ⟨rfl, rfl⟩
              go_wp2_with (at_builtin; refine wpList_append_any_at (by rfl) (.tmp 75) (.tmp 77) 23 (by rfl) w3.heap.size 3 i0 _ 1 8 Tryd.underlying23 hi hz0 hz1 hz2 rfl (by omega) _ P.length _ (by rfl) (hrw.alloc _) (.slice (some ⟨wr.heap.size, 0, none⟩) 1 1) 1 [.int .i64 q.1] (by rfl) (.inr ⟨_, _, rfl, rfl, (World.news_of_block (cs := #[.int .i64 q.1]) (t := 3) (fr := (0, 0)) (heap_alloc_new wr _))⟩) (by simp [Value.oneCell']) (by have := HMS.out; omega) (by omega) (by simp; omega) ?_; intro v1 w5 hown1 hgrow1 hat1)
              have hmz := hmid.1
              go_roundw
              case rel => exact ⟨m + 1, by omega, by go_num, by rw [HST.out]; show w5.ownsRow _ _ _ _ _ _; rw [List.length_append, List.map_append]; exact hown1, (hbw4.trans ((bl_alloc _ _).mono hz4)).grown hgrow1 (by simp; omega) (fun r e => (hrw.lt r e).1), (hmid.alloc _).grown hgrow1 hout, hout.at hat1 (by simp; omega)⟩
              case measure => simp [intOf]; omega
          · have hwf : win q.1 F U = false := by cases e : win q.1 F U; rfl; exact absurd (win_iff.1 e) hwn
            rw [hwf, if_neg (by simp)] at hst
            have HST := Lib.hid hst
            clear hst hwf
            by_cases g1 : F ≤ q.1
            · have g2 : ¬ q.1 ≤ U := fun h => hwn ⟨g1, h⟩
              clear hwn
              go_wp2
              go_roundw
              case rel => exact ⟨m + 1, by omega, by go_num, by rw [HST.out]; exact hrw, hbw4, hmid, hout⟩
              case measure => simp [intOf]; omega
            · clear hwn
              go_wp2
              go_roundw
              case rel => exact ⟨m + 1, by omega, by go_num, by rw [HST.out]; exact hrw, hbw4, hmid, hout⟩
              case measure => simp [intOf]; omega
        · obtain rfl : m = ns.length := by omega
          rw [List.take_length, HYD.out, ← HRG.out, ← gatU_app, ← HRS.out] at hrw
          clear hout hmid
          go_wp2
          go_roundw
          case rel => exact ⟨j + 1, by omega, by rw [show y + 1 = n - 1 + ((j + 1 : Nat) : Int) by rw [HY.out]; omega], hrw, hbw4⟩
          case measure => simp [intOf]; omega
    · have hly : ¬ y ≤ n + 1 := by omega
      obtain rfl : j = 3 := by omega
      have hPI : IsInts wr u11 (gatU (rawD l F U (n - 1) 3) []) := IsInts.of_row hrow (by have := HMS.out; omega)
      have hby2 := HBY.out
      have hst := fun w h => srt_any u11 (gatU (rawD l F U (n - 1) 3) []) w h (by omega)
      rw [← hby2] at hst
      have hbl := btw_len l F U (by omega)
      have HBL : Hid ((btw l F U).length ≤ maxLen) := by have := HMS.out; show _ ≤ _; omega
      have HBTU := Lib.hid (fun v w hG h => HBT.out v F U w hG h)
      generalize btw l F U = X at *
      have HST := Lib.hid hst; have HPI := Lib.hid hPI
      clear hst hPI hrs hrl hgl hy hby2
      go_wp2_with fail
      refine (HBTU.out _ _ (hG1.below hbw) (HM.out.below hbw)).mono ?_
      intro e w4 hp
      obtain ⟨pb, cb, rfl, hX1, hb⟩ := BtwPost.zs hp HBL.out
      have hPI := HPI.out.below hb
      have hbw := bl_trans hbw hb
      clear hp hb
      go_wp2_with fail
      refine (HST.out _ hPI).mono ?_
      intro e w5 hp
      obtain ⟨pc, cc, rfl, hX2, hb⟩ := BtwPost.zs hp HBL.out
      have hX1 := hX1.below hb
      have hbw := bl_trans hbw hb
      have hsa := fun w h1 h2 => same01 (.slice pb X.length cb) (.slice pc X.length cc) X X w h1 h2
      rw [decide_eq_true rfl] at hsa
      have HSA := Lib.hid hsa
      clear hp hb hsa hPI
      go_wp2_with fail
      refine (HSA.out _ hX1 hX2).mono ?_
      rintro e w6 ⟨rfl, hb⟩
      have hbw := bl_trans hbw hb
      clear hb hX1 hX2
      go_wp2_with fail
      refine (hlives_any _ (hG1.below hbw)).mono ?_
      rintro e w7 ⟨rfl, hb⟩
      go_wp2
      go_ret
      exact ⟨rfl, bl_trans hB (bl_trans hbw hb)⟩
end Go.Proofs.YtnemgohcjjhfmaaDoor
