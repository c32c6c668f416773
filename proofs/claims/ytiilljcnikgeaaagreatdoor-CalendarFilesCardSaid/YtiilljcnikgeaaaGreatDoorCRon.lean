/- Several texts in one, each with its own word at its head. Conditions: stated there. -/
import Derived.Test.YtiilljcnikgeaaaGreatDoorCAdd
import Derived.Test.YtiilljcnikgeaaaGreatDoorCFiled
import Derived.Test.YtiilljcnikgeaaaGreatDoorHRIs
/- The walks of the reference's closed, Open. Conditions: the calendar lies in memory, its rules and its zone are valid; bounds. -/
namespace Go.Proofs.YtiilljcnikgeaaaGreatDoor
open Go.RowKit

set_option maxRecDepth 100000 in
set_option maxHeartbeats 4000000 in
theorem rclosed_any (c : Cal) (vh vc vs : Value) (d k : Int) (w : World) (hc : CalIn w vh vc vs c) :
    Calls Tryz.prog 37 #[aggC c vh vc vs, .int .i64 d, .int .i64 k] w (Ret (.bool (closB c.cl k d)) w) := by
  obtain ⟨pa, cap, rfl, hm, hcl⟩ := hc.ic.open
  unfold maxLen at hm
  have HCL := Lib.hid hcl
  clear hcl hc
  have bX := Blk.new w 30 (cellsC c vh (.slice pa c.cl.length cap) vs)
  have hB0 := bl_alloc w (.cells (cellsC c vh (.slice pa c.cl.length cap) vs) 30)
  go_enter Tryz.func37, Tryz.ntmps37
  go_wp2
  obtain ⟨W1, hW1⟩ : ∃ W1, W1 = w.alloc (.cells (cellsC c vh (.slice pa c.cl.length cap) vs) 30) := ⟨_, rfl⟩
  rw [← hW1] at bX hB0 ⊢
  clear hW1
  have hbz := hB0.size
  have hxl := bX.lt
  go_loopw [7, 8] (fun i _ wr => ∃ j : Nat, j ≤ c.cl.length ∧ i = .int .i64 j ∧ Hid (closB (c.cl.take j) k d = false) ∧ Below W1.heap.size W1 wr) (fun i _ _ => c.cl.length - (intOf i).toNat)
  case atStart => exact ⟨0, Nat.zero_le _, rfl, rfl, bl_refl _⟩
  case round =>
    obtain ⟨j, hj, rfl, hn, hbw⟩ := hrel
    have hBw := bl_trans hB0 hbw
    have b8 := (bX.below hbw hxl).cell 8
    have hxw : w.heap.size < wr.heap.size := (bX.below hbw hxl).lt
    simp at b8
    by_cases hlt : j < c.cl.length
    · obtain ⟨x, hx⟩ : ∃ x, c.cl[j]? = some x := ⟨_, List.getElem?_eq_getElem hlt⟩
      obtain ⟨b, off, rfl, hbl, hcc⟩ := HCL.out (by omega)
      have hbl2 : b < wr.heap.size := Nat.lt_of_lt_of_le hbl hBw.size
      have hcw : ∀ j x, c.cl[j]? = some x → ∀ i u, (encC x)[i]? = some u → wr.cell? ⟨b, off + j * 3 + i, none⟩ = some u := fun j x hx i u hu => (hBw.cell (p := ⟨b, off + j * 3 + i, none⟩) hbl).trans (hcc j x hx i u hu)
      obtain ⟨c0, c1, c2⟩ := IsClos.at hcw hx
      have htk := closB_take (k := k) (d := d) hx
      rw [hn.out, Bool.false_or] at htk
      have hany : cloB k d x = true → closB c.cl k d = true := fun h => by
        unfold closB; exact List.any_eq_true.2 ⟨x, List.mem_of_getElem? hx, h⟩
      have hcb : cloB k d x = (decide (x.kn ≤ k) && (decide (x.fr ≤ d) && decide (d ≤ x.un))) := rfl
      have HT := Lib.hid htk; have HA := Lib.hid hany; have HCB := Lib.hid hcb
      clear hx hcw htk hany hcb hcc
      go_upto_region 5 with (fail)
      have bL := Blk.new wr 48 #[.int .i64 x.fr, .int .i64 x.un, .int .i64 x.kn]
      have hbw2 := bl_trans hbw (bl_alloc wr (.cells #[.int .i64 x.fr, .int .i64 x.un, .int .i64 x.kn] 48))
      obtain ⟨B, hB⟩ : ∃ B, B = wr.heap.size := ⟨_, rfl⟩
      rw [← hB] at bL ⊢
      obtain ⟨W2, hW2⟩ : ∃ W2, W2 = wr.alloc (.cells #[.int .i64 x.fr, .int .i64 x.un, .int .i64 x.kn] 48) := ⟨_, rfl⟩
      rw [← hW2] at bL hbw2 ⊢
      have x0 := bL.cell 0
      have x1 := bL.cell 1
      have x2 := bL.cell 2
      simp at x0 x1 x2
      clear hB hW2 c0 c1 c2 b8
      have hno : ∀ h : cloB k d x = false, Hid (closB (c.cl.take (j + 1)) k d = false) := fun h => by rw [h] at HT; exact HT.out
      by_cases g1 : x.kn ≤ k
      · have e1 : decide (x.kn ≤ k) = true := decide_eq_true g1
        by_cases g2 : x.fr ≤ d
        · have e2 : decide (x.fr ≤ d) = true := decide_eq_true g2
          by_cases g3 : d ≤ x.un
          · have e3 : decide (d ≤ x.un) = true := decide_eq_true g3
            have HY := Lib.hid (HA.out (by rw [HCB.out, e1, e2, e3]; rfl))
            clear hno
            go_wp2
            go_ret
            exact ⟨ret_bool (by rw [HY.out]), bl_trans hB0 hbw2⟩
          · have e3 : decide (d ≤ x.un) = false := decide_eq_false g3
            have HN := Lib.hid (hno (by rw [HCB.out, e1, e2, e3]; rfl))
            clear hno
            go_wp2
            go_roundw
            case rel => exact ⟨j + 1, by omega, by go_num, HN.out, hbw2⟩
            case measure => simp [intOf]; omega
        · have e2 : decide (x.fr ≤ d) = false := decide_eq_false g2
          have HN := Lib.hid (hno (by rw [HCB.out, e1, e2]; rfl))
          clear hno
          go_wp2
          go_roundw
          case rel => exact ⟨j + 1, by omega, by go_num, HN.out, hbw2⟩
          case measure => simp [intOf]; omega
      · have e1 : decide (x.kn ≤ k) = false := decide_eq_false g1
        have HN := Lib.hid (hno (by rw [HCB.out, e1]; rfl))
        clear hno
        go_wp2
        go_roundw
        case rel => exact ⟨j + 1, by omega, by go_num, HN.out, hbw2⟩
        case measure => simp [intOf]; omega
    · obtain rfl : j = c.cl.length := by omega
      have hn0 := hn.out
      rw [List.take_length] at hn0
      have HN := Lib.hid hn0
      clear hn hn0
      go_wp2
      go_ret
      exact ⟨ret_bool (by rw [HN.out]), hBw⟩
set_option maxRecDepth 100000 in
set_option maxHeartbeats 4000000 in
theorem ropen_any (c : Cal) (vh vc vs : Value) (d k : Int) (w : World) (hc : CalIn w vh vc vs c) :
    Calls Tryz.prog 18 #[aggC c vh vc vs, .int .i64 d, .int .i64 k] w (Ret (.bool (openB c k d)) w) := by
  have hwi := fun w => crwithin_any d w
  have hwd : ∀ w, Calls Tryz.prog 36 #[.int .i64 d] w (Pur (.int .i64 (d % 7)) w) := fun w => rweekday_any d w
  have hcl := fun w hc => rclosed_any c vh vc vs d k w hc
  have his := fun w hh => ris_any vh d c.hs w hh hc.hl hc.hv
  have ho : openB c k d = (inD d && !(c.we (d % 7).toNat || (closB c.cl k d || isB c.hs d))) := rfl
  have bX := Blk.new w 30 (cellsC c vh vc vs)
  have hB0 := bl_alloc w (.cells (cellsC c vh vc vs) 30)
  have HC := Lib.hid (hc.alloc (.cells (cellsC c vh vc vs) 30))
  have bw := (bX.cell (d % 7).toNat).trans (we_cell c vh vc vs d)
  have q0 : 0 ≤ d % 7 := by omega
  have q1 : d % 7 < 7 := by omega
  generalize openB c k d = ob at *
  generalize closB c.cl k d = cb at *
  generalize isB c.hs d = ib at *
  generalize c.we (d % 7).toNat = wd at *
  generalize hq : d % 7 = q at *
  generalize inD d = di at *
  have HO := Lib.hid ho; have HW := Lib.hid hwi; have HD := Lib.hid hwd; have HCL := Lib.hid hcl; have HIS := Lib.hid his
  clear ho hwi hwd hcl his hc hq
  cases di
  · have hr : Hid (ob = false) := by show _ = _; rw [HO.out]; rfl
    clear HO bw
    go_enter Tryz.func18, Tryz.ntmps18
    go_wp2_with fail
    refine (HW.out _).mono ?_
    rintro e w1 ⟨rfl, rfl⟩
    go_wp2
    go_ret
    exact ⟨ret_bool hr.out.symm, hB0⟩
  · cases wd
    · obtain ⟨c0, c1, c2, c3, c4, c5, c6, c7, c8, c9, c10, c11⟩ := bX.cal
      cases cb
      · have hr : Hid (ob = !ib) := by show _ = _; rw [HO.out]; rfl
        clear HO
        go_enter Tryz.func18, Tryz.ntmps18
        go_wp2_with fail
        refine (HW.out _).mono ?_
        rintro e w1 ⟨rfl, rfl⟩
        go_wp2_with fail
        refine (HD.out _).mono ?_
        rintro e w1 ⟨rfl, rfl⟩
        go_wp2_with fail
        refine (HCL.out _ HC.out).mono ?_
        rintro e w1 ⟨rfl, hb⟩
        have hB1 := bl_trans hB0 hb
        have b7 := (bX.below hb bX.lt).cell 7
        simp at b7
        go_wp2_with fail
        refine (HIS.out _ (HC.out.below hb).ih).mono ?_
        rintro e w2 ⟨rfl, hb2⟩
        go_wp2
        go_ret
        exact ⟨ret_bool hr.out.symm, bl_trans hB1 hb2⟩
      · have hr : Hid (ob = false) := by show _ = _; rw [HO.out]; rfl
        clear HO
        go_enter Tryz.func18, Tryz.ntmps18
        go_wp2_with fail
        refine (HW.out _).mono ?_
        rintro e w1 ⟨rfl, rfl⟩
        go_wp2_with fail
        refine (HD.out _).mono ?_
        rintro e w1 ⟨rfl, rfl⟩
        go_wp2_with fail
        refine (HCL.out _ HC.out).mono ?_
        rintro e w1 ⟨rfl, hb⟩
        go_wp2
        go_ret
        exact ⟨ret_bool hr.out.symm, bl_trans hB0 hb⟩
    · have hr : Hid (ob = false) := by show _ = _; rw [HO.out]; rfl
      clear HO
      go_enter Tryz.func18, Tryz.ntmps18
      go_wp2_with fail
      refine (HW.out _).mono ?_
      rintro e w1 ⟨rfl, rfl⟩
      go_wp2_with fail
      refine (HD.out _).mono ?_
      rintro e w1 ⟨rfl, rfl⟩
      go_wp2
      go_ret
      exact ⟨ret_bool hr.out.symm, hB0⟩
end Go.Proofs.YtiilljcnikgeaaaGreatDoor
/- The walks of the reference: find and Next. Conditions: the calendar lies in memory, its rules are valid; bounds. -/
namespace Go.Proofs.YtiilljcnikgeaaaGreatDoor
open Go.RowKit

theorem find_stepup {c : Cal} {k d : Int} {j : Nat} (hj : j ≤ 1000) (h : inD (d + (1) * (j : Int)) = true) (hs : openB c k (d + (1) * (j : Int)) = false) : (daysL (1001 - j) (d + (1) * (j : Int)) (1)).find? (fun x => !shutB c k x) = (daysL (1001 - (j + 1)) (d + (1) * ((j + 1 : Nat) : Int)) (1)).find? (fun x => !shutB c k x) := by
  have h1 := openB_shut h (c := c) (k := k)
  rw [hs] at h1
  rw [daysL_yes h (by omega), List.find?_cons, ← h1]
  rw [show d + (1) * (j : Int) + (1) = d + (1) * ((j + 1 : Nat) : Int) by omega, show 1001 - j - 1 = 1001 - (j + 1) by omega]
set_option maxRecDepth 100000 in
set_option maxHeartbeats 4000000 in
theorem rfind_up (c : Cal) (vh vc vs : Value) (d k : Int) (w : World) (hc : CalIn w vh vc vs c) (hd : inD d = true) :
    Calls Tryz.prog 26 #[aggC c vh vc vs, .int .i64 d, .int .i64 k, .int .i64 (1)] w (Ret (.tuple #[.int .i64 (fstV c k d (1)), .int .i64 (fstE c k d (1))]) w) := by
  have hv : fstV c k d (1) = (fndO c k d (1)).getD 0 := by unfold fstV; rw [if_pos hd]
  have he : fstE c k d (1) = if (fndO c k d (1)).isSome then 0 else 31 := by unfold fstE; rw [if_pos hd]
  have hf : fndO c k d (1) = (daysL 1001 d (1)).find? (fun x => !shutB c k x) := rfl
  obtain ⟨V, hV⟩ : ∃ V, V = fstV c k d (1) := ⟨_, rfl⟩
  obtain ⟨E, hE⟩ : ∃ E, E = fstE c k d (1) := ⟨_, rfl⟩
  rw [← hV] at hv ⊢
  rw [← hE] at he ⊢
  rw [hf] at hv he
  obtain ⟨F, hF⟩ : ∃ F, F = (daysL 1001 d (1)).find? (fun x => !shutB c k x) := ⟨_, rfl⟩
  rw [← hF] at hv he
  obtain ⟨d1, d2⟩ := inD_iff.1 hd
  have hw0 : ∀ w, Calls Tryz.prog 25 #[.int .i64 d] w (Pur (.bool true) w) := fun w => by rw [← hd]; exact crwithin_any d w
  have HV := Lib.hid hv; have HE := Lib.hid he; have HF := Lib.hid hF; have HW0 := Lib.hid hw0; have HC := Lib.hid (hc.alloc (.cells (cellsC c vh vc vs) 30))
  clear hv he hf hV hE hF hw0 hd hc
  have bX := Blk.new w 30 (cellsC c vh vc vs)
  have hB0 := bl_alloc w (.cells (cellsC c vh vc vs) 30)
  go_enter Tryz.func26, Tryz.ntmps26
  go_wp2_with fail
  refine (HW0.out _).mono ?_
  rintro e w1 ⟨rfl, rfl⟩
  obtain ⟨W1, hW1⟩ : ∃ W1, W1 = w.alloc (.cells (cellsC c vh vc vs) 30) := ⟨_, rfl⟩
  go_wp2
  rw [← hW1] at bX hB0 HC ⊢
  have hxl : w.heap.size < W1.heap.size := by rw [hW1]; simp
  clear hW1
  go_loopw [10] (fun i wr => ∃ j : Nat, j ≤ 1001 ∧ i = .int .i64 j ∧ Hid (F = (daysL (1001 - j) (d + (1) * (j : Int)) (1)).find? (fun x => !shutB c k x)) ∧ Below W1.heap.size W1 wr) (fun i _ => 1001 - (intOf i).toNat)
  case atStart => exact ⟨0, Nat.zero_le _, rfl, (by show _ = _; rw [HF.out]; simp), bl_refl _⟩
  case round =>
    obtain ⟨j, hj, rfl, hy, hbw⟩ := hrel
    have hBw := bl_trans hB0 hbw
    by_cases hlt : j ≤ 1000
    · have hwi := fun w => crwithin_any (d + (1) * (j : Int)) w
      have hstep := @find_stepup c k d j hlt
      have hyes : inD (d + (1) * (j : Int)) = true → openB c k (d + (1) * (j : Int)) = true → F = some (d + (1) * (j : Int)) := fun h1 h2 => by
        rw [hy.out, daysL_yes h1 (by omega), List.find?_cons, ← openB_shut h1, h2]
      have hnone : inD (d + (1) * (j : Int)) = false → F = none := fun h1 => by
        rw [hy.out, daysL_no h1]; rfl
      have ho := fun vh vc vs w hc => ropen_any c vh vc vs (d + (1) * (j : Int)) k w hc
      obtain ⟨x, hx⟩ : ∃ x, x = d + (1) * (j : Int) := ⟨_, rfl⟩
      rw [← hx] at hwi hstep hyes hnone ho hy
      have s2 : IntKind.i64.wrap (d + (j : Int)) = x := (IntWalk.i64_in _ (by omega)).trans (by omega)
      have xb : 0 ≤ x + 1000 ∧ x ≤ 3653058 := by omega
      obtain ⟨xb1, xb2⟩ := xb
      clear hx
      have HST := Lib.hid hstep; have HYS := Lib.hid hyes; have HNO := Lib.hid hnone
      clear hstep hyes hnone
      cases e1 : inD x
      · rw [e1] at hwi
        have HW := Lib.hid hwi
        have HF2 := Lib.hid (HNO.out e1)
        clear hwi ho e1 hy HST HYS HNO
        go_wp2_with fail
        refine (HW.out _).mono ?_
        rintro e w2 ⟨rfl, rfl⟩
        go_wp2
        go_ret2
        exact ⟨by rw [HV.out, HE.out, HF2.out]; rfl, hBw⟩
      · rw [e1] at hwi
        have HW := Lib.hid hwi
        obtain ⟨c0, c1, c2, c3, c4, c5, c6, c7, c8, c9, c10, c11⟩ := (bX.below hbw hxl).cal
        have hxw : w.heap.size < wr.heap.size := (bX.below hbw hxl).lt
        have HCW := Lib.hid (HC.out.below hbw)
        cases e2 : openB c k x
        · rw [e2] at ho
          have HO := Lib.hid ho
          have hst := HST.out e1 e2
          have hy2 : Hid (F = (daysL (1001 - (j + 1)) (d + (1) * ((j + 1 : Nat) : Int)) (1)).find? (fun x => !shutB c k x)) := by show _ = _; rw [hy.out, ← hst]
          clear hwi ho e1 e2 hy HST HYS HNO hst
          go_wp2_with fail
          refine (HW.out _).mono ?_
          rintro e w2 ⟨rfl, rfl⟩
          go_wp2_with fail
          refine (HO.out _ _ _ _ HCW.out).mono ?_
          rintro e w2 ⟨rfl, hb⟩
          go_wp2
          go_roundw
          case rel => exact ⟨j + 1, by omega, by go_num, hy2, bl_trans hbw hb⟩
          case measure => simp [intOf]; omega
        · rw [e2] at ho
          have HO := Lib.hid ho
          have HF2 := Lib.hid (HYS.out e1 e2)
          clear hwi ho e1 e2 hy HST HYS HNO
          go_wp2_with fail
          refine (HW.out _).mono ?_
          rintro e w2 ⟨rfl, rfl⟩
          go_wp2_with fail
          refine (HO.out _ _ _ _ HCW.out).mono ?_
          rintro e w2 ⟨rfl, hb⟩
          go_wp2
          go_ret2
          exact ⟨by rw [HV.out, HE.out, HF2.out]; first | rfl | simp, bl_trans hBw hb⟩
    · have hk9 : 1001 - j = 0 := by omega
      have HF2 : Hid (F = none) := by show _ = _; rw [hy.out, hk9]; rfl
      clear hy hk9
      go_wp2
      go_ret2
      exact ⟨by rw [HV.out, HE.out, HF2.out]; rfl, hBw⟩
theorem find_stepdn {c : Cal} {k d : Int} {j : Nat} (hj : j ≤ 1000) (h : inD (d + (-1) * (j : Int)) = true) (hs : openB c k (d + (-1) * (j : Int)) = false) : (daysL (1001 - j) (d + (-1) * (j : Int)) (-1)).find? (fun x => !shutB c k x) = (daysL (1001 - (j + 1)) (d + (-1) * ((j + 1 : Nat) : Int)) (-1)).find? (fun x => !shutB c k x) := by
  have h1 := openB_shut h (c := c) (k := k)
  rw [hs] at h1
  rw [daysL_yes h (by omega), List.find?_cons, ← h1]
  rw [show d + (-1) * (j : Int) + (-1) = d + (-1) * ((j + 1 : Nat) : Int) by omega, show 1001 - j - 1 = 1001 - (j + 1) by omega]
set_option maxRecDepth 100000 in
set_option maxHeartbeats 4000000 in
theorem rfind_dn (c : Cal) (vh vc vs : Value) (d k : Int) (w : World) (hc : CalIn w vh vc vs c) (hd : inD d = true) :
    Calls Tryz.prog 26 #[aggC c vh vc vs, .int .i64 d, .int .i64 k, .int .i64 (-1)] w (Ret (.tuple #[.int .i64 (fstV c k d (-1)), .int .i64 (fstE c k d (-1))]) w) := by
  have hv : fstV c k d (-1) = (fndO c k d (-1)).getD 0 := by unfold fstV; rw [if_pos hd]
  have he : fstE c k d (-1) = if (fndO c k d (-1)).isSome then 0 else 31 := by unfold fstE; rw [if_pos hd]
  have hf : fndO c k d (-1) = (daysL 1001 d (-1)).find? (fun x => !shutB c k x) := rfl
  obtain ⟨V, hV⟩ : ∃ V, V = fstV c k d (-1) := ⟨_, rfl⟩
  obtain ⟨E, hE⟩ : ∃ E, E = fstE c k d (-1) := ⟨_, rfl⟩
  rw [← hV] at hv ⊢
  rw [← hE] at he ⊢
  rw [hf] at hv he
  obtain ⟨F, hF⟩ : ∃ F, F = (daysL 1001 d (-1)).find? (fun x => !shutB c k x) := ⟨_, rfl⟩
  rw [← hF] at hv he
  obtain ⟨d1, d2⟩ := inD_iff.1 hd
  have hw0 : ∀ w, Calls Tryz.prog 25 #[.int .i64 d] w (Pur (.bool true) w) := fun w => by rw [← hd]; exact crwithin_any d w
  have HV := Lib.hid hv; have HE := Lib.hid he; have HF := Lib.hid hF; have HW0 := Lib.hid hw0; have HC := Lib.hid (hc.alloc (.cells (cellsC c vh vc vs) 30))
  clear hv he hf hV hE hF hw0 hd hc
  have bX := Blk.new w 30 (cellsC c vh vc vs)
  have hB0 := bl_alloc w (.cells (cellsC c vh vc vs) 30)
  go_enter Tryz.func26, Tryz.ntmps26
  go_wp2_with fail
  refine (HW0.out _).mono ?_
  rintro e w1 ⟨rfl, rfl⟩
  obtain ⟨W1, hW1⟩ : ∃ W1, W1 = w.alloc (.cells (cellsC c vh vc vs) 30) := ⟨_, rfl⟩
  go_wp2
  rw [← hW1] at bX hB0 HC ⊢
  have hxl : w.heap.size < W1.heap.size := by rw [hW1]; simp
  clear hW1
  go_loopw [10] (fun i wr => ∃ j : Nat, j ≤ 1001 ∧ i = .int .i64 j ∧ Hid (F = (daysL (1001 - j) (d + (-1) * (j : Int)) (-1)).find? (fun x => !shutB c k x)) ∧ Below W1.heap.size W1 wr) (fun i _ => 1001 - (intOf i).toNat)
  case atStart => exact ⟨0, Nat.zero_le _, rfl, (by show _ = _; rw [HF.out]; simp), bl_refl _⟩
  case round =>
    obtain ⟨j, hj, rfl, hy, hbw⟩ := hrel
    have hBw := bl_trans hB0 hbw
    by_cases hlt : j ≤ 1000
    · have hwi := fun w => crwithin_any (d + (-1) * (j : Int)) w
      have hstep := @find_stepdn c k d j hlt
      have hyes : inD (d + (-1) * (j : Int)) = true → openB c k (d + (-1) * (j : Int)) = true → F = some (d + (-1) * (j : Int)) := fun h1 h2 => by
        rw [hy.out, daysL_yes h1 (by omega), List.find?_cons, ← openB_shut h1, h2]
      have hnone : inD (d + (-1) * (j : Int)) = false → F = none := fun h1 => by
        rw [hy.out, daysL_no h1]; rfl
      have ho := fun vh vc vs w hc => ropen_any c vh vc vs (d + (-1) * (j : Int)) k w hc
      obtain ⟨x, hx⟩ : ∃ x, x = d + (-1) * (j : Int) := ⟨_, rfl⟩
      rw [← hx] at hwi hstep hyes hnone ho hy
      have s2 : IntKind.i64.wrap (d + -(j : Int)) = x := (IntWalk.i64_in _ (by omega)).trans (by omega)
      have xb : 0 ≤ x + 1000 ∧ x ≤ 3653058 := by omega
      obtain ⟨xb1, xb2⟩ := xb
      clear hx
      have HST := Lib.hid hstep; have HYS := Lib.hid hyes; have HNO := Lib.hid hnone
      clear hstep hyes hnone
      cases e1 : inD x
      · rw [e1] at hwi
        have HW := Lib.hid hwi
        have HF2 := Lib.hid (HNO.out e1)
        clear hwi ho e1 hy HST HYS HNO
        go_wp2_with fail
        refine (HW.out _).mono ?_
        rintro e w2 ⟨rfl, rfl⟩
        go_wp2
        go_ret2
        exact ⟨by rw [HV.out, HE.out, HF2.out]; rfl, hBw⟩
      · rw [e1] at hwi
        have HW := Lib.hid hwi
        obtain ⟨c0, c1, c2, c3, c4, c5, c6, c7, c8, c9, c10, c11⟩ := (bX.below hbw hxl).cal
        have hxw : w.heap.size < wr.heap.size := (bX.below hbw hxl).lt
        have HCW := Lib.hid (HC.out.below hbw)
        cases e2 : openB c k x
        · rw [e2] at ho
          have HO := Lib.hid ho
          have hst := HST.out e1 e2
          have hy2 : Hid (F = (daysL (1001 - (j + 1)) (d + (-1) * ((j + 1 : Nat) : Int)) (-1)).find? (fun x => !shutB c k x)) := by show _ = _; rw [hy.out, ← hst]
          clear hwi ho e1 e2 hy HST HYS HNO hst
          go_wp2_with fail
          refine (HW.out _).mono ?_
          rintro e w2 ⟨rfl, rfl⟩
          go_wp2_with fail
          refine (HO.out _ _ _ _ HCW.out).mono ?_
          rintro e w2 ⟨rfl, hb⟩
          go_wp2
          go_roundw
          case rel => exact ⟨j + 1, by omega, by go_num, hy2, bl_trans hbw hb⟩
          case measure => simp [intOf]; omega
        · rw [e2] at ho
          have HO := Lib.hid ho
          have HF2 := Lib.hid (HYS.out e1 e2)
          clear hwi ho e1 e2 hy HST HYS HNO
          go_wp2_with fail
          refine (HW.out _).mono ?_
          rintro e w2 ⟨rfl, rfl⟩
          go_wp2_with fail
          refine (HO.out _ _ _ _ HCW.out).mono ?_
          rintro e w2 ⟨rfl, hb⟩
          go_wp2
          go_ret2
          exact ⟨by rw [HV.out, HE.out, HF2.out]; first | rfl | simp, bl_trans hBw hb⟩
    · have hk9 : 1001 - j = 0 := by omega
      have HF2 : Hid (F = none) := by show _ = _; rw [hy.out, hk9]; rfl
      clear hy hk9
      go_wp2
      go_ret2
      exact ⟨by rw [HV.out, HE.out, HF2.out]; rfl, hBw⟩
theorem rfind_no (c : Cal) (vh vc vs : Value) (d k s : Int) (w : World) (hd : inD d = false) :
    Calls Tryz.prog 26 #[aggC c vh vc vs, .int .i64 d, .int .i64 k, .int .i64 s] w (Ret (.tuple #[.int .i64 0, .int .i64 5]) w) := by
  have hw0 : ∀ w, Calls Tryz.prog 25 #[.int .i64 d] w (Pur (.bool false) w) := fun w => by rw [← hd]; exact crwithin_any d w
  have HW0 := Lib.hid hw0
  clear hw0 hd
  go_enter Tryz.func26, Tryz.ntmps26
  go_wp2_with fail
  refine (HW0.out _).mono ?_
  rintro e w1 ⟨rfl, rfl⟩
  go_wp2
  go_ret2
  exact ⟨rfl, bl_alloc _ _⟩
theorem rfind_any (c : Cal) (vh vc vs : Value) (d k s : Int) (w : World) (hc : CalIn w vh vc vs c) (hs : s = 1 ∨ s = -1) :
    Calls Tryz.prog 26 #[aggC c vh vc vs, .int .i64 d, .int .i64 k, .int .i64 s] w (Ret (.tuple #[.int .i64 (fstV c k d s), .int .i64 (fstE c k d s)]) w) := by
  cases hd : inD d
  · have e1 : fstV c k d s = 0 := by unfold fstV; rw [if_neg (by simp [hd])]
    have e2 : fstE c k d s = 5 := by unfold fstE; rw [if_neg (by simp [hd])]
    rw [e1, e2]; exact rfind_no c vh vc vs d k s w hd
  · rcases hs with rfl | rfl
    · exact rfind_up c vh vc vs d k w hc hd
    · exact rfind_dn c vh vc vs d k w hc hd
set_option maxHeartbeats 1000000 in
theorem rnext_any (c : Cal) (vh vc vs : Value) (d k : Int) (w : World) (hc : CalIn w vh vc vs c) :
    Calls Tryz.prog 31 #[aggC c vh vc vs, .int .i64 d, .int .i64 k] w (Ret (.tuple #[.int .i64 (fstV c k d 1), .int .i64 (fstE c k d 1)]) w) := by
  have hf := fun w hc => rfind_any c vh vc vs d k 1 w hc (.inl rfl)
  generalize fstV c k d 1 = v at *
  generalize fstE c k d 1 = e0 at *
  have HF := Lib.hid hf; have HC := Lib.hid hc; clear hf hc
  go_enter Tryz.func31, Tryz.ntmps31
  go_wp2_with fail
  refine (HF.out _ (HC.out.alloc _)).mono ?_
  rintro e w1 ⟨rfl, hb⟩
  go_wp2
  go_ret2
  exact ⟨rfl, bl_trans (bl_alloc _ _) hb⟩
end Go.Proofs.YtiilljcnikgeaaaGreatDoor
