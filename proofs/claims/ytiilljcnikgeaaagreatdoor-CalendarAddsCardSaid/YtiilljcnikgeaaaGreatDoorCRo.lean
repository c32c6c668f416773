/- The walks of the reference's closed, Open. Conditions: the calendar lies in memory, its rules and its zone are valid; bounds. -/
import Derived.Test.YtiilljcnikgeaaaGreatDoorCAdd
import Derived.Test.YtiilljcnikgeaaaGreatDoorCFiled
import Derived.Test.YtiilljcnikgeaaaGreatDoorHRIs
namespace Go.Proofs.YtiilljcnikgeaaaGreatDoor
open Go.RowKit

set_option maxRecDepth 100000 in
set_option maxHeartbeats 4000000 in
theorem rclosed_any (c : Cal) (vh vc vs : Value) (d k : Int) (w : World) (hc : CalIn w vh vc vs c) :
    Calls Tryz.prog 37 #[aggC c vh vc vs, .int .i64 d, .int .i64 k] w (Ret (.bool (closB c.cl k d)) w) := by
  obtain ⟨pa, cap, rfl, hm, hcl⟩ := hc.ic.open
  unfold maxLen at hm
  have HCL := Lib.hid hcl
  clear hcl hc
  have bX := Blk.new w 30 (cellsC c vh (.slice pa c.cl.length cap) vs)
  have hB0 := bl_alloc w (.cells (cellsC c vh (.slice pa c.cl.length cap) vs) 30)
  go_enter Tryz.func37, Tryz.ntmps37
  go_wp2
  obtain ⟨W1, hW1⟩ : ∃ W1, W1 = w.alloc (.cells (cellsC c vh (.slice pa c.cl.length cap) vs) 30) := ⟨_, rfl⟩
  rw [← hW1] at bX hB0 ⊢
  clear hW1
  have hbz := hB0.size
  have hxl := bX.lt
  go_loopw [7, 8] (fun i _ wr => ∃ j : Nat, j ≤ c.cl.length ∧ i = .int .i64 j ∧ Hid (closB (c.cl.take j) k d = false) ∧ Below W1.heap.size W1 wr) (fun i _ _ => c.cl.length - (intOf i).toNat)
  case atStart => exact ⟨0, Nat.zero_le _, rfl, rfl, bl_refl _⟩
  case round =>
    obtain ⟨j, hj, rfl, hn, hbw⟩ := hrel
    have hBw := bl_trans hB0 hbw
    have b8 := (bX.below hbw hxl).cell 8
    have hxw : w.heap.size < wr.heap.size := (bX.below hbw hxl).lt
    simp at b8
    by_cases hlt : j < c.cl.length
    · obtain ⟨x, hx⟩ : ∃ x, c.cl[j]? = some x := ⟨_, List.getElem?_eq_getElem hlt⟩
      obtain ⟨b, off, rfl, hbl, hcc⟩ := HCL.out (by omega)
      have hbl2 : b < wr.heap.size := Nat.lt_of_lt_of_le hbl hBw.size
      have hcw : ∀ j x, c.cl[j]? = some x → ∀ i u, (encC x)[i]? = some u → wr.cell? ⟨b, off + j * 3 + i, none⟩ = some u := fun j x hx i u hu => (hBw.cell (p := ⟨b, off + j * 3 + i, none⟩) hbl).trans (hcc j x hx i u hu)
      obtain ⟨c0, c1, c2⟩ := IsClos.at hcw hx
      have htk := closB_take (k := k) (d := d) hx
      rw [hn.out, Bool.false_or] at htk
      have hany : cloB k d x = true → closB c.cl k d = true := fun h => by
        unfold closB; exact List.any_eq_true.2 ⟨x, List.mem_of_getElem? hx, h⟩
      have hcb : cloB k d x = (decide (x.kn ≤ k) && (decide (x.fr ≤ d) && decide (d ≤ x.un))) := rfl
      have HT := Lib.hid htk; have HA := Lib.hid hany; have HCB := Lib.hid hcb
      clear hx hcw htk hany hcb hcc
      go_upto_region 5 with (fail)
      have bL := Blk.new wr 48 #[.int .i64 x.fr, .int .i64 x.un, .int .i64 x.kn]
      have hbw2 := bl_trans hbw (bl_alloc wr (.cells #[.int .i64 x.fr, .int .i64 x.un, .int .i64 x.kn] 48))
      obtain ⟨B, hB⟩ : ∃ B, B = wr.heap.size := ⟨_, rfl⟩
      rw [← hB] at bL ⊢
      obtain ⟨W2, hW2⟩ : ∃ W2, W2 = wr.alloc (.cells #[.int .i64 x.fr, .int .i64 x.un, .int .i64 x.kn] 48) := ⟨_, rfl⟩
      rw [← hW2] at bL hbw2 ⊢
      have x0 := bL.cell 0
      have x1 := bL.cell 1
      have x2 := bL.cell 2
      simp at x0 x1 x2
      clear hB hW2 c0 c1 c2 b8
      have hno : ∀ h : cloB k d x = false, Hid (closB (c.cl.take (j + 1)) k d = false) := fun h => by rw [h] at HT; exact HT.out
      by_cases g1 : x.kn ≤ k
      · have e1 : decide (x.kn ≤ k) = true := decide_eq_true g1
        by_cases g2 : x.fr ≤ d
        · have e2 : decide (x.fr ≤ d) = true := decide_eq_true g2
          by_cases g3 : d ≤ x.un
          · have e3 : decide (d ≤ x.un) = true := decide_eq_true g3
            have HY := Lib.hid (HA.out (by rw [HCB.out, e1, e2, e3]; rfl))
            clear hno
            go_wp2
            go_ret
            exact ⟨ret_bool (by rw [HY.out]), bl_trans hB0 hbw2⟩
          · have e3 : decide (d ≤ x.un) = false := decide_eq_false g3
            have HN := Lib.hid (hno (by rw [HCB.out, e1, e2, e3]; rfl))
            clear hno
            go_wp2
            go_roundw
            case rel => exact ⟨j + 1, by omega, by go_num, HN.out, hbw2⟩
            case measure => simp [intOf]; omega
        · have e2 : decide (x.fr ≤ d) = false := decide_eq_false g2
          have HN := Lib.hid (hno (by rw [HCB.out, e1, e2]; rfl))
          clear hno
          go_wp2
          go_roundw
          case rel => exact ⟨j + 1, by omega, by go_num, HN.out, hbw2⟩
          case measure => simp [intOf]; omega
      · have e1 : decide (x.kn ≤ k) = false := decide_eq_false g1
        have HN := Lib.hid (hno (by rw [HCB.out, e1]; rfl))
        clear hno
        go_wp2
        go_roundw
        case rel => exact ⟨j + 1, by omega, by go_num, HN.out, hbw2⟩
        case measure => simp [intOf]; omega
    · obtain rfl : j = c.cl.length := by omega
      have hn0 := hn.out
      rw [List.take_length] at hn0
      have HN := Lib.hid hn0
      clear hn hn0
      go_wp2
      go_ret
      exact ⟨ret_bool (by rw [HN.out]), hBw⟩
set_option maxRecDepth 100000 in
set_option maxHeartbeats 4000000 in
theorem ropen_any (c : Cal) (vh vc vs : Value) (d k : Int) (w : World) (hc : CalIn w vh vc vs c) :
    Calls Tryz.prog 18 #[aggC c vh vc vs, .int .i64 d, .int .i64 k] w (Ret (.bool (openB c k d)) w) := by
  have hwi := fun w => crwithin_any d w
  have hwd : ∀ w, Calls Tryz.prog 36 #[.int .i64 d] w (Pur (.int .i64 (d % 7)) w) := fun w => rweekday_any d w
  have hcl := fun w hc => rclosed_any c vh vc vs d k w hc
  have his := fun w hh => ris_any vh d c.hs w hh hc.hl hc.hv
  have ho : openB c k d = (inD d && !(c.we (d % 7).toNat || (closB c.cl k d || isB c.hs d))) := rfl
  have bX := Blk.new w 30 (cellsC c vh vc vs)
  have hB0 := bl_alloc w (.cells (cellsC c vh vc vs) 30)
  have HC := Lib.hid (hc.alloc (.cells (cellsC c vh vc vs) 30))
  have bw := (bX.cell (d % 7).toNat).trans (we_cell c vh vc vs d)
  have q0 : 0 ≤ d % 7 := by omega
  have q1 : d % 7 < 7 := by omega
  generalize openB c k d = ob at *
  generalize closB c.cl k d = cb at *
  generalize isB c.hs d = ib at *
  generalize c.we (d % 7).toNat = wd at *
  generalize hq : d % 7 = q at *
  generalize inD d = di at *
  have HO := Lib.hid ho; have HW := Lib.hid hwi; have HD := Lib.hid hwd; have HCL := Lib.hid hcl; have HIS := Lib.hid his
  clear ho hwi hwd hcl his hc hq
  cases di
  · have hr : Hid (ob = false) := by show _ = _; rw [HO.out]; rfl
    clear HO bw
    go_enter Tryz.func18, Tryz.ntmps18
    go_wp2_with fail
    refine (HW.out _).mono ?_
    rintro e w1 ⟨rfl, rfl⟩
    go_wp2
    go_ret
    exact ⟨ret_bool hr.out.symm, hB0⟩
  · cases wd
    · obtain ⟨c0, c1, c2, c3, c4, c5, c6, c7, c8, c9, c10, c11⟩ := bX.cal
      cases cb
      · have hr : Hid (ob = !ib) := by show _ = _; rw [HO.out]; rfl
        clear HO
        go_enter Tryz.func18, Tryz.ntmps18
        go_wp2_with fail
        refine (HW.out _).mono ?_
        rintro e w1 ⟨rfl, rfl⟩
        go_wp2_with fail
        refine (HD.out _).mono ?_
        rintro e w1 ⟨rfl, rfl⟩
        go_wp2_with fail
        refine (HCL.out _ HC.out).mono ?_
        rintro e w1 ⟨rfl, hb⟩
        have hB1 := bl_trans hB0 hb
        have b7 := (bX.below hb bX.lt).cell 7
        simp at b7
        go_wp2_with fail
        refine (HIS.out _ (HC.out.below hb).ih).mono ?_
        rintro e w2 ⟨rfl, hb2⟩
        go_wp2
        go_ret
        exact ⟨ret_bool hr.out.symm, bl_trans hB1 hb2⟩
      · have hr : Hid (ob = false) := by show _ = _; rw [HO.out]; rfl
        clear HO
        go_enter Tryz.func18, Tryz.ntmps18
        go_wp2_with fail
        refine (HW.out _).mono ?_
        rintro e w1 ⟨rfl, rfl⟩
        go_wp2_with fail
        refine (HD.out _).mono ?_
        rintro e w1 ⟨rfl, rfl⟩
        go_wp2_with fail
        refine (HCL.out _ HC.out).mono ?_
        rintro e w1 ⟨rfl, hb⟩
        go_wp2
        go_ret
        exact ⟨ret_bool hr.out.symm, bl_trans hB0 hb⟩
    · have hr : Hid (ob = false) := by show _ = _; rw [HO.out]; rfl
      clear HO
      go_enter Tryz.func18, Tryz.ntmps18
      go_wp2_with fail
      refine (HW.out _).mono ?_
      rintro e w1 ⟨rfl, rfl⟩
      go_wp2_with fail
      refine (HD.out _).mono ?_
      rintro e w1 ⟨rfl, rfl⟩
      go_wp2
      go_ret
      exact ⟨ret_bool hr.out.symm, hB0⟩
end Go.Proofs.YtiilljcnikgeaaaGreatDoor
