/- The walks of Filed and Last. Conditions: the calendar lies in memory, its rules and its zone are valid; the listed tables lie in memory; bounds. -/
import Derived.Test.YtiilljcnikgeaaaDoorCFirst
import Derived.Test.YtiilljcnikgeaaaDoorZBx
namespace Go.Proofs.YtiilljcnikgeaaaDoor
open Go.RowKit

/-- the local time at an instant -/
def locT (c : Cal) (t : Int) : Int := t + offS (segsOf c.o c.sh) t
/-- the day on which a paper counts as filed -/
def filV (c : Cal) (t k : Int) : Int := if locT c t % 1440 ≤ c.hr ∧ openB c k (locT c t / 1440) = true then locT c t / 1440 else fstV c k (locT c t / 1440 + 1) 1
def filE (c : Cal) (t k : Int) : Int := if locT c t % 1440 ≤ c.hr ∧ openB c k (locT c t / 1440) = true then 0 else fstE c k (locT c t / 1440 + 1) 1
theorem Blk.cal {w : World} {g t : Nat} {c : Cal} {vh vc vs : Value} (b : Blk w g t (cellsC c vh vc vs)) : w.cell? ⟨g, 0, none⟩ = some (.bool (c.we 0)) ∧ w.cell? ⟨g, 1, none⟩ = some (.bool (c.we 1)) ∧ w.cell? ⟨g, 2, none⟩ = some (.bool (c.we 2)) ∧ w.cell? ⟨g, 3, none⟩ = some (.bool (c.we 3)) ∧ w.cell? ⟨g, 4, none⟩ = some (.bool (c.we 4)) ∧ w.cell? ⟨g, 5, none⟩ = some (.bool (c.we 5)) ∧ w.cell? ⟨g, 6, none⟩ = some (.bool (c.we 6)) ∧ w.cell? ⟨g, 7, none⟩ = some vh ∧ w.cell? ⟨g, 8, none⟩ = some vc ∧ w.cell? ⟨g, 9, none⟩ = some (.int .i64 c.o) ∧ w.cell? ⟨g, 10, none⟩ = some vs ∧ w.cell? ⟨g, 11, none⟩ = some (.int .i64 c.hr) :=
  ⟨b.cell 0, b.cell 1, b.cell 2, b.cell 3, b.cell 4, b.cell 5, b.cell 6, b.cell 7, b.cell 8, b.cell 9, b.cell 10, b.cell 11⟩
set_option maxRecDepth 100000 in
set_option maxHeartbeats 4000000 in
theorem filed_any (c : Cal) (vh vc vs : Value) (t k : Int) (w : World) (hG : GoodH w) (hc : CalIn w vh vc vs c) (h1 : -4000000000000000 ≤ locT c t) (h2 : locT c t ≤ 4000000000000000) :
    Calls Tryd.prog 17 #[aggC c vh vc vs, .int .i64 t, .int .i64 k] w (Ret (.tuple #[.int .i64 (filV c t k), .int .i64 (filE c t k)]) w) := by
  have hl : ∀ w, IsSh w vs c.sh → Calls Tryd.prog 16 #[.agg #[.int .i64 c.o, vs], .int .i64 t] w (Ret (.tuple #[.int .i64 (locT c t / 1440), .int .i64 (locT c t % 1440)]) w) := fun w hI => zlocal_any c.o t vs c.sh w hI h1 h2
  have hv : filV c t k = if locT c t % 1440 ≤ c.hr ∧ openB c k (locT c t / 1440) = true then locT c t / 1440 else fstV c k (locT c t / 1440 + 1) 1 := rfl
  have he : filE c t k = if locT c t % 1440 ≤ c.hr ∧ openB c k (locT c t / 1440) = true then 0 else fstE c k (locT c t / 1440 + 1) 1 := rfl
  have ho := fun w hG hc => open_any c vh vc vs (locT c t / 1440) k w hG hc
  have hn := fun w hG hc => next_any c vh vc vs (locT c t / 1440 + 1) k w hG hc
  have q1 : -4000000000000000 ≤ locT c t / 1440 := by omega
  have q2 : locT c t / 1440 ≤ 4000000000000000 := by omega
  have HV := Lib.hid hv; have HE := Lib.hid he; have HO := Lib.hid ho; have HN := Lib.hid hn; have HL := Lib.hid hl; have HC := Lib.hid hc
  clear hl hv he ho hn hc h1 h2
  generalize filV c t k = V at *
  generalize filE c t k = E at *
  generalize locT c t / 1440 = q at *
  generalize locT c t % 1440 = r at *
  generalize fstV c k (q + 1) 1 = nv at *
  generalize fstE c k (q + 1) 1 = ne at *
  generalize openB c k q = ob at *
  have bX := Blk.new w 30 (cellsC c vh vc vs)
  have hB0 := bl_alloc w (.cells (cellsC c vh vc vs) 30)
  by_cases hr : r ≤ c.hr
  · cases ob
    · have HV2 : Hid (V = nv) := by show _ = _; rw [HV.out, if_neg (by simp)]
      have HE2 : Hid (E = ne) := by show _ = _; rw [HE.out, if_neg (by simp)]
      clear HV HE
      go_enter Tryd.func17, Tryd.ntmps17
      go_wp2_with fail
      refine (HL.out _ (HC.out.below hB0).is).mono ?_
      rintro e w1 ⟨rfl, hb1⟩
      have hB1 := bl_trans hB0 hb1
      have bX1 := bX.below hb1 (by simp)
      obtain ⟨c0, c1, c2, c3, c4, c5, c6, c7, c8, c9, c10, c11⟩ := bX1.cal
      go_wp2_with fail
      refine (HO.out _ (hG.below hB1) (HC.out.below hB1)).mono ?_
      rintro e w2 ⟨rfl, hb2⟩
      have hB2 := bl_trans hB1 hb2
      have bX2 := bX1.below hb2 bX1.lt
      clear c0 c1 c2 c3 c4 c5 c6 c7 c8 c9 c10 c11
      obtain ⟨c0, c1, c2, c3, c4, c5, c6, c7, c8, c9, c10, c11⟩ := bX2.cal
      go_wp2_with fail
      refine (HN.out _ (hG.below hB2) (HC.out.below hB2)).mono ?_
      rintro e w3 ⟨rfl, hb3⟩
      go_wp2
      go_ret2
      exact ⟨ret_ie HV2.out.symm HE2.out.symm, bl_trans hB2 hb3⟩
    · have HV2 : Hid (V = q) := by show _ = _; rw [HV.out, if_pos ⟨hr, rfl⟩]
      have HE2 : Hid (E = 0) := by show _ = _; rw [HE.out, if_pos ⟨hr, rfl⟩]
      clear HV HE
      go_enter Tryd.func17, Tryd.ntmps17
      go_wp2_with fail
      refine (HL.out _ (HC.out.below hB0).is).mono ?_
      rintro e w1 ⟨rfl, hb1⟩
      have hB1 := bl_trans hB0 hb1
      have bX1 := bX.below hb1 (by simp)
      obtain ⟨c0, c1, c2, c3, c4, c5, c6, c7, c8, c9, c10, c11⟩ := bX1.cal
      go_wp2_with fail
      refine (HO.out _ (hG.below hB1) (HC.out.below hB1)).mono ?_
      rintro e w2 ⟨rfl, hb2⟩
      go_wp2
      go_ret2
      exact ⟨ret_ie HV2.out.symm HE2.out.symm, bl_trans hB1 hb2⟩
  · have HV2 : Hid (V = nv) := by show _ = _; rw [HV.out, if_neg (fun h => hr h.1)]
    have HE2 : Hid (E = ne) := by show _ = _; rw [HE.out, if_neg (fun h => hr h.1)]
    have e1 : decide (r ≤ c.hr) = false := decide_eq_false hr
    clear HV HE
    go_enter Tryd.func17, Tryd.ntmps17
    go_wp2_with fail
    refine (HL.out _ (HC.out.below hB0).is).mono ?_
    rintro e w1 ⟨rfl, hb1⟩
    have hB1 := bl_trans hB0 hb1
    have bX1 := bX.below hb1 (by simp)
    obtain ⟨c0, c1, c2, c3, c4, c5, c6, c7, c8, c9, c10, c11⟩ := bX1.cal
    go_wp2_with fail
    refine (HN.out _ (hG.below hB1) (HC.out.below hB1)).mono ?_
    rintro e w3 ⟨rfl, hb3⟩
    go_wp2
    go_ret2
    exact ⟨ret_ie HV2.out.symm HE2.out.symm, bl_trans hB1 hb3⟩
/-- the last instant of a day at which papers are taken -/
def lasV (c : Cal) (d : Int) : Int := if ins c.o c.sh (d * 1440 + c.hr) = [] then res true c.o c.sh (d * 1440 + c.hr) - 1 else res true c.o c.sh (d * 1440 + c.hr)
theorem res_cons {o n : Int} {l : Sh} {x : Int} {r : List Int} (h : ins o l n = x :: r) : res true o l n = (x :: r).getLast (by simp) := by
  unfold res; rw [h]; rfl
theorem resR_bd (n : Int) : ∀ {l : Sh} {f b : Int}, -2880 ≤ f → chain f l → 0 ≤ resR n b l ∧ resR n b l ≤ 8589934592
  | [], _, _, _, _ => by show (0 : Int) ≤ 0 ∧ (0 : Int) ≤ 8589934592; omega
  | (a, o) :: l, f, b, hf, h => by
    have ih := resR_bd n (l := l) (f := a) (b := o) (by have := h.1; omega) h.2.2.2.2
    show 0 ≤ (if a + b ≤ n ∧ n < a + o then a else resR n o l) ∧ (if a + b ≤ n ∧ n < a + o then a else resR n o l) ≤ 8589934592
    have h1 := h.1
    have h2 := h.2.1
    split
    · omega
    · exact ih
set_option maxRecDepth 100000 in
set_option maxHeartbeats 4000000 in
theorem last_any (c : Cal) (vh vc vs : Value) (d : Int) (w : World) (hc : CalIn w vh vc vs c) (hok : Ok c.o c.sh) (hlen : c.sh.length ≤ 1000000000) (hd1 : -100000000 ≤ d) (hd2 : d ≤ 100000000) (hr1 : 0 ≤ c.hr) (hr2 : c.hr < 1440) :
    Calls Tryd.prog 15 #[aggC c vh vc vs, .int .i64 d] w (Ret (.int .i64 (lasV c d)) w) := by
  have hi := fun w hI => zinst_in c.o d c.hr vs c.sh w hI hok (by omega) (by omega) hr1 hr2 hlen
  have hre := fun w hI => zres_any c.o d c.hr true vs c.sh w hI hok (by omega) (by omega) hr1 hr2 hlen
  have hl : (ins c.o c.sh (d * 1440 + c.hr)).length ≤ 2 := ins_len hok.ch ⟨hok.1, hok.2.1⟩
  have hv : lasV c d = if ins c.o c.sh (d * 1440 + c.hr) = [] then res true c.o c.sh (d * 1440 + c.hr) - 1 else res true c.o c.sh (d * 1440 + c.hr) := rfl
  have hrn : ins c.o c.sh (d * 1440 + c.hr) = [] → res true c.o c.sh (d * 1440 + c.hr) = resR (d * 1440 + c.hr) c.o c.sh := fun e => by unfold res; rw [e]
  have hrb := resR_bd (d * 1440 + c.hr) (b := c.o) (by omega) hok.2.2
  have hrc := fun x r => @res_cons c.o (d * 1440 + c.hr) c.sh x r
  generalize lasV c d = V at *
  generalize res true c.o c.sh (d * 1440 + c.hr) = R at *
  generalize resR (d * 1440 + c.hr) c.o c.sh = RR at *
  generalize ins c.o c.sh (d * 1440 + c.hr) = L at *
  have HI := Lib.hid hi; have HR := Lib.hid hre; have HV := Lib.hid hv; have HC := Lib.hid hc; have HRN := Lib.hid hrn; have HRC := Lib.hid hrc; have HRB := Lib.hid hrb
  clear hi hre hv hc hrn hrc hrb hok
  have bX := Blk.new w 30 (cellsC c vh vc vs)
  have hB0 := bl_alloc w (.cells (cellsC c vh vc vs) 30)
  match L, hl with
  | [], _ =>
    have hR : R = RR := HRN.out rfl
    have hb := HRB.out
    have HV2 : Hid (V = R - 1) := by show _ = _; rw [HV.out, if_pos rfl]
    have r1 : 0 ≤ R := by omega
    have r2 : R ≤ 8589934592 := by omega
    clear HV hR hb HRN HRC HRB
    go_enter Tryd.func15, Tryd.ntmps15
    go_wp2_with fail
    refine (HI.out _ (HC.out.below hB0).is).mono ?_
    rintro e w1 ⟨lv, rfl, hrow, hb1⟩
    obtain ⟨la, lc, rfl⟩ := row_slice hrow
    have hB1 := bl_trans hB0 hb1
    have bX1 := bX.below hb1 (by simp)
    obtain ⟨c0, c1, c2, c3, c4, c5, c6, c7, c8, c9, c10, c11⟩ := bX1.cal
    clear hrow
    go_wp2_with fail
    refine (HR.out _ (HC.out.below hB1).is).mono ?_
    rintro e w2 ⟨rfl, hb2⟩
    go_wp2
    go_ret
    exact ⟨ret_int HV2.out.symm, bl_trans hB1 hb2⟩
  | [x], _ =>
    have HV2 : Hid (V = x) := by show _ = _; rw [HV.out, if_neg (by simp)]; exact HRC.out x [] rfl
    clear HV HRN HRC HRB HR
    go_enter Tryd.func15, Tryd.ntmps15
    go_wp2_with fail
    refine (HI.out _ (HC.out.below hB0).is).mono ?_
    rintro e w1 ⟨lv, rfl, hrow, hb1⟩
    obtain ⟨g, cap', rfl⟩ := ownsRow_succ hrow
    have h0 : w1.cell? ⟨g, 0, none⟩ = some (.int .i64 x) := by have := hrow.cellAt 0 (by simp); simpa using this
    have hB1 := bl_trans hB0 hb1
    clear hrow
    go_wp2_with fail
    go_ret
    exact ⟨ret_int HV2.out.symm, hB1⟩
  | [x, y], _ =>
    have HV2 : Hid (V = y) := by show _ = _; rw [HV.out, if_neg (by simp)]; exact HRC.out x [y] rfl
    clear HV HRN HRC HRB HR
    go_enter Tryd.func15, Tryd.ntmps15
    go_wp2_with fail
    refine (HI.out _ (HC.out.below hB0).is).mono ?_
    rintro e w1 ⟨lv, rfl, hrow, hb1⟩
    obtain ⟨g, cap', rfl⟩ := ownsRow_succ hrow
    have h1 : w1.cell? ⟨g, 1, none⟩ = some (.int .i64 y) := by have := hrow.cellAt 1 (by simp); simpa using this
    have hB1 := bl_trans hB0 hb1
    clear hrow
    go_wp2_with fail
    go_ret
    exact ⟨ret_int HV2.out.symm, hB1⟩
  | _ :: _ :: _ :: _, h => exact absurd h (by simp)
end Go.Proofs.YtiilljcnikgeaaaDoor
