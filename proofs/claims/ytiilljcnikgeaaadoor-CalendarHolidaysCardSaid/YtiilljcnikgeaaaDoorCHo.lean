/- The walk of the law CalendarHolidays: it returns true at every input. Conditions: the numbers are ints that lie in memory, the listed tables lie in memory. -/
import Derived.Test.YtiilljcnikgeaaaDoorCLvs
namespace Go.Proofs.YtiilljcnikgeaaaDoor
open Go.RowKit

theorem cnt_pos {p : Int → Bool} : ∀ {n : Nat} {d : Int} {i : Nat}, i < n → p (d + i) = true → 1 ≤ cnt p n d
  | 0, _, _, h, _ => absurd h (by omega)
  | n + 1, d, i, h, hp => by
    show 1 ≤ (if p d then 1 else 0) + cnt p n (d + 1)
    rcases Nat.eq_zero_or_pos i with g | g
    · subst g
      have : p d = true := by simpa using hp
      rw [if_pos this]; omega
    · have := cnt_pos (p := p) (n := n) (d := d + 1) (i := i - 1) (by omega) (by rw [← hp]; congr 1; omega)
      omega
theorem hol_shut {c : Cal} (h : Reg c 18) {k d a b : Int} (hm : d ∈ btw c.hs a b) : openB c k d = false := by
  have h1 := (isB_iff h.hv).2 ((btw_iff h.hv).1 hm).2
  unfold openB shutB
  rw [h1]; simp
theorem we_shut {c : Cal} {k d : Int} (h : c.we (d % 7).toNat = true) : openB c k d = false := by
  unfold openB shutB
  rw [h]; simp
theorem seven {c : Cal} (h : Reg c 18) (hk : ∀ x, x ∈ c.cl → 1 ≤ x.kn) {d : Int} (d1 : 700000 ≤ d) (d2 : d ≤ 800000) (hb : btw c.hs d (d + 6) = []) : 1 ≤ cntV c 0 d (d + 6) := by
  obtain ⟨i, hi, e⟩ : ∃ i : Nat, i < 7 ∧ (d + i) % 7 = 1 := ⟨((8 - d % 7) % 7).toNat, by omega, by omega⟩
  have ho : openB c 0 (d + i) = true := by
    unfold openB shutB
    have e1 : ((d + (i : Int)) % 7).toNat = 1 := by omega
    have e2 : closB c.cl 0 (d + i) = false := by
      unfold closB
      rw [List.any_eq_false]
      intro x hx
      have := hk x hx
      have e3 : cloB 0 (d + i) x = false := by unfold cloB; rw [decide_eq_false (by omega)]; rfl
      rw [e3]; simp
    have e3 : isB c.hs (d + i) = false := by
      cases e4 : isB c.hs (d + i)
      · rfl
      · have := (btw_iff (f := d) (u := d + 6) h.hv).2 ⟨⟨by omega, by omega⟩, (isB_iff h.hv).1 e4⟩
        rw [hb] at this; cases this
    rw [inD_iff.2 (by omega), e1, h.w1, e2, e3]; rfl
  unfold cntV
  rw [cntN_cnt]
  have := cnt_pos (p := openB c 0) (n := (d + 6 - d + 1).toNat) (d := d) (i := i) (by omega) ho
  omega

set_option maxRecDepth 100000 in
set_option maxHeartbeats 8000000 in
theorem law_cholidays (v : Value) (zs : List Int) (n kn : Int) (w : World) (hI : IsIntsC w v zs) (hz : InR zs) (hG : GoodH w) (b0 : -9223372036854775808 ≤ n) (t0 : n ≤ 9223372036854775807) (b1 : -9223372036854775808 ≤ kn) (t1 : kn ≤ 9223372036854775807) :
    Calls Tryd.prog 7 #[v, .int .i64 n, .int .i64 kn] w (Ret (.bool true) w) := by
  have hck := cal_any v zs w hI hz
  have hpost := fun e w' h => @CalPost.in zs w e w' h
  have hreg := mkCal_reg zs
  have hok := mkCal_ok zs
  have hlen := mkCal_len zs
  have hhr := mkCal_hr zs
  have hkn : ∀ x, x ∈ (mkCal zs).cl → 1 ≤ x.kn := fun x hx => by have := cClos_bd zs (cN zs 9) x hx; omega
  generalize mkCal zs = c at *
  have HCK := Lib.hid hck; have HPOST := Lib.hid hpost; have HREG := Lib.hid hreg; have HOK := Lib.hid hok
  clear hck hpost hreg hok hI hz
  obtain ⟨d1, d2⟩ := dayL_bd n
  obtain ⟨k1, k2⟩ := dayL_bd kn
  have hd := fun w => lday_any n w b0 t0
  have hk := fun w => lday_any kn w b1 t1
  generalize dayL n = d at *
  generalize dayL kn = k at *
  have hsev := seven HREG.out hkn (d := d) (by omega) (by omega)
  have hb1 := fun vh w hG hv => btw_any vh d (d + 60) c.hs w hG hv (by have := HREG.out.hl; omega) HREG.out.hv
  have hb2 := fun vh w hG hv => btw_any vh d (d + 6) c.hs w hG hv (by have := HREG.out.hl; omega) HREG.out.hv
  have hl1 := btw_len c.hs d (d + 60) (by have := HREG.out.hl; omega)
  have hl2 := btw_len c.hs d (d + 6) (by have := HREG.out.hl; omega)
  have hm := fun x hx => @hol_shut c HREG.out k x d (d + 60) hx
  have hir : ∀ x, x ∈ btw c.hs d (d + 60) → 0 ≤ x ∧ x ≤ 4000000 := fun x hx => by have := ((btw_iff HREG.out.hv).1 hx).1; omega
  have m1 := fun x vh vc vs w hG hc => open_any c vh vc vs x k w hG hc
  have m2 := fun vh vc vs w hG hc => count_any c vh vc vs d (d + 6) 0 w hG hc (by omega) (by omega) (by omega) (by omega)
  generalize btw c.hs d (d + 60) = L at *
  generalize btw c.hs d (d + 6) = L2 at *
  generalize cntV c 0 d (d + 6) = cn at *
  have HD := Lib.hid hd; have HK := Lib.hid hk; have HS := Lib.hid hsev; have HB1 := Lib.hid hb1; have HB2 := Lib.hid hb2; have HM := Lib.hid hm; have HIR := Lib.hid hir; have M1 := Lib.hid m1; have M2 := Lib.hid m2
  have HL1 : Hid (L.length ≤ maxLen) := by show _ ≤ _; unfold maxLen; omega
  have HL2 : Hid (L2.length ≤ maxLen) := by show _ ≤ _; unfold maxLen; omega
  clear hd hk hsev hb1 hb2 hm hir m1 m2 hkn hhr
  go_enter Tryd.func7, Tryd.ntmps7
  go_wp2_with fail
  refine HCK.out.mono ?_
  intro e w1 hp
  obtain ⟨vh, vc, vs, rfl, hc, ⟨hr1, hr2⟩, hb1⟩ := HPOST.out _ _ hp
  clear hp
  obtain ⟨ha, hcp, rfl⟩ := row_slice hr1
  obtain ⟨ca, ccp, rfl⟩ := row_slice hr2
  obtain ⟨sa, scp, rfl, hsl⟩ := hc.is.slice
  have bX := Blk.new w1 30 (cellsC c (.slice ha c.hs.length hcp) (.slice ca c.cl.length ccp) (.slice sa c.sh.length scp))
  have hB := bl_trans hb1 (bl_alloc w1 (.cells (cellsC c (.slice ha c.hs.length hcp) (.slice ca c.cl.length ccp) (.slice sa c.sh.length scp)) 30))
  have HC := Lib.hid (hc.alloc (.cells (cellsC c (.slice ha c.hs.length hcp) (.slice ca c.cl.length ccp) (.slice sa c.sh.length scp)) 30))
  go_wp2_with fail
  obtain ⟨X, hX⟩ : ∃ X, X = w1.heap.size := ⟨_, rfl⟩
  rw [← hX] at bX ⊢
  clear hX hc hr1 hr2 hb1
  obtain ⟨V0, hV0⟩ : ∃ V0, w1.alloc (.cells (cellsC c (.slice ha c.hs.length hcp) (.slice ca c.cl.length ccp) (.slice sa c.sh.length scp)) 30) = V0 := ⟨_, rfl⟩
  rw [hV0] at bX hB HC ⊢
  clear hV0 w1
  obtain ⟨c0, c1, c2, c3, c4, c5, c6, c7, c8, c9, c10, c11⟩ := bX.cal
  refine (HD.out _).mono ?_
  rintro e q ⟨rfl, rfl⟩
  go_wp2_with fail
  refine (HB1.out _ _ (hG.below hB) HC.out.ih).mono ?_
  intro e v1 hp
  obtain ⟨pb, cb, rfl, hX1, hb⟩ := BtwPost.zs hp HL1.out
  have bY := bX.below hb bX.lt
  have hB2 := bl_trans hB hb
  have HC2 := Lib.hid (HC.out.below hb)
  clear c0 c1 c2 c3 c4 c5 c6 c7 c8 c9 c10 c11 bX hB HC hb hp
  have bX := bY
  have hB := hB2
  have HC := HC2
  have HX1 := Lib.hid hX1
  clear bY hB2 HC2 hX1
  go_wp2
  go_loopw [10] (fun i wr => ∃ j : Nat, j ≤ L.length ∧ i = .int .i64 j ∧ Below v1.heap.size v1 wr) (fun i _ => L.length - (intOf i).toNat)
  case atStart => exact ⟨0, Nat.zero_le _, rfl, bl_refl _⟩
  case round =>
    obtain ⟨j, hj, rfl, hbw⟩ := hrel
    have bX1 := bX.below hbw bX.lt
    have hBw := bl_trans hB hbw
    have HCW := Lib.hid (HC.out.below hbw)
    have hlmx : L.length ≤ 300000 := hl1
    by_cases hlt : j < L.length
    · obtain ⟨x, hx⟩ : ∃ x, L[j]? = some x := ⟨_, List.getElem?_eq_getElem hlt⟩
      obtain ⟨bb, off, rfl, hlb, hcx⟩ : ∃ b off, pb = some ⟨b, off, none⟩ ∧ b < v1.heap.size ∧ v1.cell? ⟨b, off + j, none⟩ = some (.int .i64 x) := by
        rcases HX1.out with ⟨_, _, _, e⟩ | ⟨b, off, c', e, hlb, _, hc⟩
        · rw [e] at hlt; exact absurd hlt (by simp)
        · cases e
          refine ⟨b, off, rfl, hlb, ?_⟩
          have := hc j hlt
          rw [hx] at this
          exact this
      have hmem := List.mem_of_getElem? hx
      have hno := HM.out x hmem
      obtain ⟨r1, r2⟩ := HIR.out x hmem
      have mo := M1.out x
      rw [hno] at mo
      have MO := Lib.hid mo
      have xk : ∀ u : UpW wr, u.w.cell? ⟨bb, off + j, none⟩ = some (.int .i64 x) := fun u => ((bl_trans hbw u.h).cell (p := ⟨bb, off + j, none⟩) hlb).trans hcx
      have s1 : (0 : Int) ≤ (j : Int) := by omega
      have s2 : (j : Int) < L.length := by omega
      clear hx hmem hno mo hcx
      have bU : ∀ u : UpW wr, Blk u.w X 30 (cellsC c (.slice ha c.hs.length hcp) (.slice ca c.cl.length ccp) (.slice sa c.sh.length scp)) := fun u => bX1.below u.h bX1.lt
      have x0 : ∀ u : UpW wr, u.w.cell? ⟨X, 0, none⟩ = some (.bool (c.we 0)) := fun u => (bU u).cell 0
      have x1 : ∀ u : UpW wr, u.w.cell? ⟨X, 1, none⟩ = some (.bool (c.we 1)) := fun u => (bU u).cell 1
      have x2 : ∀ u : UpW wr, u.w.cell? ⟨X, 2, none⟩ = some (.bool (c.we 2)) := fun u => (bU u).cell 2
      have x3 : ∀ u : UpW wr, u.w.cell? ⟨X, 3, none⟩ = some (.bool (c.we 3)) := fun u => (bU u).cell 3
      have x4 : ∀ u : UpW wr, u.w.cell? ⟨X, 4, none⟩ = some (.bool (c.we 4)) := fun u => (bU u).cell 4
      have x5 : ∀ u : UpW wr, u.w.cell? ⟨X, 5, none⟩ = some (.bool (c.we 5)) := fun u => (bU u).cell 5
      have x6 : ∀ u : UpW wr, u.w.cell? ⟨X, 6, none⟩ = some (.bool (c.we 6)) := fun u => (bU u).cell 6
      have x7 : ∀ u : UpW wr, u.w.cell? ⟨X, 7, none⟩ = some (.slice ha c.hs.length hcp) := fun u => (bU u).cell 7
      have x8 : ∀ u : UpW wr, u.w.cell? ⟨X, 8, none⟩ = some (.slice ca c.cl.length ccp) := fun u => (bU u).cell 8
      have x9 : ∀ u : UpW wr, u.w.cell? ⟨X, 9, none⟩ = some (.int .i64 c.o) := fun u => (bU u).cell 9
      have x10 : ∀ u : UpW wr, u.w.cell? ⟨X, 10, none⟩ = some (.slice sa c.sh.length scp) := fun u => (bU u).cell 10
      have x11 : ∀ u : UpW wr, u.w.cell? ⟨X, 11, none⟩ = some (.int .i64 c.hr) := fun u => (bU u).cell 11
      have HU := Lib.hid bU
      clear bU
      go_wp2
      refine wp_region_up (by kernel_rfl) (by kernel_rfl) ?_
      repeat (go_big_quiet_step (fail))
      go_big_quiet_step (exact Ret.up (pur_ret (HK.out _)))
      repeat (go_big_quiet_step (fail))
      go_big_quiet_step (exact Ret.up (MO.out _ _ _ _ (hG.below (bl_trans hBw (UpW.h _))) (HCW.out.below (UpW.h _))))
      repeat (go_big_quiet_step (fail))
      refine wpQuiet_nil ?_
      rintro vr ⟨⟨_, hb⟩, rfl⟩
      clear x0 x1 x2 x3 x4 x5 x6 x7 x8 x9 x10 x11 xk HU
      go_wp2
      go_roundw
      case rel => exact ⟨j + 1, by omega, by go_num, bl_trans hbw hb⟩
      case measure => simp [intOf]; omega
    · have bY := bX1
      clear bX hB HC
      have bX := bY
      have hB := hBw
      have HC := HCW
      clear bY bX1 hBw HCW
      obtain ⟨wo, rfl⟩ : ∃ wo : World, wo = wr := ⟨_, rfl⟩
      go_wp2
      go_loopw [11] (fun i wr => ∃ m : Nat, m ≤ 14 ∧ i = .int .i64 m ∧ Below wo.heap.size wo wr) (fun i _ => 14 - (intOf i).toNat)
      case atStart => exact ⟨0, Nat.zero_le _, rfl, bl_refl _⟩
      case round =>
        obtain ⟨m, hm, rfl, hbw2⟩ := hrel
        obtain ⟨y, hy⟩ : ∃ y, y = d + (m : Int) := ⟨_, rfl⟩
        have y1 : 739000 ≤ y := by omega
        have y2 : y ≤ 740000 := by omega
        have bX1 := bX.below hbw2 bX.lt
        have hBw := bl_trans hB hbw2
        have HCW := Lib.hid (HC.out.below hbw2)
        by_cases hlt2 : m < 14
        · have q0 : 0 ≤ y % 7 := by omega
          have q1 : y % 7 < 7 := by omega
          have hwd : ∀ w, Calls Tryd.prog 25 #[.int .i64 y] w (Pur (.int .i64 (y % 7)) w) := fun w => weekday_any y w
          have har : ∀ w, Calls Tryd.prog 12 #[.int .i64 (y % 7), .int .i64 7] w (Pur (.int .i64 (y % 7)) w) := fun w => by
            have := around01 (y % 7) 7 w (by omega) (by omega) (by omega) (by omega)
            rw [show around (y % 7) 7 = y % 7 by unfold around; rw [if_neg (by omega)]; omega] at this
            exact this
          have hwe := fun h => @we_shut c k y h
          have hcw : ∀ u : UpW wr, u.w.cell? ⟨X, (y % 7).toNat, none⟩ = some (.bool (c.we (y % 7).toNat)) := fun u => ((bX1.below u.h bX1.lt).cell (y % 7).toNat).trans (we_cell c _ _ _ y)
          have mo := M1.out y
          have s1 : IntKind.i64.wrap (d + (m : Int)) = y := by rw [← hy]; exact IntWalk.i64_in _ (by omega)
          generalize y % 7 = q at *
          generalize c.we q.toNat = wq at *
          generalize openB c k y = oy at *
          have HWD := Lib.hid hwd; have HAR := Lib.hid har; have HWE := Lib.hid hwe; have HY := Lib.hid hy
          clear hwd har hwe hy
          cases wq
          · have MO := Lib.hid mo
            clear mo
            have bU : ∀ u : UpW wr, Blk u.w X 30 (cellsC c (.slice ha c.hs.length hcp) (.slice ca c.cl.length ccp) (.slice sa c.sh.length scp)) := fun u => bX1.below u.h bX1.lt
            have x0 : ∀ u : UpW wr, u.w.cell? ⟨X, 0, none⟩ = some (.bool (c.we 0)) := fun u => (bU u).cell 0
            have x1 : ∀ u : UpW wr, u.w.cell? ⟨X, 1, none⟩ = some (.bool (c.we 1)) := fun u => (bU u).cell 1
            have x2 : ∀ u : UpW wr, u.w.cell? ⟨X, 2, none⟩ = some (.bool (c.we 2)) := fun u => (bU u).cell 2
            have x3 : ∀ u : UpW wr, u.w.cell? ⟨X, 3, none⟩ = some (.bool (c.we 3)) := fun u => (bU u).cell 3
            have x4 : ∀ u : UpW wr, u.w.cell? ⟨X, 4, none⟩ = some (.bool (c.we 4)) := fun u => (bU u).cell 4
            have x5 : ∀ u : UpW wr, u.w.cell? ⟨X, 5, none⟩ = some (.bool (c.we 5)) := fun u => (bU u).cell 5
            have x6 : ∀ u : UpW wr, u.w.cell? ⟨X, 6, none⟩ = some (.bool (c.we 6)) := fun u => (bU u).cell 6
            have x7 : ∀ u : UpW wr, u.w.cell? ⟨X, 7, none⟩ = some (.slice ha c.hs.length hcp) := fun u => (bU u).cell 7
            have x8 : ∀ u : UpW wr, u.w.cell? ⟨X, 8, none⟩ = some (.slice ca c.cl.length ccp) := fun u => (bU u).cell 8
            have x9 : ∀ u : UpW wr, u.w.cell? ⟨X, 9, none⟩ = some (.int .i64 c.o) := fun u => (bU u).cell 9
            have x10 : ∀ u : UpW wr, u.w.cell? ⟨X, 10, none⟩ = some (.slice sa c.sh.length scp) := fun u => (bU u).cell 10
            have x11 : ∀ u : UpW wr, u.w.cell? ⟨X, 11, none⟩ = some (.int .i64 c.hr) := fun u => (bU u).cell 11
            have HU := Lib.hid bU
            clear bU
            clear x0 x1 x2 x3 x4 x5 x6
            go_wp2
            refine wp_region_up (by kernel_rfl) (by kernel_rfl) ?_
            repeat (go_big_quiet_step (fail))
            go_big_quiet_step (exact Ret.up (pur_ret (HWD.out _)))
            repeat (go_big_quiet_step (fail))
            go_big_quiet_step (exact Ret.up (pur_ret (HAR.out _)))
            repeat (go_big_quiet_step (fail))
            refine wpQuiet_nil ?_
            rintro vr ⟨⟨_, hb⟩, rfl⟩
            clear x7 x8 x9 x10 x11 hcw HU s1
            go_wp2
            go_roundw
            case rel => exact ⟨m + 1, by omega, by go_num, bl_trans hbw2 hb⟩
            case measure => simp [intOf]; omega
          · have hoy := HWE.out rfl
            obtain rfl := hoy
            have MO := Lib.hid mo
            clear mo
            have bU : ∀ u : UpW wr, Blk u.w X 30 (cellsC c (.slice ha c.hs.length hcp) (.slice ca c.cl.length ccp) (.slice sa c.sh.length scp)) := fun u => bX1.below u.h bX1.lt
            have x0 : ∀ u : UpW wr, u.w.cell? ⟨X, 0, none⟩ = some (.bool (c.we 0)) := fun u => (bU u).cell 0
            have x1 : ∀ u : UpW wr, u.w.cell? ⟨X, 1, none⟩ = some (.bool (c.we 1)) := fun u => (bU u).cell 1
            have x2 : ∀ u : UpW wr, u.w.cell? ⟨X, 2, none⟩ = some (.bool (c.we 2)) := fun u => (bU u).cell 2
            have x3 : ∀ u : UpW wr, u.w.cell? ⟨X, 3, none⟩ = some (.bool (c.we 3)) := fun u => (bU u).cell 3
            have x4 : ∀ u : UpW wr, u.w.cell? ⟨X, 4, none⟩ = some (.bool (c.we 4)) := fun u => (bU u).cell 4
            have x5 : ∀ u : UpW wr, u.w.cell? ⟨X, 5, none⟩ = some (.bool (c.we 5)) := fun u => (bU u).cell 5
            have x6 : ∀ u : UpW wr, u.w.cell? ⟨X, 6, none⟩ = some (.bool (c.we 6)) := fun u => (bU u).cell 6
            have x7 : ∀ u : UpW wr, u.w.cell? ⟨X, 7, none⟩ = some (.slice ha c.hs.length hcp) := fun u => (bU u).cell 7
            have x8 : ∀ u : UpW wr, u.w.cell? ⟨X, 8, none⟩ = some (.slice ca c.cl.length ccp) := fun u => (bU u).cell 8
            have x9 : ∀ u : UpW wr, u.w.cell? ⟨X, 9, none⟩ = some (.int .i64 c.o) := fun u => (bU u).cell 9
            have x10 : ∀ u : UpW wr, u.w.cell? ⟨X, 10, none⟩ = some (.slice sa c.sh.length scp) := fun u => (bU u).cell 10
            have x11 : ∀ u : UpW wr, u.w.cell? ⟨X, 11, none⟩ = some (.int .i64 c.hr) := fun u => (bU u).cell 11
            have HU := Lib.hid bU
            clear bU
            go_wp2
            refine wp_region_up (by kernel_rfl) (by kernel_rfl) ?_
            repeat (go_big_quiet_step (fail))
            go_big_quiet_step (exact Ret.up (pur_ret (HWD.out _)))
            repeat (go_big_quiet_step (fail))
            go_big_quiet_step (exact Ret.up (pur_ret (HAR.out _)))
            repeat (go_big_quiet_step (fail))
            go_big_quiet_step (exact Ret.up (pur_ret (HK.out _)))
            repeat (go_big_quiet_step (fail))
            go_big_quiet_step (exact Ret.up (MO.out _ _ _ _ (hG.below (bl_trans hBw (UpW.h _))) (HCW.out.below (UpW.h _))))
            repeat (go_big_quiet_step (fail))
            refine wpQuiet_nil ?_
            rintro vr ⟨⟨_, hb⟩, rfl⟩
            clear x0 x1 x2 x3 x4 x5 x6 x7 x8 x9 x10 x11 hcw HU s1
            go_wp2
            go_roundw
            case rel => exact ⟨m + 1, by omega, by go_num, bl_trans hbw2 hb⟩
            case measure => simp [intOf]; omega
        · have bY := bX1
          clear bX hB HC
          have bX := bY
          have hB := hBw
          have HC := HCW
          clear bY bX1 hBw HCW
          have b7 := bX.cell 7
          simp at b7
          go_wp2_with fail
          refine (HB2.out _ _ (hG.below hB) HC.out.ih).mono ?_
          intro e v2 hp
          obtain ⟨pc, cc, rfl, hX2, hb⟩ := BtwPost.zs hp HL2.out
          have bY := bX.below hb bX.lt
          have hB2 := bl_trans hB hb
          have HC2 := Lib.hid (HC.out.below hb)
          clear bX hB HC hb hp b7 hX2
          have bX := bY
          have hB := hB2
          have HC := HC2
          clear bY hB2 HC2
          have hl2' : L2.length ≤ 300000 := hl2
          by_cases h0 : 0 < L2.length
          · go_wp2_with fail
            refine (clives_any _ (hG.below hB)).mono ?_
            rintro e vz ⟨rfl, hb⟩
            go_wp2
            go_ret
            exact ⟨rfl, bl_trans hB hb⟩
          · have hnil : L2 = [] := List.length_eq_zero_iff.1 (by omega)
            have hcn : 1 ≤ cn := HS.out hnil
            have e1 : decide (1 ≤ cn) = true := decide_eq_true hcn
            obtain ⟨c0, c1, c2, c3, c4, c5, c6, c7, c8, c9, c10, c11⟩ := bX.cal
            clear hnil
            go_wp2_with fail
            refine (M2.out _ _ _ _ (hG.below hB) HC.out).mono ?_
            rintro e v3 ⟨rfl, hb⟩
            have hB2 := bl_trans hB hb
            go_wp2_with fail
            refine (clives_any _ (hG.below hB2)).mono ?_
            rintro e vz ⟨rfl, hb⟩
            go_wp2
            go_ret
            exact ⟨rfl, bl_trans hB2 hb⟩
end Go.Proofs.YtiilljcnikgeaaaDoor
