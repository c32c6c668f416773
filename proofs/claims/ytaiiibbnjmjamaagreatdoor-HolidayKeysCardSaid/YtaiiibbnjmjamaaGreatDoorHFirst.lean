/- The walks of holiday.first and of the eight functions that kinds hands back. Conditions: at each. -/
import Derived.Test.YtaiiibbnjmjamaaGreatDoorHArr
import Derived.Test.YtaiiibbnjmjamaaGreatDoorDAll
namespace Go.Proofs.YtaiiibbnjmjamaaGreatDoor
open Go.RowKit

/-- the fields that a kind uses lie in their ranges -/
def vld1 (h : Hol) : Bool := win h.mo 1 12 && win h.d 1 31
def vld2 (h : Hol) : Bool := win h.mo 1 12 && (win h.wd 0 6 && win h.nth 1 5)
def vld3 (h : Hol) : Bool := win h.mo 1 12 && win h.wd 0 6
def vld4 (h : Hol) : Bool := win h.off (-100) 100

set_option maxHeartbeats 1000000 in
theorem hvalid1 (h : Hol) (w : World) : Calls Tryz.prog 34 #[aggH h] w (Ret (.bool (vld1 h)) w) := by
  unfold vld1
  cases e1 : win h.mo 1 12
  · have H1 := Lib.hid e1; clear e1
    go_enter Tryz.func34, Tryz.ntmps34
    go_wp2_with (refine (within_any _ _ _ _).mono ?_; rintro e w' ⟨rfl, rfl⟩; rw [H1.out])
    go_ret
    exact ⟨ret_bool (by simp), bl_alloc _ _⟩
  · have H1 := Lib.hid e1; clear e1
    go_enter Tryz.func34, Tryz.ntmps34
    go_wp2_with fail
    refine (within_any _ _ _ _).mono ?_
    rintro e w' ⟨rfl, rfl⟩
    rw [H1.out]
    go_wp2_with fail
    refine (within_any _ _ _ _).mono ?_
    rintro e w' ⟨rfl, rfl⟩
    go_wp2
    go_ret
    exact ⟨ret_bool (by simp), bl_alloc _ _⟩
set_option maxHeartbeats 1000000 in
theorem hvalid3 (h : Hol) (w : World) : Calls Tryz.prog 40 #[aggH h] w (Ret (.bool (vld3 h)) w) := by
  unfold vld3
  cases e1 : win h.mo 1 12
  · have H1 := Lib.hid e1; clear e1
    go_enter Tryz.func40, Tryz.ntmps40
    go_wp2_with (refine (within_any _ _ _ _).mono ?_; rintro e w' ⟨rfl, rfl⟩; rw [H1.out])
    go_ret
    exact ⟨ret_bool (by simp), bl_alloc _ _⟩
  · have H1 := Lib.hid e1; clear e1
    go_enter Tryz.func40, Tryz.ntmps40
    go_wp2_with fail
    refine (within_any _ _ _ _).mono ?_
    rintro e w' ⟨rfl, rfl⟩
    rw [H1.out]
    go_wp2_with fail
    refine (within_any _ _ _ _).mono ?_
    rintro e w' ⟨rfl, rfl⟩
    go_wp2
    go_ret
    exact ⟨ret_bool (by simp), bl_alloc _ _⟩
set_option maxHeartbeats 1000000 in
theorem hvalid2 (h : Hol) (w : World) : Calls Tryz.prog 36 #[aggH h] w (Ret (.bool (vld2 h)) w) := by
  unfold vld2
  cases e1 : win h.mo 1 12
  · have H1 := Lib.hid e1; clear e1
    go_enter Tryz.func36, Tryz.ntmps36
    go_wp2_with (refine (within_any _ _ _ _).mono ?_; rintro e w' ⟨rfl, rfl⟩; rw [H1.out])
    go_ret
    exact ⟨ret_bool (by simp), bl_alloc _ _⟩
  · have H1 := Lib.hid e1; clear e1
    cases e2 : win h.wd 0 6
    · have H2 := Lib.hid e2; clear e2
      go_enter Tryz.func36, Tryz.ntmps36
      go_wp2_with fail
      refine (within_any _ _ _ _).mono ?_
      rintro e w' ⟨rfl, rfl⟩
      rw [H1.out]
      go_wp2_with fail
      refine (within_any _ _ _ _).mono ?_
      rintro e w' ⟨rfl, rfl⟩
      rw [H2.out]
      go_wp2
      go_ret
      exact ⟨ret_bool (by simp), bl_alloc _ _⟩
    · have H2 := Lib.hid e2; clear e2
      go_enter Tryz.func36, Tryz.ntmps36
      go_wp2_with fail
      refine (within_any _ _ _ _).mono ?_
      rintro e w' ⟨rfl, rfl⟩
      rw [H1.out]
      go_wp2_with fail
      refine (within_any _ _ _ _).mono ?_
      rintro e w' ⟨rfl, rfl⟩
      rw [H2.out]
      go_wp2_with fail
      refine (within_any _ _ _ _).mono ?_
      rintro e w' ⟨rfl, rfl⟩
      go_wp2
      go_ret
      exact ⟨ret_bool (by simp), bl_alloc _ _⟩
set_option maxHeartbeats 1000000 in
theorem hvalid4 (h : Hol) (w : World) : Calls Tryz.prog 42 #[aggH h] w (Ret (.bool (vld4 h)) w) := by
  unfold vld4
  go_enter Tryz.func42, Tryz.ntmps42
  go_wp2_with fail
  refine (within_any _ _ _ _).mono ?_
  rintro e w' ⟨rfl, rfl⟩
  go_wp2
  go_ret
  exact ⟨ret_bool rfl, bl_alloc _ _⟩

/-- the first day of the rule's month -/
def mfst (h : Hol) (y : Int) : Int := dayN y h.mo 1
theorem dayN_bd (y m d : Int) : 0 ≤ dayN y m d ∧ dayN y m d ≤ 3652058 := by
  unfold dayN
  by_cases h : validB y m d = true
  · rw [if_pos h]
    obtain ⟨a, b, c, d', e, f⟩ := valid_iff.1 h
    exact num_range a b c d' e f
  · rw [if_neg h]; omega
set_option maxHeartbeats 1000000 in
theorem first_any (h : Hol) (y : Int) (w : World) (hG : GoodH w) (h0 : 0 ≤ h.wd) (h1 : h.wd ≤ 6) :
    Calls Tryz.prog 38 #[aggH h, .int .i64 y] w (Ret (.tuple #[.int .i64 (mfst h y), .int .i64 (fwd (mfst h y) h.wd)]) w) := by
  have hb := dayN_bd y h.mo 1
  have he : mfst h y = dayN y h.mo 1 := rfl
  obtain ⟨b1, b2⟩ := hb
  generalize hm : mfst h y = m at *
  have hfw : fwd m h.wd = m + (h.wd - m % 7) % 7 := by unfold fwd; omega
  rw [he] at hfw ⊢
  have HF := Lib.hid hfw
  clear hm he hfw
  go_enter Tryz.func38, Tryz.ntmps38
  go_wp2_with fail
  refine (day_any _ _ _ _ ?g).mono ?_
  case g => exact hG.1.alloc _
  rintro e w1 ⟨rfl, hb1⟩
  generalize dayN y h.mo 1 = m at *
  have c3 : w1.cell? ⟨w.heap.size, 3, none⟩ = some (.int .i64 h.wd) := (hb1.cell (p := ⟨w.heap.size, 3, none⟩) (by simp)).trans (by simp)
  have q0 : 0 ≤ m % 7 := by omega
  have q1 : m % 7 ≤ 6 := by omega
  generalize hq : m % 7 = q at *
  have hwk : ∀ w, Calls Tryz.prog 17 #[.int .i64 m] w (Pur (.int .i64 q) w) := fun w => by rw [← hq]; exact weekday_any m w
  have HQ := Lib.hid hwk; clear hq hwk
  have s1 : IntKind.i64.wrap (h.wd - q) = h.wd - q := IntWalk.i64_in _ (by omega)
  have s2 : IntKind.i64.wrap (h.wd - q + 7) = h.wd - q + 7 := IntWalk.i64_in _ (by omega)
  have s3 : IntKind.i64.wrap (m + (h.wd - q + 7) % 7) = m + (h.wd - q + 7) % 7 := IntWalk.i64_in _ (by omega)
  have s4 : (h.wd - q + 7).tmod 7 = (h.wd - q + 7) % 7 := Int.tmod_eq_emod_of_nonneg (by omega)
  have s5 : IntKind.i64.wrap ((h.wd - q + 7) % 7) = (h.wd - q + 7) % 7 := IntWalk.i64_in _ (by omega)
  go_wp2
  go_big_quiet ((go_at_call 17; exact Pur.quiet (HQ.out _)))
  go_wp2
  go_ret2
  exact ⟨ret_ie rfl HF.out.symm, bl_drewN (bl_trans (bl_alloc _ _) hb1) _⟩
theorem eaV_bd (y : Int) : 0 ≤ eaV y ∧ eaV y ≤ 3652058 := by
  unfold eaV
  by_cases h : 1583 ≤ y ∧ y ≤ 9999
  · rw [if_pos h, eas_eq h.1 h.2]
    have a := eas_year h.1 h.2
    have b := num_range (y := y) (m := 3) (d := 1) (by omega) h.2 (by omega) (by omega) (by omega) (by rw [len3]; omega)
    have c := num_range (y := y) (m := 5) (d := 1) (by omega) h.2 (by omega) (by omega) (by omega) (by rw [len5]; omega)
    have d := num_succ (y := y) (m := 3) (d := 1) (by omega) (by omega)
    have e := num_succ (y := y) (m := 3 + 1) (d := 1) (by omega) (by omega)
    rw [len3] at d
    rw [show (3 : Int) + 1 = 4 by omega, len4, show (4 : Int) + 1 = 5 by omega] at e
    unfold reasN
    rw [show (3 : Int) + 1 = 4 by omega] at d
    omega
  · rw [if_neg h]; omega
/-- the nominal days -/
abbrev nV (h : Hol) (y : Int) : Int := nomV eaV h y
abbrev nB (h : Hol) (y : Int) : Bool := nomB eaE eaV h y
set_option maxHeartbeats 1000000 in
theorem hnom1 (h : Hol) (y : Int) (w : World) (hG : GoodH w) (hk : h.k = 1) : Calls Tryz.prog 35 #[aggH h, .int .i64 y] w (Ret (.tuple #[.int .i64 (nV h y), .bool (nB h y)]) w) := by
  have e1 : nV h y = dayN y h.mo h.d := by show nomV eaV h y = _; unfold nomV; rw [if_pos hk]
  have e2 : nB h y = (chk y h.mo h.d == 0) := by show nomB eaE eaV h y = _; unfold nomB; rw [if_pos hk]
  rw [e1, e2]
  clear e1 e2 hk
  go_enter Tryz.func35, Tryz.ntmps35
  go_wp2_with fail
  refine (day_any _ _ _ _ ?g).mono ?_
  case g => exact hG.1.alloc _
  rintro e w1 ⟨rfl, hb1⟩
  go_wp2
  go_ret2
  exact ⟨rfl, bl_trans (bl_alloc _ _) hb1⟩
set_option maxHeartbeats 1000000 in
theorem hnom4 (h : Hol) (y : Int) (w : World) (hk : h.k = 4) (h0 : -1000 ≤ h.off) (h1 : h.off ≤ 1000) : Calls Tryz.prog 43 #[aggH h, .int .i64 y] w (Ret (.tuple #[.int .i64 (nV h y), .bool (nB h y)]) w) := by
  have e1 : nV h y = eaV y + h.off := by show nomV eaV h y = _; unfold nomV; rw [if_neg (by omega), if_neg (by omega), if_neg (by omega)]
  have e2 : nB h y = (eaE y == 0) := by show nomB eaE eaV h y = _; unfold nomB; rw [if_neg (by omega), if_neg (by omega), if_neg (by omega)]
  rw [e1, e2]
  clear e1 e2 hk
  go_enter Tryz.func43, Tryz.ntmps43
  go_wp2_with fail
  refine (easter_any _ _).mono ?_
  rintro e w1 ⟨rfl, hb1⟩
  have c5 := ((Blk.new w 45 (cellsH h)).below hb1 (by simp)).cell 5
  simp at c5
  have ⟨v1, v2⟩ := eaV_bd y
  go_wp2
  go_ret2
  exact ⟨rfl, bl_trans (bl_alloc _ _) hb1⟩
set_option maxHeartbeats 1000000 in
theorem hnom2 (h : Hol) (y : Int) (w : World) (hG : GoodH w) (hk : h.k = 2) (h0 : 0 ≤ h.wd) (h1 : h.wd ≤ 6) (h2 : 1 ≤ h.nth) (h3 : h.nth ≤ 5) : Calls Tryz.prog 37 #[aggH h, .int .i64 y] w (Ret (.tuple #[.int .i64 (nV h y), .bool (nB h y)]) w) := by
  have e1 : nV h y = fwd (mfst h y) h.wd + 7 * (h.nth - 1) := by show nomV eaV h y = _; unfold nomV; rw [if_neg (by omega), if_pos (by omega)]; rfl
  have e2 : nB h y = decide (fwd (mfst h y) h.wd + 7 * (h.nth - 1) < mfst h y + len y h.mo) := by show nomB eaE eaV h y = _; unfold nomB; rw [if_neg (by omega), if_pos (by omega), show nomV eaV h y = _ from e1]; rfl
  rw [e1, e2]
  clear e1 e2
  have hf := fun w hG => first_any h y w hG h0 h1
  have hm := dayN_bd y h.mo 1
  have hw := fwd_bd (mfst h y) h.wd
  have hl := len_le y h.mo
  change 0 ≤ mfst h y ∧ mfst h y ≤ 3652058 at hm
  generalize mfst h y = m at *
  generalize fwd m h.wd = f at *
  obtain ⟨m1, m2⟩ := hm
  obtain ⟨f1, f2⟩ := hw
  obtain ⟨l1, l2⟩ := hl
  have HF := Lib.hid hf; clear hf hk
  go_enter Tryz.func37, Tryz.ntmps37
  go_wp2_with fail
  refine (HF.out _ (hG.alloc _)).mono ?_
  rintro e w1 ⟨rfl, hb1⟩
  have hG1 := (hG.alloc _).below hb1
  have bx := (Blk.new w 45 (cellsH h)).below hb1 (by simp)
  have c1 := bx.cell 1
  have c4 := bx.cell 4
  simp at c1 c4
  clear bx
  go_wp2_with fail
  refine (len_any _ _ _ hG1.1).mono ?_
  rintro e w2 ⟨rfl, rfl⟩
  go_wp2
  go_ret2
  exact ⟨rfl, bl_trans (bl_alloc _ _) hb1⟩
set_option maxHeartbeats 1000000 in
theorem hnom3 (h : Hol) (y : Int) (w : World) (hG : GoodH w) (hk : h.k = 3) (h0 : 0 ≤ h.wd) (h1 : h.wd ≤ 6) (h2 : 1 ≤ h.mo) (h3 : h.mo ≤ 12) : Calls Tryz.prog 41 #[aggH h, .int .i64 y] w (Ret (.tuple #[.int .i64 (nV h y), .bool (nB h y)]) w) := by
  have e1 : nV h y = fwd (mfst h y) h.wd + (mfst h y + len y h.mo - 1 - fwd (mfst h y) h.wd) / 7 * 7 := by show nomV eaV h y = _; unfold nomV; rw [if_neg (by omega), if_neg (by omega), if_pos (by omega)]; exact (last_eq _ _ _).symm
  have e2 : nB h y = true := by show nomB eaE eaV h y = _; unfold nomB; rw [if_neg (by omega), if_neg (by omega), if_pos (by omega)]
  rw [e1, e2]
  clear e1 e2
  have hf := fun w hG => first_any h y w hG h0 h1
  have hm := dayN_bd y h.mo 1
  have hw := fwd_bd (mfst h y) h.wd
  have hl := len_in (y := y) h2 h3
  change 0 ≤ mfst h y ∧ mfst h y ≤ 3652058 at hm
  generalize mfst h y = m at *
  generalize fwd m h.wd = f at *
  obtain ⟨m1, m2⟩ := hm
  obtain ⟨f1, f2⟩ := hw
  obtain ⟨l1, l2⟩ := hl
  have HF := Lib.hid hf; clear hf hk
  go_enter Tryz.func41, Tryz.ntmps41
  go_wp2_with fail
  refine (HF.out _ (hG.alloc _)).mono ?_
  rintro e w1 ⟨rfl, hb1⟩
  have hG1 := (hG.alloc _).below hb1
  have bx := (Blk.new w 45 (cellsH h)).below hb1 (by simp)
  have c1 := bx.cell 1
  simp at c1
  clear bx
  go_wp2_with fail
  refine (len_any _ _ _ hG1.1).mono ?_
  rintro e w2 ⟨rfl, rfl⟩
  go_wp2
  go_ret2
  exact ⟨rfl, bl_trans (bl_alloc _ _) hb1⟩
end Go.Proofs.YtaiiibbnjmjamaaGreatDoor
