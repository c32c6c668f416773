/- The walk of the reference's Parse, at every string. -/
import Derived.Test.YtefapmdgodfpeaaDoorDRefQ
namespace Go.Proofs.YtefapmdgodfpeaaDoor
open Go.RowKit

set_option maxHeartbeats 1000000 in
theorem rparse_len (s : ByteArray) (w : World) (hs : ¬ s.size = 10) : Calls Tryd.prog 36 #[.string s] w (Ret (.tuple #[.int .i64 0, .int .i64 7]) w) := by
  have hn : ¬ ((s.size : Int) = 10) := by omega
  go_enter Tryd.func36, Tryd.ntmps36
  go_wp2
  go_ret2
  exact ⟨rfl, bl_refl _⟩
theorem rd04 (s : ByteArray) (w : World) (hs : s.size = 10) : Calls Tryd.prog 47 #[.string s, .int .i64 0, .int .i64 4] w (Pur (.int .i64 (dgN (sY s))) w) := digits_any s 0 4 w hs (by omega) (by omega) (by omega)
theorem rd57 (s : ByteArray) (w : World) (hs : s.size = 10) : Calls Tryd.prog 47 #[.string s, .int .i64 5, .int .i64 7] w (Pur (.int .i64 (dgN (sM s))) w) := digits_any s 5 7 w hs (by omega) (by omega) (by omega)
theorem rd810 (s : ByteArray) (w : World) (hs : s.size = 10) : Calls Tryd.prog 47 #[.string s, .int .i64 8, .int .i64 10] w (Pur (.int .i64 (dgN (sD s))) w) := digits_any s 8 10 w hs (by omega) (by omega) (by omega)

set_option maxHeartbeats 4000000 in
theorem rparse_no (s : ByteArray) (w : World) (hs : s.size = 10) (h : ((s[4]'(by omega)).toNat : Int) = 45 → ((s[7]'(by omega)).toNat : Int) = 45 → dgN (sY s) < 0 ∨ dgN (sM s) < 0 ∨ dgN (sD s) < 0) :
    Calls Tryd.prog 36 #[.string s] w (Ret (.tuple #[.int .i64 0, .int .i64 7]) w) := by
  have g1 := rd04 s
  have g2 := rd57 s
  have g3 := rd810 s
  generalize dgN (sY s) = Y at *
  generalize dgN (sM s) = M at *
  generalize dgN (sD s) = D at *
  have G1 := Lib.hid g1; have G2 := Lib.hid g2; have G3 := Lib.hid g3; have HH := Lib.hid h
  clear g1 g2 g3 h
  go_enter Tryd.func36, Tryd.ntmps36
  go_wp2_with fail
  refine (G1.out _ hs).mono ?_
  rintro e w' ⟨rfl, rfl⟩
  go_wp2_with fail
  refine (G2.out _ hs).mono ?_
  rintro e w' ⟨rfl, rfl⟩
  go_wp2_with fail
  refine (G3.out _ hs).mono ?_
  rintro e w' ⟨rfl, rfl⟩
  go_wp2_with fail
  all_goals first | (exfalso; have hh := HH.out (by assumption) (by assumption); omega) | (go_ret2; exact ⟨rfl, bl_alloc _ _⟩)

set_option maxHeartbeats 4000000 in
theorem rparse_yes (s : ByteArray) (w : World) (hs : s.size = 10) (h4 : ((s[4]'(by omega)).toNat : Int) = 45) (h7 : ((s[7]'(by omega)).toNat : Int) = 45) (y0 : 0 ≤ dgN (sY s)) (m0 : 0 ≤ dgN (sM s)) (d0 : 0 ≤ dgN (sD s)) :
    Calls Tryd.prog 36 #[.string s] w (Ret (.tuple #[.int .i64 (dayN (dgN (sY s)) (dgN (sM s)) (dgN (sD s))), .int .i64 (chk (dgN (sY s)) (dgN (sM s)) (dgN (sD s)))]) w) := by
  have g1 := rd04 s
  have g2 := rd57 s
  have g3 := rd810 s
  generalize dgN (sY s) = Y at *
  generalize dgN (sM s) = M at *
  generalize dgN (sD s) = D at *
  have G1 := Lib.hid g1; have G2 := Lib.hid g2; have G3 := Lib.hid g3
  clear g1 g2 g3
  go_enter Tryd.func36, Tryd.ntmps36
  go_wp2_with fail
  refine (G1.out _ hs).mono ?_
  rintro e w' ⟨rfl, rfl⟩
  go_wp2_with fail
  refine (G2.out _ hs).mono ?_
  rintro e w' ⟨rfl, rfl⟩
  go_wp2_with fail
  refine (G3.out _ hs).mono ?_
  rintro e w' ⟨rfl, rfl⟩
  go_wp2_with fail
  refine (rday_any _ _ _ _).mono ?_
  rintro e w1 ⟨rfl, hb1⟩
  go_wp2
  go_ret2
  exact ⟨rfl, bl_trans (bl_alloc _ _) hb1⟩

theorem dgN_neg {l : List UInt8} (h : l.all isDig = false) : dgN l = -1 := by unfold dgN; rw [h]; rfl
theorem dgN_pos {l : List UInt8} (h : l.all isDig = true) : dgN l = pv l := by unfold dgN; rw [h]; rfl
theorem rparse_any (s : ByteArray) (w : World) : Calls Tryd.prog 36 #[.string s] w (Ret (.tuple #[.int .i64 (paN s), .int .i64 (paE s)]) w) := by
  by_cases hs : s.size = 10
  · have g4 := getD_at s 4 (by omega)
    have g7 := getD_at s 7 (by omega)
    by_cases h : ((((s[4]'(by omega)).toNat = 45) ∧ ((s[7]'(by omega)).toNat = 45)) ∧ digB s = true)
    · have e : fmtB s = true := by unfold fmtB; rw [decide_eq_true ⟨hs, g4.2 h.1.1, g7.2 h.1.2⟩, h.2]; rfl
      have hd := h.2
      unfold digB at hd
      rw [Bool.and_eq_true, Bool.and_eq_true] at hd
      have p := rparse_yes s w hs (by have := h.1.1; omega) (by have := h.1.2; omega) (by rw [dgN_pos hd.1.1]; exact pv_nonneg _ hd.1.1) (by rw [dgN_pos hd.1.2]; exact pv_nonneg _ hd.1.2) (by rw [dgN_pos hd.2]; exact pv_nonneg _ hd.2)
      rw [dgN_pos hd.1.1, dgN_pos hd.1.2, dgN_pos hd.2] at p
      unfold paN paE
      rw [e]
      exact p
    · have e : fmtB s = false := by
        rw [Bool.eq_false_iff]
        intro k
        unfold fmtB at k
        rw [Bool.and_eq_true, decide_eq_true_eq] at k
        exact h ⟨⟨g4.1 k.1.2.1, g7.1 k.1.2.2⟩, k.2⟩
      unfold paN paE
      rw [e]
      refine rparse_no s w hs (fun k4 k7 => ?_)
      have hd : digB s = false := by
        rw [Bool.eq_false_iff]
        intro k
        exact h ⟨⟨by omega, by omega⟩, k⟩
      unfold digB at hd
      cases q1 : (sY s).all isDig
      · rw [dgN_neg q1]; omega
      · cases q2 : (sM s).all isDig
        · rw [dgN_neg q2]; omega
        · cases q3 : (sD s).all isDig
          · rw [dgN_neg q3]; omega
          · rw [q1, q2, q3] at hd; cases hd
  · have e : fmtB s = false := by unfold fmtB; rw [decide_eq_false (fun k => hs k.1)]; rfl
    unfold paN paE
    rw [e]
    exact rparse_len s w hs
end Go.Proofs.YtefapmdgodfpeaaDoor
