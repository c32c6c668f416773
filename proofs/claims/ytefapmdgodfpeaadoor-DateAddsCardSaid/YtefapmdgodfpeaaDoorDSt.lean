/- The walk of the law DateSteps: it returns true at every number. -/
import Derived.Test.YtefapmdgodfpeaaDoorDLives
namespace Go.Proofs.YtefapmdgodfpeaaDoor
open Go.RowKit

theorem step_in {a : Int} (h0 : 0 ≤ a) (h1 : a ≤ 3652057) (h : ofD a + 1 ≤ len (ofY a) (ofM a)) : ofY (a + 1) = ofY a ∧ ofM (a + 1) = ofM a ∧ ofD (a + 1) = ofD a + 1 := by
  obtain ⟨v1, v2, v3, v4, v5, v6⟩ := valid_of h0 (by omega)
  have hn := num_of h0 (by omega)
  rw [num_d] at hn
  obtain ⟨u1, u2, u3⟩ := of_unique (n := a + 1) (y := ofY a) (m := ofM a) (d := ofD a + 1) (by omega) (by omega) v3 v4 (by omega) h (by rw [num_d]; omega)
  exact ⟨u1.symm, u2.symm, u3.symm⟩
theorem step_month {a : Int} (h0 : 0 ≤ a) (h1 : a ≤ 3652057) (h : len (ofY a) (ofM a) < ofD a + 1) (hm : ofM a + 1 ≤ 12) : ofY (a + 1) = ofY a ∧ ofM (a + 1) = ofM a + 1 ∧ ofD (a + 1) = 1 := by
  obtain ⟨v1, v2, v3, v4, v5, v6⟩ := valid_of h0 (by omega)
  have hn := num_of h0 (by omega)
  rw [num_d] at hn
  have hs := num_succ (y := ofY a) (m := ofM a) (d := 1) v3 (by omega)
  have hl := len_in (y := ofY a) (m := ofM a + 1) (by omega) hm
  obtain ⟨u1, u2, u3⟩ := of_unique (n := a + 1) (y := ofY a) (m := ofM a + 1) (d := 1) (by omega) (by omega) (by omega) hm (by omega) (by omega) (by omega)
  exact ⟨u1.symm, u2.symm, u3.symm⟩
theorem step_year {a : Int} (h0 : 0 ≤ a) (h1 : a ≤ 3652057) (h : len (ofY a) (ofM a) < ofD a + 1) (hm : 12 < ofM a + 1) : ofY (a + 1) = ofY a + 1 ∧ ofM (a + 1) = 1 ∧ ofD (a + 1) = 1 := by
  obtain ⟨v1, v2, v3, v4, v5, v6⟩ := valid_of h0 (by omega)
  have hn := num_of h0 (by omega)
  rw [num_d] at hn
  have e : ofM a = 12 := by omega
  rw [e] at hn h v6
  rw [len12] at h v6
  have hs := num_year (y := ofY a)
  have hl := len1 (ofY a + 1)
  obtain ⟨u1, u2, u3⟩ := of_unique (n := a + 1) (y := ofY a + 1) (m := 1) (d := 1) (by omega) (by omega) (by omega) (by omega) (by omega) (by omega) (by omega)
  exact ⟨u1.symm, u2.symm, u3.symm⟩

theorem alloc_drewN (w : World) (o : Obj) (n : Nat) : (w.alloc o).drewN n = (w.drewN n).alloc o := rfl
set_option maxHeartbeats 8000000 in
theorem law_steps (n : Int) (w : World) (hG : Good w) (h1 : -9223372036854775808 ≤ n) (h2 : n ≤ 9223372036854775807) :
    Calls Tryd.prog 10 #[.int .i64 n] w (Ret (.bool true) w) := by
  obtain ⟨a1, a2⟩ := around_bd n (m := 3652058) (by omega)
  generalize hs : around n 3652058 = a at *
  have HS := Lib.hid hs; clear hs
  have s1 := @step_in a a1 (by omega)
  have s2 := @step_month a a1 (by omega)
  have s3 := @step_year a a1 (by omega)
  obtain ⟨v1, v2, v3, v4, v5, v6⟩ := valid_of a1 (by omega)
  have hl := len_le (ofY a) (ofM a)
  have hwd : ((a + 1) % 7 == (a % 7 + 1) % 7) = true := by rw [beq_iff_eq]; omega
  generalize hY : ofY a = Y at *
  generalize hM : ofM a = M at *
  generalize hD : ofD a = D at *
  generalize hY2 : ofY (a + 1) = Y2 at *
  generalize hM2 : ofM (a + 1) = M2 at *
  generalize hD2 : ofD (a + 1) = D2 at *
  have HY := Lib.hid hY; have HM := Lib.hid hM; have HD := Lib.hid hD; have HY2 := Lib.hid hY2; have HM2 := Lib.hid hM2; have HD2 := Lib.hid hD2
  clear hY hM hD hY2 hM2 hD2
  obtain ⟨hl1, hl2⟩ := hl
  have hc : (Y2 = Y ∧ M2 = M ∧ D2 = D + 1 ∧ D + 1 ≤ len Y M) ∨ (Y2 = Y ∧ M2 = M + 1 ∧ D2 = 1 ∧ len Y M < D + 1 ∧ M + 1 ≤ 12) ∨ (Y2 = Y + 1 ∧ M2 = 1 ∧ D2 = 1 ∧ len Y M < D + 1 ∧ 12 < M + 1) := by
    by_cases c1 : D + 1 ≤ len Y M
    · obtain ⟨x, y, z⟩ := s1 c1; exact .inl ⟨x, y, z, c1⟩
    · by_cases c2 : M + 1 ≤ 12
      · obtain ⟨x, y, z⟩ := s2 (by omega) c2; exact .inr (.inl ⟨x, y, z, by omega, c2⟩)
      · obtain ⟨x, y, z⟩ := s3 (by omega) (by omega); exact .inr (.inr ⟨x, y, z, by omega, by omega⟩)
  clear s1 s2 s3
  go_enter Tryd.func10, Tryd.ntmps10
  go_wp2_with fail
  refine (around_any _ _ _ h1 h2 (by omega) (by omega)).mono ?_
  rintro e w' ⟨rfl, rfl⟩
  rw [HS.out]
  go_wp2_with fail
  refine (of_yes _ _ a1 (by omega)).mono ?_
  rintro e w1 ⟨rfl, hb1⟩
  rw [HY.out, HM.out, HD.out]
  go_wp2_with fail
  refine (of_yes _ _ (by omega) (by omega)).mono ?_
  rintro e w2 ⟨rfl, hb2⟩
  rw [HY2.out, HM2.out, HD2.out]
  have hG1 := (hG.below hb1).alloc (.cells #[.int .i64 Y, .int .i64 M, .int .i64 D] 23)
  have hG2 := hG1.below hb2
  have hz : w1.heap.size < w2.heap.size := by have := hb2.size; simp at this; omega
  have d0 : w2.cell? ⟨w1.heap.size, 0, none⟩ = some (.int .i64 Y) := (hb2.cell (p := ⟨w1.heap.size, 0, none⟩) (by simp)).trans (by simp)
  have d1 : w2.cell? ⟨w1.heap.size, 1, none⟩ = some (.int .i64 M) := (hb2.cell (p := ⟨w1.heap.size, 1, none⟩) (by simp)).trans (by simp)
  have d2 : w2.cell? ⟨w1.heap.size, 2, none⟩ = some (.int .i64 D) := (hb2.cell (p := ⟨w1.heap.size, 2, none⟩) (by simp)).trans (by simp)
  have hB : Below w.heap.size w w2 := bl_trans (bl_trans hb1 (bl_alloc _ _)) hb2
  have hGX : ∀ (o1 o2 : Obj) (nq : Nat), Good (((w2.alloc o1).alloc o2).drewN nq) := fun o1 o2 nq => ((hG2.alloc o1).alloc o2).drewN nq
  have HGX := Lib.hid hGX; clear hGX
  clear hb1 hb2 hG1
  rcases hc with ⟨q1, q2, q3, q4⟩ | ⟨q1, q2, q3, q4, q5⟩ | ⟨q1, q2, q3, q4, q5⟩
  · subst q1 q2 q3
    have dd : decide (len Y2 M2 < D + 1) = false := by simp; omega
    go_wp2_with fail
    go_big_quiet ((go_at_call 29; exact Pur.quiet (len_any _ _ _ (HGX.out _ _ _))))
    obtain ⟨w4, hw4⟩ : ∃ w4, w4 = w2.drewN nq := ⟨_, rfl⟩
    have hsz : w2.heap.size = w4.heap.size := by rw [hw4]; rfl
    have hB4 : Below w.heap.size w w4 := by rw [hw4]; exact bl_drewN hB nq
    have hG4 : Good w4 := by rw [hw4]; exact hG2.drewN nq
    have e0 : w4.cell? ⟨w1.heap.size, 0, none⟩ = w2.cell? ⟨w1.heap.size, 0, none⟩ := by rw [hw4]; rfl
    have e1 : w4.cell? ⟨w1.heap.size, 1, none⟩ = w2.cell? ⟨w1.heap.size, 1, none⟩ := by rw [hw4]; rfl
    have e2 : w4.cell? ⟨w1.heap.size, 2, none⟩ = w2.cell? ⟨w1.heap.size, 2, none⟩ := by rw [hw4]; rfl
    rw [d0] at e0
    rw [d1] at e1
    rw [d2] at e2
    rw [alloc_drewN, alloc_drewN, ← hw4, hsz]
    rw [hsz] at hz
    clear hw4 hsz hB hG2 d0 d1 d2 HGX dd
    go_wp2_with fail
    refine (weekday_any _ _).mono ?_
    rintro e w' ⟨rfl, rfl⟩
    go_wp2_with fail
    refine (weekday_any _ _).mono ?_
    rintro e w' ⟨rfl, rfl⟩
    go_wp2_with fail
    refine (lives_any _ ?g0).mono ?_
    case g0 => exact (hG4.alloc _).alloc _
    rintro e w3 ⟨rfl, hb3⟩
    go_wp2
    go_ret
    exact ⟨rfl, bl_trans (bl_trans (bl_trans hB4 (bl_alloc _ _)) (bl_alloc _ _)) hb3⟩
  · subst q1 q2 q3
    have dd : decide (len Y2 M < D + 1) = true := decide_eq_true q4
    go_wp2_with fail
    go_big_quiet ((go_at_call 29; exact Pur.quiet (len_any _ _ _ (HGX.out _ _ _))))
    obtain ⟨w4, hw4⟩ : ∃ w4, w4 = w2.drewN nq := ⟨_, rfl⟩
    have hsz : w2.heap.size = w4.heap.size := by rw [hw4]; rfl
    have hB4 : Below w.heap.size w w4 := by rw [hw4]; exact bl_drewN hB nq
    have hG4 : Good w4 := by rw [hw4]; exact hG2.drewN nq
    have e0 : w4.cell? ⟨w1.heap.size, 0, none⟩ = w2.cell? ⟨w1.heap.size, 0, none⟩ := by rw [hw4]; rfl
    have e1 : w4.cell? ⟨w1.heap.size, 1, none⟩ = w2.cell? ⟨w1.heap.size, 1, none⟩ := by rw [hw4]; rfl
    have e2 : w4.cell? ⟨w1.heap.size, 2, none⟩ = w2.cell? ⟨w1.heap.size, 2, none⟩ := by rw [hw4]; rfl
    rw [d0] at e0
    rw [d1] at e1
    rw [d2] at e2
    rw [alloc_drewN, alloc_drewN, ← hw4, hsz]
    rw [hsz] at hz
    clear hw4 hsz hB hG2 d0 d1 d2 HGX dd
    go_wp2_with fail
    refine (weekday_any _ _).mono ?_
    rintro e w' ⟨rfl, rfl⟩
    go_wp2_with fail
    refine (weekday_any _ _).mono ?_
    rintro e w' ⟨rfl, rfl⟩
    go_wp2_with fail
    refine (lives_any _ ?g1).mono ?_
    case g1 => exact (hG4.alloc _).alloc _
    rintro e w3 ⟨rfl, hb3⟩
    go_wp2
    go_ret
    exact ⟨rfl, bl_trans (bl_trans (bl_trans hB4 (bl_alloc _ _)) (bl_alloc _ _)) hb3⟩
  · subst q1 q2 q3
    have dd : decide (len Y M < D + 1) = true := decide_eq_true q4
    go_wp2_with fail
    go_big_quiet ((go_at_call 29; exact Pur.quiet (len_any _ _ _ (HGX.out _ _ _))))
    obtain ⟨w4, hw4⟩ : ∃ w4, w4 = w2.drewN nq := ⟨_, rfl⟩
    have hsz : w2.heap.size = w4.heap.size := by rw [hw4]; rfl
    have hB4 : Below w.heap.size w w4 := by rw [hw4]; exact bl_drewN hB nq
    have hG4 : Good w4 := by rw [hw4]; exact hG2.drewN nq
    have e0 : w4.cell? ⟨w1.heap.size, 0, none⟩ = w2.cell? ⟨w1.heap.size, 0, none⟩ := by rw [hw4]; rfl
    have e1 : w4.cell? ⟨w1.heap.size, 1, none⟩ = w2.cell? ⟨w1.heap.size, 1, none⟩ := by rw [hw4]; rfl
    have e2 : w4.cell? ⟨w1.heap.size, 2, none⟩ = w2.cell? ⟨w1.heap.size, 2, none⟩ := by rw [hw4]; rfl
    rw [d0] at e0
    rw [d1] at e1
    rw [d2] at e2
    rw [alloc_drewN, alloc_drewN, ← hw4, hsz]
    rw [hsz] at hz
    clear hw4 hsz hB hG2 d0 d1 d2 HGX dd
    go_wp2_with fail
    refine (weekday_any _ _).mono ?_
    rintro e w' ⟨rfl, rfl⟩
    go_wp2_with fail
    refine (weekday_any _ _).mono ?_
    rintro e w' ⟨rfl, rfl⟩
    go_wp2_with fail
    refine (lives_any _ ?g2).mono ?_
    case g2 => exact (hG4.alloc _).alloc _
    rintro e w3 ⟨rfl, hb3⟩
    go_wp2
    go_ret
    exact ⟨rfl, bl_trans (bl_trans (bl_trans hB4 (bl_alloc _ _)) (bl_alloc _ _)) hb3⟩
end Go.Proofs.YtefapmdgodfpeaaDoor
