/- The walk of the law DateAdds: it returns true at every three numbers. -/
import Derived.Test.YtefapmdgodfpeaaDoorDAdPlain
import Derived.Test.YtefapmdgodfpeaaDoorDRef4
namespace Go.Proofs.YtefapmdgodfpeaaDoor
open Go.RowKit

set_option maxHeartbeats 8000000 in
theorem law_adds (n m k : Int) (w : World) (hG : Good w) (h1 : -9223372036854775808 ≤ n) (h2 : n ≤ 9223372036854775807) (h3 : -9223372036854775808 ≤ m) (h4 : m ≤ 9223372036854775807) (h5 : -9223372036854775808 ≤ k) (h6 : k ≤ 9223372036854775807) :
    Calls Tryd.prog 13 #[.int .i64 n, .int .i64 m, .int .i64 k] w (Ret (.bool true) w) := by
  obtain ⟨a1, a2⟩ := around_bd n (m := 3652059) (by omega)
  obtain ⟨x1, x2⟩ := around_bd m (m := 1201) (by omega)
  obtain ⟨y1, y2⟩ := around_bd k (m := 1201) (by omega)
  have fm := @am_mono (around n 3652059) (around m 1201 - 600)
  have ft := @am_two (around n 3652059) (around m 1201 - 600) (around k 1201 - 600) (by omega) (by omega)
  have fb := @am_back (around n 3652059) (around m 1201 - 600) (by omega)
  obtain ⟨v1, v2, v3, v4, v5, v6⟩ := valid_of (n := around n 3652059) a1 (by omega)
  have hn : around n 3652059 ≤ 3652058 := by omega
  generalize hs : around n 3652059 = a at *
  have HA := Lib.hid hs; clear hs
  have hx1 : -600 ≤ around m 1201 - 600 := by omega
  have hx2 : around m 1201 - 600 ≤ 600 := by omega
  have hy1 : -600 ≤ around k 1201 - 600 := by omega
  have hy2 : around k 1201 - 600 ≤ 600 := by omega
  generalize hs : around m 1201 - 600 = x at *
  have HX := Lib.hid hs; clear hs
  generalize hs : around k 1201 - 600 = y at *
  have HY := Lib.hid hs; clear hs
  generalize hY : ofY a = Y at *
  generalize hM : ofM a = M at *
  generalize hD : ofD a = D at *
  have HYY := Lib.hid hY; have HM := Lib.hid hM; have HD := Lib.hid hD; clear hY hM hD v6
  generalize hB : amN a x = B at *
  generalize hE : amE a x = E at *
  generalize hC : amN (min (a + 1) 3652058) x = C at *
  generalize hF : amE (min (a + 1) 3652058) x = F at *
  generalize hT2 : amN B y = T2 at *
  generalize hG2 : amE B y = G2 at *
  generalize hT1 : amN a (x + y) = T1 at *
  generalize hH : amE a (x + y) = H1 at *
  generalize hBK : amN B (-x) = BK at *
  generalize hI : amE B (-x) = I1 at *
  have KB := Lib.hid hB; have KE := Lib.hid hE; have KC := Lib.hid hC; have KF := Lib.hid hF; have KT2 := Lib.hid hT2; have KG2 := Lib.hid hG2; have KT1 := Lib.hid hT1; have KH := Lib.hid hH; have KBK := Lib.hid hBK; have KI := Lib.hid hI
  clear hB hE hC hF hT2 hG2 hT1 hH hBK hI
  have hcase : ((E == 0) = false ∧ (E != 0) = true) ∨ (E = 0 ∧ (F == 0) = false ∧ 28 < D) ∨ (E = 0 ∧ F = 0 ∧ B ≤ C ∧ 28 < D) ∨ (E = 0 ∧ (F == 0) = false ∧ D ≤ 28 ∧ G2 = H1 ∧ T2 = T1 ∧ I1 = 0 ∧ BK = a) ∨ (E = 0 ∧ F = 0 ∧ B ≤ C ∧ D ≤ 28 ∧ G2 = H1 ∧ T2 = T1 ∧ I1 = 0 ∧ BK = a) := by
    by_cases c1 : E = 0
    · by_cases c2 : 28 < D
      · by_cases c3 : F = 0
        · exact .inr (.inr (.inl ⟨c1, c3, fm c1 c3, c2⟩))
        · exact .inr (.inl ⟨c1, beq_eq_false_iff_ne.2 c3, c2⟩)
      · obtain ⟨t1, t2⟩ := ft c1 (by omega)
        obtain ⟨t3, t4⟩ := fb c1 (by omega)
        by_cases c3 : F = 0
        · exact .inr (.inr (.inr (.inr ⟨c1, c3, fm c1 c3, by omega, t1, t2, t3, t4⟩)))
        · exact .inr (.inr (.inr (.inl ⟨c1, beq_eq_false_iff_ne.2 c3, by omega, t1, t2, t3, t4⟩)))
    · exact .inl ⟨beq_eq_false_iff_ne.2 c1, by rw [bne_iff_ne]; exact c1⟩
  have HCASE := Lib.hid hcase
  clear hcase fm ft fb
  go_enter Tryd.func13, Tryd.ntmps13
  go_wp2_with fail
  refine (dayOf_any _ _ h1 h2).mono ?_
  rintro e w' ⟨rfl, rfl⟩
  rw [HA.out]
  go_wp2_with fail
  refine (around_any _ _ _ h3 h4 (by omega) (by omega)).mono ?_
  rintro e w' ⟨rfl, rfl⟩
  go_upto_region 3 with (fail)
  rw [HX.out]
  go_wp2_with fail
  refine (around_any _ _ _ h5 h6 (by omega) (by omega)).mono ?_
  rintro e w' ⟨rfl, rfl⟩
  go_upto_region 4 with (fail)
  rw [HY.out]
  go_wp2_with fail
  refine (of_yes _ _ a1 hn).mono ?_
  rintro e w1 ⟨rfl, hb1⟩
  rw [HYY.out, HM.out, HD.out]
  have hg1 := hG.below hb1
  go_wp2_with fail
  refine (am_any _ _ _ ?g0).mono ?_
  case g0 => exact hg1.alloc _
  rintro e w2 ⟨rfl, hb2⟩
  rw [KB.out, KE.out]
  have hg2 : Good w2 := (hg1.alloc _).below hb2
  have d2 : w2.cell? ⟨w1.heap.size, 2, none⟩ = some (.int .i64 D) := (hb2.cell (p := ⟨w1.heap.size, 2, none⟩) (by simp)).trans (by simp)
  have hz2 : w1.heap.size < w2.heap.size := by have := hb2.size; simp at this; omega
  have hB2 : Below w.heap.size w w2 := bl_trans (bl_trans hb1 (bl_alloc _ _)) hb2
  clear hb1 hb2 hg1
  go_wp2_with fail
  refine (am_any _ _ _ hg2).mono ?_
  rintro e w3 ⟨rfl, hb3⟩
  rw [KC.out, KF.out]
  have hg3 := hg2.below hb3
  have d3 : w3.cell? ⟨w1.heap.size, 2, none⟩ = some (.int .i64 D) := (hb3.cell (p := ⟨w1.heap.size, 2, none⟩) hz2).trans d2
  have hz3 : w1.heap.size < w3.heap.size := by have := hb3.size; omega
  have hB3 : Below w.heap.size w w3 := bl_trans hB2 hb3
  clear hb3 hB2 hg2 d2 hz2
  rcases HCASE.out with ⟨q1, q2⟩ | ⟨q1, q2, q3⟩ | ⟨q1, q2, q3, q4⟩ | ⟨q1, q2, q3, q4, q5, q6, q7⟩ | ⟨q1, q2, q3, q4, q5, q6, q7, q8⟩
  · clear HCASE
    go_wp2_with fail
    refine (am_any _ _ _ hg3).mono ?_
    rintro e w4 ⟨rfl, hb4⟩
    rw [KT2.out, KG2.out]
    have hg4 := hg3.below hb4
    have d4 : w4.cell? ⟨w1.heap.size, 2, none⟩ = some (.int .i64 D) := (hb4.cell (p := ⟨w1.heap.size, 2, none⟩) hz3).trans d3
    have hz4 : w1.heap.size < w4.heap.size := by have := hb4.size; omega
    have hB4 : Below w.heap.size w w4 := bl_trans hB3 hb4
    clear hb4 hB3 hg3 d3 hz3
    go_wp2_with fail
    refine (am_any _ _ _ hg4).mono ?_
    rintro e w5 ⟨rfl, hb5⟩
    rw [KT1.out, KH.out]
    have hg5 := hg4.below hb5
    have d5 : w5.cell? ⟨w1.heap.size, 2, none⟩ = some (.int .i64 D) := (hb5.cell (p := ⟨w1.heap.size, 2, none⟩) hz4).trans d4
    have hz5 : w1.heap.size < w5.heap.size := by have := hb5.size; omega
    have hB5 : Below w.heap.size w w5 := bl_trans hB4 hb5
    clear hb5 hB4 hg4 d4 hz4
    go_wp2_with fail
    refine (am_any _ _ _ hg5).mono ?_
    rintro e w6 ⟨rfl, hb6⟩
    rw [KBK.out, KI.out]
    have hg6 := hg5.below hb6
    have d6 : w6.cell? ⟨w1.heap.size, 2, none⟩ = some (.int .i64 D) := (hb6.cell (p := ⟨w1.heap.size, 2, none⟩) hz5).trans d5
    have hB6 : Below w.heap.size w w6 := bl_trans hB5 hb6
    clear hb6 hB5 hg5 d5 hz5
    by_cases c28 : 28 < D
    all_goals
      go_wp2_with fail
      refine (lives_any _ hg6).mono ?_
      rintro e w7 ⟨rfl, hb7⟩
      go_wp2
      go_ret
      exact ⟨rfl, bl_trans hB6 hb7⟩
  · clear HCASE
    subst q1
    go_wp2_with fail
    refine (am_any _ _ _ hg3).mono ?_
    rintro e w4 ⟨rfl, hb4⟩
    rw [KT2.out, KG2.out]
    have hg4 := hg3.below hb4
    have d4 : w4.cell? ⟨w1.heap.size, 2, none⟩ = some (.int .i64 D) := (hb4.cell (p := ⟨w1.heap.size, 2, none⟩) hz3).trans d3
    have hz4 : w1.heap.size < w4.heap.size := by have := hb4.size; omega
    have hB4 : Below w.heap.size w w4 := bl_trans hB3 hb4
    clear hb4 hB3 hg3 d3 hz3
    go_wp2_with fail
    refine (am_any _ _ _ hg4).mono ?_
    rintro e w5 ⟨rfl, hb5⟩
    rw [KT1.out, KH.out]
    have hg5 := hg4.below hb5
    have d5 : w5.cell? ⟨w1.heap.size, 2, none⟩ = some (.int .i64 D) := (hb5.cell (p := ⟨w1.heap.size, 2, none⟩) hz4).trans d4
    have hz5 : w1.heap.size < w5.heap.size := by have := hb5.size; omega
    have hB5 : Below w.heap.size w w5 := bl_trans hB4 hb5
    clear hb5 hB4 hg4 d4 hz4
    go_wp2_with fail
    refine (am_any _ _ _ hg5).mono ?_
    rintro e w6 ⟨rfl, hb6⟩
    rw [KBK.out, KI.out]
    have hg6 := hg5.below hb6
    have d6 : w6.cell? ⟨w1.heap.size, 2, none⟩ = some (.int .i64 D) := (hb6.cell (p := ⟨w1.heap.size, 2, none⟩) hz5).trans d5
    have hB6 : Below w.heap.size w w6 := bl_trans hB5 hb6
    clear hb6 hB5 hg5 d5 hz5
    go_wp2_with fail
    refine (lives_any _ hg6).mono ?_
    rintro e w7 ⟨rfl, hb7⟩
    go_wp2
    go_ret
    exact ⟨rfl, bl_trans hB6 hb7⟩
  · clear HCASE
    subst q1 q2
    go_wp2_with fail
    refine (am_any _ _ _ hg3).mono ?_
    rintro e w4 ⟨rfl, hb4⟩
    rw [KT2.out, KG2.out]
    have hg4 := hg3.below hb4
    have d4 : w4.cell? ⟨w1.heap.size, 2, none⟩ = some (.int .i64 D) := (hb4.cell (p := ⟨w1.heap.size, 2, none⟩) hz3).trans d3
    have hz4 : w1.heap.size < w4.heap.size := by have := hb4.size; omega
    have hB4 : Below w.heap.size w w4 := bl_trans hB3 hb4
    clear hb4 hB3 hg3 d3 hz3
    go_wp2_with fail
    refine (am_any _ _ _ hg4).mono ?_
    rintro e w5 ⟨rfl, hb5⟩
    rw [KT1.out, KH.out]
    have hg5 := hg4.below hb5
    have d5 : w5.cell? ⟨w1.heap.size, 2, none⟩ = some (.int .i64 D) := (hb5.cell (p := ⟨w1.heap.size, 2, none⟩) hz4).trans d4
    have hz5 : w1.heap.size < w5.heap.size := by have := hb5.size; omega
    have hB5 : Below w.heap.size w w5 := bl_trans hB4 hb5
    clear hb5 hB4 hg4 d4 hz4
    go_wp2_with fail
    refine (am_any _ _ _ hg5).mono ?_
    rintro e w6 ⟨rfl, hb6⟩
    rw [KBK.out, KI.out]
    have hg6 := hg5.below hb6
    have d6 : w6.cell? ⟨w1.heap.size, 2, none⟩ = some (.int .i64 D) := (hb6.cell (p := ⟨w1.heap.size, 2, none⟩) hz5).trans d5
    have hB6 : Below w.heap.size w w6 := bl_trans hB5 hb6
    clear hb6 hB5 hg5 d5 hz5
    go_wp2_with fail
    refine (lives_any _ hg6).mono ?_
    rintro e w7 ⟨rfl, hb7⟩
    go_wp2
    go_ret
    exact ⟨rfl, bl_trans hB6 hb7⟩
  · clear HCASE
    subst q1 q4 q5 q6 q7
    go_wp2_with fail
    refine (am_any _ _ _ hg3).mono ?_
    rintro e w4 ⟨rfl, hb4⟩
    rw [KT2.out, KG2.out]
    have hg4 := hg3.below hb4
    have d4 : w4.cell? ⟨w1.heap.size, 2, none⟩ = some (.int .i64 D) := (hb4.cell (p := ⟨w1.heap.size, 2, none⟩) hz3).trans d3
    have hz4 : w1.heap.size < w4.heap.size := by have := hb4.size; omega
    have hB4 : Below w.heap.size w w4 := bl_trans hB3 hb4
    clear hb4 hB3 hg3 d3 hz3
    go_wp2_with fail
    refine (am_any _ _ _ hg4).mono ?_
    rintro e w5 ⟨rfl, hb5⟩
    rw [KT1.out, KH.out]
    have hg5 := hg4.below hb5
    have d5 : w5.cell? ⟨w1.heap.size, 2, none⟩ = some (.int .i64 D) := (hb5.cell (p := ⟨w1.heap.size, 2, none⟩) hz4).trans d4
    have hz5 : w1.heap.size < w5.heap.size := by have := hb5.size; omega
    have hB5 : Below w.heap.size w w5 := bl_trans hB4 hb5
    clear hb5 hB4 hg4 d4 hz4
    go_wp2_with fail
    refine (am_any _ _ _ hg5).mono ?_
    rintro e w6 ⟨rfl, hb6⟩
    rw [KBK.out, KI.out]
    have hg6 := hg5.below hb6
    have d6 : w6.cell? ⟨w1.heap.size, 2, none⟩ = some (.int .i64 D) := (hb6.cell (p := ⟨w1.heap.size, 2, none⟩) hz5).trans d5
    have hB6 : Below w.heap.size w w6 := bl_trans hB5 hb6
    clear hb6 hB5 hg5 d5 hz5
    go_wp2_with fail
    refine (lives_any _ hg6).mono ?_
    rintro e w7 ⟨rfl, hb7⟩
    go_wp2
    go_ret
    exact ⟨rfl, bl_trans hB6 hb7⟩
  · clear HCASE
    subst q1 q2 q5 q6 q7 q8
    go_wp2_with fail
    refine (am_any _ _ _ hg3).mono ?_
    rintro e w4 ⟨rfl, hb4⟩
    rw [KT2.out, KG2.out]
    have hg4 := hg3.below hb4
    have d4 : w4.cell? ⟨w1.heap.size, 2, none⟩ = some (.int .i64 D) := (hb4.cell (p := ⟨w1.heap.size, 2, none⟩) hz3).trans d3
    have hz4 : w1.heap.size < w4.heap.size := by have := hb4.size; omega
    have hB4 : Below w.heap.size w w4 := bl_trans hB3 hb4
    clear hb4 hB3 hg3 d3 hz3
    go_wp2_with fail
    refine (am_any _ _ _ hg4).mono ?_
    rintro e w5 ⟨rfl, hb5⟩
    rw [KT1.out, KH.out]
    have hg5 := hg4.below hb5
    have d5 : w5.cell? ⟨w1.heap.size, 2, none⟩ = some (.int .i64 D) := (hb5.cell (p := ⟨w1.heap.size, 2, none⟩) hz4).trans d4
    have hz5 : w1.heap.size < w5.heap.size := by have := hb5.size; omega
    have hB5 : Below w.heap.size w w5 := bl_trans hB4 hb5
    clear hb5 hB4 hg4 d4 hz4
    go_wp2_with fail
    refine (am_any _ _ _ hg5).mono ?_
    rintro e w6 ⟨rfl, hb6⟩
    rw [KBK.out, KI.out]
    have hg6 := hg5.below hb6
    have d6 : w6.cell? ⟨w1.heap.size, 2, none⟩ = some (.int .i64 D) := (hb6.cell (p := ⟨w1.heap.size, 2, none⟩) hz5).trans d5
    have hB6 : Below w.heap.size w w6 := bl_trans hB5 hb6
    clear hb6 hB5 hg5 d5 hz5
    go_wp2_with fail
    refine (lives_any _ hg6).mono ?_
    rintro e w7 ⟨rfl, hb7⟩
    go_wp2
    go_ret
    exact ⟨rfl, bl_trans hB6 hb7⟩
end Go.Proofs.YtefapmdgodfpeaaDoor
