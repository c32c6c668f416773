/- The walk of the reference's AddMonths, and of the law's helpers near and day. -/
import Derived.Test.YtefapmdgodfpeaaDoorDRef3
namespace Go.Proofs.YtefapmdgodfpeaaDoor
open Go.RowKit

set_option maxHeartbeats 2000000 in
theorem ram_yes (n k : Int) (w : World) (k0 : -200000 ≤ k) (k1 : k ≤ 200000) (h0 : 0 ≤ n) (h1 : n ≤ 3652058) (m0 : 12 ≤ amT n k) (m1 : amT n k < 120000) :
    Calls Tryd.prog 34 #[.int .i64 n, .int .i64 k] w (Ret (.tuple #[.int .i64 (amV n k), .int .i64 0]) w) := by
  obtain ⟨v1, v2, v3, v4, v5, v6⟩ := valid_of h0 h1
  have v7 := len_le (ofY n) (ofM n)
  have v8 := len_le (amT n k / 12) (amT n k % 12 + 1)
  have rV : amV n k = num (amT n k / 12) (amT n k % 12 + 1) (min (ofD n) (len (amT n k / 12) (amT n k % 12 + 1))) := rfl
  have rT : amT n k = 12 * ofY n + ofM n - 1 + k := rfl
  generalize amT n k = T at *
  generalize hY : ofY n = Y at *
  generalize hM : ofM n = M at *
  generalize hD : ofD n = D at *
  have p1 : T - 12 * (T / 12) + 1 = T % 12 + 1 := by omega
  have q1 : 1 ≤ T / 12 := by omega
  have q2 : T / 12 ≤ 9999 := by omega
  have q3 : 0 ≤ T % 12 := by omega
  have q4 : T % 12 ≤ 11 := by omega
  generalize hQ : T / 12 = Q at *
  generalize T % 12 = P at *
  have HY := Lib.hid hY; have HM := Lib.hid hM; have HD := Lib.hid hD; clear hY hM hD
  have HQ := Lib.hid hQ; clear hQ
  have HV := Lib.hid rV; have HT := Lib.hid rT; clear rV
  have HP := Lib.hid p1
  have t0 : -200000 ≤ 12 * Y + M - 1 + k := by omega
  clear rT
  have b1 : 0 ≤ T - 12 * Q + 1 := by omega
  clear p1
  go_enter Tryd.func34, Tryd.ntmps34
  go_wp2_with fail
  refine (rof_yes _ _ h0 h1).mono ?_
  rintro e w1 ⟨rfl, hb1⟩
  rw [HY.out, HM.out, HD.out]
  go_upto_region 7 with (fail)
  rw [← HT.out]
  go_wp2_with fail
  refine (floor_any _ _ _ (by omega) (by omega) (by omega) (by omega)).mono ?_
  rintro e w2 ⟨rfl, rfl⟩
  rw [HQ.out]
  have hx := (hb1.frozen (p := ⟨w.heap.size, 0, none⟩))
  clear hx
  go_upto_region 12 with (fail)
  rw [HP.out]
  refine wp_region_still_tail 9 (by kernel_rfl) (by kernel_rfl) ?_
  simp only [List.take_succ_cons, List.take_zero, List.drop_succ_cons, List.drop_zero]
  change wpStill _ _ ((w1.alloc _).drew) (fun a' => wpList _ _ _ _ a' ((w1.alloc _).drew)) _ _
  iterate 6 still_step
  still_call ((rlen_any _ _ _).mono (fun e w' ⟨he, hw⟩ => ⟨he, hw.symm⟩))
  iterate 2 still_step
  refine wpStill_nil ?_
  go_wp2_with fail
  refine (rnumber_any _ _ _ _ (by omega) (by omega) (by omega)).mono ?_
  rintro e w2 ⟨rfl, hb2⟩
  go_wp2
  go_ret2
  exact ⟨by rw [HV.out]; rfl, bl_trans (bl_trans hb1 ((bl_alloc _ _).drew)) hb2⟩

set_option maxHeartbeats 1000000 in
theorem ram_far (n k : Int) (w : World) (h : k < -200000 ∨ 200000 < k) :
    Calls Tryd.prog 34 #[.int .i64 n, .int .i64 k] w (Ret (.tuple #[.int .i64 0, .int .i64 2]) w) := by
  by_cases h0 : k < -200000
  · go_enter Tryd.func34, Tryd.ntmps34
    go_wp2
    go_ret2
    exact ⟨rfl, bl_refl _⟩
  · have h1 : 200000 < k := by omega
    go_enter Tryd.func34, Tryd.ntmps34
    go_wp2
    go_ret2
    exact ⟨rfl, bl_refl _⟩

set_option maxHeartbeats 1000000 in
theorem ram_noday (n k : Int) (w : World) (k0 : -200000 ≤ k) (k1 : k ≤ 200000) (h : n < 0 ∨ 3652058 < n) :
    Calls Tryd.prog 34 #[.int .i64 n, .int .i64 k] w (Ret (.tuple #[.int .i64 0, .int .i64 5]) w) := by
  go_enter Tryd.func34, Tryd.ntmps34
  go_wp2_with fail
  refine (rof_no _ _ h).mono ?_
  rintro e w1 ⟨rfl, hb1⟩
  go_wp2
  go_ret2
  exact ⟨rfl, bl_trans hb1 (bl_alloc _ _)⟩

set_option maxHeartbeats 1000000 in
theorem ram_out (n k : Int) (w : World) (k0 : -200000 ≤ k) (k1 : k ≤ 200000) (h0 : 0 ≤ n) (h1 : n ≤ 3652058) (h : amT n k < 12 ∨ 120000 ≤ amT n k) :
    Calls Tryd.prog 34 #[.int .i64 n, .int .i64 k] w (Ret (.tuple #[.int .i64 0, .int .i64 5]) w) := by
  obtain ⟨v1, v2, v3, v4, v5, v6⟩ := valid_of h0 h1
  have rT : amT n k = 12 * ofY n + ofM n - 1 + k := rfl
  generalize amT n k = T at *
  generalize hY : ofY n = Y at *
  generalize hM : ofM n = M at *
  generalize hD : ofD n = D at *
  have HY := Lib.hid hY; have HM := Lib.hid hM; have HD := Lib.hid hD; clear hY hM hD
  have HT := Lib.hid rT
  have t0 : -200000 ≤ 12 * Y + M - 1 + k := by omega
  have t1 : T ≤ 400000 := by omega
  have t2 : -200000 ≤ T := by omega
  clear rT v6
  have hq : T / 12 < 1 ∨ 9999 < T / 12 := by omega
  generalize hQ : T / 12 = Q at *
  have HQ := Lib.hid hQ; clear hQ
  by_cases hT : Q < 1
  · go_enter Tryd.func34, Tryd.ntmps34
    go_wp2_with fail
    refine (rof_yes _ _ h0 h1).mono ?_
    rintro e w1 ⟨rfl, hb1⟩
    rw [HY.out, HM.out, HD.out]
    go_upto_region 7 with (fail)
    rw [← HT.out]
    go_wp2_with fail
    refine (floor_any _ _ _ (by omega) (by omega) (by omega) (by omega)).mono ?_
    rintro e w2 ⟨rfl, rfl⟩
    rw [HQ.out]
    go_wp2
    go_ret2
    exact ⟨rfl, bl_trans hb1 (bl_alloc _ _)⟩
  · have hT2 : 9999 < Q := by omega
    go_enter Tryd.func34, Tryd.ntmps34
    go_wp2_with fail
    refine (rof_yes _ _ h0 h1).mono ?_
    rintro e w1 ⟨rfl, hb1⟩
    rw [HY.out, HM.out, HD.out]
    go_upto_region 7 with (fail)
    rw [← HT.out]
    go_wp2_with fail
    refine (floor_any _ _ _ (by omega) (by omega) (by omega) (by omega)).mono ?_
    rintro e w2 ⟨rfl, rfl⟩
    rw [HQ.out]
    go_wp2
    go_ret2
    exact ⟨rfl, bl_trans hb1 (bl_alloc _ _)⟩

theorem ram_any (n k : Int) (w : World) : Calls Tryd.prog 34 #[.int .i64 n, .int .i64 k] w (Ret (.tuple #[.int .i64 (amN n k), .int .i64 (amE n k)]) w) := by
  by_cases h1 : k < -200000 ∨ 200000 < k
  · have e : amE n k = 2 := by unfold amE; rw [if_pos h1]
    have f : amN n k = 0 := by unfold amN; rw [e]; rfl
    rw [e, f]; exact ram_far n k w h1
  · by_cases h2 : 0 ≤ n ∧ n ≤ 3652058
    · by_cases h3 : amT n k < 12 ∨ 120000 ≤ amT n k
      · have e : amE n k = 5 := by unfold amE; rw [if_neg h1, if_neg (Classical.not_not.2 h2), if_pos h3]
        have f : amN n k = 0 := by unfold amN; rw [e]; rfl
        rw [e, f]; exact ram_out n k w (by omega) (by omega) h2.1 h2.2 h3
      · have e : amE n k = 0 := by unfold amE; rw [if_neg h1, if_neg (Classical.not_not.2 h2), if_neg h3]
        have f : amN n k = amV n k := by unfold amN; rw [if_pos e]
        rw [e, f]; exact ram_yes n k w (by omega) (by omega) h2.1 h2.2 (by omega) (by omega)
    · have e : amE n k = 5 := by unfold amE; rw [if_neg h1, if_pos h2]
      have f : amN n k = 0 := by unfold amN; rw [e]; rfl
      rw [e, f]; exact ram_noday n k w (by omega) (by omega) (by omega)

/-- the law's helpers -/
theorem near_any (n : Int) (w : World) (h1 : -9223372036854775808 ≤ n) (h2 : n ≤ 9223372036854775807) :
    Calls Tryd.prog 19 #[.int .i64 n] w (Pur (.int .i64 (around n 3652065 - 3)) w) := by
  obtain ⟨a1, a2⟩ := around_bd n (m := 3652065) (by omega)
  go_enter Tryd.func19, Tryd.ntmps19
  go_wp2_with fail
  refine (around_any _ _ _ h1 h2 (by omega) (by omega)).mono ?_
  rintro e w' ⟨rfl, rfl⟩
  go_wp2
  go_ret
  exact ⟨rfl, rfl⟩
theorem dayOf_any (n : Int) (w : World) (h1 : -9223372036854775808 ≤ n) (h2 : n ≤ 9223372036854775807) :
    Calls Tryd.prog 20 #[.int .i64 n] w (Pur (.int .i64 (around n 3652059)) w) := by
  obtain ⟨a1, a2⟩ := around_bd n (m := 3652059) (by omega)
  go_enter Tryd.func20, Tryd.ntmps20
  go_wp2_with fail
  refine (around_any _ _ _ h1 h2 (by omega) (by omega)).mono ?_
  rintro e w' ⟨rfl, rfl⟩
  go_wp2
  go_ret
  exact ⟨rfl, rfl⟩
end Go.Proofs.YtefapmdgodfpeaaDoor
