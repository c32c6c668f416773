/- The walk of date.AddMonths, at every two numbers. -/
import Derived.Test.YtiefjnhnceipmaaDoorDOf
import Derived.StillTailTactics
namespace Go.Proofs.YtiefjnhnceipmaaDoor
open Go.RowKit

def amT (n k : Int) : Int := 12 * ofY n + ofM n - 1 + k
def amMin (a b : Int) : Int := min a b
def amV (n k : Int) : Int := num (amT n k / 12) (amT n k % 12 + 1) (amMin (ofD n) (len (amT n k / 12) (amT n k % 12 + 1)))
def amE (n k : Int) : Int := if k < -200000 ∨ 200000 < k then 2 else if ¬ (0 ≤ n ∧ n ≤ 3652058) then 5 else if amT n k < 12 ∨ 120000 ≤ amT n k then 5 else 0
def amN (n k : Int) : Int := if amE n k = 0 then amV n k else 0

set_option maxRecDepth 100000 in
set_option maxHeartbeats 2000000 in
theorem am_yes (n k : Int) (w : World) (hG : Good w) (k0 : -200000 ≤ k) (k1 : k ≤ 200000) (h0 : 0 ≤ n) (h1 : n ≤ 3652058) (m0 : 12 ≤ amT n k) (m1 : amT n k < 120000) :
    Calls Tryd.prog 25 #[.int .i64 n, .int .i64 k] w (Ret (.tuple #[.int .i64 (amV n k), .int .i64 0]) w) := by
  obtain ⟨v1, v2, v3, v4, v5, v6⟩ := valid_of h0 h1
  have v7 := len_le (ofY n) (ofM n)
  have v8 := len_le (amT n k / 12) (amT n k % 12 + 1)
  have rV : amV n k = num (amT n k / 12) (amT n k % 12 + 1) (min (ofD n) (len (amT n k / 12) (amT n k % 12 + 1))) := rfl
  have rT : amT n k = 12 * ofY n + ofM n - 1 + k := rfl
  generalize amT n k = T at *
  generalize hY : ofY n = Y at *
  generalize hM : ofM n = M at *
  generalize hD : ofD n = D at *
  have HY := Lib.hid hY; have HM := Lib.hid hM; have HD := Lib.hid hD; clear hY hM hD
  have HV := Lib.hid rV; have HT := Lib.hid rT; clear rV
  have t0 : -200000 ≤ 12 * Y + M - 1 + k := by omega
  clear rT
  go_enter Tryd.func25, Tryd.ntmps25
  go_wp2_with fail
  refine (of_yes _ _ h0 h1).mono ?_
  rintro e w1 ⟨rfl, hb1⟩
  rw [HY.out, HM.out, HD.out]
  have hG3 := ((hG.below hb1).alloc (.cells #[.int .i64 (T / 12), .int .i64 (T % 12 + 1), .int .i64 D] 48)).drew
  go_upto_region 7 with (fail)
  rw [← HT.out]
  go_wp2
  refine wp_region_still_tail 9 (by kernel_rfl) (by kernel_rfl) ?_
  simp only [List.take_succ_cons, List.take_zero, List.drop_succ_cons, List.drop_zero]
  change wpStill _ _ ((w1.alloc _).drew) (fun a' => wpList _ _ _ _ a' ((w1.alloc _).drew)) _ _
  iterate 6 still_step
  still_call ((len_any _ _ _ hG3).mono (fun e w' ⟨he, hw⟩ => ⟨he, hw.symm⟩))
  iterate 2 still_step
  refine wpStill_nil ?_
  go_wp2_with fail
  refine (number_any _ _ _ _ (by omega) (by omega) (by omega)).mono ?_
  rintro e w2 ⟨rfl, hb2⟩
  go_wp2
  go_ret2
  exact ⟨by rw [HV.out]; rfl, bl_trans (bl_trans hb1 ((bl_alloc _ _).drew)) hb2⟩

set_option maxHeartbeats 1000000 in
theorem am_far (n k : Int) (w : World) (h : k < -200000 ∨ 200000 < k) :
    Calls Tryd.prog 25 #[.int .i64 n, .int .i64 k] w (Ret (.tuple #[.int .i64 0, .int .i64 2]) w) := by
  by_cases h0 : k < -200000
  · go_enter Tryd.func25, Tryd.ntmps25
    go_wp2
    go_ret2
    exact ⟨rfl, bl_refl _⟩
  · have h1 : 200000 < k := by omega
    go_enter Tryd.func25, Tryd.ntmps25
    go_wp2
    go_ret2
    exact ⟨rfl, bl_refl _⟩

set_option maxHeartbeats 1000000 in
theorem am_noday (n k : Int) (w : World) (k0 : -200000 ≤ k) (k1 : k ≤ 200000) (h : n < 0 ∨ 3652058 < n) :
    Calls Tryd.prog 25 #[.int .i64 n, .int .i64 k] w (Ret (.tuple #[.int .i64 0, .int .i64 5]) w) := by
  go_enter Tryd.func25, Tryd.ntmps25
  go_wp2_with fail
  refine (of_no _ _ h).mono ?_
  rintro e w1 ⟨rfl, hb1⟩
  go_wp2
  go_ret2
  exact ⟨rfl, bl_trans hb1 (bl_alloc _ _)⟩

set_option maxHeartbeats 1000000 in
theorem am_out (n k : Int) (w : World) (k0 : -200000 ≤ k) (k1 : k ≤ 200000) (h0 : 0 ≤ n) (h1 : n ≤ 3652058) (h : amT n k < 12 ∨ 120000 ≤ amT n k) :
    Calls Tryd.prog 25 #[.int .i64 n, .int .i64 k] w (Ret (.tuple #[.int .i64 0, .int .i64 5]) w) := by
  obtain ⟨v1, v2, v3, v4, v5, v6⟩ := valid_of h0 h1
  have rT : amT n k = 12 * ofY n + ofM n - 1 + k := rfl
  generalize amT n k = T at *
  generalize hY : ofY n = Y at *
  generalize hM : ofM n = M at *
  generalize hD : ofD n = D at *
  have HY := Lib.hid hY; have HM := Lib.hid hM; have HD := Lib.hid hD; clear hY hM hD
  have HT := Lib.hid rT
  have t0 : -200000 ≤ 12 * Y + M - 1 + k := by omega
  clear rT v6
  by_cases hT : T < 12
  · go_enter Tryd.func25, Tryd.ntmps25
    go_wp2_with fail
    refine (of_yes _ _ h0 h1).mono ?_
    rintro e w1 ⟨rfl, hb1⟩
    rw [HY.out, HM.out, HD.out]
    go_upto_region 7 with (fail)
    rw [← HT.out]
    go_wp2
    go_ret2
    exact ⟨rfl, bl_trans hb1 (bl_alloc _ _)⟩
  · have hT2 : 120000 ≤ T := by omega
    go_enter Tryd.func25, Tryd.ntmps25
    go_wp2_with fail
    refine (of_yes _ _ h0 h1).mono ?_
    rintro e w1 ⟨rfl, hb1⟩
    rw [HY.out, HM.out, HD.out]
    go_upto_region 7 with (fail)
    rw [← HT.out]
    go_wp2
    go_ret2
    exact ⟨rfl, bl_trans hb1 (bl_alloc _ _)⟩

theorem am_any (n k : Int) (w : World) (hG : Good w) : Calls Tryd.prog 25 #[.int .i64 n, .int .i64 k] w (Ret (.tuple #[.int .i64 (amN n k), .int .i64 (amE n k)]) w) := by
  by_cases h1 : k < -200000 ∨ 200000 < k
  · have e : amE n k = 2 := by unfold amE; rw [if_pos h1]
    have f : amN n k = 0 := by unfold amN; rw [e]; rfl
    rw [e, f]; exact am_far n k w h1
  · by_cases h2 : 0 ≤ n ∧ n ≤ 3652058
    · by_cases h3 : amT n k < 12 ∨ 120000 ≤ amT n k
      · have e : amE n k = 5 := by unfold amE; rw [if_neg h1, if_neg (Classical.not_not.2 h2), if_pos h3]
        have f : amN n k = 0 := by unfold amN; rw [e]; rfl
        rw [e, f]; exact am_out n k w (by omega) (by omega) h2.1 h2.2 h3
      · have e : amE n k = 0 := by unfold amE; rw [if_neg h1, if_neg (Classical.not_not.2 h2), if_neg h3]
        have f : amN n k = amV n k := by unfold amN; rw [if_pos e]
        rw [e, f]; exact am_yes n k w hG (by omega) (by omega) h2.1 h2.2 (by omega) (by omega)
    · have e : amE n k = 5 := by unfold amE; rw [if_neg h1, if_pos h2]
      have f : amN n k = 0 := by unfold amN; rw [e]; rfl
      rw [e, f]; exact am_noday n k w (by omega) (by omega) (by omega)
end Go.Proofs.YtiefjnhnceipmaaDoor
