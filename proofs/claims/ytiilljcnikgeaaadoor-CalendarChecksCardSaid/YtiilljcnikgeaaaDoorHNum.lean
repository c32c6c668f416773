/- The walks of the number helpers of a reference package. Conditions: stated at each. -/
import Derived.Test.YtiilljcnikgeaaaDoorZAll
namespace Go.Proofs.YtiilljcnikgeaaaDoor
open Go.RowKit

set_option maxHeartbeats 400000 in
theorem around01 (n m : Int) (w : World) (h1 : -9223372036854775808 ≤ n) (h2 : n ≤ 9223372036854775807) (hm : 1 ≤ m) (hm2 : m ≤ 9223372036854775807) :
    Calls Tryd.prog 12 #[.int .i64 n, .int .i64 m] w (Pur (.int .i64 (around n m)) w) := by
  have hmm : (m == 0) = false := by rw [beq_eq_false_iff_ne]; omega
  by_cases h : n < 0
  · have ht : -((n + 1).tmod m) = (-(n + 1)) % m := by rw [← Int.neg_tmod]; exact Int.tmod_eq_emod_of_nonneg (by omega)
    have H := Lib.hid ht; clear ht
    go_enter Tryd.func12, Tryd.ntmps12
    go_wp2
    go_ret
    exact ⟨ret_int (by unfold around; rw [if_pos h, H.out]), rfl⟩
  · go_enter Tryd.func12, Tryd.ntmps12
    go_wp2
    go_ret
    exact ⟨ret_int (by unfold around; rw [if_neg (by omega)]), rfl⟩
set_option maxHeartbeats 400000 in
theorem pick01 (v : Value) (zs : List Int) (i : Nat) (m : Int) (w : World) (hv : IsInts w v zs) (hz : InR zs) (_hi : i ≤ 9223372036854775807) (hm : 1 ≤ m) (hm2 : m ≤ 9223372036854775807) :
    Calls Tryd.prog 26 #[v, .int .i64 i, .int .i64 m] w (Pur (.int .i64 (pick zs i m)) w) := by
  unfold pick
  have hneg : decide ((i : Int) < 0) = false := by simp
  rcases hv with ⟨a, cap, rfl, rfl⟩ | ⟨b, off, cap, rfl, hb, hl, hc⟩
  · go_enter Tryd.func26, Tryd.ntmps26
    go_wp2
    go_ret
    exact ⟨rfl, rfl⟩
  · by_cases h : i < zs.length
    · have hci := hc i h
      obtain ⟨z1, z2⟩ := hz.at i
      have HC := Lib.hid hc; clear hc
      unfold maxLen at hl
      rw [if_pos h]
      generalize zs[i]?.getD 0 = z at *
      go_enter Tryd.func26, Tryd.ntmps26
      go_wp2_with fail
      refine (around01 _ _ _ z1 z2 hm hm2).mono ?_
      rintro e w' ⟨rfl, rfl⟩
      go_wp2
      go_ret
      exact ⟨rfl, rfl⟩
    · have HC := Lib.hid hc; clear hc
      unfold maxLen at hl
      rw [if_neg h]
      go_enter Tryd.func26, Tryd.ntmps26
      go_wp2
      go_ret
      exact ⟨rfl, rfl⟩
end Go.Proofs.YtiilljcnikgeaaaDoor
