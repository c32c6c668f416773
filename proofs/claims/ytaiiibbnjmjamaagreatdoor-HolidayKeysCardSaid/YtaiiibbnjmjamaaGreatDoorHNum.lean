/- The walks of Around of a reference package. Conditions: stated at each. -/
import Derived.Test.YtaiiibbnjmjamaaGreatDoorKK
namespace Go.Proofs.YtaiiibbnjmjamaaGreatDoor
open Go.RowKit

set_option maxHeartbeats 400000 in
theorem around01 (n m : Int) (w : World) (h1 : -9223372036854775808 ≤ n) (h2 : n ≤ 9223372036854775807) (hm : 1 ≤ m) (hm2 : m ≤ 9223372036854775807) :
    Calls Tryz.prog 6 #[.int .i64 n, .int .i64 m] w (Pur (.int .i64 (around n m)) w) := by
  have hmm : (m == 0) = false := by rw [beq_eq_false_iff_ne]; omega
  by_cases h : n < 0
  · have ht : -((n + 1).tmod m) = (-(n + 1)) % m := by rw [← Int.neg_tmod]; exact Int.tmod_eq_emod_of_nonneg (by omega)
    have H := Lib.hid ht; clear ht
    go_enter Tryz.func6, Tryz.ntmps6
    go_wp2
    go_ret
    exact ⟨ret_int (by unfold around; rw [if_pos h, H.out]), rfl⟩
  · go_enter Tryz.func6, Tryz.ntmps6
    go_wp2
    go_ret
    exact ⟨ret_int (by unfold around; rw [if_neg (by omega)]), rfl⟩
end Go.Proofs.YtaiiibbnjmjamaaGreatDoor
