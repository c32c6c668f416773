/- The walk of within: whether a number lies between two. Conditions: none. -/
import Derived.Test.YtaiiibbnjmjamaaGreatDoorKK
namespace Go.Proofs.YtaiiibbnjmjamaaGreatDoor
open Go.RowKit

def win (n a b : Int) : Bool := decide (a ≤ n ∧ n ≤ b)
set_option maxHeartbeats 400000 in
theorem within_any (n a b : Int) (w : World) : Calls Tryz.prog 16 #[.int .i64 n, .int .i64 a, .int .i64 b] w (Pur (.bool (win n a b)) w) := by
  by_cases h : a ≤ n
  · go_enter Tryz.func16, Tryz.ntmps16
    go_wp2
    go_ret
    exact ⟨ret_bool (by unfold win; simp [h]), rfl⟩
  · go_enter Tryz.func16, Tryz.ntmps16
    go_wp2
    go_ret
    exact ⟨ret_bool (by unfold win; rw [decide_eq_false (by omega)]), rfl⟩
end Go.Proofs.YtaiiibbnjmjamaaGreatDoor
