/- The walk of within, the program's and the reference's: whether a number lies between two. Conditions: none. -/
import Derived.Test.YtiilljcnikgeaaaDoorKK
namespace Go.Proofs.YtiilljcnikgeaaaDoor
open Go.RowKit

def win (n a b : Int) : Bool := decide (a ≤ n ∧ n ≤ b)
set_option maxHeartbeats 400000 in
theorem within_any (n a b : Int) (w : World) : Calls Tryd.prog 42 #[.int .i64 n, .int .i64 a, .int .i64 b] w (Pur (.bool (win n a b)) w) := by
  by_cases h : a ≤ n
  · go_enter Tryd.func42, Tryd.ntmps42
    go_wp2
    go_ret
    exact ⟨ret_bool (by unfold win; simp [h]), rfl⟩
  · go_enter Tryd.func42, Tryd.ntmps42
    go_wp2
    go_ret
    exact ⟨ret_bool (by unfold win; rw [decide_eq_false (by omega)]), rfl⟩
set_option maxHeartbeats 400000 in
theorem rwithin_any (n a b : Int) (w : World) : Calls Tryd.prog 73 #[.int .i64 n, .int .i64 a, .int .i64 b] w (Pur (.bool (win n a b)) w) := by
  by_cases h : a ≤ n
  · go_enter Tryd.func73, Tryd.ntmps73
    go_wp2
    go_ret
    exact ⟨ret_bool (by unfold win; simp [h]), rfl⟩
  · go_enter Tryd.func73, Tryd.ntmps73
    go_wp2
    go_ret
    exact ⟨ret_bool (by unfold win; rw [decide_eq_false (by omega)]), rfl⟩
end Go.Proofs.YtiilljcnikgeaaaDoor
