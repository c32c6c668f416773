/- Easter of any year. Conditions: none. -/
import Derived.Test.YtiefjnhnceipmaaDoorDRef2
import Derived.Test.YtiefjnhnceipmaaDoorDEasPlain
namespace Go.Proofs.YtiefjnhnceipmaaDoor
open Go.RowKit

/-- Easter, or 0 and the error -/
def eaV (y : Int) : Int := if 1583 ≤ y ∧ y ≤ 9999 then easN y else 0
def eaE (y : Int) : Int := if 1583 ≤ y ∧ y ≤ 9999 then 0 else 5
theorem easter_any (y : Int) (w : World) : Calls Tryd.prog 24 #[.int .i64 y] w (Ret (.tuple #[.int .i64 (eaV y), .int .i64 (eaE y)]) w) := by
  by_cases h : 1583 ≤ y ∧ y ≤ 9999
  · unfold eaV eaE; rw [if_pos h, if_pos h]; exact easter_yes y w h.1 h.2
  · unfold eaV eaE; rw [if_neg h, if_neg h]; exact easter_no y w (by omega)
end Go.Proofs.YtiefjnhnceipmaaDoor
