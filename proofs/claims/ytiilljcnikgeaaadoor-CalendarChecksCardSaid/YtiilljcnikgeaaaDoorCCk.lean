/- The walk of the law CalendarChecks: it returns true at every input. Conditions: the numbers are ints that lie in memory, the listed tables lie in memory. -/
import Derived.Test.YtiilljcnikgeaaaDoorCKab
import Derived.Test.YtiilljcnikgeaaaDoorCKcd
import Derived.Test.YtiilljcnikgeaaaDoorCKe
namespace Go.Proofs.YtiilljcnikgeaaaDoor
open Go.RowKit

theorem law_cchecks (v : Value) (zs : List Int) (how n m : Int) (w : World) (hI : IsIntsC w v zs) (hz : InR zs) (hG : GoodH w) (b0 : -9223372036854775808 ≤ how) (t0 : how ≤ 9223372036854775807) (b1 : -9223372036854775808 ≤ n) (t1 : n ≤ 9223372036854775807) (b2 : -9223372036854775808 ≤ m) (t2 : m ≤ 9223372036854775807) :
    Calls Tryd.prog 3 #[v, .int .i64 how, .int .i64 n, .int .i64 m] w (Ret (.bool true) w) := by
  have hb := around_bd how (m := 9) (by omega)
  have hc : around how 9 = 0 ∨ around how 9 = 1 ∨ around how 9 = 2 ∨ around how 9 = 3 ∨ around how 9 = 4 ∨ around how 9 = 5 ∨ around how 9 = 6 ∨ around how 9 = 7 ∨ around how 9 = 8 := by omega
  rcases hc with h | h | h | h | h | h | h | h | h
  · exact law_cchecks0 v zs how n m w hI hz hG b0 t0 b1 t1 b2 t2 h
  · exact law_cchecks1 v zs how n m w hI hz hG b0 t0 b1 t1 b2 t2 h
  · exact law_cchecks2 v zs how n m w hI hz hG b0 t0 b1 t1 b2 t2 h
  · exact law_cchecks3 v zs how n m w hI hz hG b0 t0 b1 t1 b2 t2 h
  · exact law_cchecks4 v zs how n m w hI hz hG b0 t0 b1 t1 b2 t2 h
  · exact law_cchecks5 v zs how n m w hI hz hG b0 t0 b1 t1 b2 t2 h
  · exact law_cchecks6 v zs how n m w hI hz hG b0 t0 b1 t1 b2 t2 h
  · exact law_cchecks7 v zs how n m w hI hz hG b0 t0 b1 t1 b2 t2 h
  · exact law_cchecks8 v zs how n m w hI hz hG b0 t0 b1 t1 b2 t2 h
end Go.Proofs.YtiilljcnikgeaaaDoor
