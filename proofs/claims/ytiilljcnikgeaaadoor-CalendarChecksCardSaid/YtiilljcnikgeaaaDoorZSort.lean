/- slices.Sort on a slice of ints: as for holidays. Conditions: none. -/
import Derived.Test.YtiilljcnikgeaaaDoorZAll
import Derived.Test.YtiilljcnikgeaaaDoorHBtw
namespace Go.Proofs.YtiilljcnikgeaaaDoor
open Go.RowKit
theorem sortI_self {zs : List Int} (h : zs.Pairwise (· < ·)) : sortI zs = zs :=
  List.mergeSort_of_pairwise (h.imp fun h => decide_eq_true (Int.le_of_lt h))
end Go.Proofs.YtiilljcnikgeaaaDoor
