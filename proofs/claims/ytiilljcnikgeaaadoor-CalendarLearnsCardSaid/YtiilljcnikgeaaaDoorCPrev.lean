/- The walk of Previous. Conditions: as of Next. -/
import Derived.Test.YtiilljcnikgeaaaDoorCFirst
namespace Go.Proofs.YtiilljcnikgeaaaDoor
open Go.RowKit
set_option maxHeartbeats 1000000 in
theorem prev_any (c : Cal) (vh vc vs : Value) (d k : Int) (w : World) (hG : GoodH w) (hc : CalIn w vh vc vs c) :
    Calls Tryd.prog 20 #[aggC c vh vc vs, .int .i64 d, .int .i64 k] w (Ret (.tuple #[.int .i64 (fstV c k d (-1)), .int .i64 (fstE c k d (-1))]) w) := by
  have hf := fun w hG hc => cfirst_any c vh vc vs d k (-1) w hG hc (by omega) (by omega)
  generalize fstV c k d (-1) = v at *
  generalize fstE c k d (-1) = e0 at *
  have HF := Lib.hid hf; have HC := Lib.hid hc; clear hf hc
  go_enter Tryd.func20, Tryd.ntmps20
  go_wp2_with fail
  refine (HF.out _ (hG.alloc _) (HC.out.alloc _)).mono ?_
  rintro e w1 ⟨rfl, hb⟩
  go_wp2
  go_ret2
  exact ⟨rfl, bl_trans (bl_alloc _ _) hb⟩
end Go.Proofs.YtiilljcnikgeaaaDoor
