/- The walks of the number helpers of a reference package. Conditions: stated at each. -/
import Derived.Test.YtmkhnpkbaegchaaKPlain
namespace Go.Proofs.Ytmkhnpkbaegchaa
open Go.RowKit

set_option maxHeartbeats 400000 in
theorem around02 (n m : Int) (w : World) (h1 : -9223372036854775808 ≤ n) (h2 : n ≤ 9223372036854775807) (hm : 1 ≤ m) (hm2 : m ≤ 9223372036854775807) :
    Calls Try.prog 25 #[.int .i64 n, .int .i64 m] w (Pur (.int .i64 (around n m)) w) := by
  have hmm : (m == 0) = false := by rw [beq_eq_false_iff_ne]; omega
  by_cases h : n < 0
  · have ht : -((n + 1).tmod m) = (-(n + 1)) % m := by rw [← Int.neg_tmod]; exact Int.tmod_eq_emod_of_nonneg (by omega)
    have H := Lib.hid ht; clear ht
    go_enter Try.func25, Try.ntmps25
    go_wp2
    go_ret
    exact ⟨ret_int (by unfold around; rw [if_pos h, H.out]), rfl⟩
  · go_enter Try.func25, Try.ntmps25
    go_wp2
    go_ret
    exact ⟨ret_int (by unfold around; rw [if_neg (by omega)]), rfl⟩
/-- Pick: the element i modulo m; 0 where there is none -/
def pick (zs : List Int) (i : Nat) (m : Int) : Int := if i < zs.length then around (zs[i]?.getD 0) m else 0
set_option maxHeartbeats 400000 in
theorem pick02 (v : Value) (zs : List Int) (i : Nat) (m : Int) (w : World) (hv : IsInts w v zs) (hz : InR zs) (_hi : i ≤ 9223372036854775807) (hm : 1 ≤ m) (hm2 : m ≤ 9223372036854775807) :
    Calls Try.prog 28 #[v, .int .i64 i, .int .i64 m] w (Pur (.int .i64 (pick zs i m)) w) := by
  unfold pick
  have hneg : decide ((i : Int) < 0) = false := by simp
  rcases hv with ⟨a, cap, rfl, rfl⟩ | ⟨b, off, cap, rfl, hb, hl, hc⟩
  · go_enter Try.func28, Try.ntmps28
    go_wp2
    go_ret
    exact ⟨rfl, rfl⟩
  · by_cases h : i < zs.length
    · have hci := hc i h
      obtain ⟨z1, z2⟩ := hz.at i
      have HC := Lib.hid hc; clear hc
      unfold maxLen at hl
      rw [if_pos h]
      generalize zs[i]?.getD 0 = z at *
      go_enter Try.func28, Try.ntmps28
      go_wp2_with fail
      refine (around02 _ _ _ z1 z2 hm hm2).mono ?_
      rintro e w' ⟨rfl, rfl⟩
      go_wp2
      go_ret
      exact ⟨rfl, rfl⟩
    · have HC := Lib.hid hc; clear hc
      unfold maxLen at hl
      rw [if_neg h]
      go_enter Try.func28, Try.ntmps28
      go_wp2
      go_ret
      exact ⟨rfl, rfl⟩
end Go.Proofs.Ytmkhnpkbaegchaa
