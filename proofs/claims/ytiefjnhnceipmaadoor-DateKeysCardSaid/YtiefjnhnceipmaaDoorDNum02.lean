/- The walks of the number helpers of a reference package. Conditions: stated at each. -/
import Derived.Test.YtiefjnhnceipmaaDoorKPlain
namespace Go.Proofs.YtiefjnhnceipmaaDoor
open Go.RowKit

set_option maxHeartbeats 400000 in
theorem around02 (n m : Int) (w : World) (h1 : -9223372036854775808 ≤ n) (h2 : n ≤ 9223372036854775807) (hm : 1 ≤ m) (hm2 : m ≤ 9223372036854775807) :
    Calls Tryd.prog 13 #[.int .i64 n, .int .i64 m] w (Pur (.int .i64 (around n m)) w) := by
  have hmm : (m == 0) = false := by rw [beq_eq_false_iff_ne]; omega
  by_cases h : n < 0
  · have ht : -((n + 1).tmod m) = (-(n + 1)) % m := by rw [← Int.neg_tmod]; exact Int.tmod_eq_emod_of_nonneg (by omega)
    have H := Lib.hid ht; clear ht
    go_enter Tryd.func13, Tryd.ntmps13
    go_wp2
    go_ret
    exact ⟨ret_int (by unfold around; rw [if_pos h, H.out]), rfl⟩
  · go_enter Tryd.func13, Tryd.ntmps13
    go_wp2
    go_ret
    exact ⟨ret_int (by unfold around; rw [if_neg (by omega)]), rfl⟩
set_option maxHeartbeats 400000 in
theorem has02 (v : Value) (zs : List Int) (n : Int) (w : World) (hv : IsInts w v zs) :
    Calls Tryd.prog 8 #[v, .int .i64 n] w (Pur (.bool (decide (n ∈ zs))) w) := by
  rcases hv with ⟨a, cap, rfl, rfl⟩ | ⟨b, off, cap, rfl, hb, hl, hc⟩
  · go_enter Tryd.func8, Tryd.ntmps8
    go_wp2
    go_loop [5] (fun i => i = .int .i64 0) (fun _ => 0)
    case atStart => rfl
    case round =>
      subst hrel
      go_wp2
      go_ret
      exact ⟨by simp, rfl⟩
  · have HC := Lib.hid hc; clear hc
    unfold maxLen at hl
    go_enter Tryd.func8, Tryd.ntmps8
    go_wp2
    go_loop [5] (fun i => ∃ k : Nat, k ≤ zs.length ∧ i = .int .i64 k ∧ ¬ n ∈ zs.take k) (fun i => zs.length - (intOf i).toNat)
    case atStart => exact ⟨0, Nat.zero_le _, rfl, by simp⟩
    case round =>
      obtain ⟨k, hk, rfl, hn⟩ := hrel
      by_cases hlt : k < zs.length
      · have hck := HC.out k hlt
        have ht := take_next hlt
        have hmem : zs[k]?.getD 0 ∈ zs := by rw [List.getElem?_eq_getElem hlt]; exact List.getElem_mem hlt
        generalize zs[k]?.getD 0 = x at *
        have HN := Lib.hid hn; have HT := Lib.hid ht
        clear hn ht
        by_cases hx : x = n
        · have hm : n ∈ zs := hx ▸ hmem
          have hq : (x == n) = true := by rw [beq_iff_eq]; exact hx
          have HM := Lib.hid hm; clear hm hx hmem
          go_wp2
          go_ret
          exact ⟨ret_bool (by rw [decide_eq_true HM.out]), rfl⟩
        · have hq : (x == n) = false := by rw [beq_eq_false_iff_ne]; exact hx
          have hm : ¬ n ∈ zs.take (k + 1) := by rw [HT.out, List.mem_append]; rintro (h | h); exact HN.out h; simp at h; exact hx h.symm
          have HM := Lib.hid hm; clear hm hx hmem
          go_wp2
          go_round
          case rel => exact ⟨k + 1, by omega, by go_num, HM.out⟩
          case measure => simp [intOf]; omega
      · obtain rfl : k = zs.length := by omega
        rw [List.take_length] at hn
        have HM := Lib.hid hn; clear hn
        go_wp2
        go_ret
        exact ⟨ret_bool (by rw [decide_eq_false HM.out]), rfl⟩
end Go.Proofs.YtiefjnhnceipmaaDoor
