/- The walks of the number helpers of a reference package. Conditions: stated at each. -/
import Derived.Test.YtnemgohcjjhfmaaGreatDoorKPlain
namespace Go.Proofs.YtnemgohcjjhfmaaGreatDoor
open Go.RowKit

set_option maxHeartbeats 400000 in
theorem around01 (n m : Int) (w : World) (h1 : -9223372036854775808 ≤ n) (h2 : n ≤ 9223372036854775807) (hm : 1 ≤ m) (hm2 : m ≤ 9223372036854775807) :
    Calls Tryz.prog 10 #[.int .i64 n, .int .i64 m] w (Pur (.int .i64 (around n m)) w) := by
  have hmm : (m == 0) = false := by rw [beq_eq_false_iff_ne]; omega
  by_cases h : n < 0
  · have ht : -((n + 1).tmod m) = (-(n + 1)) % m := by rw [← Int.neg_tmod]; exact Int.tmod_eq_emod_of_nonneg (by omega)
    have H := Lib.hid ht; clear ht
    go_enter Tryz.func10, Tryz.ntmps10
    go_wp2
    go_ret
    exact ⟨ret_int (by unfold around; rw [if_pos h, H.out]), rfl⟩
  · go_enter Tryz.func10, Tryz.ntmps10
    go_wp2
    go_ret
    exact ⟨ret_int (by unfold around; rw [if_neg (by omega)]), rfl⟩
set_option maxHeartbeats 400000 in
theorem has01 (v : Value) (zs : List Int) (n : Int) (w : World) (hv : IsInts w v zs) :
    Calls Tryz.prog 31 #[v, .int .i64 n] w (Pur (.bool (decide (n ∈ zs))) w) := by
  rcases hv with ⟨a, cap, rfl, rfl⟩ | ⟨b, off, cap, rfl, hb, hl, hc⟩
  · go_enter Tryz.func31, Tryz.ntmps31
    go_wp2
    go_loop [5] (fun i => i = .int .i64 0) (fun _ => 0)
    case atStart => rfl
    case round =>
      subst hrel
      go_wp2
      go_ret
      exact ⟨by simp, rfl⟩
  · have HC := Lib.hid hc; clear hc
    unfold maxLen at hl
    go_enter Tryz.func31, Tryz.ntmps31
    go_wp2
    go_loop [5] (fun i => ∃ k : Nat, k ≤ zs.length ∧ i = .int .i64 k ∧ ¬ n ∈ zs.take k) (fun i => zs.length - (intOf i).toNat)
    case atStart => exact ⟨0, Nat.zero_le _, rfl, by simp⟩
    case round =>
      obtain ⟨k, hk, rfl, hn⟩ := hrel
      by_cases hlt : k < zs.length
      · have hck := HC.out k hlt
        have ht := take_next hlt
        have hmem : zs[k]?.getD 0 ∈ zs := by rw [List.getElem?_eq_getElem hlt]; exact List.getElem_mem hlt
        generalize zs[k]?.getD 0 = x at *
        have HN := Lib.hid hn; have HT := Lib.hid ht
        clear hn ht
        by_cases hx : x = n
        · have hm : n ∈ zs := hx ▸ hmem
          have hq : (x == n) = true := by rw [beq_iff_eq]; exact hx
          have HM := Lib.hid hm; clear hm hx hmem
          go_wp2
          go_ret
          exact ⟨ret_bool (by rw [decide_eq_true HM.out]), rfl⟩
        · have hq : (x == n) = false := by rw [beq_eq_false_iff_ne]; exact hx
          have hm : ¬ n ∈ zs.take (k + 1) := by rw [HT.out, List.mem_append]; rintro (h | h); exact HN.out h; simp at h; exact hx h.symm
          have HM := Lib.hid hm; clear hm hx hmem
          go_wp2
          go_round
          case rel => exact ⟨k + 1, by omega, by go_num, HM.out⟩
          case measure => simp [intOf]; omega
      · obtain rfl : k = zs.length := by omega
        rw [List.take_length] at hn
        have HM := Lib.hid hn; clear hn
        go_wp2
        go_ret
        exact ⟨ret_bool (by rw [decide_eq_false HM.out]), rfl⟩
set_option maxHeartbeats 1000000 in
theorem same01 (v u : Value) (xs ys : List Int) (w : World) (hv : IsInts w v xs) (hu : IsInts w u ys) :
    Calls Tryz.prog 13 #[v, u] w (Ret (.bool (decide (xs = ys))) w) := by
  have hvl : ∃ a cap, v = .slice a xs.length cap ∧ xs.length ≤ maxLen := by
    rcases hv with ⟨a, cap, rfl, rfl⟩ | ⟨b, off, cap, rfl, hb, hl, hc⟩
    · exact ⟨a, cap, rfl, Nat.zero_le _⟩
    · exact ⟨_, cap, rfl, hl⟩
  have hul : ∃ a cap, u = .slice a ys.length cap ∧ ys.length ≤ maxLen := by
    rcases hu with ⟨a, cap, rfl, rfl⟩ | ⟨b, off, cap, rfl, hb, hl, hc⟩
    · exact ⟨a, cap, rfl, Nat.zero_le _⟩
    · exact ⟨_, cap, rfl, hl⟩
  by_cases hlen : xs.length = ys.length
  · have hn : ((xs.length : Int) == ys.length) = true := by simp [hlen]
    by_cases h0 : xs.length = 0
    · obtain rfl : xs = [] := List.length_eq_zero_iff.1 h0
      obtain rfl : ys = [] := List.length_eq_zero_iff.1 hlen.symm
      obtain ⟨a, cap, rfl, _⟩ := hvl
      obtain ⟨a', cap', rfl, _⟩ := hul
      clear hn hlen h0 hv hu
      go_enter Tryz.func13, Tryz.ntmps13
      go_wp2
      go_loop [5] (fun i => i = .int .i64 0) (fun _ => 0)
      case atStart => rfl
      case round =>
        subst hrel
        go_wp2
        go_ret
        exact ⟨by simp, bl_refl _⟩
    · rcases hv with ⟨a, cap, rfl, rfl⟩ | ⟨b, off, cap, rfl, hb, hl, hc⟩
      · exact absurd rfl h0
      rcases hu with ⟨a, cap', rfl, rfl⟩ | ⟨b', off', cap', rfl, hb', hl', hc'⟩
      · exact absurd hlen h0
      have HC := Lib.hid hc; have HC' := Lib.hid hc'; have HL := Lib.hid hlen
      rw [← hlen]
      clear hc hc' hvl hul hn hl'
      unfold maxLen at hl
      have hl2 : xs.length ≤ ys.length := by omega
      have hl3 : ys.length ≤ xs.length := by omega
      clear hlen h0
      go_enter Tryz.func13, Tryz.ntmps13
      go_wp2
      go_loopw [5] (fun i wr => ∃ k m : Nat, k ≤ xs.length ∧ i = .int .i64 k ∧ wr = w.drewN m ∧ xs.take k = ys.take k) (fun i _ => xs.length - (intOf i).toNat)
      case atStart => exact ⟨0, 0, Nat.zero_le _, rfl, rfl, by simp⟩
      case round =>
        obtain ⟨k, m, hk, rfl, rfl, hn⟩ := hrel
        by_cases hlt : k < xs.length
        · have hck := HC.out k hlt
          have hck' := HC'.out k (by omega)
          have ht := take_next hlt
          have ht' := take_next (zs := ys) (k := k) (by omega)
          have hix : xs[k]? = some (xs[k]?.getD 0) := by rw [List.getElem?_eq_getElem hlt]; rfl
          have hiy : ys[k]? = some (ys[k]?.getD 0) := by rw [List.getElem?_eq_getElem (by omega)]; rfl
          generalize xs[k]?.getD 0 = x at *
          generalize ys[k]?.getD 0 = y at *
          have HN := Lib.hid hn; have HT := Lib.hid ht; have HT' := Lib.hid ht'; have HX := Lib.hid hix; have HY := Lib.hid hiy
          clear hn ht ht' hix hiy
          by_cases hx : x = y
          · subst hx
            have hq : (x != x) = false := by simp
            have hm : xs.take (k + 1) = ys.take (k + 1) := by rw [HT.out, HT'.out, HN.out]
            have HM := Lib.hid hm; clear hm
            go_wp2
            go_big_quiet (fail)
            go_wp2
            go_roundw
            case rel => exact ⟨k + 1, _, by omega, by go_num, rfl, HM.out⟩
            case measure => simp [intOf]; omega
          · have hq : (x != y) = true := by rw [bne_iff_ne]; exact hx
            have hm : ¬ xs = ys := by
              intro e
              rw [e] at HX
              exact hx (Option.some.inj (HX.out.symm.trans HY.out))
            have HM := Lib.hid hm; clear hm hx
            go_wp2
            go_big_quiet (fail)
            go_wp2
            go_ret
            exact ⟨ret_bool (by rw [decide_eq_false HM.out]), bl_drewN (bl_drewN (bl_refl _) _) _⟩
        · obtain rfl : k = xs.length := by omega
          rw [List.take_length, HL.out, List.take_length] at hn
          have HM := Lib.hid hn; clear hn
          go_wp2
          go_ret
          exact ⟨ret_bool (by rw [decide_eq_true HM.out]), bl_drewN (bl_refl _) _⟩
  · have hn : ((xs.length : Int) == ys.length) = false := by rw [beq_eq_false_iff_ne]; omega
    have hm : ¬ xs = ys := fun e => hlen (by rw [e])
    obtain ⟨a, cap, rfl, _⟩ := hvl
    obtain ⟨a', cap', rfl, _⟩ := hul
    have HM := Lib.hid hm
    clear hlen hv hu hm
    go_enter Tryz.func13, Tryz.ntmps13
    go_wp2
    go_ret
    exact ⟨ret_bool (by rw [decide_eq_false HM.out]), bl_refl _⟩
end Go.Proofs.YtnemgohcjjhfmaaGreatDoor
