/- The walk of the reference's SameNamed. Conditions: the lists lie in memory. -/
import Derived.Test.YtnemgohcjjhfmaaDoorHArr
import Derived.Laws.StructEq
namespace Go.Proofs.YtnemgohcjjhfmaaDoor
open Go.RowKit

theorem IsNs.at {w : World} {b off : Nat} {l : List (Int × Int)} (hc : ∀ j x, l[j]? = some x → ∀ i u, (encN x)[i]? = some u → w.cell? ⟨b, off + j * 2 + i, none⟩ = some u) {k : Nat} {p : Int × Int} (hk : l[k]? = some p) :
    w.cell? ⟨b, off + k * 2, none⟩ = some (.int .i64 p.1) ∧ w.cell? ⟨b, off + k * 2 + 1, none⟩ = some (.int .i64 p.2) := ⟨hc k p hk 0 _ rfl, hc k p hk 1 _ rfl⟩
theorem neqN (p q : Int × Int) (w : World) : (binOp .neq 38 (.agg #[.int .i64 p.1, .int .i64 p.2]) (.agg #[.int .i64 q.1, .int .i64 q.2])).run Tryd.prog w = .ok (.bool (!(decide (p = q)))) w := by
  have hS : Tryd.prog.underlying 38 = some (.struct (Tryd.prog.fieldsOf 38)) := by kernel_rfl
  have hp : Tryd.prog.stoodInHeld 38 = false := by kernel_rfl
  rw [run_neq_struct, show (10000 : Nat) = 9999 + 1 from rfl, run_equalIn_agg w 9999 38 _ _ hS hp]
  simp only [Program.fieldsOf, Tryd.underlying38]
  have u3 := Tryd.underlying3
  go_simp
  obtain ⟨p1, p2⟩ := p
  obtain ⟨q1, q2⟩ := q
  by_cases h1 : p1 = q1 <;> by_cases h2 : p2 = q2 <;> simp [h1, h2]
theorem guardN (x y : Operand) (xs ys : Array Value) (w : World) : (eqGuard .neq 38 x y (.agg xs) (.agg ys)).run Tryd.prog w = .ok () w := run_eqGuard_agg w .neq 38 x y xs ys (by kernel_rfl)
set_option maxHeartbeats 2000000 in
theorem samen_some (b off cap b' off' cap' : Nat) (xs ys : List (Int × Int)) (w : World) (hb : b < w.heap.size) (hb' : b' < w.heap.size) (hl : xs.length ≤ maxLen) (hlen : xs.length = ys.length)
    (hc : ∀ j x, xs[j]? = some x → ∀ i u, (encN x)[i]? = some u → w.cell? ⟨b, off + j * 2 + i, none⟩ = some u) (hc' : ∀ j x, ys[j]? = some x → ∀ i u, (encN x)[i]? = some u → w.cell? ⟨b', off' + j * 2 + i, none⟩ = some u) :
    Calls Tryd.prog 16 #[.slice (some ⟨b, off, none⟩) xs.length cap, .slice (some ⟨b', off', none⟩) ys.length cap'] w (Ret (.bool (decide (xs = ys))) w) := by
  have HC := Lib.hid hc; have HC' := Lib.hid hc'; have HL := Lib.hid hlen
  rw [← hlen]
  have hl3 : ys.length ≤ xs.length := by omega
  clear hc hc' hlen
  unfold maxLen at hl
  go_enter Tryd.func16, Tryd.ntmps16
  go_wp2
  go_loopw [5] (fun i wr => ∃ k : Nat, k ≤ xs.length ∧ i = .int .i64 k ∧ Below w.heap.size w wr ∧ Hid (xs.take k = ys.take k)) (fun i _ => xs.length - (intOf i).toNat)
  case atStart => exact ⟨0, Nat.zero_le _, rfl, bl_refl _, by simp [Hid]⟩
  case round =>
    obtain ⟨k, hk, rfl, hbw, HT⟩ := hrel
    by_cases hlt : k < xs.length
    · obtain ⟨p, hp⟩ : ∃ p, xs[k]? = some p := ⟨_, List.getElem?_eq_getElem hlt⟩
      obtain ⟨q, hq⟩ : ∃ q, ys[k]? = some q := ⟨_, List.getElem?_eq_getElem (by have := HL.out; omega)⟩
      obtain ⟨c0, c1⟩ := IsNs.at (fun j x hx i u hu => (hbw.cell (p := ⟨b, off + j * 2 + i, none⟩) hb).trans (HC.out j x hx i u hu)) hp
      obtain ⟨d0, d1⟩ := IsNs.at (fun j x hx i u hu => (hbw.cell (p := ⟨b', off' + j * 2 + i, none⟩) hb').trans (HC'.out j x hx i u hu)) hq
      have ht : xs.take (k + 1) = xs.take k ++ [p] := by rw [List.take_add_one, hp]; rfl
      have ht' : ys.take (k + 1) = ys.take k ++ [q] := by rw [List.take_add_one, hq]; rfl
      have HP := Lib.hid hp; have HQ := Lib.hid hq; have HTX := Lib.hid ht; have HTY := Lib.hid ht'
      clear hp hq ht ht'
      have hg := guardN
      by_cases hpq : p = q
      · have hne := fun w => neqN p q w
        rw [decide_eq_true hpq] at hne
        have hm : xs.take (k + 1) = ys.take (k + 1) := by rw [HTX.out, HTY.out, HT.out, hpq]
        have HM := Lib.hid hm
        clear hm hpq
        go_wp2
        go_big_quiet (fail)
        go_wp2
        go_roundw
        case rel => exact ⟨k + 1, by omega, by go_num, bl_drewN hbw _, HM⟩
        case measure => simp [intOf]; omega
      · have hne := fun w => neqN p q w
        rw [decide_eq_false hpq] at hne
        have hm : ¬ xs = ys := fun e => by
          have h1 := HP.out
          rw [e] at h1
          exact hpq (Option.some.inj (h1.symm.trans HQ.out))
        have HM := Lib.hid hm
        clear hm hpq
        go_wp2
        go_big_quiet (fail)
        go_wp2
        go_ret
        exact ⟨ret_bool (by rw [decide_eq_false HM.out]), bl_drewN hbw _⟩
    · obtain rfl : k = xs.length := by omega
      have hm := HT.out
      rw [List.take_length, HL.out, List.take_length] at hm
      have HM := Lib.hid hm; clear hm
      go_wp2
      go_ret
      exact ⟨ret_bool (by rw [decide_eq_true HM.out]), hbw⟩
set_option maxHeartbeats 1000000 in
theorem samen_len (a a' : Option Addr) (cap cap' : Nat) (xs ys : List (Int × Int)) (w : World) (_hl : xs.length ≤ maxLen) (_hl' : ys.length ≤ maxLen) (hlen : ¬ xs.length = ys.length) :
    Calls Tryd.prog 16 #[.slice a xs.length cap, .slice a' ys.length cap'] w (Ret (.bool (decide (xs = ys))) w) := by
  have hn : ((xs.length : Int) != ys.length) = true := by rw [bne_iff_ne]; omega
  have hm : ¬ xs = ys := fun e => hlen (by rw [e])
  have HM := Lib.hid hm
  clear hlen hm
  go_enter Tryd.func16, Tryd.ntmps16
  go_wp2
  go_ret
  exact ⟨ret_bool (by rw [decide_eq_false HM.out]), bl_refl _⟩
set_option maxHeartbeats 1000000 in
theorem samen_nil (a a' : Option Addr) (cap cap' : Nat) (w : World) :
    Calls Tryd.prog 16 #[.slice a 0 cap, .slice a' 0 cap'] w (Ret (.bool true) w) := by
  go_enter Tryd.func16, Tryd.ntmps16
  go_wp2
  go_loop [5] (fun i => i = .int .i64 0) (fun _ => 0)
  case atStart => rfl
  case round =>
    subst hrel
    go_wp2
    go_ret
    exact ⟨rfl, bl_refl _⟩
theorem samen_any (v u : Value) (xs ys : List (Int × Int)) (w : World) (hv : IsNs w v xs) (hu : IsNs w u ys) : Calls Tryd.prog 16 #[v, u] w (Ret (.bool (decide (xs = ys))) w) := by
  obtain ⟨a, cap, rfl, hm⟩ := hv.slice
  obtain ⟨a', cap', rfl, hm'⟩ := hu.slice
  by_cases hlen : xs.length = ys.length
  · by_cases h0 : xs.length = 0
    · obtain rfl : xs = [] := List.length_eq_zero_iff.1 h0
      obtain rfl : ys = [] := List.length_eq_zero_iff.1 hlen.symm
      rw [decide_eq_true rfl]
      exact samen_nil a a' cap cap' w
    · rcases hv with ⟨_, _, _, rfl⟩ | ⟨b, off, c1, e1, hlt, hm1, hc⟩
      · exact absurd rfl h0
      rcases hu with ⟨_, _, _, rfl⟩ | ⟨b', off', c2, e2, hlt', hm2, hc'⟩
      · exact absurd hlen h0
      cases e1
      cases e2
      exact samen_some b off cap b' off' cap' xs ys w hlt hlt' hm hlen hc hc'
  · exact samen_len a a' cap cap' xs ys w hm hm' hlen
end Go.Proofs.YtnemgohcjjhfmaaDoor
