/- The walks of the reference's Resolve, and of Instants at minutes that no day has. Conditions: the zone lies in memory and is valid; bounds. -/
import Derived.Test.YtioenakhkkejmaaZRi
import Derived.Test.YtioenakhkkejmaaZGa
namespace Go.Proofs.Ytioenakhkkejmaa
open Go.RowKit

theorem zri_any (o day m : Int) (v : Value) (sh : Sh) (w : World) (hI : IsSh w v sh) (hok : Ok o sh) (hd1 : -700000000 ≤ day) (hd2 : day ≤ 700000000) (hm1 : 0 ≤ m) (hm2 : m ≤ 1439) (hlen : sh.length ≤ 1000000000) :
    Calls Try.prog 23 #[.agg #[.int .i64 o, v], .int .i64 day, .int .i64 m] w (InsPost (ins o sh (1440 * day + m)) w) := by
  obtain ⟨a, cap, rfl, _⟩ := hI.slice
  rw [← insRef_eq (n := 1440 * day + m) hok (by omega)]
  exact zri_loop o day m a cap sh w hI hok (by omega) (by omega) hm1 hm2 hlen
theorem ins_none (w : World) (o : Obj) : (w.alloc o).ownsRow w.heap.size 3 1 (.slice none 0 0) 0 [] := World.ownsRow_nil _ _ _ _
set_option maxHeartbeats 2000000 in
theorem zri_out (o day m : Int) (v : Value) (w : World) (hm : m < 0 ∨ 1439 < m) :
    Calls Try.prog 23 #[.agg #[.int .i64 o, v], .int .i64 day, .int .i64 m] w (InsPost [] w) := by
  have hr : rng 0 m 1439 = false := rng_no (by omega)
  have HR := Lib.hid hr; clear hr hm
  go_enter Try.func23, Try.ntmps23
  go_wp2_with fail
  refine (in_any _ _ _ _).mono ?_
  rintro e w1 ⟨rfl, rfl⟩
  rw [HR.out]
  go_wp2_with fail
  go_ret
  exact ⟨.slice none 0 0, rfl, World.ownsRow_nil _ _ _ _, bl_alloc _ _⟩
set_option maxHeartbeats 2000000 in
theorem zinst_out (o day m : Int) (v : Value) (w : World) (hm : m < 0 ∨ 1439 < m) :
    Calls Try.prog 22 #[.agg #[.int .i64 o, v], .int .i64 day, .int .i64 m] w (InsPost [] w) := by
  by_cases h1 : m < 0
  · have g1 : decide (m < 0) = true := decide_eq_true h1
    clear hm
    go_enter Try.func22, Try.ntmps22
    go_wp2_with fail
    go_ret
    exact ⟨.slice none 0 0, rfl, World.ownsRow_nil _ _ _ _, bl_trans (bl_trans (bl_alloc _ _) (bl_alloc _ _)) (bl_alloc _ _)⟩
  · have g1 : decide (m < 0) = false := decide_eq_false h1
    have g2 : decide (1440 ≤ m) = true := decide_eq_true (by omega)
    clear hm
    go_enter Try.func22, Try.ntmps22
    go_wp2_with fail
    go_ret
    exact ⟨.slice none 0 0, rfl, World.ownsRow_nil _ _ _ _, bl_trans (bl_trans (bl_alloc _ _) (bl_alloc _ _)) (bl_alloc _ _)⟩

set_option maxHeartbeats 4000000 in
theorem zrr_gap (o day m : Int) (late : Bool) (a : Option Addr) (cap : Nat) (sh : Sh) (w : World) (hI : IsSh w (.slice a sh.length cap) sh) (hok : Ok o sh) (hd1 : -700000000 ≤ day) (hd2 : day ≤ 700000000) (hm1 : 0 ≤ m) (hm2 : m ≤ 1439) (hlen : sh.length ≤ 1000000000) (he : ins o sh (1440 * day + m) = []) :
    Calls Try.prog 25 #[.agg #[.int .i64 o, .slice a sh.length cap], .int .i64 day, .int .i64 m, .bool late] w (Ret (.int .i64 (resR (1440 * day + m) o sh)) w) := by
  have hzb := ZBox.new (o := o) hI
  have hinst := zri_any o day m _ sh _ hzb.2.2 hok hd1 hd2 hm1 hm2 hlen
  rw [he] at hinst
  obtain ⟨N, hN⟩ : ∃ N, N = 1440 * day + m := ⟨_, rfl⟩
  have n1 : -150000000000000 ≤ N := by omega
  have n2 : N ≤ 150000000000000 := by omega
  rw [← hN] at he ⊢
  have HN := Lib.hid hN
  have hbd := gapK_bd N o sh hok
  have hca := fun k hk => (chain_at (by omega) hok.2.2 k hk).1
  obtain ⟨R, hR⟩ : ∃ R, R = resR N o sh := ⟨_, rfl⟩
  rw [← hR]
  have HINST := Lib.hid hinst; have HBD := Lib.hid hbd; have HCA := Lib.hid hca; have HR := Lib.hid hR
  clear hinst hN hbd hca he hok hR hI
  have HZB := Lib.hid hzb; clear hzb
  go_enter Try.func25, Try.ntmps25
  go_wp2_with fail
  refine HINST.out.mono ?_
  rintro e w1 hp
  obtain ⟨la, lc, rfl, _, hb1⟩ := hp.slice (by decide)
  clear hp
  have hzb := HZB.out.below hb1
  have hB := bl_trans (bl_alloc w (.cells #[.int .i64 o, .slice a sh.length cap] 24)) hb1
  obtain ⟨⟨z0, z1⟩, zlt, zI⟩ := hzb
  have HZI := Lib.hid zI; clear zI hb1
  have x1 : ¬ ((([] : List Int).length : Int) > 0) := by simp
  go_wp2_with fail
  rw [← HN.out]
  go_loopw [11, 12] (fun b i wr => ∃ k : Nat, k ≤ sh.length ∧ i = .int .i64 k ∧ b = .int .i64 (gapK N o sh k).2 ∧ R = resR N (gapK N o sh k).2 (sh.drop k) ∧ Below w1.heap.size w1 wr) (fun _ i _ => sh.length - (intOf i).toNat)
  case atStart => exact ⟨0, Nat.zero_le _, rfl, rfl, HR.out, bl_refl _⟩
  case round =>
    obtain ⟨k, hk, rfl, rfl, hRk, hBr⟩ := hrel
    have y0 := (hBr.cell (p := ⟨w.heap.size, 0, none⟩) zlt).trans z0
    have y1 := (hBr.cell (p := ⟨w.heap.size, 1, none⟩) zlt).trans z1
    have ylt : w.heap.size < wr.heap.size := by have := hBr.size; omega
    by_cases hlt2 : k < sh.length
    · obtain ⟨b, off', rfl, d1, d2⟩ := (HZI.out.below hBr).at hlt2
      obtain ⟨q1, q2, q3, q4⟩ := HCA.out k hlt2
      obtain ⟨q5, q6⟩ := HBD.out k hk
      have hbr : b < wr.heap.size := World.block_lt_of_cell? _ _ d1
      have hst2 : (gapK N o sh (k + 1)).2 = shO sh k := rfl
      rw [show sh.drop k = (shA sh k, shO sh k) :: sh.drop (k + 1) from drop_next hlt2] at hRk
      have hstep : ∀ P, resR N P ((shA sh k, shO sh k) :: sh.drop (k + 1)) = if shA sh k + P ≤ N ∧ N < shA sh k + shO sh k then shA sh k else resR N (shO sh k) (sh.drop (k + 1)) := fun _ => rfl
      rw [hstep] at hRk
      clear hstep
      generalize (gapK N o sh k).2 = P at *
      generalize shA sh k = A at *
      generalize shO sh k = Q at *
      have HS2 := Lib.hid hst2; have HRK := Lib.hid hRk; clear hst2 hRk
      by_cases g1 : A + P ≤ N
      · have b1 : decide (A + P ≤ N) = true := decide_eq_true g1
        by_cases g2 : N < A + Q
        · have b2 : decide (N < A + Q) = true := decide_eq_true g2
          go_wp2_with fail
          go_ret
          exact ⟨ret_int (by rw [HRK.out, if_pos ⟨g1, g2⟩]), bl_trans (bl_trans hB hBr) (bl_alloc _ _)⟩
        · have b2 : decide (N < A + Q) = false := decide_eq_false g2
          go_wp2_with fail
          go_roundw
          case rel => exact ⟨k + 1, by omega, by go_num, by rw [HS2.out], by rw [HS2.out, HRK.out, if_neg (by omega)], bl_trans hBr (bl_alloc _ _)⟩
          case measure => simp [intOf]; omega
      · have b1 : decide (A + P ≤ N) = false := decide_eq_false g1
        go_wp2_with fail
        go_roundw
        case rel => exact ⟨k + 1, by omega, by go_num, by rw [HS2.out], by rw [HS2.out, HRK.out, if_neg (by omega)], bl_trans hBr (bl_alloc _ _)⟩
        case measure => simp [intOf]; omega
    · obtain rfl : k = sh.length := by omega
      rw [List.drop_length] at hRk
      have HRK := Lib.hid hRk; clear hRk
      go_wp2_with fail
      go_ret
      exact ⟨ret_int (by rw [HRK.out]; rfl), bl_trans hB hBr⟩

set_option maxHeartbeats 4000000 in
theorem zrr_one (o day m x : Int) (late : Bool) (a : Option Addr) (cap : Nat) (sh : Sh) (w : World) (hI : IsSh w (.slice a sh.length cap) sh) (hok : Ok o sh) (hd1 : -700000000 ≤ day) (hd2 : day ≤ 700000000) (hm1 : 0 ≤ m) (hm2 : m ≤ 1439) (hlen : sh.length ≤ 1000000000) (he : ins o sh (1440 * day + m) = [x]) :
    Calls Try.prog 25 #[.agg #[.int .i64 o, .slice a sh.length cap], .int .i64 day, .int .i64 m, .bool late] w (Ret (.int .i64 x) w) := by
  have hzb := ZBox.new (o := o) hI
  have hinst := zri_any o day m _ sh _ hzb.2.2 hok hd1 hd2 hm1 hm2 hlen
  rw [he] at hinst
  have HINST := Lib.hid hinst
  clear hinst he hok hI hzb
  cases late
  all_goals
    go_enter Try.func25, Try.ntmps25
    go_wp2_with fail
    refine HINST.out.mono ?_
    rintro e w1 ⟨lv, rfl, hrow, hb1⟩
    obtain ⟨g, cap', rfl⟩ := ownsRow_succ hrow
    have h0 : w1.cell? ⟨g, 0, none⟩ = some (.int .i64 x) := by have := hrow.cellAt 0 (by simp); simpa using this
    have hB1 : Below w.heap.size w w1 := bl_trans (bl_alloc _ _) hb1
    clear hrow hb1
    go_wp2_with fail
    go_ret
    exact ⟨rfl, hB1⟩
set_option maxHeartbeats 4000000 in
theorem zrr_two (o day m x y : Int) (late : Bool) (a : Option Addr) (cap : Nat) (sh : Sh) (w : World) (hI : IsSh w (.slice a sh.length cap) sh) (hok : Ok o sh) (hd1 : -700000000 ≤ day) (hd2 : day ≤ 700000000) (hm1 : 0 ≤ m) (hm2 : m ≤ 1439) (hlen : sh.length ≤ 1000000000) (he : ins o sh (1440 * day + m) = [x, y]) :
    Calls Try.prog 25 #[.agg #[.int .i64 o, .slice a sh.length cap], .int .i64 day, .int .i64 m, .bool late] w (Ret (.int .i64 (bif late then y else x)) w) := by
  have hzb := ZBox.new (o := o) hI
  have hinst := zri_any o day m _ sh _ hzb.2.2 hok hd1 hd2 hm1 hm2 hlen
  rw [he] at hinst
  have HINST := Lib.hid hinst
  clear hinst he hok hI hzb
  cases late
  all_goals
    go_enter Try.func25, Try.ntmps25
    go_wp2_with fail
    refine HINST.out.mono ?_
    rintro e w1 ⟨lv, rfl, hrow, hb1⟩
    obtain ⟨g, cap', rfl⟩ := ownsRow_succ hrow
    have h0 : w1.cell? ⟨g, 0, none⟩ = some (.int .i64 x) := by have := hrow.cellAt 0 (by simp); simpa using this
    have h1 : w1.cell? ⟨g, 1, none⟩ = some (.int .i64 y) := by have := hrow.cellAt 1 (by simp); simpa using this
    have hB1 : Below w.heap.size w w1 := bl_trans (bl_alloc _ _) hb1
    clear hrow hb1
    go_wp2_with fail
    go_ret
    exact ⟨rfl, hB1⟩
theorem zrr_any (o day m : Int) (late : Bool) (v : Value) (sh : Sh) (w : World) (hI : IsSh w v sh) (hok : Ok o sh) (hd1 : -700000000 ≤ day) (hd2 : day ≤ 700000000) (hm1 : 0 ≤ m) (hm2 : m ≤ 1439) (hlen : sh.length ≤ 1000000000) :
    Calls Try.prog 25 #[.agg #[.int .i64 o, v], .int .i64 day, .int .i64 m, .bool late] w (Ret (.int .i64 (res late o sh (1440 * day + m))) w) := by
  obtain ⟨a, cap, rfl, _⟩ := hI.slice
  have hl : (ins o sh (1440 * day + m)).length ≤ 2 := ins_len hok.ch ⟨hok.1, hok.2.1⟩
  match e : ins o sh (1440 * day + m) with
  | [] =>
    have r : res late o sh (1440 * day + m) = resR (1440 * day + m) o sh := by unfold res; rw [e]
    rw [r]; exact zrr_gap o day m late a cap sh w hI hok hd1 hd2 hm1 hm2 hlen e
  | [x] =>
    have r : res late o sh (1440 * day + m) = x := by unfold res; rw [e]; cases late <;> rfl
    rw [r]; exact zrr_one o day m x late a cap sh w hI hok hd1 hd2 hm1 hm2 hlen e
  | [x, y] =>
    have r : res late o sh (1440 * day + m) = bif late then y else x := by unfold res; rw [e]; cases late <;> rfl
    rw [r]; exact zrr_two o day m x y late a cap sh w hI hok hd1 hd2 hm1 hm2 hlen e
  | _ :: _ :: _ :: _ => rw [e] at hl; simp at hl
end Go.Proofs.Ytioenakhkkejmaa
