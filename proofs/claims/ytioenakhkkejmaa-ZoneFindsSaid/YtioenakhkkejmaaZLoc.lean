/- The walks of zone.Local, zone.offset and of the reference's Offset, Local, in. Conditions: the zone lies in memory; bounds. -/
import Derived.Test.YtioenakhkkejmaaZOff
import Derived.IntWalk
namespace Go.Proofs.Ytioenakhkkejmaa
open Go.RowKit

set_option maxHeartbeats 2000000 in
theorem zlocal_any (o t : Int) (v : Value) (sh : Sh) (w : World) (hI : IsSh w v sh) (h1 : -4000000000000000 ≤ t + offS (segsOf o sh) t) (h2 : t + offS (segsOf o sh) t ≤ 4000000000000000) :
    Calls Try.prog 16 #[.agg #[.int .i64 o, v], .int .i64 t] w (Ret (.tuple #[.int .i64 ((t + offS (segsOf o sh) t) / 1440), .int .i64 ((t + offS (segsOf o sh) t) % 1440)]) w) := by
  have hc := fun w' hI' => zoff_any o t v sh w' hI'
  generalize offS (segsOf o sh) t = q at *
  have HC := Lib.hid hc; clear hc
  have fa := @floor_a (t + q) 1440 (by omega)
  have fb := @floor_b (t + q) 1440 (by omega)
  have ga : (t + q).tmod 1440 < 0 → (t + q).tmod 1440 + 1440 = (t + q) % 1440 := fun h => by
    have := fa h
    have h1 := Int.tmod_add_mul_tdiv (t + q) 1440
    have h2 := Int.emod_add_mul_ediv (t + q) 1440
    omega
  have gb : ¬ (t + q).tmod 1440 < 0 → (t + q).tmod 1440 = (t + q) % 1440 := fun h => by
    have := fb h
    have h1 := Int.tmod_add_mul_tdiv (t + q) 1440
    have h2 := Int.emod_add_mul_ediv (t + q) 1440
    omega
  have FA := Lib.hid fa; have FB := Lib.hid fb; have GA := Lib.hid ga; have GB := Lib.hid gb
  have nq := Int.natAbs_tdiv_le_natAbs (t + q) 1440
  have b1 : -4000000000000000 ≤ (t + q).tdiv 1440 := by omega
  have b2 : (t + q).tdiv 1440 ≤ 4000000000000000 := by omega
  have b3 := Int.lt_tmod_of_pos (t + q) (b := 1440) (by decide)
  have b4 := Int.tmod_lt_of_pos (t + q) (b := 1440) (by decide)
  have HI := Lib.hid (hI.below (bl_alloc w (.cells #[.int .i64 o, v] 24)))
  clear hI fa fb ga gb nq
  by_cases h : (t + q).tmod 1440 < 0
  · go_enter Try.func16, Try.ntmps16
    go_wp2_with fail
    refine (HC.out _ HI.out).mono ?_
    rintro e w1 ⟨rfl, hb1⟩
    go_wp2
    go_ret2
    exact ⟨ret_ie (FA.out h) (GA.out h), bl_trans (bl_alloc _ _) hb1⟩
  · go_enter Try.func16, Try.ntmps16
    go_wp2_with fail
    refine (HC.out _ HI.out).mono ?_
    rintro e w1 ⟨rfl, hb1⟩
    go_wp2
    go_ret2
    exact ⟨ret_ie (FB.out h) (GB.out h), bl_trans (bl_alloc _ _) hb1⟩

/-- what the reference's Offset reads -/
theorem offR_snoc (o : Int) (l : Sh) (k : Nat) (t : Int) (h : k < l.length) : offR o (l.take (k + 1)) t = if (l[k]?.getD (0, 0)).1 ≤ t then (l[k]?.getD (0, 0)).2 else offR o (l.take k) t := by
  unfold offR
  rw [List.take_add_one, List.getElem?_eq_getElem h, List.foldl_append]; rfl
set_option maxHeartbeats 2000000 in
theorem zroff_any (o t : Int) (v : Value) (sh : Sh) (w : World) (hI : IsSh w v sh) :
    Calls Try.prog 19 #[.agg #[.int .i64 o, v], .int .i64 t] w (Ret (.int .i64 (offR o sh t)) w) := by
  rcases hI with ⟨a, cap, rfl, rfl⟩ | ⟨b, off, cap, rfl, hb, hl, hc⟩
  · go_enter Try.func19, Try.ntmps19
    go_wp2
    go_loop [5, 6] (fun c i => i = .int .i64 0 ∧ c = .int .i64 o) (fun _ _ => 0)
    case atStart => exact ⟨rfl, rfl⟩
    case round =>
      obtain ⟨rfl, rfl⟩ := hrel
      go_wp2
      go_ret
      exact ⟨rfl, bl_alloc _ _⟩
  · unfold maxLen at hl
    have HC := Lib.hid hc; clear hc
    go_enter Try.func19, Try.ntmps19
    go_wp2
    go_loop [5, 6] (fun c i => ∃ k : Nat, k ≤ sh.length ∧ i = .int .i64 k ∧ c = .int .i64 (offR o (sh.take k) t)) (fun _ i => sh.length - (intOf i).toNat)
    case atStart => exact ⟨0, Nat.zero_le _, rfl, rfl⟩
    case round =>
      obtain ⟨k, hk, rfl, rfl⟩ := hrel
      by_cases hlt : k < sh.length
      · obtain ⟨c1, c2⟩ := HC.out k hlt
        have hs := offR_snoc o sh k t hlt
        generalize (sh[k]?.getD (0, 0)).1 = A at *
        generalize (sh[k]?.getD (0, 0)).2 = B at *
        generalize offR o (sh.take k) t = q at *
        have HS := Lib.hid hs; clear hs
        by_cases hA : A ≤ t
        · go_wp2
          go_round
          case rel => exact ⟨k + 1, by omega, by go_num, by rw [HS.out, if_pos hA]⟩
          case measure => simp [intOf]; omega
        · go_wp2
          go_round
          case rel => exact ⟨k + 1, by omega, by go_num, by rw [HS.out, if_neg hA]⟩
          case measure => simp [intOf]; omega
      · obtain rfl : k = sh.length := by omega
        rw [List.take_length]
        go_wp2
        go_ret
        exact ⟨rfl, bl_alloc _ _⟩
set_option maxHeartbeats 2000000 in
theorem zrlocal_any (o t : Int) (v : Value) (sh : Sh) (w : World) (hI : IsSh w v sh) (h1 : -4000000000000000 ≤ t + offR o sh t) (h2 : t + offR o sh t ≤ 4000000000000000) :
    Calls Try.prog 17 #[.agg #[.int .i64 o, v], .int .i64 t] w (Ret (.tuple #[.int .i64 ((t + offR o sh t) / 1440), .int .i64 ((t + offR o sh t) % 1440)]) w) := by
  have hc := fun w' hI' => zroff_any o t v sh w' hI'
  generalize offR o sh t = q at *
  have HC := Lib.hid hc; clear hc
  have HI := Lib.hid (hI.below (bl_alloc w (.cells #[.int .i64 o, v] 24)))
  have hm : (t + q) - 1440 * ((t + q) / 1440) = (t + q) % 1440 := by omega
  have HM := Lib.hid hm; clear hm hI
  have b1 : -4000000000000000 ≤ (t + q) / 1440 := by omega
  have b2 : (t + q) / 1440 ≤ 4000000000000000 := by omega
  go_enter Try.func17, Try.ntmps17
  go_wp2_with fail
  refine (HC.out _ HI.out).mono ?_
  rintro e w1 ⟨rfl, hb1⟩
  go_wp2_with fail
  refine (floor03 _ _ _ (by omega) (by omega) (by omega) (by omega)).mono ?_
  rintro e w2 ⟨rfl, rfl⟩
  go_wp2
  go_ret2
  exact ⟨ret_ie rfl HM.out, bl_trans (bl_alloc _ _) hb1⟩
/-- is n from a to b? -/
def rng (a n b : Int) : Bool := decide (a ≤ n ∧ n ≤ b)
theorem rng_yes {a n b : Int} (h : a ≤ n ∧ n ≤ b) : rng a n b = true := decide_eq_true h
theorem rng_no {a n b : Int} (h : ¬ (a ≤ n ∧ n ≤ b)) : rng a n b = false := decide_eq_false h
theorem in_any (n a b : Int) (w : World) : Calls Try.prog 31 #[.int .i64 n, .int .i64 a, .int .i64 b] w (Pur (.bool (rng a n b)) w) := by
  by_cases h1 : a ≤ n
  · by_cases h2 : n ≤ b
    · go_enter Try.func31, Try.ntmps31
      go_wp2
      go_ret
      exact ⟨ret_bool ((rng_yes ⟨by omega, by omega⟩).symm), rfl⟩
    · go_enter Try.func31, Try.ntmps31
      go_wp2
      go_ret
      exact ⟨ret_bool ((rng_no (by omega)).symm), rfl⟩
  · go_enter Try.func31, Try.ntmps31
    go_wp2
    go_ret
    exact ⟨ret_bool ((rng_no (by omega)).symm), rfl⟩
theorem zin_any (n : Int) (w : World) : Calls Try.prog 30 #[.int .i64 n] w (Pur (.bool (rng (-900) n 900)) w) := by
  by_cases h1 : -900 ≤ n
  · by_cases h2 : n ≤ 900
    · go_enter Try.func30, Try.ntmps30
      go_wp2
      go_ret
      exact ⟨ret_bool ((rng_yes ⟨by omega, by omega⟩).symm), rfl⟩
    · go_enter Try.func30, Try.ntmps30
      go_wp2
      go_ret
      exact ⟨ret_bool ((rng_no (by omega)).symm), rfl⟩
  · go_enter Try.func30, Try.ntmps30
    go_wp2
    go_ret
    exact ⟨ret_bool ((rng_no (by omega)).symm), rfl⟩
end Go.Proofs.Ytioenakhkkejmaa
