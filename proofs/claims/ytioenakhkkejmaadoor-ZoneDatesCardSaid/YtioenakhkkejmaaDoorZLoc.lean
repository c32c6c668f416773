/- The walks of zone.Local, zone.offset and of the reference's Offset, Local, in. Conditions: the zone lies in memory; bounds. -/
import Derived.Test.YtioenakhkkejmaaDoorZOff
import Derived.IntWalk
namespace Go.Proofs.YtioenakhkkejmaaDoor
open Go.RowKit

set_option maxHeartbeats 2000000 in
theorem zlocal_any (o t : Int) (v : Value) (sh : Sh) (w : World) (hI : IsSh w v sh) (h1 : -4000000000000000 ≤ t + offS (segsOf o sh) t) (h2 : t + offS (segsOf o sh) t ≤ 4000000000000000) :
    Calls Tryd.prog 6 #[.agg #[.int .i64 o, v], .int .i64 t] w (Ret (.tuple #[.int .i64 ((t + offS (segsOf o sh) t) / 1440), .int .i64 ((t + offS (segsOf o sh) t) % 1440)]) w) := by
  have hc := fun w' hI' => zoff_any o t v sh w' hI'
  generalize offS (segsOf o sh) t = q at *
  have HC := Lib.hid hc; clear hc
  have fa := @floor_a (t + q) 1440 (by omega)
  have fb := @floor_b (t + q) 1440 (by omega)
  have ga : (t + q).tmod 1440 < 0 → (t + q).tmod 1440 + 1440 = (t + q) % 1440 := fun h => by
    have := fa h
    have h1 := Int.tmod_add_mul_tdiv (t + q) 1440
    have h2 := Int.emod_add_mul_ediv (t + q) 1440
    omega
  have gb : ¬ (t + q).tmod 1440 < 0 → (t + q).tmod 1440 = (t + q) % 1440 := fun h => by
    have := fb h
    have h1 := Int.tmod_add_mul_tdiv (t + q) 1440
    have h2 := Int.emod_add_mul_ediv (t + q) 1440
    omega
  have FA := Lib.hid fa; have FB := Lib.hid fb; have GA := Lib.hid ga; have GB := Lib.hid gb
  have nq := Int.natAbs_tdiv_le_natAbs (t + q) 1440
  have b1 : -4000000000000000 ≤ (t + q).tdiv 1440 := by omega
  have b2 : (t + q).tdiv 1440 ≤ 4000000000000000 := by omega
  have b3 := Int.lt_tmod_of_pos (t + q) (b := 1440) (by decide)
  have b4 := Int.tmod_lt_of_pos (t + q) (b := 1440) (by decide)
  have HI := Lib.hid (hI.below (bl_alloc w (.cells #[.int .i64 o, v] 25)))
  clear hI fa fb ga gb nq
  by_cases h : (t + q).tmod 1440 < 0
  · go_enter Tryd.func6, Tryd.ntmps6
    go_wp2_with fail
    refine (HC.out _ HI.out).mono ?_
    rintro e w1 ⟨rfl, hb1⟩
    go_wp2
    go_ret2
    exact ⟨ret_ie (FA.out h) (GA.out h), bl_trans (bl_alloc _ _) hb1⟩
  · go_enter Tryd.func6, Tryd.ntmps6
    go_wp2_with fail
    refine (HC.out _ HI.out).mono ?_
    rintro e w1 ⟨rfl, hb1⟩
    go_wp2
    go_ret2
    exact ⟨ret_ie (FB.out h) (GB.out h), bl_trans (bl_alloc _ _) hb1⟩

/-- what the reference's Offset reads -/
theorem offR_snoc (o : Int) (l : Sh) (k : Nat) (t : Int) (h : k < l.length) : offR o (l.take (k + 1)) t = if (l[k]?.getD (0, 0)).1 ≤ t then (l[k]?.getD (0, 0)).2 else offR o (l.take k) t := by
  unfold offR
  rw [List.take_add_one, List.getElem?_eq_getElem h, List.foldl_append]; rfl
/-- is n from a to b? -/
def rng (a n b : Int) : Bool := decide (a ≤ n ∧ n ≤ b)
theorem rng_yes {a n b : Int} (h : a ≤ n ∧ n ≤ b) : rng a n b = true := decide_eq_true h
theorem rng_no {a n b : Int} (h : ¬ (a ≤ n ∧ n ≤ b)) : rng a n b = false := decide_eq_false h
theorem zin_any (n : Int) (w : World) : Calls Tryd.prog 33 #[.int .i64 n] w (Pur (.bool (rng (-900) n 900)) w) := by
  by_cases h1 : -900 ≤ n
  · by_cases h2 : n ≤ 900
    · go_enter Tryd.func33, Tryd.ntmps33
      go_wp2
      go_ret
      exact ⟨ret_bool ((rng_yes ⟨by omega, by omega⟩).symm), rfl⟩
    · go_enter Tryd.func33, Tryd.ntmps33
      go_wp2
      go_ret
      exact ⟨ret_bool ((rng_no (by omega)).symm), rfl⟩
  · go_enter Tryd.func33, Tryd.ntmps33
    go_wp2
    go_ret
    exact ⟨ret_bool ((rng_no (by omega)).symm), rfl⟩
end Go.Proofs.YtioenakhkkejmaaDoor
