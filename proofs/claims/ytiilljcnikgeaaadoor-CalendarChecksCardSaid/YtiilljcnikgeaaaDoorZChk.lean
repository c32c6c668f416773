/- The walks of Check, of the program and of the reference, at every zone that lies in memory. Conditions: none but that. -/
import Derived.Test.YtiilljcnikgeaaaDoorZAll
namespace Go.Proofs.YtiilljcnikgeaaaDoor
open Go.RowKit

def shA (l : Sh) (k : Nat) : Int := (l[k]?.getD (0, 0)).1
def shO (l : Sh) (k : Nat) : Int := (l[k]?.getD (0, 0)).2
/-- the error at shift k -/
def erB (l : Sh) (k : Nat) : Int := if shA l k < 0 ∨ 8589934592 < shA l k ∨ ¬ (-900 ≤ shO l k ∧ shO l k ≤ 900) then 5 else if 0 < k ∧ shA l k < shA l (k - 1) + 2880 then 12 else 0
def fe (l : Sh) : Nat → Nat → Int
  | _, 0 => 0
  | k, n + 1 => if erB l k = 0 then fe l (k + 1) n else erB l k
def zchk (o : Int) (l : Sh) : Int := if 100 < l.length then 2 else if -900 ≤ o ∧ o ≤ 900 then fe l 0 l.length else 5
theorem fe_stop {l : Sh} {k n : Nat} {e : Int} (h : erB l k = e) (he : e ≠ 0) (hn : 0 < n) : fe l k n = e := by
  obtain ⟨n, rfl⟩ : ∃ m, n = m + 1 := ⟨n - 1, by omega⟩
  show (if erB l k = 0 then _ else erB l k) = e
  rw [if_neg (by rw [h]; exact he)]; exact h
theorem fe_go {l : Sh} {k n : Nat} (h : erB l k = 0) (hn : 0 < n) : fe l k n = fe l (k + 1) (n - 1) := by
  obtain ⟨n, rfl⟩ : ∃ m, n = m + 1 := ⟨n - 1, by omega⟩
  show (if erB l k = 0 then _ else erB l k) = _
  rw [if_pos h]; rfl
theorem er_a {l : Sh} {k : Nat} (h : shA l k < 0) : erB l k = 5 := by unfold erB; rw [if_pos (.inl h)]
theorem er_b {l : Sh} {k : Nat} (h : 8589934592 < shA l k) : erB l k = 5 := by unfold erB; rw [if_pos (.inr (.inl h))]
theorem er_c {l : Sh} {k : Nat} (h : ¬ (-900 ≤ shO l k ∧ shO l k ≤ 900)) : erB l k = 5 := by unfold erB; rw [if_pos (.inr (.inr h))]
theorem er_d {l : Sh} {k : Nat} (h : ¬ (shA l k < 0 ∨ 8589934592 < shA l k ∨ ¬ (-900 ≤ shO l k ∧ shO l k ≤ 900))) (hk : 0 < k) (h2 : shA l k < shA l (k - 1) + 2880) : erB l k = 12 := by unfold erB; rw [if_neg h, if_pos ⟨hk, h2⟩]
theorem er_e {l : Sh} {k : Nat} (h : ¬ (shA l k < 0 ∨ 8589934592 < shA l k ∨ ¬ (-900 ≤ shO l k ∧ shO l k ≤ 900))) (h2 : ¬ (0 < k ∧ shA l k < shA l (k - 1) + 2880)) : erB l k = 0 := by unfold erB; rw [if_neg h, if_neg h2]

def ZWr (o : Int) (v : Value) (w wr : World) : Prop := Blk wr w.heap.size 28 #[.int .i64 o, v] ∧ Below w.heap.size w wr

set_option maxHeartbeats 4000000 in
theorem zcheck_some (o : Int) (b off cap : Nat) (sh : Sh) (w : World) (hb : b < w.heap.size) (hl : sh.length ≤ 100) (ho : -900 ≤ o ∧ o ≤ 900)
    (hc : ∀ j, j < sh.length → w.cell? ⟨b, off + j * 2, none⟩ = some (.int .i64 (shA sh j)) ∧ w.cell? ⟨b, off + j * 2 + 1, none⟩ = some (.int .i64 (shO sh j))) :
    Calls Tryd.prog 31 #[.agg #[.int .i64 o, .slice (some ⟨b, off, none⟩) sh.length cap]] w (Ret (.int .i64 (fe sh 0 sh.length)) w) := by
  have hr : rng (-900) o 900 = true := rng_yes ho
  have HR := Lib.hid hr; clear hr
  have hl2 : ¬ (100 : Int) < sh.length := by omega
  have HC := Lib.hid hc; clear hc
  obtain ⟨V, hV⟩ : ∃ V, V = fe sh 0 sh.length := ⟨_, rfl⟩
  rw [← hV]
  have HV := Lib.hid hV; clear hV
  go_enter Tryd.func31, Tryd.ntmps31
  go_wp2_with fail
  refine (zin_any _ _).mono ?_
  rintro e w1 ⟨rfl, rfl⟩
  rw [HR.out]
  go_wp2
  go_loopw [18] (fun i wr => ∃ k : Nat, k ≤ sh.length ∧ i = .int .i64 k ∧ V = fe sh k (sh.length - k) ∧ (0 < k → 0 ≤ shA sh (k - 1) ∧ shA sh (k - 1) ≤ 8589934592) ∧ ZWr o (.slice (some ⟨b, off, none⟩) sh.length cap) w wr) (fun i _ => sh.length - (intOf i).toNat)
  case atStart => exact ⟨0, Nat.zero_le _, rfl, HV.out, (fun h => absurd h (by omega)), Blk.new _ _ _, bl_alloc _ _⟩
  case round =>
    obtain ⟨k, hk, rfl, hv, hprev, bz, hB⟩ := hrel
    have HVK := Lib.hid hv; clear hv
    have z0 := bz.cell 0
    have z1 := bz.cell 1
    simp at z0 z1
    by_cases hlt : k < sh.length
    · obtain ⟨d1, d2⟩ := HC.out k hlt
      have c1 := (hB.cell (p := ⟨b, off + k * 2, none⟩) hb).trans d1
      have c2 := (hB.cell (p := ⟨b, off + k * 2 + 1, none⟩) hb).trans d2
      have ea := @er_a sh k
      have eb := @er_b sh k
      have ec := @er_c sh k
      have ed := @er_d sh k
      have ee := @er_e sh k
      have fs := fun e h1 h2 => @fe_stop sh k (sh.length - k) e h1 h2 (by omega)
      have fg := fun h => @fe_go sh k (sh.length - k) h (by omega)
      have hA1 : shA sh (k + 1 - 1) = shA sh k := rfl
      have hsz : w.heap.size < wr.heap.size := bz.lt
      have hbr : b < wr.heap.size := by omega
      clear d1 d2
      generalize hA : shA sh k = A at *
      generalize shO sh k = Q at *
      have HEA := Lib.hid ea; have HEB := Lib.hid eb; have HEC := Lib.hid ec; have HED := Lib.hid ed; have HEE := Lib.hid ee; have HFS := Lib.hid fs; have HFG := Lib.hid fg; have HA1 := Lib.hid hA1
      have HP := Lib.hid hprev
      have HA := Lib.hid hA
      clear ea eb ec ed ee fs fg hA1 hprev hA
      by_cases q1 : A < 0
      · go_wp2
        go_ret
        exact ⟨ret_int (by rw [HVK.out, HFS.out 5 (HEA.out q1) (by decide)]), bl_trans hB (bl_alloc _ _)⟩
      · by_cases q2 : 8589934592 < A
        · go_wp2
          go_ret
          exact ⟨ret_int (by rw [HVK.out, HFS.out 5 (HEB.out q2) (by decide)]), bl_trans hB (bl_alloc _ _)⟩
        · by_cases q3 : -900 ≤ Q ∧ Q ≤ 900
          · have hq := rng_yes q3
            have HQ := Lib.hid hq; clear hq
            obtain ⟨q31, q32⟩ := q3
            go_wp2_with (first | (refine (zin_any _ _).mono ?_; rintro e w1 ⟨rfl, rfl⟩; rw [HQ.out]))
            by_cases q4 : 0 < k
            · obtain ⟨p1, p2⟩ := HP.out q4
              obtain ⟨k', rfl⟩ : ∃ k', k = k' + 1 := ⟨k - 1, by omega⟩
              have cp := (hB.cell (p := ⟨b, off + k' * 2, none⟩) hb).trans (HC.out k' (by omega)).1
              have e1 : shA sh (k' + 1 - 1) = shA sh k' := rfl
              rw [e1] at p1 p2 HED HEE
              generalize shA sh k' = P at *
              have g1 : decide (0 < (k' : Int) + 1) = true := decide_eq_true (by omega)
              have g2 : decide (0 < k' + 1) = true := decide_eq_true (by omega)
              by_cases q5 : A - 2880 < P
              · go_big_quiet (fail)
                go_wp2
                go_ret
                exact ⟨ret_int (by rw [HVK.out, HFS.out 12 (HED.out (by omega) (by omega) (by omega)) (by decide)]), bl_drewN (bl_trans hB (bl_alloc _ _)) _⟩
              · go_big_quiet (fail)
                go_wp2
                go_roundw
                case rel => exact ⟨k' + 1 + 1, by omega, by go_num, by rw [HVK.out, HFG.out (HEE.out (by omega) (by omega))]; rfl, (fun _ => by rw [HA1.out]; omega), (bz.alloc _).drewN _, bl_drewN (bl_trans hB (bl_alloc _ _)) _⟩
                case measure => simp [intOf]; omega
            · obtain rfl : k = 0 := by omega
              go_big_quiet (fail)
              go_wp2
              go_roundw
              case rel => exact ⟨0 + 1, by omega, by go_num, by rw [HVK.out, HFG.out (HEE.out (by omega) (by omega)), Nat.sub_sub], (fun _ => by rw [HA1.out]; omega), (bz.alloc _).drewN _, bl_drewN (bl_trans hB (bl_alloc _ _)) _⟩
              case measure => simp [intOf]; omega
          · have hq := rng_no q3
            have HQ := Lib.hid hq; clear hq
            have HQ3 := Lib.hid q3; clear q3
            go_wp2_with (first | (refine (zin_any _ _).mono ?_; rintro e w1 ⟨rfl, rfl⟩; rw [HQ.out]))
            go_ret
            exact ⟨ret_int (by rw [HVK.out, HFS.out 5 (HEC.out HQ3.out) (by decide)]), bl_trans hB (bl_alloc _ _)⟩
    · obtain rfl : k = sh.length := by omega
      go_wp2
      go_ret
      exact ⟨ret_int (by rw [HVK.out, Nat.sub_self]; rfl), hB⟩

set_option maxHeartbeats 4000000 in
theorem zrcheck_some (o : Int) (b off cap : Nat) (sh : Sh) (w : World) (hb : b < w.heap.size) (hl : sh.length ≤ 100) (ho : -900 ≤ o ∧ o ≤ 900)
    (hc : ∀ j, j < sh.length → w.cell? ⟨b, off + j * 2, none⟩ = some (.int .i64 (shA sh j)) ∧ w.cell? ⟨b, off + j * 2 + 1, none⟩ = some (.int .i64 (shO sh j))) :
    Calls Tryd.prog 34 #[.agg #[.int .i64 o, .slice (some ⟨b, off, none⟩) sh.length cap]] w (Ret (.int .i64 (fe sh 0 sh.length)) w) := by
  have hr : rng (-900) o 900 = true := rng_yes ho
  have HR := Lib.hid hr; clear hr
  have hl2 : ¬ (100 : Int) < sh.length := by omega
  have HC := Lib.hid hc; clear hc
  obtain ⟨V, hV⟩ : ∃ V, V = fe sh 0 sh.length := ⟨_, rfl⟩
  rw [← hV]
  have HV := Lib.hid hV; clear hV
  go_enter Tryd.func34, Tryd.ntmps34
  go_wp2_with fail
  refine (in_any _ _ _ _).mono ?_
  rintro e w1 ⟨rfl, rfl⟩
  rw [HR.out]
  go_wp2
  go_loopw [3] (fun i wr => ∃ k : Nat, k ≤ sh.length ∧ i = .int .i64 k ∧ V = fe sh k (sh.length - k) ∧ (0 < k → 0 ≤ shA sh (k - 1) ∧ shA sh (k - 1) ≤ 8589934592) ∧ ZWr o (.slice (some ⟨b, off, none⟩) sh.length cap) w wr) (fun i _ => sh.length - (intOf i).toNat)
  case atStart => exact ⟨0, Nat.zero_le _, rfl, HV.out, (fun h => absurd h (by omega)), Blk.new _ _ _, bl_alloc _ _⟩
  case round =>
    obtain ⟨k, hk, rfl, hv, hprev, bz, hB⟩ := hrel
    have HVK := Lib.hid hv; clear hv
    have z0 := bz.cell 0
    have z1 := bz.cell 1
    simp at z0 z1
    by_cases hlt : k < sh.length
    · obtain ⟨d1, d2⟩ := HC.out k hlt
      have c1 := (hB.cell (p := ⟨b, off + k * 2, none⟩) hb).trans d1
      have c2 := (hB.cell (p := ⟨b, off + k * 2 + 1, none⟩) hb).trans d2
      have ea := @er_a sh k
      have eb := @er_b sh k
      have ec := @er_c sh k
      have ed := @er_d sh k
      have ee := @er_e sh k
      have fs := fun e h1 h2 => @fe_stop sh k (sh.length - k) e h1 h2 (by omega)
      have fg := fun h => @fe_go sh k (sh.length - k) h (by omega)
      have hA1 : shA sh (k + 1 - 1) = shA sh k := rfl
      have hsz : w.heap.size < wr.heap.size := bz.lt
      have hbr : b < wr.heap.size := by omega
      clear d1 d2
      generalize hA : shA sh k = A at *
      generalize shO sh k = Q at *
      have HEA := Lib.hid ea; have HEB := Lib.hid eb; have HEC := Lib.hid ec; have HED := Lib.hid ed; have HEE := Lib.hid ee; have HFS := Lib.hid fs; have HFG := Lib.hid fg; have HA1 := Lib.hid hA1
      have HP := Lib.hid hprev
      have HA := Lib.hid hA
      clear ea eb ec ed ee fs fg hA1 hprev hA
      by_cases q1 : 0 ≤ A ∧ A ≤ 8589934592
      · have hq0 := rng_yes q1
        have HQ0 := Lib.hid hq0; clear hq0
        obtain ⟨q11, q12⟩ := q1
        by_cases q3 : -900 ≤ Q ∧ Q ≤ 900
        · have hq := rng_yes q3
          have HQ := Lib.hid hq; clear hq
          obtain ⟨q31, q32⟩ := q3
          go_wp2_with fail
          refine (in_any _ _ _ _).mono ?_
          rintro e w1 ⟨rfl, rfl⟩
          rw [HQ0.out]
          go_wp2_with fail
          refine (in_any _ _ _ _).mono ?_
          rintro e w1 ⟨rfl, rfl⟩
          rw [HQ.out]
          go_wp2_with fail
          by_cases q4 : 0 < k
          · obtain ⟨p1, p2⟩ := HP.out q4
            obtain ⟨k', rfl⟩ : ∃ k', k = k' + 1 := ⟨k - 1, by omega⟩
            have cp := (hB.cell (p := ⟨b, off + k' * 2, none⟩) hb).trans (HC.out k' (by omega)).1
            have e1 : shA sh (k' + 1 - 1) = shA sh k' := rfl
            rw [e1] at p1 p2 HED HEE
            generalize shA sh k' = P at *
            have g1 : decide (0 < (k' : Int) + 1) = true := decide_eq_true (by omega)
            have g2 : decide (0 < k' + 1) = true := decide_eq_true (by omega)
            by_cases q5 : A < P + 2880
            · go_big_quiet (fail)
              go_wp2
              go_ret
              exact ⟨ret_int (by rw [HVK.out, HFS.out 12 (HED.out (by omega) (by omega) (by omega)) (by decide)]), bl_drewN (bl_trans hB (bl_alloc _ _)) _⟩
            · go_big_quiet (fail)
              go_wp2
              go_roundw
              case rel => exact ⟨k' + 1 + 1, by omega, by go_num, by rw [HVK.out, HFG.out (HEE.out (by omega) (by omega))]; rfl, (fun _ => by rw [HA1.out]; omega), (bz.alloc _).drewN _, bl_drewN (bl_trans hB (bl_alloc _ _)) _⟩
              case measure => simp [intOf]; omega
          · obtain rfl : k = 0 := by omega
            go_big_quiet (fail)
            go_wp2
            go_roundw
            case rel => exact ⟨0 + 1, by omega, by go_num, by rw [HVK.out, HFG.out (HEE.out (by omega) (by omega)), Nat.sub_sub], (fun _ => by rw [HA1.out]; omega), (bz.alloc _).drewN _, bl_drewN (bl_trans hB (bl_alloc _ _)) _⟩
            case measure => simp [intOf]; omega
        · have hq := rng_no q3
          have HQ := Lib.hid hq; clear hq
          have HQ3 := Lib.hid q3; clear q3
          go_wp2_with fail
          refine (in_any _ _ _ _).mono ?_
          rintro e w1 ⟨rfl, rfl⟩
          rw [HQ0.out]
          go_wp2_with fail
          refine (in_any _ _ _ _).mono ?_
          rintro e w1 ⟨rfl, rfl⟩
          rw [HQ.out]
          go_wp2_with fail
          go_ret
          exact ⟨ret_int (by rw [HVK.out, HFS.out 5 (HEC.out HQ3.out) (by decide)]), bl_trans hB (bl_alloc _ _)⟩
      · have hq0 := rng_no q1
        have HQ0 := Lib.hid hq0; clear hq0
        have h5 : A < 0 ∨ 8589934592 < A := by omega
        have H5 := Lib.hid h5; clear h5 q1
        go_wp2_with fail
        refine (in_any _ _ _ _).mono ?_
        rintro e w1 ⟨rfl, rfl⟩
        rw [HQ0.out]
        go_wp2_with fail
        go_ret
        exact ⟨ret_int (by rw [HVK.out, HFS.out 5 (H5.out.elim HEA.out HEB.out) (by decide)]), bl_trans hB (bl_alloc _ _)⟩
    · obtain rfl : k = sh.length := by omega
      go_wp2
      go_ret
      exact ⟨ret_int (by rw [HVK.out, Nat.sub_self]; rfl), hB⟩

/-- the rest: too many shifts; an offset out of bounds; no shift -/
theorem zcheck_any (o : Int) (v : Value) (sh : Sh) (w : World) (hI : IsSh w v sh) : Calls Tryd.prog 31 #[.agg #[.int .i64 o, v]] w (Ret (.int .i64 (zchk o sh)) w) := by
  by_cases hl : 100 < sh.length
  · have hz : zchk o sh = 2 := by unfold zchk; rw [if_pos hl]
    rw [hz]
    obtain ⟨a, cap, rfl, hm⟩ := hI.slice
    have hl2 : (100 : Int) < sh.length := by omega
    clear hI hz
    go_enter Tryd.func31, Tryd.ntmps31
    go_wp2
    go_ret
    exact ⟨rfl, bl_alloc _ _⟩
  · by_cases ho : -900 ≤ o ∧ o ≤ 900
    · have hz : zchk o sh = fe sh 0 sh.length := by unfold zchk; rw [if_neg hl, if_pos ho]
      rw [hz]
      rcases hI with ⟨a, cap, rfl, rfl⟩ | ⟨b, off, cap, rfl, hb, hm, hc⟩
      · have hr : rng (-900) o 900 = true := rng_yes ho
        have HR := Lib.hid hr; clear hr hz
        go_enter Tryd.func31, Tryd.ntmps31
        go_wp2_with fail
        refine (zin_any _ _).mono ?_
        rintro e w1 ⟨rfl, rfl⟩
        rw [HR.out]
        go_wp2
        go_loopw [18] (fun i wr => i = .int .i64 0 ∧ Below w.heap.size w wr) (fun _ _ => 0)
        case atStart => exact ⟨rfl, bl_alloc _ _⟩
        case round =>
          obtain ⟨rfl, hB⟩ := hrel
          go_wp2
          go_ret
          exact ⟨rfl, hB⟩
      · exact zcheck_some o b off cap sh w hb (by omega) ho hc
    · have hz : zchk o sh = 5 := by unfold zchk; rw [if_neg hl, if_neg ho]
      rw [hz]
      obtain ⟨a, cap, rfl, hm⟩ := hI.slice
      have hl2 : ¬ (100 : Int) < sh.length := by omega
      have hr : rng (-900) o 900 = false := rng_no ho
      have HR := Lib.hid hr; clear hr hz hI ho
      go_enter Tryd.func31, Tryd.ntmps31
      go_wp2_with fail
      refine (zin_any _ _).mono ?_
      rintro e w1 ⟨rfl, rfl⟩
      rw [HR.out]
      go_wp2
      go_ret
      exact ⟨rfl, bl_alloc _ _⟩
theorem zrcheck_any (o : Int) (v : Value) (sh : Sh) (w : World) (hI : IsSh w v sh) : Calls Tryd.prog 34 #[.agg #[.int .i64 o, v]] w (Ret (.int .i64 (zchk o sh)) w) := by
  by_cases hl : 100 < sh.length
  · have hz : zchk o sh = 2 := by unfold zchk; rw [if_pos hl]
    rw [hz]
    obtain ⟨a, cap, rfl, hm⟩ := hI.slice
    have hl2 : (100 : Int) < sh.length := by omega
    clear hI hz
    go_enter Tryd.func34, Tryd.ntmps34
    go_wp2
    go_ret
    exact ⟨rfl, bl_alloc _ _⟩
  · by_cases ho : -900 ≤ o ∧ o ≤ 900
    · have hz : zchk o sh = fe sh 0 sh.length := by unfold zchk; rw [if_neg hl, if_pos ho]
      rw [hz]
      rcases hI with ⟨a, cap, rfl, rfl⟩ | ⟨b, off, cap, rfl, hb, hm, hc⟩
      · have hr : rng (-900) o 900 = true := rng_yes ho
        have HR := Lib.hid hr; clear hr hz
        go_enter Tryd.func34, Tryd.ntmps34
        go_wp2_with fail
        refine (in_any _ _ _ _).mono ?_
        rintro e w1 ⟨rfl, rfl⟩
        rw [HR.out]
        go_wp2
        go_loop [3] (fun i => i = .int .i64 0) (fun _ => 0)
        case atStart => rfl
        case round =>
          subst hrel
          go_wp2
          go_ret
          exact ⟨rfl, bl_alloc _ _⟩
      · exact zrcheck_some o b off cap sh w hb (by omega) ho hc
    · have hz : zchk o sh = 5 := by unfold zchk; rw [if_neg hl, if_neg ho]
      rw [hz]
      obtain ⟨a, cap, rfl, hm⟩ := hI.slice
      have hl2 : ¬ (100 : Int) < sh.length := by omega
      have hr : rng (-900) o 900 = false := rng_no ho
      have HR := Lib.hid hr; clear hr hz hI ho
      go_enter Tryd.func34, Tryd.ntmps34
      go_wp2_with fail
      refine (in_any _ _ _ _).mono ?_
      rintro e w1 ⟨rfl, rfl⟩
      rw [HR.out]
      go_wp2
      go_ret
      exact ⟨rfl, bl_alloc _ _⟩
/-- a valid zone is accepted -/
theorem fe_zero {l : Sh} (h : ∀ k, k < l.length → erB l k = 0) : ∀ (n k : Nat), k + n ≤ l.length → fe l k n = 0
  | 0, _, _ => rfl
  | n + 1, k, hk => by
    show (if erB l k = 0 then fe l (k + 1) n else erB l k) = 0
    rw [if_pos (h k (by omega))]
    exact fe_zero h n (k + 1) (by omega)
theorem chain_at : ∀ {l : Sh} {f : Int}, -2880 ≤ f → chain f l → ∀ k, k < l.length → (0 ≤ shA l k ∧ shA l k ≤ 8589934592 ∧ -900 ≤ shO l k ∧ shO l k ≤ 900) ∧ (0 < k → shA l (k - 1) + 2880 ≤ shA l k)
  | [], _, _, _, k, hk => absurd hk (by simp)
  | (a, o) :: l, f, hf, ⟨h1, h2, h3, h4, h5⟩, k, hk => by
    match k with
    | 0 => exact ⟨⟨by show 0 ≤ a; omega, h2, h3, h4⟩, (fun h => absurd h (by omega))⟩
    | 1 =>
      match l, h5 with
      | [], _ => exact absurd hk (by simp)
      | (a2, o2) :: l2, h5 =>
        have := chain_at (f := a) (by omega) h5 0 (by simp)
        exact ⟨this.1, fun _ => h5.1⟩
    | k + 2 =>
      have := chain_at (f := a) (by omega) h5 (k + 1) (by simp at hk; omega)
      exact ⟨this.1, fun _ => this.2 (by omega)⟩
theorem zchk_ok {o : Int} {l : Sh} (h : Ok o l) (hl : l.length ≤ 100) : zchk o l = 0 := by
  unfold zchk
  rw [if_neg (by omega), if_pos ⟨h.1, h.2.1⟩]
  refine fe_zero (fun k hk => ?_) _ _ (by omega)
  obtain ⟨⟨a1, a2, a3, a4⟩, a5⟩ := chain_at (by omega) h.2.2 k hk
  refine er_e (by omega) (fun h => ?_)
  have := a5 h.1
  omega
end Go.Proofs.YtiilljcnikgeaaaDoor
