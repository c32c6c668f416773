/- The walk of the law ZoneGaps: it returns true at every slice of ints, number and bool. Conditions: the slice lies in memory. -/
import Derived.Test.YtioenakhkkejmaaZCh
namespace Go.Proofs.Ytioenakhkkejmaa
open Go.RowKit

/-- the loop: the last shift that skips n, so far; the offset before the next one -/
def gapK (n o : Int) (l : Sh) : Nat → Int × Int
  | 0 => (-1, o)
  | k + 1 => (if shA l k + (gapK n o l k).2 ≤ n ∧ n < shA l k + shO l k then (k : Int) else (gapK n o l k).1, shO l k)
/-- the gap of the first k shifts -/
def skipK (n o : Int) (l : Sh) (k : Nat) : Prop := ∃ j, j < k ∧ shA l j + (gapK n o l j).2 ≤ n ∧ n < shA l j + shO l j
theorem gapK_spec (n o : Int) (l : Sh) : ∀ k, (gapK n o l k).1 = -1 ∧ ¬ skipK n o l k ∨ ∃ j : Nat, j < k ∧ (gapK n o l k).1 = j ∧ shA l j + (gapK n o l j).2 ≤ n ∧ n < shA l j + shO l j
  | 0 => .inl ⟨rfl, fun ⟨j, h, _⟩ => absurd h (by omega)⟩
  | k + 1 => by
    by_cases h : shA l k + (gapK n o l k).2 ≤ n ∧ n < shA l k + shO l k
    · exact .inr ⟨k, by omega, by show (if _ then _ else _) = _; rw [if_pos h], h⟩
    · have e : (gapK n o l (k + 1)).1 = (gapK n o l k).1 := by show (if _ then _ else _) = _; rw [if_neg h]
      rcases gapK_spec n o l k with ⟨h1, h2⟩ | ⟨j, h1, h2, h3⟩
      · refine .inl ⟨e.trans h1, fun ⟨j, k1, k2⟩ => ?_⟩
        by_cases hj : j = k
        · rw [hj] at k2; exact h k2
        · exact h2 ⟨j, by omega, k2⟩
      · exact .inr ⟨j, by omega, e.trans h2, h3⟩
theorem gapK_cons (n o a q : Int) (l : Sh) : ∀ k, (gapK n o ((a, q) :: l) (k + 1)).2 = (gapK n q l k).2
  | 0 => rfl
  | _ + 1 => rfl
theorem skips_iff (n : Int) : ∀ (l : Sh) (o : Int), skips n o l ↔ ∃ j, j < l.length ∧ shA l j + (gapK n o l j).2 ≤ n ∧ n < shA l j + shO l j
  | [], o => ⟨fun h => h.elim, fun ⟨j, h, _⟩ => absurd h (by simp)⟩
  | (a, q) :: l, o => by
    have ih := skips_iff n l q
    constructor
    · rintro (h | h)
      · exact ⟨0, by simp, h⟩
      · obtain ⟨j, h1, h2⟩ := ih.1 h
        exact ⟨j + 1, by simpa using h1, by rw [gapK_cons]; exact h2⟩
    · rintro ⟨j, h1, h2⟩
      match j with
      | 0 => exact .inl h2
      | j + 1 =>
        rw [gapK_cons] at h2
        exact .inr (ih.2 ⟨j, by simpa using h1, h2⟩)
theorem skip_at (n : Int) : ∀ (l : Sh) (o f : Int), chain f l → ∀ j, j < l.length → shA l j + (gapK n o l j).2 ≤ n → n < shA l j + shO l j → gapAt o l n (shA l j)
  | [], _, _, _, j, h, _, _ => absurd h (by simp)
  | (a, q) :: l, o, f, ⟨h1, h2, h3, h4, h5⟩, j, hj, k1, k2 => by
    have e : ∀ x, off o ((a, q) :: l) x = if x < a then o else off q l x := fun _ => rfl
    match j with
    | 0 =>
      have k1 : a + o ≤ n := k1
      have k2 : n < a + q := k2
      show gapAt o ((a, q) :: l) n a
      unfold gapAt lt
      rw [e, e, if_pos (by omega), if_neg (by omega), off_first h5 (by omega)]
      omega
    | j + 1 =>
      rw [gapK_cons] at k1
      have ih := skip_at n l q a h5 j (by simpa using hj) k1 k2
      have := jump_at h5 (gap_jump ih)
      show gapAt o ((a, q) :: l) n (shA l j)
      unfold gapAt lt at *
      rw [e, e, if_neg (by omega), if_neg (by omega)]
      exact ih
theorem gapK_bd (n o : Int) (l : Sh) (hok : Ok o l) : ∀ k, k ≤ l.length → -900 ≤ (gapK n o l k).2 ∧ (gapK n o l k).2 ≤ 900
  | 0, _ => ⟨hok.1, hok.2.1⟩
  | k + 1, h => by
    have := (chain_at (by omega) hok.2.2 k (by omega)).1
    exact ⟨this.2.2.1, this.2.2.2⟩
theorem gapK_lo (n o : Int) (l : Sh) (k : Nat) (hk : k ≤ 1000) : -1 ≤ (gapK n o l k).1 ∧ (gapK n o l k).1 < 1000 := by
  rcases gapK_spec n o l k with ⟨h1, _⟩ | ⟨j, h1, h2, _⟩ <;> omega

set_option maxHeartbeats 8000000 in
theorem law_zgaps (v : Value) (zs : List Int) (n : Int) (late : Bool) (w : World) (hI : IsInts w v zs) (hz : InR zs) (h1 : -9223372036854775808 ≤ n) (h2 : n ≤ 9223372036854775807) :
    Calls Try.prog 6 #[v, .int .i64 n, .bool late] w (Ret (.bool true) w) := by
  have hok := zone_ok zs
  have hzl := zone_len zs
  have hzn := fun w h => zone_any v zs w h hz
  have hl := fun w => zloc_any n w h1 h2
  obtain ⟨l1, l2⟩ := locK_bd n
  generalize zoneO zs = o at *
  generalize zoneSh zs = sh at *
  generalize locK n = K at *
  obtain ⟨D, hD⟩ : ∃ D, D = K / 1440 := ⟨_, rfl⟩
  obtain ⟨M, hM⟩ : ∃ M, M = K % 1440 := ⟨_, rfl⟩
  rw [← hD, ← hM] at hl
  have d1 : 1440 * D + M = K := by omega
  have d2 : 0 ≤ M := by omega
  have d3 : M < 1440 := by omega
  have d4 : -1000000 ≤ D := by omega
  have d5 : D ≤ 1000000 := by omega
  clear hD hM
  have ci := fun sv w h => zinst_in o D M sv sh w h hok (by omega) (by omega) d2 d3 (by omega)
  have cr := fun sv w h => zres_any o D M late sv sh w h hok (by omega) (by omega) d2 d3 (by omega)
  rw [show D * 1440 + M = K from by omega] at ci cr
  have hbd := gapK_bd K o sh hok
  have hca := fun k hk => (chain_at (by omega) hok.2.2 k hk).1
  have hnone := none_iff (n := K) hok (by omega)
  have hskip := skips_iff K sh o
  have hspec := gapK_spec K o sh sh.length
  have hat := skip_at K sh o _ hok.ch
  have hgap := fun r h => resR_gap (n := K) (r := r) hok.ch ⟨hok.1, hok.2.1⟩ h
  have HZ := Lib.hid hzn; have HL := Lib.hid hl; have CI := Lib.hid ci; have CR := Lib.hid cr; have HD1 := Lib.hid d1; have HBD := Lib.hid hbd; have HCA := Lib.hid hca
  have HNONE := Lib.hid hnone; have HSKIP := Lib.hid hskip; have HSPEC := Lib.hid hspec; have HAT := Lib.hid hat; have HGAP := Lib.hid hgap; have HI := Lib.hid hI; have HOK := Lib.hid hok
  clear hzn hl ci cr d1 hbd hca hnone hskip hspec hat hgap hI hok hz
  go_enter Try.func6, Try.ntmps6
  go_wp2_with fail
  refine (HZ.out _ HI.out).mono ?_
  rintro e w1 ⟨sv, rfl, hs, hb1⟩
  obtain ⟨sa, sc, rfl, _⟩ := hs.slice
  have hzb := ZBox.new (o := o) hs
  have hB := bl_trans hb1 (bl_alloc w1 (.cells #[.int .i64 o, .slice sa sh.length sc] 24))
  go_wp2_with fail
  refine (HL.out _).mono ?_
  rintro e w' ⟨rfl, rfl⟩
  obtain ⟨W, hW⟩ : ∃ W, W = w1.alloc (.cells #[.int .i64 o, .slice sa sh.length sc] 24) := ⟨_, rfl⟩
  rw [← hW] at hzb hB ⊢
  clear hW
  obtain ⟨B, hBB⟩ : ∃ B, B = w1.heap.size := ⟨_, rfl⟩
  rw [← hBB] at hzb ⊢
  clear hBB hs hb1
  obtain ⟨⟨c0, c1⟩, hlt, hIs⟩ := hzb
  have HIS := Lib.hid hIs; clear hIs
  go_wp2_with fail
  rw [HD1.out]
  go_loopw [11, 12, 13] (fun s b i wr => ∃ k m : Nat, k ≤ sh.length ∧ i = .int .i64 k ∧ s = .int .i64 (gapK K o sh k).1 ∧ b = .int .i64 (gapK K o sh k).2 ∧ wr = W.drewN m) (fun _ _ i _ => sh.length - (intOf i).toNat)
  case atStart => exact ⟨0, 0, Nat.zero_le _, rfl, rfl, rfl, rfl⟩
  case round =>
    obtain ⟨k, m, hk, rfl, rfl, rfl, rfl⟩ := hrel
    by_cases hlt2 : k < sh.length
    · obtain ⟨b, off', rfl, e1, e2⟩ := HIS.out.at hlt2
      obtain ⟨q1, q2, q3, q4⟩ := HCA.out k hlt2
      obtain ⟨q5, q6⟩ := HBD.out k hk
      have hst1 : (gapK K o sh (k + 1)).1 = if shA sh k + (gapK K o sh k).2 ≤ K ∧ K < shA sh k + shO sh k then (k : Int) else (gapK K o sh k).1 := rfl
      have hst2 : (gapK K o sh (k + 1)).2 = shO sh k := rfl
      generalize (gapK K o sh k).1 = S at *
      generalize (gapK K o sh k).2 = P at *
      generalize shA sh k = A at *
      generalize shO sh k = Q at *
      have HS1 := Lib.hid hst1; have HS2 := Lib.hid hst2; clear hst1 hst2
      have s1 : IntKind.i64.wrap (A + P) = A + P := IntWalk.i64_in _ (by omega)
      have s2 : IntKind.i64.wrap (A + Q) = A + Q := IntWalk.i64_in _ (by omega)
      have S1 := Lib.hid s1; have S2 := Lib.hid s2
      clear s1 s2
      have kk0 : (0 : Int) ≤ k := by omega
      have kk1 : (k : Int) < sh.length := by omega
      by_cases g1 : A + P ≤ K
      · have b1 : decide (A + P ≤ K) = true := decide_eq_true g1
        by_cases g2 : K < A + Q
        · have b2 : decide (K < A + Q) = true := decide_eq_true g2
          go_wp2_with fail
          have s1 := S1.out; have s2 := S2.out
          go_big_quiet (fail)
          clear s1 s2
          go_wp2
          go_roundw
          case rel => exact ⟨k + 1, _, by omega, by go_num, by rw [HS1.out, if_pos ⟨g1, g2⟩], by rw [HS2.out], rfl⟩
          case measure => simp [intOf]; omega
        · have b2 : decide (K < A + Q) = false := decide_eq_false g2
          go_wp2_with fail
          have s1 := S1.out; have s2 := S2.out
          go_big_quiet (fail)
          clear s1 s2
          go_wp2
          go_roundw
          case rel => exact ⟨k + 1, _, by omega, by go_num, by rw [HS1.out, if_neg (by omega)], by rw [HS2.out], rfl⟩
          case measure => simp [intOf]; omega
      · have b1 : decide (A + P ≤ K) = false := decide_eq_false g1
        go_wp2_with fail
        have s1 := S1.out; have s2 := S2.out
        go_big_quiet (fail)
        clear s1 s2
        go_wp2
        go_roundw
        case rel => exact ⟨k + 1, _, by omega, by go_num, by rw [HS1.out, if_neg (by omega)], by rw [HS2.out], rfl⟩
        case measure => simp [intOf]; omega
    · obtain rfl : k = sh.length := by omega
      have hzb2 : ZBox (W.drewN m) B o (.slice sa sh.length sc) sh := ZBox.below ⟨⟨c0, c1⟩, hlt, HIS.out⟩ (bl_drewN (bl_refl _) _)
      have hBm := bl_drewN hB m
      have hLl : (ins o sh K).length ≤ 2 := ins_len HOK.out.ch ⟨HOK.out.1, HOK.out.2.1⟩
      go_wp2_with fail
      refine (CI.out _ _ hzb2.2.2).mono ?_
      rintro e w5 hp
      obtain ⟨la, lc, rfl, _, hb5⟩ := hp.slice (by have : maxLen = 9223372036854775807 := rfl; omega)
      clear hp
      have hzb5 := hzb2.below hb5
      have hB5 := bl_trans hBm hb5
      clear hzb2 hb5 c0 c1
      by_cases he : ins o sh K = []
      · obtain ⟨j, j1, j2, j3⟩ := HSKIP.out.1 (HNONE.out.1 he)
        rcases HSPEC.out with ⟨_, hno⟩ | ⟨i, i1, i2, i3, i4⟩
        · exact absurd ⟨j, j1, j2, j3⟩ hno
        have hres : res late o sh K = shA sh i := by unfold res; rw [he]; exact HGAP.out _ (HAT.out i i1 i3 i4)
        rw [i2]
        rw [show (ins o sh K).length = 0 from by rw [he]; rfl]
        obtain ⟨b, off', rfl, e1, e2⟩ := hzb5.2.2.at i1
        have hbl : b < w5.heap.size := World.block_lt_of_cell? _ _ e1
        obtain ⟨u0, u1, u2⟩ := hzb5.up
        have c6 : ∀ u : UpW w5, u.w.cell? ⟨b, off' + i * 2, none⟩ = some (.int .i64 (shA sh i)) := fun u => (u.h.cell (p := ⟨b, off' + i * 2, none⟩) hbl).trans e1
        have cr2 := CR.out
        rw [hres] at cr2
        generalize shA sh i = A at *
        have U2 := Lib.hid u2; have CR2 := Lib.hid cr2
        have ki0 : (0 : Int) ≤ i := by omega
        have ki1 : (i : Int) < sh.length := by omega
        have g1 : decide ((0 : Int) ≤ i) = true := decide_eq_true ki0
        have g2 : (A == A) = true := beq_self_eq_true A
        clear u2 cr2 he j2 j3 i2 i3 i4 hres e1 e2 hzb5 hlt j1
        go_wp2_with fail
        refine wp_region_up (by kernel_rfl) (by kernel_rfl) ?_
        repeat (go_big_quiet_step (fail))
        go_big_quiet_step (exact Ret.up (CR2.out _ _ (U2.out _)))
        repeat (go_big_quiet_step (fail))
        go_big_quiet_step (exact Ret.up (zlives_any _))
        repeat (go_big_quiet_step (fail))
        refine wpQuiet_nil ?_
        rintro w6 ⟨u6, hu6⟩
        have hb6 := u6.h
        rw [← hu6] at hb6
        clear u0 u1 c6 hu6
        go_wp2_with fail
        go_ret
        exact ⟨rfl, bl_trans hB5 hb6⟩
      · have hno : (gapK K o sh sh.length).1 = -1 := by
          rcases HSPEC.out with ⟨h, _⟩ | ⟨i, i1, i2, i3, i4⟩
          · exact h
          · exact absurd (HNONE.out.2 (HSKIP.out.2 ⟨i, i1, i3, i4⟩)) he
        rw [hno]
        have hL0 : (ins o sh K).length ≠ 0 := fun h => he (List.length_eq_zero_iff.1 h)
        generalize (ins o sh K).length = L at *
        have g1 : ((L : Int) == 0) = false := by rw [beq_eq_false_iff_ne]; omega
        have g2 : (L == 0) = false := by rw [beq_eq_false_iff_ne]; omega
        obtain ⟨u0, u1, u2⟩ := hzb5.up
        clear u2 he hno hL0 hzb5 hlt
        go_wp2_with fail
        refine wp_region_up (by kernel_rfl) (by kernel_rfl) ?_
        repeat (go_big_quiet_step (fail))
        go_big_quiet_step (exact Ret.up (zlives_any _))
        repeat (go_big_quiet_step (fail))
        refine wpQuiet_nil ?_
        rintro w6 ⟨u6, hu6⟩
        have hb6 := u6.h
        rw [← hu6] at hb6
        clear u0 u1 hu6
        go_wp2_with fail
        go_ret
        exact ⟨rfl, bl_trans hB5 hb6⟩
end Go.Proofs.Ytioenakhkkejmaa
