/- The walk of the reference's Holidays: valid rules out of numbers. Conditions: the numbers are ints that lie in memory. -/
import Derived.Test.YtaiiibbnjmjamaaGreatDoorHNum
import Derived.Test.YtaiiibbnjmjamaaGreatDoorHOf
import Derived.Test.YtaiiibbnjmjamaaGreatDoorKApp
namespace Go.Proofs.YtaiiibbnjmjamaaGreatDoor
open Go.RowKit

/-- a rule out of three numbers -/
def mkH (a b c : Int) : Hol := ⟨1 + around a 1000000 % 4, 1 + around a 1000000 / 12 % 12, 1 + around b 1000000 % 31, around b 1000000 / 31 % 7, 1 + around b 1000000 / 217 % 5, around b 1000000 % 201 - 100, around a 1000000 / 4 % 3, 1 + around c 1990, 2000 + around c 100⟩
def mkAt (zs : List Int) (j : Nat) : Hol := mkH (zs[3 * j]?.getD 0) (zs[3 * j + 1]?.getD 0) (zs[3 * j + 2]?.getD 0)
def mkPre (zs : List Int) (j : Nat) : List Hol := (List.range j).map (mkAt zs)
def mkN (zs : List Int) : Nat := min 6 (zs.length / 3)
def mkHols (zs : List Int) : List Hol := mkPre zs (mkN zs)
theorem mkPre_succ (zs : List Int) (j : Nat) : mkPre zs (j + 1) = mkPre zs j ++ [mkAt zs j] := by unfold mkPre; rw [List.range_succ, List.map_append]; rfl
theorem mkPre_len (zs : List Int) (j : Nat) : (mkPre zs j).length = j := by unfold mkPre; simp
theorem mkHols_len (zs : List Int) : (mkHols zs).length ≤ 6 := by unfold mkHols; rw [mkPre_len]; unfold mkN; omega
theorem mkH_valid (a b c : Int) : hvB (mkH a b c) = true := by
  obtain ⟨a1, a2⟩ := around_bd a (m := 1000000) (by omega)
  obtain ⟨b1, b2⟩ := around_bd b (m := 1000000) (by omega)
  obtain ⟨c1, c2⟩ := around_bd c (m := 1990) (by omega)
  obtain ⟨d1, d2⟩ := around_bd c (m := 100) (by omega)
  have w1 : win (mkH a b c).k 1 4 = true := win_iff.2 (by show 1 ≤ 1 + around a 1000000 % 4 ∧ 1 + around a 1000000 % 4 ≤ 4; omega)
  have w2 : win (mkH a b c).mv 0 2 = true := win_iff.2 (by show 0 ≤ around a 1000000 / 4 % 3 ∧ around a 1000000 / 4 % 3 ≤ 2; omega)
  have w3 : ¬ (mkH a b c).f < 1 := by show ¬ 1 + around c 1990 < 1; omega
  have w4 : ¬ (mkH a b c).l < (mkH a b c).f := by show ¬ 2000 + around c 100 < 1 + around c 1990; omega
  have w5 : ¬ 9999 < (mkH a b c).l := by show ¬ 9999 < 2000 + around c 100; omega
  have m1 : win (mkH a b c).mo 1 12 = true := win_iff.2 (by show 1 ≤ 1 + around a 1000000 / 12 % 12 ∧ 1 + around a 1000000 / 12 % 12 ≤ 12; omega)
  have m2 : win (mkH a b c).d 1 31 = true := win_iff.2 (by show 1 ≤ 1 + around b 1000000 % 31 ∧ 1 + around b 1000000 % 31 ≤ 31; omega)
  have m3 : win (mkH a b c).wd 0 6 = true := win_iff.2 (by show 0 ≤ around b 1000000 / 31 % 7 ∧ around b 1000000 / 31 % 7 ≤ 6; omega)
  have m4 : win (mkH a b c).nth 1 5 = true := win_iff.2 (by show 1 ≤ 1 + around b 1000000 / 217 % 5 ∧ 1 + around b 1000000 / 217 % 5 ≤ 5; omega)
  have m5 : win (mkH a b c).off (-100) 100 = true := win_iff.2 (by show -100 ≤ around b 1000000 % 201 - 100 ∧ around b 1000000 % 201 - 100 ≤ 100; omega)
  have v : vldK (mkH a b c) = true := by
    unfold vldK vld1 vld2 vld3 vld4
    rw [m1, m2, m3, m4, m5]
    split
    · rfl
    · split
      · rfl
      · split <;> rfl
  unfold hvB
  rw [w1, w2, decide_eq_false w3, decide_eq_false w4, decide_eq_false w5, v]; rfl
theorem mkHols_valid (zs : List Int) : ∀ x, x ∈ mkHols zs → hvB x = true := by
  intro x hx
  unfold mkHols mkPre at hx
  obtain ⟨j, _, rfl⟩ := List.mem_map.1 hx
  exact mkH_valid _ _ _
theorem infoHol : (Tryz.prog.info? 45).map (fun i => (i.zero, i.size, i.bytes)) = some (some (.agg #[.int .i64 0, .int .i64 0, .int .i64 0, .int .i64 0, .int .i64 0, .int .i64 0, .int .i64 0, .int .i64 0, .int .i64 0]), 9, 72) := by kernel_rfl
theorem encH_one : ∀ x, ∀ u ∈ encH x, u.oneCell' = true := by
  intro x u hu
  simp [encH] at hu
  rcases hu with rfl | rfl | rfl | rfl | rfl | rfl | rfl | rfl | rfl <;> rfl
def HolsPost (l : List Hol) (w : World) (e : Ending) (w' : World) : Prop := ∃ v, e = .returned v ∧ w'.ownsRow w.heap.size 45 9 v l.length (flatE encH l) ∧ Below w.heap.size w w'
def MkRel (zs : List Int) (w : World) (j : Nat) (o : Value) (wr : World) : Prop :=
  wr.ownsRow w.heap.size 45 9 o (mkPre zs j).length (flatE encH (mkPre zs j)) ∧ Below w.heap.size w wr
set_option maxRecDepth 100000 in
set_option maxHeartbeats 8000000 in
theorem mk_some (b off cap : Nat) (zs : List Int) (w : World) (hb : b < w.heap.size) (hl : zs.length ≤ maxLen) (hz : InR zs)
    (hc : ∀ j, j < zs.length → w.cell? ⟨b, off + j, none⟩ = some (.int .i64 (zs[j]?.getD 0))) :
    Calls Tryz.prog 4 #[.slice (some ⟨b, off, none⟩) zs.length cap] w (HolsPost (mkHols zs) w) := by
  have HC := Lib.hid hc; clear hc
  unfold maxLen at hl
  obtain ⟨i0, hi, hz0, hz1, hz2⟩ := info_parts infoHol
  have hms : maxLen = 9223372036854775807 := rfl
  have HMS := Lib.hid hms; clear hms
  go_enter Tryz.func4, Tryz.ntmps4
  go_wp2
  go_loopw [3, 4] (fun o i wr => ∃ j : Nat, j ≤ mkN zs ∧ i = .int .i64 ((3 * j : Nat) : Int) ∧ MkRel zs w j o wr) (fun _ i _ => 100 - (intOf i).toNat)
  case atStart => exact ⟨0, Nat.zero_le _, rfl, World.ownsRow_nil _ _ _ _, bl_refl _⟩
  case round =>
    obtain ⟨j, hj, rfl, hrow, hbw⟩ := hrel
    have hpl := mkPre_len zs j
    rw [hpl] at hrow
    have hr0 := hrow
    obtain ⟨oa, oc, rfl⟩ := row_slice hrow
    have hmn : mkN zs = min 6 (zs.length / 3) := rfl
    obtain ⟨i, hi3⟩ : ∃ i, i = 3 * j := ⟨_, rfl⟩
    rw [← hi3]
    have hmn1 : mkN zs ≤ 6 := by omega
    have hj6 : j ≤ 6 := by omega
    have hi18 : i ≤ 18 := by omega
    by_cases hlt : j < mkN zs
    · have n2 : i + 2 < zs.length := by omega
      have n6 : j < 6 := by omega
      have hbr : b < wr.heap.size := Nat.lt_of_lt_of_le hb hbw.size
      have d0 := (hbw.cell (p := ⟨b, off + i, none⟩) hb).trans (HC.out i (by omega))
      have d1 := (hbw.cell (p := ⟨b, off + (i + 1), none⟩) hb).trans (HC.out (i + 1) (by omega))
      have d2 := (hbw.cell (p := ⟨b, off + (i + 2), none⟩) hb).trans (HC.out (i + 2) (by omega))
      obtain ⟨x1, x2⟩ := hz.at i
      obtain ⟨y1, y2⟩ := hz.at (i + 1)
      obtain ⟨z1, z2⟩ := hz.at (i + 2)
      have hat : mkAt zs j = mkH (zs[i]?.getD 0) (zs[i + 1]?.getD 0) (zs[i + 2]?.getD 0) := by unfold mkAt; rw [hi3]
      have hps := mkPre_succ zs j
      rw [hat] at hps
      generalize zs[i]?.getD 0 = x at *
      generalize zs[i + 1]?.getD 0 = y at *
      generalize zs[i + 2]?.getD 0 = z at *
      have hA := fun w => around01 x 1000000 w x1 x2 (by omega) (by omega)
      have hB := fun w => around01 y 1000000 w y1 y2 (by omega) (by omega)
      have hD := fun w => around01 z 1990 w z1 z2 (by omega) (by omega)
      have hE := fun w => around01 z 100 w z1 z2 (by omega) (by omega)
      obtain ⟨A1, A2⟩ := around_bd x (m := 1000000) (by omega)
      obtain ⟨B1, B2⟩ := around_bd y (m := 1000000) (by omega)
      obtain ⟨D1, D2⟩ := around_bd z (m := 1990) (by omega)
      obtain ⟨E1, E2⟩ := around_bd z (m := 100) (by omega)
      have hmk : mkH x y z = ⟨1 + around x 1000000 % 4, 1 + around x 1000000 / 12 % 12, 1 + around y 1000000 % 31, around y 1000000 / 31 % 7, 1 + around y 1000000 / 217 % 5, around y 1000000 % 201 - 100, around x 1000000 / 4 % 3, 1 + around z 1990, 2000 + around z 100⟩ := rfl
      rw [hmk] at hps
      generalize around x 1000000 = n at *
      generalize around y 1000000 = m at *
      generalize around z 1990 = p at *
      generalize around z 100 = q at *
      have HA := Lib.hid hA; have HB := Lib.hid hB; have HD := Lib.hid hD; have HE := Lib.hid hE; have HPS := Lib.hid hps; have HI := Lib.hid hi3; have HMN := Lib.hid hmn; have HPL := Lib.hid hpl
      clear hA hB hD hE hps hmk hat hi3 hmn hpl x1 x2 y1 y2 z1 z2
      go_wp2_with fail
      refine (HA.out _).mono ?_
      rintro e w1 ⟨rfl, rfl⟩
      go_wp2_with fail
      refine (HB.out _).mono ?_
      rintro e w1 ⟨rfl, rfl⟩
      go_wp2_with fail
      refine (HD.out _).mono ?_
      rintro e w1 ⟨rfl, rfl⟩
      go_wp2_with fail
      refine (HE.out _).mono ?_
      rintro e w1 ⟨rfl, rfl⟩
      go_upto_region 10 with (fail)
      have hz := hbw.size
      go_wp2_with (at_builtin; refine wpList_append_any (by rfl) (.tmp 71) (.tmp 73) 23 (by rfl) w.heap.size 45 i0 _ 9 72 Tryz.underlying23 hi hz0 hz1 hz2 rfl (by omega) _ j _ (by rfl) ((hr0.alloc _).alloc _) (.slice (some ⟨wr.heap.size + 1, 0, none⟩) 1 1) 1 [.int .i64 (1 + n % 4), .int .i64 (1 + n / 12 % 12), .int .i64 (1 + m % 31), .int .i64 (m / 31 % 7), .int .i64 (1 + m / 217 % 5), .int .i64 (m % 201 - 100), .int .i64 (n / 4 % 3), .int .i64 (1 + p), .int .i64 (2000 + q)] (by rfl) (.inr ⟨_, _, rfl, rfl, (World.news_of_block (cs := #[.int .i64 (1 + n % 4), .int .i64 (1 + n / 12 % 12), .int .i64 (1 + m % 31), .int .i64 (m / 31 % 7), .int .i64 (1 + m / 217 % 5), .int .i64 (m % 201 - 100), .int .i64 (n / 4 % 3), .int .i64 (1 + p), .int .i64 (2000 + q)]) (t := 45) (fr := (0, 0)) (by have := heap_alloc_new (wr.alloc (.cells #[.int .i64 (1 + n % 4), .int .i64 (1 + n / 12 % 12), .int .i64 (1 + m % 31), .int .i64 (m / 31 % 7), .int .i64 (1 + m / 217 % 5), .int .i64 (m % 201 - 100), .int .i64 (n / 4 % 3), .int .i64 (1 + p), .int .i64 (2000 + q)] 45)) (.cells #[.int .i64 (1 + n % 4), .int .i64 (1 + n / 12 % 12), .int .i64 (1 + m % 31), .int .i64 (m / 31 % 7), .int .i64 (1 + m / 217 % 5), .int .i64 (m % 201 - 100), .int .i64 (n / 4 % 3), .int .i64 (1 + p), .int .i64 (2000 + q)] 45); rwa [World.size_alloc] at this))⟩) (by simp [Value.oneCell']) (by have := HMS.out; omega) (by omega) (by simp; omega) ?_; intro v1 w2 hown1 hgrow1)
      go_roundw
      case rel =>
        refine ⟨j + 1, by omega, ?_, ?_, (bl_trans hbw (bl_trans (bl_alloc _ _) (bl_alloc _ _))).grown hgrow1 (by simp; omega) (fun r e => (hr0.lt r e).1)⟩
        · rw [show ((3 * (j + 1) : Nat) : Int) = (i : Int) + 3 by rw [HI.out]; omega]
        · rw [HPS.out, List.length_append, flatE_snoc, HPL.out]
          exact hown1
      case measure => simp [intOf]; omega
    · have hend : ¬ (i + 2 < zs.length ∧ j < 6) := by omega
      have hfin : mkHols zs = mkPre zs j := by unfold mkHols; rw [show mkN zs = j by omega]
      have HF := Lib.hid hfin; have HPL := Lib.hid hpl
      clear hi3 hmn hfin hpl
      by_cases g1 : i + 2 < zs.length
      · have g2 : ¬ j < 6 := fun h => hend ⟨g1, h⟩
        have g3 : decide ((j : Int) < 6) = false := decide_eq_false (by omega)
        clear hend
        go_wp2
        go_ret
        exact ⟨_, rfl, by rw [HF.out, HPL.out]; exact hr0, hbw⟩
      · clear hend
        go_wp2
        go_ret
        exact ⟨_, rfl, by rw [HF.out, HPL.out]; exact hr0, hbw⟩
set_option maxHeartbeats 1000000 in
theorem mk_nil (a : Option Addr) (cap : Nat) (w : World) : Calls Tryz.prog 4 #[.slice a 0 cap] w (HolsPost (mkHols []) w) := by
  have e0 : mkHols [] = [] := rfl
  rw [e0]
  clear e0
  go_enter Tryz.func4, Tryz.ntmps4
  go_wp2
  go_loop [3, 4] (fun o i => i = .int .i64 0 ∧ o = .slice none 0 0) (fun _ _ => 0)
  case atStart => exact ⟨rfl, rfl⟩
  case round =>
    obtain ⟨rfl, rfl⟩ := hrel
    go_wp2
    go_ret
    exact ⟨_, rfl, World.ownsRow_nil _ _ _ _, bl_refl _⟩
theorem mk_any (v : Value) (zs : List Int) (w : World) (hv : IsInts w v zs) (hz : InR zs) : Calls Tryz.prog 4 #[v] w (HolsPost (mkHols zs) w) := by
  rcases hv with ⟨a, cap, rfl, rfl⟩ | ⟨b, off, cap, rfl, hb, hl, hc⟩
  · exact mk_nil a cap w
  · exact mk_some b off cap zs w hb hl hz hc
theorem HolsPost.hs {l : List Hol} {w : World} {e : Ending} {w' : World} (h : HolsPost l w e w') (hl : l.length ≤ maxLen) : ∃ a cap, e = .returned (.slice a l.length cap) ∧ IsHols w' (.slice a l.length cap) l ∧ Below w.heap.size w w' := by
  obtain ⟨v, rfl, hrow, hb⟩ := h
  have hI := IsRow.of_row encH_len hrow hl
  obtain ⟨a, cap, rfl⟩ := row_slice hrow
  exact ⟨a, cap, rfl, hI, hb⟩
end Go.Proofs.YtaiiibbnjmjamaaGreatDoor
