/- The walk of the law HolidayChecks: it returns true at every input. Conditions: the rules and the numbers lie in memory, the listed tables lie in memory. -/
import Derived.Test.YtnemgohcjjhfmaaDoorHLives
import Derived.Test.YtnemgohcjjhfmaaDoorHMk
import Derived.Test.YtnemgohcjjhfmaaDoorHRVal
import Derived.Test.YtnemgohcjjhfmaaDoorKApp
namespace Go.Proofs.YtnemgohcjjhfmaaDoor
open Go.RowKit

/-- the rule that the long lists repeat -/
abbrev hX : Hol := ⟨3, 1, 0, 0, 0, 0, 0, 1, 9999⟩
theorem rep_snoc (k : Nat) : List.replicate (k + 1) hX = List.replicate k hX ++ [hX] := List.replicate_succ'
theorem hchk_made {l : List Hol} (h6 : l.length ≤ 6) (hv : ∀ x, x ∈ l → hvB x = true) : hchk l = 0 := by
  unfold hchk chkR
  rw [if_neg (by omega), if_pos (List.all_eq_true.2 hv)]
set_option maxRecDepth 100000 in
set_option maxHeartbeats 4000000 in
theorem law_hchecks (v0 : Value) (l : List Hol) (v : Value) (zs : List Int) (n : Int) (w : World) (hL : IsHols w v0 l) (hI : IsInts w v zs) (hz : InR zs) (hG : GoodH w) (h1 : -9223372036854775808 ≤ n) (h2 : n ≤ 9223372036854775807) :
    Calls Tryd.prog 3 #[v0, v, .int .i64 n] w (Ret (.bool true) w) := by
  have hmk := mk_any v zs w hI hz
  have hm0 := hchk_made (mkHols_len zs) (mkHols_valid zs)
  have hlm : (mkHols zs).length ≤ maxLen := by have := mkHols_len zs; unfold maxLen; omega
  generalize mkHols zs = made at *
  have hA := fun w => around01 n 6 w h1 h2 (by omega) (by omega)
  obtain ⟨a1, a2⟩ := around_bd n (m := 6) (by omega)
  generalize around n 6 = a at *
  obtain ⟨N, hN⟩ : ∃ N : Nat, (N : Int) = 98 + a := ⟨(98 + a).toNat, by omega⟩
  have hal := fun w => alw_any ⟨3, 1, 0, 0, 0, 0, 0, 0, 0⟩ w
  have hck := fun v l w h => hcheck_any v l w h
  have hrk := fun v l w h => rhcheck_any v l w h
  obtain ⟨i0, hi, hz0, hz1, hz2⟩ := info_parts infoHol
  have hms : maxLen = 9223372036854775807 := rfl
  have HMS := Lib.hid hms
  have HMK := Lib.hid hmk; have HA := Lib.hid hA; have HM0 := Lib.hid hm0; have HAL := Lib.hid hal; have HCK := Lib.hid hck; have HRK := Lib.hid hrk; have HLM := Lib.hid hlm; have HLL := Lib.hid hL
  clear hmk hA hm0 hal hck hrk hms hI hz hlm hL
  have hNb : N ≤ 103 := by omega
  have HN := Lib.hid hN
  clear hN
  go_enter Tryd.func3, Tryd.ntmps3
  go_wp2_with fail
  refine HMK.out.mono ?_
  intro e w1 hp
  obtain ⟨p, cap, rfl, hm, hb1⟩ := HolsPost.hs hp HLM.out
  have hG1 := hG.below hb1
  clear hp
  go_wp2
  go_loopw [8, 9] (fun o i wr => ∃ k : Nat, k ≤ N ∧ i = .int .i64 k ∧ wr.ownsRow w1.heap.size 27 9 o k (flatE encH (List.replicate k hX)) ∧ Below w1.heap.size w1 wr) (fun _ i _ => 200 - (intOf i).toNat)
  case atStart => exact ⟨0, Nat.zero_le _, rfl, World.ownsRow_nil _ _ _ _, bl_refl _⟩
  case round =>
    obtain ⟨k, hk, rfl, hrow, hbw⟩ := hrel
    by_cases hlt : k < N
    · have hlt2 : (k : Int) < 98 + a := by have := HN.out; omega
      have hsn := rep_snoc k
      have HSN := Lib.hid hsn; clear hsn
      have hk103 : k ≤ 102 := by omega
      clear hlt hk
      go_wp2_with fail
      refine (HA.out _).mono ?_
      rintro e w2 ⟨rfl, rfl⟩
      go_wp2_with fail
      refine (HAL.out _).mono ?_
      rintro e w3 ⟨rfl, hb3⟩
      have hr3 := row_below hrow hb3
      have hbw3 : Below w1.heap.size w1 w3 := bl_trans hbw hb3
      have hz3 := hbw3.size
      clear hrow hbw hb3
      go_wp2_with (at_builtin; refine wpList_append_any (by rfl) (.tmp 19) (.tmp 22) 22 (by rfl) w1.heap.size 27 i0 _ 9 72 Tryd.underlying22 hi hz0 hz1 hz2 rfl (by omega) _ k _ (by rfl) (hr3.alloc _) (.slice (some ⟨w3.heap.size, 0, none⟩) 1 1) 1 (encH hX) (by rfl) (.inr ⟨_, _, rfl, rfl, (World.news_of_block (cs := cellsH hX) (t := 27) (fr := (0, 0)) (heap_alloc_new w3 _))⟩) (encH_one hX) (by have := HMS.out; omega) (by omega) (by simp; omega) ?_; intro v1 w4 hown1 hgrow1)
      go_roundw
      case rel => exact ⟨k + 1, by have := HN.out; omega, by go_num, by rw [HSN.out, flatE_snoc]; exact hown1, (bl_trans hbw3 (bl_alloc _ _)).grown hgrow1 (by simp; omega) (fun r e => (hr3.lt r e).1)⟩
      case measure => simp [intOf]; omega
    · obtain rfl : k = N := by omega
      have hlt2 : ¬ (k : Int) < 98 + a := by have := HN.out; omega
      have hlen : (List.replicate k hX).length = k := List.length_replicate
      have hX2 : IsHols wr u8 (List.replicate k hX) := IsRow.of_row encH_len (by rw [hlen]; exact hrow) (by rw [hlen]; have := HMS.out; omega)
      have HX2 := Lib.hid hX2
      have hB := bl_trans hb1 hbw
      have hG2 := hG1.below hbw
      have hm2 := hm.below hbw
      have hL2 := HLL.out.below hB
      have e1 := HCK.out v0 l
      have e2 := HRK.out v0 l
      have e3 := HCK.out u8 (List.replicate k hX)
      have e4 := HRK.out u8 (List.replicate k hX)
      have e5 := HCK.out (.slice p made.length cap) made
      rw [HM0.out] at e5
      generalize hchk l = r1 at *
      generalize hchk (List.replicate k hX) = r2 at *
      have E1 := Lib.hid e1; have E2 := Lib.hid e2; have E3 := Lib.hid e3; have E4 := Lib.hid e4; have E5 := Lib.hid e5
      clear e1 e2 e3 e4 e5 hrow hbw hX2 hlen hk hlt
      go_wp2_with fail
      refine (HA.out _).mono ?_
      rintro e w2 ⟨rfl, rfl⟩
      go_wp2_with fail
      refine (E1.out _ hL2).mono ?_
      rintro e w2 ⟨rfl, hb⟩
      have hB := bl_trans hB hb
      have hG2 := hG2.below hb
      have hm2 := hm2.below hb
      have hL2 := hL2.below hb
      have HX2 := Lib.hid (HX2.out.below hb)
      clear hb
      go_wp2_with fail
      refine (E2.out _ hL2).mono ?_
      rintro e w3 ⟨rfl, hb⟩
      have hB := bl_trans hB hb
      have hG2 := hG2.below hb
      have hm2 := hm2.below hb
      have HX2 := Lib.hid (HX2.out.below hb)
      clear hb
      go_wp2_with fail
      refine (E3.out _ HX2.out).mono ?_
      rintro e w4 ⟨rfl, hb⟩
      have hB := bl_trans hB hb
      have hG2 := hG2.below hb
      have hm2 := hm2.below hb
      have HX2 := Lib.hid (HX2.out.below hb)
      clear hb
      go_wp2_with fail
      refine (E4.out _ HX2.out).mono ?_
      rintro e w5 ⟨rfl, hb⟩
      have hB := bl_trans hB hb
      have hG2 := hG2.below hb
      have hm2 := hm2.below hb
      clear hb HX2
      go_wp2_with fail
      refine (E5.out _ hm2).mono ?_
      rintro e w6 ⟨rfl, hb⟩
      have hB := bl_trans hB hb
      have hG2 := hG2.below hb
      clear hb
      go_wp2_with fail
      refine (hlives_any _ hG2).mono ?_
      rintro e w7 ⟨rfl, hb⟩
      go_wp2
      go_ret
      exact ⟨rfl, bl_trans hB hb⟩
end Go.Proofs.YtnemgohcjjhfmaaDoor
