/- The walk of the law TreeOrders. Conditions: none. -/
import Derived.Test.YtmkhnpkbaegchaaTMod
import Derived.Test.YtmkhnpkbaegchaaTLives
import Derived.Test.YtmkhnpkbaegchaaTRng
namespace Go.Proofs.Ytmkhnpkbaegchaa
open Go.RowKit

set_option maxRecDepth 100000 in
set_option maxHeartbeats 8000000 in
theorem law_orders (n a b : Int) (w : World) (hn1 : -9223372036854775808 ≤ n) (hn2 : n ≤ 9223372036854775807) (ha1 : -9223372036854775808 ≤ a) (ha2 : a ≤ 9223372036854775807) (hb1 : -9223372036854775808 ≤ b) (hb2 : b ≤ 9223372036854775807) :
    Calls Try.prog 5 #[.int .i64 n, .int .i64 a, .int .i64 b] w (Ret (.bool true) w) := by
  obtain ⟨k, hk⟩ : ∃ k : Nat, around n 201 = k := ⟨(around n 201).toNat, by have := around_bd n (m := 201) (by omega); omega⟩
  obtain ⟨c, hc⟩ : ∃ c : Nat, around a 60 = c := ⟨(around a 60).toNat, by have := around_bd a (m := 60) (by omega); omega⟩
  obtain ⟨d, hd⟩ : ∃ d : Nat, around b 60 = d := ⟨(around b 60).toNat, by have := around_bd b (m := 60) (by omega); omega⟩
  have hk2 : k ≤ 200 := by have := around_bd n (m := 201) (by omega); omega
  have hc2 : c < 60 := by have := around_bd a (m := 60) (by omega); omega
  have hd2 : d < 60 := by have := around_bd b (m := 60) (by omega); omega
  have K1 : ∀ w, Calls Try.prog 25 #[.int .i64 n, .int .i64 201] w (Pur (.int .i64 (k : Int)) w) := fun w => by rw [← hk]; exact around02 n 201 w hn1 hn2 (by omega) (by omega)
  have K2 : ∀ w, Calls Try.prog 25 #[.int .i64 a, .int .i64 60] w (Pur (.int .i64 (c : Int)) w) := fun w => by rw [← hc]; exact around02 a 60 w ha1 ha2 (by omega) (by omega)
  have K3 : ∀ w, Calls Try.prog 25 #[.int .i64 b, .int .i64 60] w (Pur (.int .i64 (d : Int)) w) := fun w => by rw [← hd]; exact around02 b 60 w hb1 hb2 (by omega) (by omega)
  have hkey : ∀ (i : Nat) W, i < 4000 → Calls Try.prog 26 #[.int .i64 i] W (Ret (.string (keyN i)) W) := fun i W hi => by
    rw [← keyF_nat hi]
    exact key_any i W (by omega) (by omega)
  have HK1 := Lib.hid K1; have HK2 := Lib.hid K2; have HK3 := Lib.hid K3; have HKEY := Lib.hid hkey
  clear K1 K2 K3 hk hc hd hkey hn1 hn2 ha1 ha2 hb1 hb2
  go_enter Try.func5, Try.ntmps5
  go_wp2_with fail
  refine (HK1.out _).mono ?_
  rintro e w' ⟨rfl, rfl⟩
  go_wp2_with fail
  refine (new_any _).mono ?_
  rintro e w1 ⟨p, rfl, hT, hp, hb1⟩
  go_wp2_with fail
  refine (new_any _).mono ?_
  rintro e w2 ⟨q, rfl, hT2, hq, hb2⟩
  have hT1 := hT.below hb2
  have hB2 := bl_trans hb1 hb2
  clear hT hb1 hb2 hp hq
  go_wp2_with fail
  refine (HK2.out _).mono ?_
  rintro e w' ⟨rfl, rfl⟩
  obtain ⟨s, hs⟩ : ∃ s : Nat, s = 1 + 2 * c := ⟨_, rfl⟩
  have hs2 : s ≤ 119 := by omega
  have HS := Lib.hid hs
  have hws : (1 + 2 * (c : Int)) = (s : Int) := by omega
  clear hs
  go_wp2
  clear hws
  go_loopg [8, 11] k (fun kx s8 s11 wr => ∃ (i : Nat) (T : Tre), s11 = .int .i64 i ∧ s8 = ptrN T.p ∧ i ≤ k ∧ k - i ≤ kx ∧ Hid (IsT wr T) ∧ Hid (FstL i T.l) ∧ Below w2.heap.size w2 wr)
  case atStart => exact ⟨0, ⟨p, [], 0, []⟩, rfl, rfl, by omega, Nat.le_refl _, Lib.hid hT1, Lib.hid FstL.zero, bl_refl _⟩
  case round =>
    obtain ⟨i, T, rfl, rfl, hi, hm, hT, hF, hB⟩ := hrel
    by_cases hlt : i < k
    · have hput : ∀ W, Below wr.heap.size wr W → Calls Try.prog 24 #[ptrN T.p, .string (keyN i), .string ⟨#[118]⟩] W (TPutPost T ⟨keyN i, vB⟩ W) := fun W hb => tput_any T ⟨keyN i, vB⟩ W (hT.out.below hb) (by rw [hF.out.2.1]; omega)
      have HPUT := Lib.hid hput
      have hky := fun W => HKEY.out i W (by omega)
      have HKY := Lib.hid hky
      have HNX := Lib.hid (hF.out.step (by omega))
      clear hput hky
      generalize keyN i = KK at *
      go_wp2_with fail
      refine (HKY.out _).mono ?_
      rintro e w9 ⟨rfl, hb9⟩
      go_wp2_with fail
      refine (HPUT.out _ hb9).mono ?_
      rintro e w10 ⟨T', rfl, hT', hl', _, _, hb10⟩
      go_wp2
      go_roundg (k - (i + 1))
      case measure => omega
      case rel => exact ⟨i + 1, T', by go_num, rfl, by omega, Nat.le_refl _, Lib.hid hT', Lib.hid (by rw [hl']; exact HNX.out), bl_trans (bl_trans hB hb9) hb10⟩
    · obtain rfl : i = k := by omega
      obtain ⟨wa, rfl⟩ : ∃ wa, wa = wr := ⟨_, rfl⟩
      have hTq := hT2.below hB
      have HTQ := Lib.hid hTq
      have hBa := bl_trans hB2 hB
      clear hTq hB hT1 hT2 hB2 hlt hi hm
      go_wp2
      go_loopg [9, 12, 13] 256 (fun kx s9 s12 s13 wr => ∃ (j : Nat) (Y : Tre), s12 = .int .i64 j ∧ s9 = ptrN Y.p ∧ j ≤ 256 ∧ 256 - j ≤ kx ∧ Hid (IsT wr Y) ∧ Hid (Y.l.length ≤ j ∧ StpL i s j Y.l) ∧ Below wa.heap.size wa wr)
      case atStart => exact ⟨0, ⟨q, [], 0, []⟩, rfl, rfl, by omega, Nat.le_refl _, Lib.hid HTQ.out, Lib.hid ⟨Nat.le_refl _, StpL.zero _ _⟩, bl_refl _⟩
      case round =>
        obtain ⟨j, Y, rfl, rfl, hj, hm, hY, hP, hB⟩ := hrel
        obtain ⟨w3, rfl⟩ : ∃ w3, w3 = wr := ⟨_, rfl⟩
        by_cases hlt : j < 256
        · have hjs : j * s ≤ 256 * 119 := Nat.mul_le_mul (by omega) hs2
          have hw0 : (0 : Int) ≤ (j : Int) * (s : Int) := Int.mul_nonneg (by omega) (by omega)
          have hw1 : (j : Int) * (s : Int) ≤ 30464 := by have e := Int.natCast_mul j s; omega
          obtain ⟨r, hr⟩ : ∃ r, r = j * s % 256 := ⟨_, rfl⟩
          have hw2 : ((j : Int) * (s : Int)).tmod 256 = (r : Int) := by rw [hr, Int.tmod_eq_emod_of_nonneg hw0, ← Int.natCast_mul]; rfl
          have hr2 : r < 256 := by omega
          have HR := Lib.hid hr
          clear hr hjs
          by_cases hri : r < i
          · have hput : ∀ W, Below w3.heap.size w3 W → Calls Try.prog 24 #[ptrN Y.p, .string (keyN r), .string ⟨#[118]⟩] W (TPutPost Y ⟨keyN r, vB⟩ W) := fun W hb => tput_any Y ⟨keyN r, vB⟩ W (hY.out.below hb) (by have := hP.out.1; omega)
            have HPUT := Lib.hid hput
            have hky := fun W => HKEY.out r W (by omega)
            have HKY := Lib.hid hky
            have hnx : (putT Y.l ⟨keyN r, vB⟩).length ≤ j + 1 ∧ StpL i s (j + 1) (putT Y.l ⟨keyN r, vB⟩) := ⟨Nat.le_trans (putT_len hP.out.2.1 _) (by have := hP.out.1; omega), by rw [HR.out]; exact hP.out.2.step (by rw [← HR.out]; exact hri)⟩
            have HNX := Lib.hid hnx
            clear hput hky hnx
            generalize keyN r = KK at *
            go_wp2_with fail
            refine (HKY.out _).mono ?_
            rintro e w9 ⟨rfl, hb9⟩
            go_wp2_with fail
            refine (HPUT.out _ hb9).mono ?_
            rintro e w10 ⟨Y', rfl, hY', hl', _, _, hb10⟩
            go_wp2
            go_roundg (256 - (j + 1))
            case measure => omega
            case rel => exact ⟨j + 1, Y', by go_num, rfl, by omega, Nat.le_refl _, Lib.hid hY', Lib.hid (by rw [hl']; exact HNX.out), bl_trans (bl_trans hB hb9) hb10⟩
          · have hnx : Y.l.length ≤ j + 1 ∧ StpL i s (j + 1) Y.l := ⟨by have := hP.out.1; omega, hP.out.2.skip (by rw [← HR.out]; exact hri)⟩
            have HNX := Lib.hid hnx
            clear hnx
            go_wp2
            go_roundg (256 - (j + 1))
            case measure => omega
            case rel => exact ⟨j + 1, Y, by go_num, rfl, by omega, Nat.le_refl _, hY, HNX, hB⟩
        · obtain rfl : j = 256 := by omega
          have hYl : Y.l = T.l := by
            have h1 := hP.out.2
            rw [HS.out] at h1
            exact h1.all hc2 (by omega) hF.out
          have hT3 := hT.out.below hB
          have hBb := bl_trans hBa hB
          have hsT := hF.out.1
          have hlT : T.l.length = i := hF.out.2.1
          have hd1 : ∀ W, Below w3.heap.size w3 W → Calls Try.prog 20 #[ptrN T.p, ptrN Y.p] W (OwnPost 44 3 [] 0 W) := fun W hb => by
            have := diff_any T Y W (hT3.below hb) (hY.out.below hb) (by omega) (by rw [hYl]; omega)
            rw [hYl, difF_same hsT] at this
            exact this
          have hd2' : ∀ W, Below w3.heap.size w3 W → Calls Try.prog 20 #[ptrN Y.p, ptrN T.p] W (OwnPost 44 3 [] 0 W) := fun W hb => by
            have := diff_any Y T W (hY.out.below hb) (hT3.below hb) (by rw [hYl]; omega) (by omega)
            rw [hYl, difF_same hsT] at this
            exact this
          have hle : ∀ W, Below w3.heap.size w3 W → Calls Try.prog 16 #[ptrN T.p] W (Pur (.int .i64 i) W) := fun W hb => by
            have := len_any T W (hT3.below hb)
            rw [hlT] at this
            exact this
          have hlf : LftL i 0 0 Y.l := by
            have h1 := hF.out
            rw [← hYl] at h1
            exact LftL.zero h1
          have hlf2 : ∀ t, LftL i t 0 Y.l := fun t => by
            have h1 := hF.out
            rw [← hYl] at h1
            exact LftL.zero h1
          have HD1 := Lib.hid hd1; have HD2 := Lib.hid hd2'; have HLE := Lib.hid hle; have HLF := Lib.hid hlf2; have HYY := Lib.hid hY.out; have HBB := Lib.hid hBb
          have hYp := hY.out.lt
          clear hd1 hd2' hle hlf hlf2 hsT hlT hT3 hP hY hYl hT hF hBb hBa hB HTQ hm hlt hj
          go_wp2_with fail
          refine (HLE.out _ (bl_refl _)).mono ?_
          rintro e w' ⟨rfl, rfl⟩
          go_wp2_with fail
          refine (HD1.out _ (bl_refl _)).mono ?_
          rintro e w4 ⟨v4, rfl, ho4, hb4⟩
          obtain ⟨pa4, pc4, rfl⟩ := row_slice ho4
          clear ho4
          go_wp2_with fail
          refine (HD2.out _ hb4).mono ?_
          rintro e w5 ⟨v5, rfl, ho5, hb5⟩
          obtain ⟨pa5, pc5, rfl⟩ := row_slice ho5
          have hb35 := bl_trans hb4 hb5
          clear ho5 hb4 hb5
          go_wp2_with fail
          refine (HK3.out _).mono ?_
          rintro e w' ⟨rfl, rfl⟩
          obtain ⟨t, ht⟩ : ∃ t : Nat, t = 1 + 2 * d := ⟨_, rfl⟩
          have ht2 : t ≤ 119 := by omega
          have HT := Lib.hid ht
          have hwt : (1 + 2 * (d : Int)) = (t : Int) := by omega
          clear ht
          go_wp2
          clear hwt
          go_loopg [9, 15] 256 (fun kx s9 s15 wr => ∃ (j : Nat) (Z : Tre), s15 = .int .i64 j ∧ s9 = ptrN Z.p ∧ j ≤ 256 ∧ 256 - j ≤ kx ∧ Hid (IsT wr Z) ∧ Hid (LftL i t j Z.l) ∧ Below w3.heap.size w3 wr)
          case atStart => exact ⟨0, Y, rfl, rfl, by omega, Nat.le_refl _, Lib.hid (HYY.out.below hb35), Lib.hid (HLF.out t), hb35⟩
          case round =>
            obtain ⟨j, Z, rfl, rfl, hj, hm, hZ, hP, hB⟩ := hrel
            obtain ⟨w6, rfl⟩ : ∃ w6, w6 = wr := ⟨_, rfl⟩
            by_cases hlt : j < 256
            · have hjs : j * t ≤ 256 * 119 := Nat.mul_le_mul (by omega) ht2
              have hw0 : (0 : Int) ≤ (j : Int) * (t : Int) := Int.mul_nonneg (by omega) (by omega)
              have hw1 : (j : Int) * (t : Int) ≤ 30464 := by have e := Int.natCast_mul j t; omega
              obtain ⟨r, hr⟩ : ∃ r, r = j * t % 256 := ⟨_, rfl⟩
              have hw2 : ((j : Int) * (t : Int)).tmod 256 = (r : Int) := by rw [hr, Int.tmod_eq_emod_of_nonneg hw0, ← Int.natCast_mul]; rfl
              have hr2 : r < 256 := by omega
              have HR := Lib.hid hr
              clear hr hjs
              have hdel : ∀ W, Below w6.heap.size w6 W → Calls Try.prog 23 #[ptrN Z.p, .string (keyN r)] W (FDelPost Any Z (keyN r) W) := fun W hb => tdelF_any Z (keyN r) W (hZ.out.below hb).isTF (fun _ _ => trivial) (by have := hP.out.2.1; omega)
              have HDEL := Lib.hid hdel
              have hky := fun W => HKEY.out r W (by omega)
              have HKY := Lib.hid hky
              have hnx : LftL i t (j + 1) (delL Z.l (keyN r)) := by rw [HR.out]; exact hP.out.step
              have HNX := Lib.hid hnx
              clear hdel hky hnx
              generalize keyN r = KK at *
              go_wp2_with fail
              refine (HKY.out _).mono ?_
              rintro e w9 ⟨rfl, hb9⟩
              go_wp2_with fail
              refine (HDEL.out _ hb9).mono ?_
              rintro e w10 ⟨Z', rfl, hZ', hl', _, _, hb10⟩
              go_wp2
              go_roundg (256 - (j + 1))
              case measure => omega
              case rel => exact ⟨j + 1, Z', by go_num, rfl, by omega, Nat.le_refl _, Lib.hid hZ'.isT, Lib.hid (by rw [hl']; exact HNX.out), bl_trans (bl_trans hB hb9) hb10⟩
            · obtain rfl : j = 256 := by omega
              have hZl : Z.l = [] := by
                have h1 := hP.out
                rw [HT.out] at h1
                exact h1.all hd2 (by omega)
              have hH : Z.H = 0 := by
                rcases hZ.out.bnd with ⟨h1, _⟩ | ⟨k', _, h2, _⟩
                · exact h1
                · rw [hZl] at h2
                  have : 1 ≤ 4 ^ k' := Nat.one_le_pow _ _ (by omega)
                  simp at h2; omega
              have hl0 : ∀ W, Below w6.heap.size w6 W → Calls Try.prog 16 #[ptrN Z.p] W (Pur (.int .i64 0) W) := fun W hb => by
                have := len_any Z W (hZ.out.below hb)
                rw [hZl] at this
                exact this
              have hh0 : ∀ W, Below w6.heap.size w6 W → Calls Try.prog 27 #[ptrN Z.p] W (Pur (.int .i64 0) W) := fun W hb => by
                have := height_any Z W (hZ.out.below hb) (by omega)
                rw [hH] at this
                exact this
              have hrg : ∀ W, Below w6.heap.size w6 W → Calls Try.prog 13 #[ptrN Z.p, .string ⟨#[]⟩, .string ⟨#[]⟩] W (OwnPost 63 2 [] 0 W) := fun W hb => by
                have := range_any Z ⟨#[]⟩ ⟨#[]⟩ W (hZ.out.below hb) (by rw [hZl]; decide)
                rw [hZl] at this
                exact this
              have HL0 := Lib.hid hl0; have HH0 := Lib.hid hh0; have HRG := Lib.hid hrg
              clear hl0 hh0 hrg hH hZl hP
              go_wp2_with fail
              refine (HL0.out _ (bl_refl _)).mono ?_
              rintro e w' ⟨rfl, rfl⟩
              go_wp2_with fail
              refine (HH0.out _ (bl_refl _)).mono ?_
              rintro e w' ⟨rfl, rfl⟩
              go_wp2_with fail
              refine (HRG.out _ (bl_refl _)).mono ?_
              rintro e w7 ⟨v7, rfl, ho7, hb7⟩
              obtain ⟨pa7, pc7, rfl⟩ := row_slice ho7
              have hb37 := bl_trans hB hb7
              clear ho7
              go_wp2_with fail
              refine (HLE.out _ hb37).mono ?_
              rintro e w' ⟨rfl, rfl⟩
              go_wp2_with fail
              refine (lives_any _).mono ?_
              rintro e w8 ⟨rfl, hb8⟩
              go_wp2
              go_ret
              exact ⟨rfl, bl_trans HBB.out (bl_trans hb37 hb8)⟩
end Go.Proofs.Ytmkhnpkbaegchaa
