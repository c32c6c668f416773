/- The walk of lives: the examples of the section hold. Conditions: none. -/
import Derived.Test.YtmkhnpkbaegchaaTBnd
import Derived.Test.YtmkhnpkbaegchaaTFloor
import Derived.Test.YtmkhnpkbaegchaaTHei
namespace Go.Proofs.Ytmkhnpkbaegchaa
open Go.RowKit

theorem row3E {w : World} {g t c : Nat} {a b d : Ed} (h : Blk w g t #[.string a.k, .string a.v, .bool a.d, .string b.k, .string b.v, .bool b.d, .string d.k, .string d.v, .bool d.d]) : IsRow 3 encE w (.slice (some ⟨g, 0, none⟩) 3 c) [a, b, d] :=
  .inr ⟨g, 0, c, rfl, h.lt, by show 3 ≤ maxLen; unfold maxLen; decide, fun j x hx i u hu => by
    match j, hx with
    | 0, hx => cases hx; rw [h.cell]; match i, hu with | 0, hu => cases hu; rfl | 1, hu => cases hu; rfl | 2, hu => cases hu; rfl
    | 1, hx => cases hx; rw [h.cell]; match i, hu with | 0, hu => cases hu; rfl | 1, hu => cases hu; rfl | 2, hu => cases hu; rfl
    | 2, hx => cases hx; rw [h.cell]; match i, hu with | 0, hu => cases hu; rfl | 1, hu => cases hu; rfl | 2, hu => cases hu; rfl⟩
theorem keyF_nat {i : Nat} (h : i < 4000) : keyF i = keyN i := by
  unfold keyF around
  rw [if_neg (by omega), Int.emod_eq_of_lt (by omega) (by omega)]; rfl
set_option maxRecDepth 100000 in
set_option maxHeartbeats 8000000 in
theorem lives_any (w : World) : Calls Try.prog 17 #[] w (Ret (.bool true) w) := by
  go_enter Try.func17, Try.ntmps17
  go_wp2_with fail
  refine (new_any _).mono ?_
  rintro e w1 ⟨p, rfl, hT, hp, hb1⟩
  go_wp2_with fail
  refine (tput_any ⟨p, [], 0, []⟩ ⟨⟨#[100]⟩, ⟨#[50]⟩⟩ _ hT (by simp)).mono ?_
  rintro e w2 ⟨T1, rfl, hT1, hl1, _, _, hb2⟩
  go_wp2_with fail
  refine (tput_any T1 ⟨⟨#[98]⟩, ⟨#[49]⟩⟩ _ hT1 (by rw [hl1]; have := putT_le ([] : List KV) ⟨⟨#[100]⟩, ⟨#[50]⟩⟩; simp at this ⊢; omega)).mono ?_
  rintro e w3 ⟨Ta, rfl, hTa, hla, _, _, hb3⟩
  rw [hl1] at hla
  have hla2 : Ta.l = lvA := hla.trans lv_a
  have hT3 := (hT.below hb2).below hb3
  clear hT1 hl1 hla
  go_wp2_with fail
  refine (tput_any ⟨p, [], 0, []⟩ ⟨⟨#[101]⟩, ⟨#[52]⟩⟩ _ hT3 (by simp)).mono ?_
  rintro e w4 ⟨T2, rfl, hT2, hl2, _, _, hb4⟩
  go_wp2_with fail
  refine (tput_any T2 ⟨⟨#[100]⟩, ⟨#[51]⟩⟩ _ hT2 (by rw [hl2]; have := putT_le ([] : List KV) ⟨⟨#[101]⟩, ⟨#[52]⟩⟩; simp at this ⊢; omega)).mono ?_
  rintro e w5 ⟨Tb, rfl, hTb, hlb, _, _, hb5⟩
  rw [hl2] at hlb
  have hlb2 : Tb.l = lvB := hlb.trans lv_b
  have hTa5 := (hTa.below hb4).below hb5
  have hT5 := (hT3.below hb4).below hb5
  have hB5 : Below w.heap.size w w5 := bl_trans (bl_trans (bl_trans (bl_trans hb1 hb2) hb3) hb4) hb5
  have hA3 : Ta.l.length ≤ 100000 := by rw [hla2]; decide
  have hB3 : Tb.l.length ≤ 100000 := by rw [hlb2]; decide
  have hf1 : ∀ W, Below w5.heap.size w5 W → Calls Try.prog 34 #[ptrN Ta.p, .string ⟨#[99]⟩] W (Ret (.tuple #[.agg #[.string ⟨#[98]⟩, .string ⟨#[49]⟩], .bool true]) W) := fun W hb => by
    have := floor_any Ta ⟨#[99]⟩ W (hTa5.below hb) hA3
    rw [hla2, lv_f1] at this
    exact this
  have hf2 : ∀ W, Below w5.heap.size w5 W → Calls Try.prog 34 #[ptrN Ta.p, .string ⟨#[97]⟩] W (Ret (.tuple #[.agg #[.string ⟨#[]⟩, .string ⟨#[]⟩], .bool false]) W) := fun W hb => by
    have := floor_any Ta ⟨#[97]⟩ W (hTa5.below hb) hA3
    rw [hla2, lv_f2] at this
    exact this
  have hlen : ∀ W, Below w5.heap.size w5 W → Calls Try.prog 16 #[ptrN Ta.p] W (Pur (.int .i64 2) W) := fun W hb => by
    have := len_any Ta W (hTa5.below hb)
    rw [hla2] at this
    exact this
  have hlen0 : ∀ W, Below w5.heap.size w5 W → Calls Try.prog 16 #[ptrN p] W (Pur (.int .i64 0) W) := fun W hb => len_any ⟨p, [], 0, []⟩ W (hT5.below hb)
  have hrng : ∀ W, Below w5.heap.size w5 W → Calls Try.prog 13 #[ptrN Ta.p, .string ⟨#[98]⟩, .string ⟨#[100]⟩] W (OwnPost 63 2 (flatE encKV [⟨⟨#[98]⟩, ⟨#[49]⟩⟩]) 1 W) := fun W hb => by
    have := range_any Ta ⟨#[98]⟩ ⟨#[100]⟩ W (hTa5.below hb) hA3
    rw [hla2, lv_r] at this
    exact this
  have hdif : ∀ W, Below w5.heap.size w5 W → Calls Try.prog 20 #[ptrN Ta.p, ptrN Tb.p] W (OwnPost 44 3 (flatE encE lvE) 3 W) := fun W hb => by
    have := diff_any Ta Tb W (hTa5.below hb) (hTb.below hb) hA3 hB3
    rw [hla2, hlb2, lv_d] at this
    exact this
  have HF1 := Lib.hid hf1; have HF2 := Lib.hid hf2; have HLEN := Lib.hid hlen; have HLEN0 := Lib.hid hlen0; have HRNG := Lib.hid hrng; have HDIF := Lib.hid hdif; have HT5 := Lib.hid hT5; have HB5 := Lib.hid hB5
  clear hf1 hf2 hlen hlen0 hrng hdif hT5 hB5 hTa5 hTb hT2 hl2 hlb hlb2 hla2 hTa hT3 hT hb1 hb2 hb3 hb4 hb5 hA3 hB3
  go_wp2_with fail
  refine (HF1.out _ (bl_refl _)).mono ?_
  rintro e w6 ⟨rfl, hb6⟩
  go_wp2_with fail
  refine (HF2.out _ (bl_trans hb6 (bl_alloc _ _))).mono ?_
  rintro e w7 ⟨rfl, hb7⟩
  have hB7 := bl_trans (bl_trans hb6 (bl_alloc w6 (.cells #[.string ⟨#[98]⟩, .string ⟨#[49]⟩] 63))) hb7
  have b4 : Blk w7 w6.heap.size 63 #[.string ⟨#[98]⟩, .string ⟨#[49]⟩] := (Blk.new w6 _ _).below hb7 (by simp)
  obtain ⟨P4, hP4⟩ : ∃ P4, P4 = w6.heap.size := ⟨_, rfl⟩
  rw [← hP4] at b4 ⊢
  clear hP4 hb6 hb7
  go_wp2
  obtain ⟨W8, hW8⟩ : ∃ W8, W8 = w7.alloc (.cells #[.string ⟨#[]⟩, .string ⟨#[]⟩] 63) := ⟨_, rfl⟩
  have hB8 : Below w5.heap.size w5 W8 := by rw [hW8]; exact bl_trans hB7 (bl_alloc _ _)
  have b48 : Blk W8 P4 63 #[.string ⟨#[98]⟩, .string ⟨#[49]⟩] := by rw [hW8]; exact b4.alloc _
  rw [← hW8]
  clear hW8 b4 hB7
  go_loopg [8, 9] 9 (fun kx s8 s9 wr => ∃ (i : Nat) (T : Tre), s9 = .int .i64 i ∧ s8 = ptrN T.p ∧ i ≤ 9 ∧ 9 - i ≤ kx ∧ Hid (IsT wr T) ∧ Hid (T.l = nineL i) ∧ Below W8.heap.size W8 wr)
  case atStart => exact ⟨0, ⟨p, [], 0, []⟩, rfl, rfl, by omega, Nat.le_refl _, Lib.hid (HT5.out.below hB8), rfl, bl_refl _⟩
  case round =>
    obtain ⟨i, T, rfl, rfl, hi, hm, hT, hl, hB⟩ := hrel
    have hll : T.l.length = i := by rw [hl.out]; unfold nineL; rw [List.length_map, List.length_range]
    by_cases hlt : i < 9
    · have hkey : ∀ W, Calls Try.prog 26 #[.int .i64 i] W (Ret (.string (keyN i)) W) := fun W => by
        rw [← keyF_nat (by omega : i < 4000)]
        exact key_any i W (by omega) (by omega)
      have hput : ∀ W, Below wr.heap.size wr W → Calls Try.prog 24 #[ptrN T.p, .string (keyN i), .string ⟨#[120]⟩] W (TPutPost T ⟨keyN i, xB⟩ W) := fun W hb => tput_any T ⟨keyN i, xB⟩ W (hT.out.below hb) (by omega)
      have HKEY := Lib.hid hkey; have HPUT := Lib.hid hput; have HNP := Lib.hid (nine_put hlt)
      clear hkey hput
      generalize keyN i = KK at *
      have htail : ∀ W T', Below wr.heap.size wr W → TPutPost T ⟨KK, xB⟩ W (.returned (ptrN T')) W → True := fun _ _ _ _ => trivial
      clear htail
      by_cases hg : 0 < i ∧ i < 7
      · obtain ⟨hg1, hg2⟩ := hg
        have hhe : Calls Try.prog 27 #[ptrN T.p] wr (Pur (.int .i64 1) wr) := by
          have h1 := hT.out.one (by omega) (by omega)
          have := height_any T wr hT.out (by omega)
          rw [h1] at this
          exact this
        have HHE := Lib.hid hhe
        clear hhe hll
        go_wp2_with fail
        refine HHE.out.mono ?_
        rintro e w' ⟨rfl, rfl⟩
        go_wp2_with fail
        refine (HKEY.out _).mono ?_
        rintro e w9 ⟨rfl, hb9⟩
        go_wp2_with fail
        refine (HPUT.out _ hb9).mono ?_
        rintro e w10 ⟨T', rfl, hT', hl', _, _, hb10⟩
        go_wp2
        go_roundg (9 - (i + 1))
        case measure => omega
        case rel => exact ⟨i + 1, T', by go_num, rfl, by omega, Nat.le_refl _, Lib.hid hT', Lib.hid (by rw [hl', hl.out]; exact HNP.out), bl_trans (bl_trans hB hb9) hb10⟩
      · have hg3 : ¬ (0 < i) ∨ ¬ (i < 7) := by omega
        clear hg
        rcases hg3 with hg3 | hg3
        · clear hll
          go_wp2_with fail
          refine (HKEY.out _).mono ?_
          rintro e w9 ⟨rfl, hb9⟩
          go_wp2_with fail
          refine (HPUT.out _ hb9).mono ?_
          rintro e w10 ⟨T', rfl, hT', hl', _, _, hb10⟩
          go_wp2
          go_roundg (9 - (i + 1))
          case measure => omega
          case rel => exact ⟨i + 1, T', by go_num, rfl, by omega, Nat.le_refl _, Lib.hid hT', Lib.hid (by rw [hl', hl.out]; exact HNP.out), bl_trans (bl_trans hB hb9) hb10⟩
        · have hg4 : 0 < i := by omega
          clear hll
          go_wp2_with fail
          refine (HKEY.out _).mono ?_
          rintro e w9 ⟨rfl, hb9⟩
          go_wp2_with fail
          refine (HPUT.out _ hb9).mono ?_
          rintro e w10 ⟨T', rfl, hT', hl', _, _, hb10⟩
          go_wp2
          go_roundg (9 - (i + 1))
          case measure => omega
          case rel => exact ⟨i + 1, T', by go_num, rfl, by omega, Nat.le_refl _, Lib.hid hT', Lib.hid (by rw [hl', hl.out]; exact HNP.out), bl_trans (bl_trans hB hb9) hb10⟩
    · obtain rfl : i = 9 := by omega
      have hH : T.H = 2 := hT.out.two hll
      have hhe : ∀ W, Below wr.heap.size wr W → Calls Try.prog 27 #[ptrN T.p] W (Pur (.int .i64 2) W) := fun W hb => by
        have := height_any T W (hT.out.below hb) (by omega)
        rw [hH] at this
        exact this
      have HHE := Lib.hid hhe
      have hBw : Below w5.heap.size w5 wr := bl_trans hB8 hB
      have b4w := b48.below hB b48.lt
      clear hhe hll hH hT hl b48
      go_wp2_with fail
      refine (HRNG.out _ hBw).mono ?_
      rintro e w11 ⟨v11, rfl, ho11, hb11⟩
      obtain ⟨pa, pc, rfl⟩ := row_slice ho11
      have hR11 : IsRow 2 encKV w11 (.slice pa 1 pc) [⟨⟨#[98]⟩, ⟨#[49]⟩⟩] := IsRow.of_row encKV_len ho11 (by show 1 ≤ maxLen; unfold maxLen; decide)
      have hsm : Calls Try.prog 15 #[.slice pa 1 pc, .slice (some ⟨w11.heap.size, 0, none⟩) 1 1] (w11.alloc (.cells #[.string ⟨#[98]⟩, .string ⟨#[49]⟩] 63)) (Ret (.bool true) (w11.alloc (.cells #[.string ⟨#[98]⟩, .string ⟨#[49]⟩] 63))) := by
        have := same_any [⟨⟨#[98]⟩, ⟨#[49]⟩⟩] [⟨⟨#[98]⟩, ⟨#[49]⟩⟩] (.slice pa 1 pc) (.slice (some ⟨w11.heap.size, 0, none⟩) 1 1) (w11.alloc (.cells #[.string ⟨#[98]⟩, .string ⟨#[49]⟩] 63)) (hR11.below (bl_alloc _ _)) (IsRow.oneP (p := ⟨⟨#[98]⟩, ⟨#[49]⟩⟩) (Blk.new _ _ _)) (by decide) (by decide)
        rwa [decide_eq_true rfl] at this
      have HSM := Lib.hid hsm
      have b411 := (b4w.below hb11 b4w.lt).alloc (.cells #[.string ⟨#[98]⟩, .string ⟨#[49]⟩] 63)
      have hb11a := bl_trans hb11 (bl_alloc w11 (.cells #[.string ⟨#[98]⟩, .string ⟨#[49]⟩] 63))
      clear hsm hR11 ho11 hb11 b4w
      go_wp2_with fail
      refine HSM.out.mono ?_
      rintro e w12 ⟨rfl, hb12⟩
      have b412 := b411.below hb12 b411.lt
      have c41 := b412.cell 1
      simp at c41
      have hb12' := bl_trans hb11a hb12
      clear b411 b412 hb11a hb12
      go_wp2_with fail
      refine (HHE.out _ hb12').mono ?_
      rintro e w' ⟨rfl, rfl⟩
      go_wp2_with fail
      have hBd := bl_trans hBw hb12'
      refine (HDIF.out _ (bl_trans hBd (bl_alloc _ _))).mono ?_
      rintro e w14 ⟨v14, rfl, ho14, hb14⟩
      obtain ⟨qa, qc, rfl⟩ := row_slice ho14
      have hR14 : IsRow 3 encE w14 (.slice qa 3 qc) lvE := IsRow.of_row encE_len ho14 (by show 3 ≤ maxLen; unfold maxLen; decide)
      have bE := (Blk.new w12 44 #[.string ⟨#[98]⟩, .string ⟨#[]⟩, .bool true, .string ⟨#[100]⟩, .string ⟨#[51]⟩, .bool false, .string ⟨#[101]⟩, .string ⟨#[52]⟩, .bool false]).below hb14 (by simp)
      have hse : Calls Try.prog 21 #[.slice qa 3 qc, .slice (some ⟨w12.heap.size, 0, none⟩) 3 3] w14 (Ret (.bool true) w14) := by
        have := sameEdits_any lvE lvE (.slice qa 3 qc) (.slice (some ⟨w12.heap.size, 0, none⟩) 3 3) w14 hR14 (row3E (a := ⟨⟨#[98]⟩, ⟨#[]⟩, true⟩) (b := ⟨⟨#[100]⟩, ⟨#[51]⟩, false⟩) (d := ⟨⟨#[101]⟩, ⟨#[52]⟩, false⟩) bE) (by decide) (by decide)
        rwa [decide_eq_true rfl] at this
      have HSE := Lib.hid hse
      have hb14' := bl_trans (bl_trans hBd (bl_alloc w12 (.cells #[.string ⟨#[98]⟩, .string ⟨#[]⟩, .bool true, .string ⟨#[100]⟩, .string ⟨#[51]⟩, .bool false, .string ⟨#[101]⟩, .string ⟨#[52]⟩, .bool false] 44))) hb14
      clear hse hR14 ho14 bE hb14 c41
      go_wp2_with fail
      refine HSE.out.mono ?_
      rintro e w15 ⟨rfl, hb15⟩
      go_wp2_with fail
      refine (HLEN0.out _ (bl_trans hb14' hb15)).mono ?_
      rintro e w16 ⟨rfl, rfl⟩
      go_wp2_with fail
      refine (HLEN.out _ (bl_trans hb14' hb15)).mono ?_
      rintro e w16 ⟨rfl, rfl⟩
      go_wp2
      go_ret
      exact ⟨rfl, bl_trans HB5.out (bl_trans hb14' hb15)⟩
end Go.Proofs.Ytmkhnpkbaegchaa
