/- The walks of the reference's Decimal, padded and Print. -/
import Derived.Test.YtefapmdgodfpeaaDoorDPrPlain
import Derived.Test.YtefapmdgodfpeaaDoorDRef2
import Derived.Lib.ItoaLen
namespace Go.Proofs.YtefapmdgodfpeaaDoor
open Go.RowKit

/-- what is still to be printed, and what is printed -/
def DecRel (j : Nat) (t : List UInt8) (n : Nat) : Prop := (¬ j = 0 ∧ Lib.decDigits j ++ t = Lib.decDigits n) ∨ (j = 0 ∧ t = Lib.decDigits n)
theorem decRel_step {j n : Nat} {t : List UInt8} (h0 : ¬ j = 0) (h : DecRel j t n) (hl : (Lib.decDigits n).length ≤ 21) : DecRel (j / 10) (UInt8.ofNat (48 + j % 10) :: t) n ∧ (UInt8.ofNat (48 + j % 10) :: t).length ≤ 21 := by
  rcases h with ⟨_, h⟩ | ⟨h, _⟩
  · by_cases h1 : j < 10
    · rw [dec1 h1] at h
      have e : j % 10 = j := by omega
      rw [e]
      exact ⟨.inr ⟨by omega, by rw [← h]; rfl⟩, by rw [← h] at hl; simpa using hl⟩
    · rw [decS h1, List.append_assoc] at h
      refine ⟨.inl ⟨by omega, h⟩, ?_⟩
      rw [← h] at hl
      simp at hl ⊢
      omega
  · exact absurd h h0
theorem dig_ext : ∀ d : Nat, d < 10 → (ByteArray.mk #[48, 49, 50, 51, 52, 53, 54, 55, 56, 57]).extract d (d + 1) = ByteArray.mk [UInt8.ofNat (48 + d)].toArray := by
  intro d hd
  have : d = 0 ∨ d = 1 ∨ d = 2 ∨ d = 3 ∨ d = 4 ∨ d = 5 ∨ d = 6 ∨ d = 7 ∨ d = 8 ∨ d = 9 := by omega
  rcases this with h | h | h | h | h | h | h | h | h | h <;> subst h <;> rfl
set_option maxHeartbeats 2000000 in
theorem decimal_any (n : Nat) (w : World) (hn : n ≤ 9223372036854775807) : Calls Tryd.prog 55 #[.int .i64 n] w (Pur (.string ⟨(Lib.decDigits n).toArray⟩) w) := by
  by_cases h0 : n = 0
  · subst h0
    go_enter Tryd.func55, Tryd.ntmps55
    go_wp2
    go_ret
    exact ⟨by rw [dec1 (by omega)]; rfl, rfl⟩
  · have h1 : ((n : Int) == 0) = false := by rw [beq_eq_false_iff_ne]; omega
    go_enter Tryd.func55, Tryd.ntmps55
    go_wp2_with fail
    have hlen := Lib.itoa_length_le (n : Int) (by omega) (by omega)
    rw [Lib.itoa_nonneg] at hlen
    go_loop [4, 5] (fun s k => ∃ (j : Nat) (t : List UInt8), j ≤ n ∧ k = .int .i64 j ∧ s = .string ⟨t.toArray⟩ ∧ t.length ≤ 21 ∧ DecRel j t n) (fun _ k => (intOf k).toNat)
    case atStart => exact ⟨n, [], Nat.le_refl _, rfl, rfl, by simp, .inl ⟨h0, by simp⟩⟩
    case round =>
      obtain ⟨j, t, hj, rfl, rfl, ht, hr⟩ := hrel
      by_cases hj0 : j = 0
      · subst hj0
        rcases hr with ⟨h, _⟩ | ⟨_, h⟩
        · exact absurd rfl h
        · have HT := Lib.hid h; clear h
          go_wp2
          go_ret
          exact ⟨by rw [← HT.out]; rfl, rfl⟩
      · have hj1 : ((j : Int) != 0) = true := by rw [bne_iff_ne]; omega
        have hs := decRel_step hj0 hr hlen
        have hx := dig_ext (j % 10) (by omega)
        have HS := Lib.hid hs; have HX := Lib.hid hx
        clear hs hx hr
        go_wp2_with fail
        go_round
        case rel => exact ⟨j / 10, UInt8.ofNat (48 + j % 10) :: t, by omega, by go_num, by rw [HX.out]; exact congrArg Value.string (ByteArray.mk_append_mk [UInt8.ofNat (48 + j % 10)] t), HS.out.2, HS.out.1⟩
        case measure => simp [intOf]; omega

set_option maxHeartbeats 2000000 in
theorem rpadded_any (k wd : Nat) (w : World) (hk : k ≤ 9999) (hw : wd ≤ 4) (hl : (Lib.decDigits k).length ≤ wd) :
    Calls Tryd.prog 44 #[.int .i64 k, .int .i64 wd] w (Pur (.string ⟨(padL k wd).toArray⟩) w) := by
  go_enter Tryd.func44, Tryd.ntmps44
  go_wp2_with fail
  refine (decimal_any _ _ (by omega)).mono ?_
  rintro e w' ⟨rfl, rfl⟩
  have hp : padL k wd = Lib.repeatL [48] (wd - (Lib.decDigits k).length) ++ Lib.decDigits k := rfl
  have HP := Lib.hid hp; clear hp
  generalize Lib.decDigits k = B at *
  go_wp2_with fail
  go_loop [5] (fun s => ∃ c : Nat, c + B.length ≤ wd ∧ s = .string ⟨(Lib.repeatL [48] c ++ B).toArray⟩) (fun s => wd - (match s with | .string b => b.size | _ => 0))
  case atStart => exact ⟨0, by omega, rfl⟩
  case round =>
    obtain ⟨c, hc, rfl⟩ := hrel
    have hL : (Lib.repeatL [48] c ++ B).length = c + B.length := by rw [List.length_append, rep_len]; simp
    have hS : ByteArray.mk #[48] ++ ByteArray.mk (Lib.repeatL [48] c ++ B).toArray = ByteArray.mk (Lib.repeatL [48] (c + 1) ++ B).toArray := by
      rw [show ByteArray.mk #[48] = ByteArray.mk [48].toArray from rfl, ByteArray.mk_append_mk]; rfl
    have HS := Lib.hid hS; clear hS
    generalize hR : Lib.repeatL [48] c ++ B = R at *
    by_cases h : c + B.length < wd
    · go_wp2_with fail
      go_round
      case rel => exact ⟨c + 1, by omega, by rw [HS.out]⟩
      case measure =>
        have e1 : (ByteArray.mk #[48] ++ ByteArray.mk R.toArray).size = 1 + R.length := by rw [ByteArray.size_append]; simp [ByteArray.size]
        have e2 : (ByteArray.mk R.toArray).size = R.length := by simp [ByteArray.size]
        show wd - (ByteArray.mk #[48] ++ ByteArray.mk R.toArray).size < wd - (ByteArray.mk R.toArray).size
        rw [e1, e2]; omega
    · have hcw : wd - B.length = c := by omega
      rw [hcw] at HP
      rw [hR] at HP
      clear hcw
      go_wp2
      go_ret
      exact ⟨by rw [HP.out]; rfl, rfl⟩
theorem rpadded4 (k : Nat) (w : World) (hk : k ≤ 9999) : Calls Tryd.prog 44 #[.int .i64 k, .int .i64 4] w (Pur (.string ⟨(padL k 4).toArray⟩) w) :=
  rpadded_any k 4 w hk (by omega) (dec_len4 (by omega))
theorem rpadded2 (k : Nat) (w : World) (hk : k ≤ 31) : Calls Tryd.prog 44 #[.int .i64 k, .int .i64 2] w (Pur (.string ⟨(padL k 2).toArray⟩) w) :=
  rpadded_any k 2 w (by omega) (by omega) (dec_len2 (by omega))

set_option maxHeartbeats 1000000 in
theorem rprint_yes (n : Int) (w : World) (h0 : 0 ≤ n) (h1 : n ≤ 3652058) :
    Calls Tryd.prog 24 #[.int .i64 n] w (Ret (.string ⟨(prL (ofY n).toNat (ofM n).toNat (ofD n).toNat).toArray⟩) w) := by
  obtain ⟨v1, v2, v3, v4, v5, v6⟩ := valid_of h0 h1
  have v7 := len_le (ofY n) (ofM n)
  obtain ⟨Y, hY⟩ := Int.eq_ofNat_of_zero_le (a := ofY n) (by omega)
  obtain ⟨M, hM⟩ := Int.eq_ofNat_of_zero_le (a := ofM n) (by omega)
  obtain ⟨D, hD⟩ := Int.eq_ofNat_of_zero_le (a := ofD n) (by omega)
  have d1 : ofD n ≤ 31 := by omega
  clear v6 v7
  rw [hY, hM, hD]
  rw [hY] at v2
  rw [hM] at v4
  rw [hD] at d1
  simp only [Int.toNat_natCast]
  have HY := Lib.hid hY; have HM := Lib.hid hM; have HD := Lib.hid hD; clear hY hM hD
  have y1 : Y ≤ 9999 := by omega
  have m1 : M ≤ 12 := by omega
  have lY := dec_len4 (k := Y) (by omega)
  have lM := dec_len2 (k := M) (by omega)
  have lD := dec_len2 (k := D) (by omega)
  have pY := pad_len lY
  have pM := pad_len lM
  have pD := pad_len lD
  have hP : prL Y M D = padL Y 4 ++ [45] ++ padL M 2 ++ [45] ++ padL D 2 := rfl
  have HP := Lib.hid hP; clear hP
  clear v1 v2 v3 v4 v5
  have hPY : (padL Y 4).length ≤ 4 := by omega
  have hPM : (padL M 2).length ≤ 2 := by omega
  have hPD : (padL D 2).length ≤ 2 := by omega
  have d2 : D ≤ 31 := by omega
  have m2 : M ≤ 31 := by omega
  clear pY pM pD
  go_enter Tryd.func24, Tryd.ntmps24
  go_wp2_with fail
  refine (rof_yes _ _ h0 h1).mono ?_
  rintro e w1 ⟨rfl, hb1⟩
  rw [HY.out, HM.out, HD.out]
  go_wp2_with fail
  refine wp_region_quiet_lit (by kernel_rfl) (by kernel_rfl) ?_
  repeat (go_big_quiet_step (fail))
  go_big_quiet_step (exact Pur.quiet (rpadded4 Y _ y1))
  repeat (go_big_quiet_step (fail))
  go_big_quiet_step (exact Pur.quiet (rpadded2 M _ m2))
  repeat (go_big_quiet_step (fail))
  go_big_quiet_step (exact Pur.quiet (rpadded2 D _ d2))
  repeat (go_big_quiet_step (fail))
  refine wpQuiet_nil ?_
  rintro _ ⟨nq, rfl⟩
  go_wp2
  go_ret
  refine ⟨?_, bl_drewN (bl_trans hb1 (bl_alloc _ _)) _⟩
  rw [HP.out]
  show Ending.returned (.string (ByteArray.mk (padL Y 4).toArray ++ ByteArray.mk [45].toArray ++ ByteArray.mk (padL M 2).toArray ++ ByteArray.mk [45].toArray ++ ByteArray.mk (padL D 2).toArray)) = _
  simp only [ByteArray.mk_append_mk]

set_option maxHeartbeats 400000 in
theorem rprint_no (n : Int) (w : World) (h : n < 0 ∨ 3652058 < n) : Calls Tryd.prog 24 #[.int .i64 n] w (Ret (.string ⟨#[]⟩) w) := by
  go_enter Tryd.func24, Tryd.ntmps24
  go_wp2_with fail
  refine (rof_no _ _ h).mono ?_
  rintro e w1 ⟨rfl, hb1⟩
  go_wp2
  go_ret
  exact ⟨rfl, bl_trans hb1 (bl_alloc _ _)⟩
theorem rprint_any (n : Int) (w : World) : Calls Tryd.prog 24 #[.int .i64 n] w (Ret (.string ⟨(prS n).toArray⟩) w) := by
  by_cases h : 0 ≤ n ∧ n ≤ 3652058
  · have e : okB n = true := decide_eq_true h
    unfold prS
    rw [e]
    exact rprint_yes n w h.1 h.2
  · have e : okB n = false := decide_eq_false h
    unfold prS
    rw [e]
    exact rprint_no n w (by omega)
end Go.Proofs.YtefapmdgodfpeaaDoor
