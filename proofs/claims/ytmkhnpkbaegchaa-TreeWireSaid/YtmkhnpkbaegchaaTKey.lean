/- The walks of the reference's Decimal and Key. Conditions: stated at each. -/
import Derived.Test.YtmkhnpkbaegchaaDNum02b
import Derived.Lib.ItoaLen
import Derived.BigQuiet
import Derived.Test.YtmkhnpkbaegchaaTDfA
namespace Go.Proofs.Ytmkhnpkbaegchaa
open Go.RowKit

theorem dec1 {k : Nat} (h : k < 10) : Lib.decDigits k = [UInt8.ofNat (48 + k)] := Lib.decDigits_one h
theorem decS {k : Nat} (h : ¬ k < 10) : Lib.decDigits k = Lib.decDigits (k / 10) ++ [UInt8.ofNat (48 + k % 10)] := by rw [Lib.decDigits, dif_neg h]
/-- what is still to be printed, and what is printed -/
def DecRel (j : Nat) (t : List UInt8) (n : Nat) : Prop := (¬ j = 0 ∧ Lib.decDigits j ++ t = Lib.decDigits n) ∨ (j = 0 ∧ t = Lib.decDigits n)
theorem decRel_step {j n : Nat} {t : List UInt8} (h0 : ¬ j = 0) (h : DecRel j t n) (hl : (Lib.decDigits n).length ≤ 21) : DecRel (j / 10) (UInt8.ofNat (48 + j % 10) :: t) n ∧ (UInt8.ofNat (48 + j % 10) :: t).length ≤ 21 := by
  rcases h with ⟨_, h⟩ | ⟨h, _⟩
  · by_cases h1 : j < 10
    · rw [dec1 h1] at h
      have e : j % 10 = j := by omega
      rw [e]
      exact ⟨.inr ⟨by omega, by rw [← h]; rfl⟩, by rw [← h] at hl; simpa using hl⟩
    · rw [decS h1, List.append_assoc] at h
      refine ⟨.inl ⟨by omega, h⟩, ?_⟩
      rw [← h] at hl
      simp at hl ⊢
      omega
  · exact absurd h h0
theorem dig_ext : ∀ d : Nat, d < 10 → (ByteArray.mk #[48, 49, 50, 51, 52, 53, 54, 55, 56, 57]).extract d (d + 1) = ByteArray.mk [UInt8.ofNat (48 + d)].toArray := by
  intro d hd
  have : d = 0 ∨ d = 1 ∨ d = 2 ∨ d = 3 ∨ d = 4 ∨ d = 5 ∨ d = 6 ∨ d = 7 ∨ d = 8 ∨ d = 9 := by omega
  rcases this with h | h | h | h | h | h | h | h | h | h <;> subst h <;> rfl
set_option maxHeartbeats 2000000 in
theorem decimal_any (n : Nat) (w : World) (hn : n ≤ 9223372036854775807) : Calls Try.prog 49 #[.int .i64 n] w (Pur (.string ⟨(Lib.decDigits n).toArray⟩) w) := by
  by_cases h0 : n = 0
  · subst h0
    go_enter Try.func49, Try.ntmps49
    go_wp2
    go_ret
    exact ⟨by rw [dec1 (by omega)]; rfl, rfl⟩
  · have h1 : ((n : Int) == 0) = false := by rw [beq_eq_false_iff_ne]; omega
    go_enter Try.func49, Try.ntmps49
    go_wp2_with fail
    have hlen := Lib.itoa_length_le (n : Int) (by omega) (by omega)
    rw [Lib.itoa_nonneg] at hlen
    go_loop [4, 5] (fun s k => ∃ (j : Nat) (t : List UInt8), j ≤ n ∧ k = .int .i64 j ∧ s = .string ⟨t.toArray⟩ ∧ t.length ≤ 21 ∧ DecRel j t n) (fun _ k => (intOf k).toNat)
    case atStart => exact ⟨n, [], Nat.le_refl _, rfl, rfl, by simp, .inl ⟨h0, by simp⟩⟩
    case round =>
      obtain ⟨j, t, hj, rfl, rfl, ht, hr⟩ := hrel
      by_cases hj0 : j = 0
      · subst hj0
        rcases hr with ⟨h, _⟩ | ⟨_, h⟩
        · exact absurd rfl h
        · have HT := Lib.hid h; clear h
          go_wp2
          go_ret
          exact ⟨by rw [← HT.out]; rfl, rfl⟩
      · have hj1 : ((j : Int) != 0) = true := by rw [bne_iff_ne]; omega
        have hs := decRel_step hj0 hr hlen
        have hx := dig_ext (j % 10) (by omega)
        have HS := Lib.hid hs; have HX := Lib.hid hx
        clear hs hx hr
        go_wp2_with fail
        go_round
        case rel => exact ⟨j / 10, UInt8.ofNat (48 + j % 10) :: t, by omega, by go_num, by rw [HX.out]; exact congrArg Value.string (ByteArray.mk_append_mk [UInt8.ofNat (48 + j % 10)] t), HS.out.2, HS.out.1⟩
        case measure => simp [intOf]; omega


def letters : ByteArray := ⟨#[97, 98, 99, 100, 101, 102, 103, 104, 105, 106, 107, 108, 109, 110, 111, 112, 113, 114, 115, 116]⟩
/-- the key of a number below 4000 -/
def keyN (k : Nat) : ByteArray := letters.extract (k % 20) (k % 20 + 1) ++ letters.extract (k / 20 % 20) (k / 20 % 20 + 1) ++ ⟨#[48 + UInt8.ofNat (k / 400)]⟩
def keyF (n : Int) : ByteArray := keyN (around n 4000).toNat
set_option maxRecDepth 100000 in
set_option maxHeartbeats 2000000 in
theorem key_any (n : Int) (w : World) (h1 : -9223372036854775808 ≤ n) (h2 : n ≤ 9223372036854775807) : Calls Try.prog 26 #[.int .i64 n] w (Ret (.string (keyF n)) w) := by
  obtain ⟨a1, a2⟩ := around_bd n (m := 4000) (by omega)
  obtain ⟨k, hk⟩ : ∃ k : Nat, around n 4000 = k := ⟨(around n 4000).toNat, by omega⟩
  have hkey : keyF n = keyN k := by unfold keyF; rw [hk]; rfl
  have K1 : ∀ w, Calls Try.prog 25 #[.int .i64 n, .int .i64 4000] w (Pur (.int .i64 (k : Int)) w) := fun w => by rw [← hk]; exact around02 n 4000 w h1 h2 (by omega) (by omega)
  have hk4 : k < 4000 := by omega
  rw [hkey]
  have HK1 := Lib.hid K1
  have HKN := Lib.hid (show keyN k = letters.extract (k % 20) (k % 20 + 1) ++ letters.extract (k / 20 % 20) (k / 20 % 20 + 1) ++ ⟨#[48 + UInt8.ofNat (k / 400)]⟩ from rfl)
  clear K1 hk hkey a1 a2
  generalize keyN k = KK at *
  go_enter Try.func26, Try.ntmps26
  go_wp2_with fail
  refine (HK1.out _).mono ?_
  rintro e w' ⟨rfl, rfl⟩
  have hd := fun w => decimal_any (k / 400) w (by omega)
  rw [dec1 (by omega : k / 400 < 10)] at hd
  have HD := Lib.hid hd
  clear hd
  go_upto_region 3 with (fail)
  have e1 : (k : Int).tmod 20 = ((k % 20 : Nat) : Int) := by rw [Int.tmod_eq_emod_of_nonneg (by omega)]; rfl
  have e2 : (k : Int).tdiv 20 = ((k / 20 : Nat) : Int) := by rw [Int.tdiv_eq_ediv_of_nonneg (by omega)]; rfl
  have e3 : (k : Int).tdiv 400 = ((k / 400 : Nat) : Int) := by rw [Int.tdiv_eq_ediv_of_nonneg (by omega)]; rfl
  have e4 : ((k / 20 : Nat) : Int).tmod 20 = ((k / 20 % 20 : Nat) : Int) := by rw [Int.tmod_eq_emod_of_nonneg (by omega)]; rfl
  have e5 : IntKind.i64.wrap (((k % 20 : Nat) : Int) + 1) = ((k % 20 + 1 : Nat) : Int) := by rw [IntWalk.i64_in _ (by omega)]; rfl
  have e6 : IntKind.i64.wrap (((k / 20 % 20 : Nat) : Int) + 1) = ((k / 20 % 20 + 1 : Nat) : Int) := by rw [IntWalk.i64_in _ (by omega)]; rfl
  refine wp_region_quiet_lit (by kernel_rfl) (by kernel_rfl) ?_
  repeat (go_big_quiet_step ((go_at_call 49; exact Pur.quiet (HD.out _))))
  refine wpQuiet_nil ?_
  rintro w5 ⟨nq, rfl⟩
  go_wp2
  go_ret
  refine ⟨?_, bl_drewN (bl_refl _) _⟩
  rw [HKN.out]
  rfl
end Go.Proofs.Ytmkhnpkbaegchaa
