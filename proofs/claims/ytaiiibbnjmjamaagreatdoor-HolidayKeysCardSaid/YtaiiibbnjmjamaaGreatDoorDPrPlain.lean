/- Plain: the digits of padded numbers. -/
import Derived.Test.YtaiiibbnjmjamaaGreatDoorDPrint
namespace Go.Proofs.YtaiiibbnjmjamaaGreatDoor

def d2 (k : Nat) : List UInt8 := [UInt8.ofNat (48 + k / 10), UInt8.ofNat (48 + k % 10)]
def d4 (k : Nat) : List UInt8 := [UInt8.ofNat (48 + k / 1000), UInt8.ofNat (48 + k / 100 % 10), UInt8.ofNat (48 + k / 10 % 10), UInt8.ofNat (48 + k % 10)]
theorem dec_two {k : Nat} (h1 : ¬ k < 10) (h : k < 100) : Lib.decDigits k = [UInt8.ofNat (48 + k / 10), UInt8.ofNat (48 + k % 10)] := by
  rw [decS h1, dec1 (by omega)]; rfl
theorem dec_three {k : Nat} (h1 : ¬ k < 100) (h : k < 1000) : Lib.decDigits k = [UInt8.ofNat (48 + k / 100), UInt8.ofNat (48 + k / 10 % 10), UInt8.ofNat (48 + k % 10)] := by
  rw [decS (by omega), dec_two (by omega) (by omega), show k / 10 / 10 = k / 100 from by omega]; rfl
theorem dec_four {k : Nat} (h1 : ¬ k < 1000) (h : k < 10000) : Lib.decDigits k = [UInt8.ofNat (48 + k / 1000), UInt8.ofNat (48 + k / 100 % 10), UInt8.ofNat (48 + k / 10 % 10), UInt8.ofNat (48 + k % 10)] := by
  rw [decS (by omega), dec_three (by omega) (by omega), show k / 10 / 100 = k / 1000 from by omega, show k / 10 / 10 = k / 100 from by omega]; rfl
theorem pad2_eq {k : Nat} (h : k < 100) : padL k 2 = d2 k := by
  unfold padL d2
  by_cases h1 : k < 10
  · rw [dec1 h1, show k / 10 = 0 from by omega, show k % 10 = k from by omega]; rfl
  · rw [dec_two h1 h]; rfl
theorem pad4_eq {k : Nat} (h : k < 10000) : padL k 4 = d4 k := by
  unfold padL d4
  by_cases h1 : k < 10
  · rw [dec1 h1, show k / 1000 = 0 from by omega, show k / 100 % 10 = 0 from by omega, show k / 10 % 10 = 0 from by omega, show k % 10 = k from by omega]; rfl
  · by_cases h2 : k < 100
    · rw [dec_two h1 h2, show k / 1000 = 0 from by omega, show k / 100 % 10 = 0 from by omega, show k / 10 % 10 = k / 10 from by omega]; rfl
    · by_cases h3 : k < 1000
      · rw [dec_three h2 h3, show k / 1000 = 0 from by omega, show k / 100 % 10 = k / 100 from by omega]; rfl
      · rw [dec_four h3 h]; rfl
theorem prS_eq {n : Int} (h0 : 0 ≤ n) (h1 : n ≤ 3652058) : prS n = d4 (ofY n).toNat ++ [45] ++ d2 (ofM n).toNat ++ [45] ++ d2 (ofD n).toNat := by
  obtain ⟨v1, v2, v3, v4, v5, v6⟩ := valid_of h0 h1
  have v7 := len_le (ofY n) (ofM n)
  have e : okB n = true := decide_eq_true ⟨h0, h1⟩
  unfold prS
  rw [e, if_pos rfl]
  unfold prL
  rw [pad4_eq (by omega), pad2_eq (k := (ofM n).toNat) (by omega), pad2_eq (k := (ofD n).toNat) (by omega)]
end Go.Proofs.YtaiiibbnjmjamaaGreatDoor
