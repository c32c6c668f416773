/- Plain: parsing a printed date leads back to its day. -/
import Derived.Test.YtaiiibbnjmjamaaGreatDoorDPrPlain
import Derived.Test.YtaiiibbnjmjamaaGreatDoorDParse2
namespace Go.Proofs.YtaiiibbnjmjamaaGreatDoor

theorem u8_dig (k : Nat) (h : k < 10) : (UInt8.ofNat (48 + k)).toNat = 48 + k := by
  rw [UInt8.toNat_ofNat']; omega
theorem isDig_dig (k : Nat) (h : k < 10) : isDig (UInt8.ofNat (48 + k)) = true := by
  unfold isDig; rw [u8_dig k h]; simp; omega
theorem d2_dig {k : Nat} (h : k < 100) : (d2 k).all isDig = true ∧ pv (d2 k) = k := by
  unfold d2 pv
  simp only [List.all_cons, List.all_nil, List.foldl_cons, List.foldl_nil]
  rw [isDig_dig _ (by omega), isDig_dig _ (by omega), u8_dig _ (by omega), u8_dig _ (by omega)]
  refine ⟨rfl, ?_⟩
  omega
theorem d4_dig {k : Nat} (h : k < 10000) : (d4 k).all isDig = true ∧ pv (d4 k) = k := by
  unfold d4 pv
  simp only [List.all_cons, List.all_nil, List.foldl_cons, List.foldl_nil]
  rw [isDig_dig _ (by omega), isDig_dig _ (by omega), isDig_dig _ (by omega), isDig_dig _ (by omega), u8_dig _ (by omega), u8_dig _ (by omega), u8_dig _ (by omega), u8_dig _ (by omega)]
  refine ⟨rfl, ?_⟩
  omega
/-- the printed form, and what its parts are -/
def prB (y m d : Nat) : ByteArray := ⟨(d4 y ++ [45] ++ d2 m ++ [45] ++ d2 d).toArray⟩
theorem prB_parts (y m d : Nat) : sY (prB y m d) = d4 y ∧ sM (prB y m d) = d2 m ∧ sD (prB y m d) = d2 d := ⟨rfl, rfl, rfl⟩
theorem prB_fmt {y m d : Nat} (hy : y < 10000) (hm : m < 100) (hd : d < 100) : fmtB (prB y m d) = true := by
  unfold fmtB digB
  rw [(prB_parts y m d).1, (prB_parts y m d).2.1, (prB_parts y m d).2.2, (d4_dig hy).1, (d2_dig hm).1, (d2_dig hd).1]
  rw [decide_eq_true (show (prB y m d).size = 10 ∧ (prB y m d).data.toList.getD 4 0 = 45 ∧ (prB y m d).data.toList.getD 7 0 = 45 from ⟨rfl, rfl, rfl⟩)]
  rfl
theorem parse_print {n : Int} (h0 : 0 ≤ n) (h1 : n ≤ 3652058) : paN ⟨(prS n).toArray⟩ = n ∧ paE ⟨(prS n).toArray⟩ = 0 := by
  obtain ⟨v1, v2, v3, v4, v5, v6⟩ := valid_of h0 h1
  have v7 := len_le (ofY n) (ofM n)
  rw [prS_eq h0 h1]
  have e : (⟨(d4 (ofY n).toNat ++ [45] ++ d2 (ofM n).toNat ++ [45] ++ d2 (ofD n).toNat).toArray⟩ : ByteArray) = prB (ofY n).toNat (ofM n).toNat (ofD n).toNat := rfl
  rw [e]
  have hf := prB_fmt (y := (ofY n).toNat) (m := (ofM n).toNat) (d := (ofD n).toNat) (by omega) (by omega) (by omega)
  have hp := prB_parts (ofY n).toNat (ofM n).toNat (ofD n).toNat
  have p1 := (d4_dig (k := (ofY n).toNat) (by omega)).2
  have p2 := (d2_dig (k := (ofM n).toNat) (by omega)).2
  have p3 := (d2_dig (k := (ofD n).toNat) (by omega)).2
  have hv : validB (ofY n) (ofM n) (ofD n) = true := valid_iff.2 ⟨v1, v2, v3, v4, v5, v6⟩
  unfold paN paE
  rw [hf, if_pos rfl, if_pos rfl, hp.1, hp.2.1, hp.2.2, p1, p2, p3, Int.toNat_of_nonneg (by omega), Int.toNat_of_nonneg (by omega), Int.toNat_of_nonneg (by omega)]
  unfold dayN chk
  rw [hv, if_pos rfl, if_pos rfl]
  exact ⟨num_of h0 h1, rfl⟩
end Go.Proofs.YtaiiibbnjmjamaaGreatDoor
