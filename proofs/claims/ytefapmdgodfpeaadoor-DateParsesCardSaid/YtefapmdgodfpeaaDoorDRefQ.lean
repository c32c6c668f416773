/- The walks of the reference's digits and Parse. -/
import Derived.Test.YtefapmdgodfpeaaDoorDParse2
import Derived.Test.YtefapmdgodfpeaaDoorDRef1
namespace Go.Proofs.YtefapmdgodfpeaaDoor
open Go.RowKit

/-- the number that some bytes are; -1: they are not digits -/
def dgN (l : List UInt8) : Int := if l.all isDig then pv l else -1
theorem pv_nonneg : ∀ (l : List UInt8), l.all isDig = true → 0 ≤ pv l := by
  have h : ∀ (l : List UInt8) (n : Int), 0 ≤ n → l.all isDig = true → 0 ≤ l.foldl (fun n c => 10 * n + (c.toNat : Int) - 48) n := by
    intro l
    induction l with
    | nil => intro n hn _; exact hn
    | cons c l ih =>
      intro n hn h
      rw [List.all_cons, Bool.and_eq_true] at h
      have hc : 48 ≤ c.toNat ∧ c.toNat ≤ 57 := by have := h.1; unfold isDig at this; simpa using this
      exact ih (10 * n + (c.toNat : Int) - 48) (by omega) h.2
  intro l hl
  exact h l 0 (by omega) hl

set_option maxHeartbeats 2000000 in
theorem digits_any (s : ByteArray) (a b : Nat) (w : World) (hs : s.size = 10) (hab : a ≤ b) (hb : b ≤ 10) (h4 : b - a ≤ 4) :
    Calls Tryd.prog 47 #[.string s, .int .i64 a, .int .i64 b] w (Pur (.int .i64 (dgN (s.extract a b).data.toList)) w) := by
  go_enter Tryd.func47, Tryd.ntmps47
  go_wp2_with fail
  have hln : (s.extract a b).data.toList.length = b - a := by
    have : (s.extract a b).data.toList.length = (s.extract a b).size := Array.length_toList
    rw [this, ByteArray.size_extract, hs]; omega
  have hat : ∀ k, k < b - a → ∃ hk : a + k < s.size, (s.extract a b).data.toList[k]? = some (s[a + k]'hk) := by
    intro k h
    refine ⟨by omega, ?_⟩
    have e : (s.extract a b).data.toList = (s.data.toList.drop a).take (b - a) := Lib.extract_data s a b
    rw [e, List.getElem?_take, if_pos h, List.getElem?_drop, List.getElem?_eq_getElem (by have : s.data.toList.length = s.size := Array.length_toList; omega)]
    rfl
  generalize (s.extract a b).data.toList = l at *
  go_loop [7, 8] (fun n i => ∃ k : Nat, k ≤ b - a ∧ i = .int .i64 ((a + k : Nat) : Int) ∧ n = .int .i64 (pv (l.take k)) ∧ (l.take k).all isDig = true) (fun _ i => b - (intOf i).toNat)
  case atStart => exact ⟨0, by omega, rfl, rfl, rfl⟩
  case round =>
    obtain ⟨k, hk, rfl, rfl, hd⟩ := hrel
    by_cases hk2 : k < b - a
    · obtain ⟨hk3, hx⟩ := hat k hk2
      have htk : l.take (k + 1) = l.take k ++ [s[a + k]'hk3] := by rw [List.take_add_one, hx]; rfl
      have hs1 := pv_snoc (l.take k) (s[a + k]'hk3)
      have hpv := pv_bd (l.take k) (by simp; omega)
      have hbx := (s[a + k]'hk3).toNat_lt
      have hall : l.all isDig = true → isDig (s[a + k]'hk3) = true := fun h => by
        rw [List.all_eq_true] at h
        exact h _ (List.mem_of_getElem? hx)
      have hdig : isDig (s[a + k]'hk3) = decide (48 ≤ (s[a + k]'hk3).toNat ∧ (s[a + k]'hk3).toNat ≤ 57) := rfl
      have hdn : isDig (s[a + k]'hk3) = false → dgN l = -1 := fun h => by
        unfold dgN
        rw [if_neg (fun e => by rw [hall e] at h; cases h)]
      have hdy : isDig (s[a + k]'hk3) = true → (l.take (k + 1)).all isDig = true := fun h => by rw [htk, List.all_append, hd, List.all_cons, h]; rfl
      rw [← htk] at hs1
      rw [hdig] at hdn hdy
      obtain ⟨hp1, hp2⟩ := hpv
      have HS1 := Lib.hid hs1; have HN := Lib.hid hdn; have HYY := Lib.hid hdy
      clear hs1 hdn hdy hall hdig htk hx
      by_cases q1 : ((s[a + k]'hk3).toNat : Int) < 48
      · have e := HN.out (by simp; omega)
        have HE := Lib.hid e; clear e
        go_wp2
        go_ret
        exact ⟨by rw [HE.out]; rfl, rfl⟩
      · by_cases q2 : (57 : Int) < ((s[a + k]'hk3).toNat : Int)
        · have e := HN.out (by simp; omega)
          have HE := Lib.hid e; clear e
          go_wp2
          go_ret
          exact ⟨by rw [HE.out]; rfl, rfl⟩
        · have e := HYY.out (by simp; omega)
          have HE := Lib.hid e; clear e
          go_wp2
          go_round
          case rel => exact ⟨k + 1, by omega, by go_num, by rw [HS1.out], HE.out⟩
          case measure => simp [intOf]; omega
    · obtain rfl : k = b - a := by omega
      have e : l.take (b - a) = l := List.take_of_length_le (by omega)
      rw [e] at hd ⊢
      have hv : dgN l = pv l := by unfold dgN; rw [if_pos hd]
      have HV := Lib.hid hv; clear hv e hd
      go_wp2
      go_ret
      exact ⟨by rw [HV.out]; rfl, rfl⟩
end Go.Proofs.YtefapmdgodfpeaaDoor
