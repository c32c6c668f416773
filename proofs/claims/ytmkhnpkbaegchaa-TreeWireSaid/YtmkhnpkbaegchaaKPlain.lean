/- Plain words and words on slices of ints: Around, Floor; what a slice reads. Conditions: none. -/
import Derived.Test.YtmkhnpkbaegchaaKBase
namespace Go.Proofs.Ytmkhnpkbaegchaa
open Go.RowKit

/-- Around: a number from 0 on, below most -/
def around (n m : Int) : Int := (if n < 0 then -(n + 1) else n) % m
theorem around_bd (n : Int) {m : Int} (h : 1 ≤ m) : 0 ≤ around n m ∧ around n m < m := by
  unfold around; exact ⟨Int.emod_nonneg _ (by omega), Int.emod_lt_of_pos _ (by omega)⟩
/-- Floor: rounded down -/
theorem floor_a {a b : Int} (hb : 0 < b) (h : a.tmod b < 0) : a.tdiv b - 1 = a / b := by
  have h1 := Int.tmod_add_mul_tdiv a b
  have h2 := Int.lt_tmod_of_pos a hb
  have h3 := Int.emod_add_mul_ediv a b
  have h4 := Int.emod_nonneg a (b := b) (by omega)
  have h5 := Int.emod_lt_of_pos a hb
  have e : b * (a.tdiv b - a / b) = a % b - a.tmod b := by rw [Int.mul_sub]; omega
  have e1 : 0 < b * (a.tdiv b - a / b) := by omega
  have e2 : b * (a.tdiv b - a / b) < b * 2 := by omega
  have e0 : b * 0 < b * (a.tdiv b - a / b) := by omega
  have e3 := Int.lt_of_mul_lt_mul_left e0 (by omega)
  have e4 := Int.lt_of_mul_lt_mul_left e2 (by omega)
  omega
theorem floor_b {a b : Int} (hb : 0 < b) (h : ¬ a.tmod b < 0) : a.tdiv b = a / b := by
  have h1 := Int.tmod_add_mul_tdiv a b
  have h2 := Int.tmod_lt_of_pos a hb
  have h3 := Int.emod_add_mul_ediv a b
  have h4 := Int.emod_nonneg a (b := b) (by omega)
  have h5 := Int.emod_lt_of_pos a hb
  have e : b * (a.tdiv b - a / b) = a % b - a.tmod b := by rw [Int.mul_sub]; omega
  have e2 : b * (a.tdiv b - a / b) < b * 1 := by omega
  have e1 : b * (-1) < b * (a.tdiv b - a / b) := by omega
  have e3 := Int.lt_of_mul_lt_mul_left e2 (by omega)
  have e4 := Int.lt_of_mul_lt_mul_left e1 (by omega)
  omega

/-- the slice v reads as the ints zs -/
def IsInts (w : World) (v : Value) (zs : List Int) : Prop :=
  (∃ a cap, v = .slice a 0 cap ∧ zs = []) ∨ ∃ b off cap, v = .slice (some ⟨b, off, none⟩) zs.length cap ∧ b < w.heap.size ∧ zs.length ≤ maxLen ∧ ∀ j, j < zs.length → w.cell? ⟨b, off + j, none⟩ = some (.int .i64 (zs[j]?.getD 0))
theorem IsInts.below {w w' : World} {v : Value} {zs : List Int} (h : IsInts w v zs) (hb : Below w.heap.size w w') : IsInts w' v zs := by
  rcases h with h | ⟨b, off, cap, e, hlt, hm, hc⟩
  · exact .inl h
  · exact .inr ⟨b, off, cap, e, Nat.lt_of_lt_of_le hlt hb.size, hm, fun j hj => (hb.cell (p := ⟨b, off + j, none⟩) hlt).trans (hc j hj)⟩
theorem IsInts.nil (w : World) : IsInts w (.slice none 0 0) [] := .inl ⟨none, 0, rfl, rfl⟩
/-- every one of them is an int -/
def InR (zs : List Int) : Prop := ∀ z, z ∈ zs → -9223372036854775808 ≤ z ∧ z ≤ 9223372036854775807
theorem take_next {zs : List Int} {k : Nat} (h : k < zs.length) : zs.take (k + 1) = zs.take k ++ [zs[k]?.getD 0] := by
  rw [List.take_add_one, List.getElem?_eq_getElem h]; rfl
theorem InR.at {zs : List Int} (h : InR zs) (k : Nat) : -9223372036854775808 ≤ zs[k]?.getD 0 ∧ zs[k]?.getD 0 ≤ 9223372036854775807 := by
  cases e : zs[k]? with
  | none => exact ⟨by decide, by decide⟩
  | some z => exact h z (List.mem_of_getElem? e)
/-- a row that the call has made, as a slice of ints -/
theorem IsInts.of_row {w : World} {B e : Nat} {v : Value} {zs : List Int} (h : w.ownsRow B e 1 v zs.length (zs.map (Value.int .i64))) (hm : zs.length ≤ maxLen) : IsInts w v zs := by
  have h0 := h
  obtain ⟨_, hcase⟩ := h
  rcases hcase with ⟨e1, e2⟩ | ⟨g, cap', cur, e1, hg, hh, hn, hcap, hsz, htake⟩
  · refine .inl ⟨none, 0, ?_, List.length_eq_zero_iff.1 (by simpa using e2)⟩
    rw [e1]
  · subst e1
    refine .inr ⟨g, 0, cap', rfl, (Array.getElem?_eq_some_iff.1 hh).1, hm, fun j hj => ?_⟩
    have := h0.cellAt j (by simpa using hj)
    rw [Nat.zero_add, this]
    simp [List.getElem?_eq_getElem hj]
end Go.Proofs.Ytmkhnpkbaegchaa
