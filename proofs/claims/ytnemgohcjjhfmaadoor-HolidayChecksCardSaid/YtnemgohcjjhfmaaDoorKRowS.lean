/- Words for rows: an argument that is a slice of structs of ints, read as a list. Conditions: none. -/
import Derived.Test.YtnemgohcjjhfmaaDoorKRow
import Derived.Test.YtnemgohcjjhfmaaDoorKArr
import Derived.Lib.SmallJoins
import Derived.Deep.Slices
import Derived.Deep.Fields
namespace Go.Proofs.YtnemgohcjjhfmaaDoor
open Go.ChangeShapes Go.WideShapes Go.ChangeAt Go.RowKit Go.Joins Go.Deep

theorem rows_of {H : Type} {enc : TypeId × Value → H} {P : Program} {W : World} {base : Nat} {spare : Nat → Bool} {held : Bool} {t e : TypeId} {fs : Array Field} {a : Option Addr} {len cap n k : Nat} {y : DataW H × List MemPlace} {α : Type} {en : α → List Value}
    (rd : (Nat → Int) → α) (hrd : ∀ f, en (rd f) = (List.range k).map fun i => Value.int .i64 (f i))
    (ht : P.underlying t = some (.slice e)) (he : P.underlying e = some (.struct fs)) (hone : oneCellFields P fs = true) (hC : P.cellsOf e = k) (hk : fs.size = k) (h0k : 0 < k) (hint : ∀ (i : Nat) f, fs[i]? = some f → P.underlying f.type = some (.int .i64))
    (h : DataW.trod enc P W base spare held n t [.slice a len cap] = some y) : ∃ l, IsRow k en W (.slice a len cap) l := by
  rcases open_slice ht h with ⟨hcs, hx⟩ | ⟨a', len', cap', m, n', D, Pl, hcs, hb, hl, hm, hmm, hx, hi⟩
  · simp at hcs
    obtain ⟨rfl, rfl, rfl⟩ := hcs
    exact ⟨[], IsRow.nil W⟩
  · simp at hcs
    obtain ⟨rfl, rfl, rfl⟩ := hcs
    by_cases h0 : len = 0
    · subst h0
      exact ⟨[], .inl ⟨_, _, rfl, rfl⟩⟩
    · have hlm : len ≤ m := by rw [hmm]; split <;> omega
      have each : ∀ i, ∃ z : Nat → Int, i < len → ∀ j, j < k → W.cell? (a'.add (i * k + j)) = some (.int .i64 (z j)) := by
        intro i
        by_cases hil : i < len
        · obtain ⟨cs', hc, ht'⟩ := hi i (by omega)
          rw [hC] at hc
          obtain ⟨xs, n2, _, _, hlen2, hxl, hf⟩ := DataW.trod_struct he ht'
          obtain ⟨_, hcl, hat⟩ := World.cells?_some hc
          have cell : ∀ j, ∃ z : Int, j < k → cs'[j]? = some (.int .i64 z) := by
            intro j
            by_cases hj : j < k
            · obtain ⟨f, hfj⟩ : ∃ f, fs[j]? = some f := ⟨_, Array.getElem?_eq_getElem (by omega)⟩
              obtain ⟨o0, q0⟩ := hone_of hone j f hfj
              have k0 := hf j f (by simpa using hfj)
              rw [o0, q0, List.getElem?_eq_getElem (show j < xs.length by omega)] at k0
              obtain ⟨z0, e0, _, _⟩ := DataW.trod_int (hint j f hfj) k0
              refine ⟨z0, fun _ => ?_⟩
              have e1 : (List.take 1 (List.drop j cs'))[0]? = some (.int .i64 z0) := by rw [e0]; rfl
              rw [List.getElem?_take_of_lt (by omega), List.getElem?_drop] at e1
              simpa using e1
            · exact ⟨0, fun hh => absurd hh hj⟩
          obtain ⟨z, hz⟩ := Classical.skolem.1 cell
          refine ⟨z, fun _ j hj => ?_⟩
          have h1 := hat j hj
          rw [hz j hj] at h1
          rw [← add_add]
          simpa using h1
        · exact ⟨fun _ => 0, fun hh => absurd hh hil⟩
      obtain ⟨f, hf⟩ := Classical.skolem.1 each
      obtain ⟨b, off, spot⟩ := a'
      have c0 := hf 0 (by omega) 0 h0k
      have hspot : spot = none := by simpa [Addr.add] using World.cell?_spot c0
      subst hspot
      refine ⟨(List.range len).map (fun i => rd (f i)), .inr ⟨b, off, cap, by simp, ?_, by simp; omega, fun j x hx i u hu => ?_⟩⟩
      · have := World.block_lt_of_cell? W _ c0
        simpa [Addr.add] using this
      · have hj : j < len := by have := (List.getElem?_eq_some_iff.1 hx).1; simpa using this
        simp [hj] at hx
        subst hx
        rw [hrd] at hu
        have hik : i < k := by have := (List.getElem?_eq_some_iff.1 hu).1; simpa using this
        simp [hik] at hu
        subst hu
        have := hf j hj i hik
        rw [add_plain] at this
        rw [Nat.add_assoc]
        exact this
theorem slice_is {H : Type} {enc : TypeId × Value → H} {P : Program} {W : World} {base : Nat} {spare : Nat → Bool} {held : Bool} {t e : TypeId} {a : Option Addr} {len cap : Nat} {d : DataW H} {p : List MemPlace} {α : Type} {k : Nat} {en : α → List Value}
    {fs : Array Field} (rd : (Nat → Int) → α) (hrd : ∀ f, en (rd f) = (List.range k).map fun i => Value.int .i64 (f i))
    (ht : P.underlying t = some (.slice e)) (he : P.underlying e = some (.struct fs)) (hone : oneCellFields P fs = true) (hC : P.cellsOf e = k) (hk : fs.size = k) (h0k : 0 < k) (hint : ∀ (i : Nat) f, fs[i]? = some f → P.underlying f.type = some (.int .i64))
    (h : DataW.Trod enc P W base spare held t (.slice a len cap) d p) : ∃ l, IsRow k en W (.slice a len cap) l := by
  obtain ⟨fuel, hf⟩ := h
  exact rows_of rd hrd ht he hone hC hk h0k hint (by simpa [Value.cells] using hf)
theorem fields_int {P : Program} {fs : Array Field} {T : TypeId} (h : fs.all (fun f => f.type == T) = true) (hu : P.underlying T = some (.int .i64)) : ∀ (i : Nat) f, fs[i]? = some f → P.underlying f.type = some (.int .i64) := by
  intro i f hf
  have hi : i < fs.size := (Array.getElem?_eq_some_iff.1 hf).1
  have hv := (Array.getElem?_eq_some_iff.1 hf).2
  rw [Array.all_eq_true] at h
  have := h i hi
  rw [hv] at this
  rw [show f.type = T by simpa using this]
  exact hu
end Go.Proofs.YtnemgohcjjhfmaaDoor
