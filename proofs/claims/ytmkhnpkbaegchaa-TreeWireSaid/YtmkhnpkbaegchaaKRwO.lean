/- Several texts in one, each with its own word at its head. Conditions: stated there. -/
import Derived.Test.YtmkhnpkbaegchaaKRow
import Derived.Test.YtmkhnpkbaegchaaKArr
import Derived.Lib.SmallJoins
import Derived.Deep.Slices
import Derived.Deep.Fields
import Derived.Test.YtmkhnpkbaegchaaTRfs
/- Words for rows: an argument that is a slice of structs of ints, read as a list. Conditions: none. -/
namespace Go.Proofs.Ytmkhnpkbaegchaa
open Go.ChangeShapes Go.WideShapes Go.ChangeAt Go.RowKit Go.Joins Go.Deep

theorem rows_of {H : Type} {enc : TypeId × Value → H} {P : Program} {W : World} {base : Nat} {spare : Nat → Bool} {held : Bool} {t e : TypeId} {fs : Array Field} {a : Option Addr} {len cap n k : Nat} {y : DataW H × List MemPlace} {α : Type} {en : α → List Value}
    (rd : (Nat → Int) → α) (hrd : ∀ f, en (rd f) = (List.range k).map fun i => Value.int .i64 (f i))
    (ht : P.underlying t = some (.slice e)) (he : P.underlying e = some (.struct fs)) (hone : oneCellFields P fs = true) (hC : P.cellsOf e = k) (hk : fs.size = k) (h0k : 0 < k) (hint : ∀ (i : Nat) f, fs[i]? = some f → P.underlying f.type = some (.int .i64))
    (h : DataW.trod enc P W base spare held n t [.slice a len cap] = some y) : ∃ l, IsRow k en W (.slice a len cap) l := by
  rcases open_slice ht h with ⟨hcs, hx⟩ | ⟨a', len', cap', m, n', D, Pl, hcs, hb, hl, hm, hmm, hx, hi⟩
  · simp at hcs
    obtain ⟨rfl, rfl, rfl⟩ := hcs
    exact ⟨[], IsRow.nil W⟩
  · simp at hcs
    obtain ⟨rfl, rfl, rfl⟩ := hcs
    by_cases h0 : len = 0
    · subst h0
      exact ⟨[], .inl ⟨_, _, rfl, rfl⟩⟩
    · have hlm : len ≤ m := by rw [hmm]; split <;> omega
      have each : ∀ i, ∃ z : Nat → Int, i < len → ∀ j, j < k → W.cell? (a'.add (i * k + j)) = some (.int .i64 (z j)) := by
        intro i
        by_cases hil : i < len
        · obtain ⟨cs', hc, ht'⟩ := hi i (by omega)
          rw [hC] at hc
          obtain ⟨xs, n2, _, _, hlen2, hxl, hf⟩ := DataW.trod_struct he ht'
          obtain ⟨_, hcl, hat⟩ := World.cells?_some hc
          have cell : ∀ j, ∃ z : Int, j < k → cs'[j]? = some (.int .i64 z) := by
            intro j
            by_cases hj : j < k
            · obtain ⟨f, hfj⟩ : ∃ f, fs[j]? = some f := ⟨_, Array.getElem?_eq_getElem (by omega)⟩
              obtain ⟨o0, q0⟩ := hone_of hone j f hfj
              have k0 := hf j f (by simpa using hfj)
              rw [o0, q0, List.getElem?_eq_getElem (show j < xs.length by omega)] at k0
              obtain ⟨z0, e0, _, _⟩ := DataW.trod_int (hint j f hfj) k0
              refine ⟨z0, fun _ => ?_⟩
              have e1 : (List.take 1 (List.drop j cs'))[0]? = some (.int .i64 z0) := by rw [e0]; rfl
              rw [List.getElem?_take_of_lt (by omega), List.getElem?_drop] at e1
              simpa using e1
            · exact ⟨0, fun hh => absurd hh hj⟩
          obtain ⟨z, hz⟩ := Classical.skolem.1 cell
          refine ⟨z, fun _ j hj => ?_⟩
          have h1 := hat j hj
          rw [hz j hj] at h1
          rw [← add_add]
          simpa using h1
        · exact ⟨fun _ => 0, fun hh => absurd hh hil⟩
      obtain ⟨f, hf⟩ := Classical.skolem.1 each
      obtain ⟨b, off, spot⟩ := a'
      have c0 := hf 0 (by omega) 0 h0k
      have hspot : spot = none := by simpa [Addr.add] using World.cell?_spot c0
      subst hspot
      refine ⟨(List.range len).map (fun i => rd (f i)), .inr ⟨b, off, cap, by simp, ?_, by simp; omega, fun j x hx i u hu => ?_⟩⟩
      · have := World.block_lt_of_cell? W _ c0
        simpa [Addr.add] using this
      · have hj : j < len := by have := (List.getElem?_eq_some_iff.1 hx).1; simpa using this
        simp [hj] at hx
        subst hx
        rw [hrd] at hu
        have hik : i < k := by have := (List.getElem?_eq_some_iff.1 hu).1; simpa using this
        simp [hik] at hu
        subst hu
        have := hf j hj i hik
        rw [add_plain] at this
        rw [Nat.add_assoc]
        exact this
theorem slice_is {H : Type} {enc : TypeId × Value → H} {P : Program} {W : World} {base : Nat} {spare : Nat → Bool} {held : Bool} {t e : TypeId} {a : Option Addr} {len cap : Nat} {d : DataW H} {p : List MemPlace} {α : Type} {k : Nat} {en : α → List Value}
    {fs : Array Field} (rd : (Nat → Int) → α) (hrd : ∀ f, en (rd f) = (List.range k).map fun i => Value.int .i64 (f i))
    (ht : P.underlying t = some (.slice e)) (he : P.underlying e = some (.struct fs)) (hone : oneCellFields P fs = true) (hC : P.cellsOf e = k) (hk : fs.size = k) (h0k : 0 < k) (hint : ∀ (i : Nat) f, fs[i]? = some f → P.underlying f.type = some (.int .i64))
    (h : DataW.Trod enc P W base spare held t (.slice a len cap) d p) : ∃ l, IsRow k en W (.slice a len cap) l := by
  obtain ⟨fuel, hf⟩ := h
  exact rows_of rd hrd ht he hone hC hk h0k hint (by simpa [Value.cells] using hf)
theorem fields_int {P : Program} {fs : Array Field} {T : TypeId} (h : fs.all (fun f => f.type == T) = true) (hu : P.underlying T = some (.int .i64)) : ∀ (i : Nat) f, fs[i]? = some f → P.underlying f.type = some (.int .i64) := by
  intro i f hf
  have hi : i < fs.size := (Array.getElem?_eq_some_iff.1 hf).1
  have hv := (Array.getElem?_eq_some_iff.1 hf).2
  rw [Array.all_eq_true] at h
  have := h i hi
  rw [hv] at this
  rw [show f.type = T by simpa using this]
  exact hu
end Go.Proofs.Ytmkhnpkbaegchaa
/- Words for rows: an argument that is a slice of changes. Conditions: none. -/
namespace Go.Proofs.Ytmkhnpkbaegchaa
open Go.ChangeShapes Go.WideShapes Go.ChangeAt Go.RowKit Go.Joins Go.Deep

theorem u8_bd {n : Int} (h : (Lit.int .u8 n).wf = true) : 0 ≤ n ∧ n ≤ 255 := by simpa [Lit.wf, IntKind.min, IntKind.max, IntKind.signed, IntKind.bits] using h
theorem ops_of {H : Type} {enc : TypeId × Value → H} {P : Program} {W : World} {base : Nat} {spare : Nat → Bool} {held : Bool} {t e : TypeId} {fs : Array Field} {a : Option Addr} {len cap : Nat} {d : DataW H} {p : List MemPlace} {f0 f1 f2 : Field}
    (ht : P.underlying t = some (.slice e)) (he : P.underlying e = some (.struct fs)) (hone : oneCellFields P fs = true) (hC : P.cellsOf e = 3) (hk : fs = #[f0, f1, f2]) (h0 : P.underlying f0.type = some (.int .u8)) (h1 : P.underlying f1.type = some (.int .i64)) (h2 : P.underlying f2.type = some (.int .u8))
    (h : DataW.Trod enc P W base spare held t (.slice a len cap) d p) : ∃ l, IsRow 3 encO W (.slice a len cap) l ∧ (∀ x ∈ l, OpOk x) ∧ len ≤ cap := by
  obtain ⟨fuel, hf0⟩ := h
  rcases open_slice ht hf0 with ⟨hcs, hx⟩ | ⟨a', len', cap', m, n', D, Pl, hcs, hb, hl, hm, hmm, hx, hi⟩
  · simp [Value.cells] at hcs
    obtain ⟨rfl, rfl, rfl⟩ := hcs
    exact ⟨[], IsRow.nil W, fun x hx => (by cases hx), Nat.le_refl _⟩
  · simp [Value.cells] at hcs
    obtain ⟨rfl, rfl, rfl⟩ := hcs
    by_cases h0' : len = 0
    · subst h0'
      exact ⟨[], .inl ⟨_, _, rfl, rfl⟩, fun x hx => (by cases hx), by omega⟩
    · have hlm : len ≤ m := by rw [hmm]; split <;> omega
      have each : ∀ i, ∃ z : OpV, i < len → OpOk z ∧ W.cell? (a'.add (i * 3 + 0)) = some (.int .u8 (z.a : Int)) ∧ W.cell? (a'.add (i * 3 + 1)) = some (.int .i64 z.k) ∧ W.cell? (a'.add (i * 3 + 2)) = some (.int .u8 (z.v : Int)) := by
        intro i
        by_cases hil : i < len
        · obtain ⟨cs', hc, ht'⟩ := hi i (by omega)
          rw [hC] at hc
          obtain ⟨xs, n2, _, _, hlen2, hxl, hf⟩ := DataW.trod_struct he ht'
          obtain ⟨_, hcl, hat⟩ := World.cells?_some hc
          have cell : ∀ (j : Nat) f k, fs[j]? = some f → P.underlying f.type = some (.int k) → ∃ z : Int, cs'[j]? = some (.int k z) ∧ (Lit.int k z).wf = true := by
            intro j f k hfj hu
            have hj : j < fs.size := (Array.getElem?_eq_some_iff.1 hfj).1
            obtain ⟨o0, q0⟩ := hone_of hone j f hfj
            have k0 := hf j f (by simpa using hfj)
            rw [o0, q0, List.getElem?_eq_getElem (show j < xs.length by omega)] at k0
            obtain ⟨z0, e0, _, hw⟩ := DataW.trod_int hu k0
            refine ⟨z0, ?_, hw⟩
            have e1 : (List.take 1 (List.drop j cs'))[0]? = some (.int k z0) := by rw [e0]; rfl
            rw [List.getElem?_take_of_lt (by omega), List.getElem?_drop] at e1
            simpa using e1
          obtain ⟨z0, q0, w0⟩ := cell 0 f0 .u8 (by rw [hk]; rfl) h0
          obtain ⟨z1, q1, w1⟩ := cell 1 f1 .i64 (by rw [hk]; rfl) h1
          obtain ⟨z2, q2, w2⟩ := cell 2 f2 .u8 (by rw [hk]; rfl) h2
          have b0 := u8_bd w0
          have b1 := i64_bd w1
          have b2 := u8_bd w2
          have s0 : ((z0.toNat : Nat) : Int) = z0 := by omega
          have s2 : ((z2.toNat : Nat) : Int) = z2 := by omega
          have r0 := hat 0 (by omega)
          have r1 := hat 1 (by omega)
          have r2 := hat 2 (by omega)
          rw [q0] at r0
          rw [q1] at r1
          rw [q2] at r2
          refine ⟨⟨z0.toNat, z1, z2.toNat⟩, fun _ => ⟨⟨b1.1, b1.2, by show z0.toNat ≤ 255; omega, by show z2.toNat ≤ 255; omega⟩, ?_, ?_, ?_⟩⟩
          · rw [← add_add]; simp only [s0]; exact r0
          · rw [← add_add]; exact r1
          · rw [← add_add]; simp only [s2]; exact r2
        · exact ⟨⟨0, 0, 0⟩, fun hh => absurd hh hil⟩
      obtain ⟨f, hf⟩ := Classical.skolem.1 each
      obtain ⟨b, off, spot⟩ := a'
      have c0 := (hf 0 (by omega)).2.1
      have hspot : spot = none := by simpa [Addr.add] using World.cell?_spot c0
      subst hspot
      refine ⟨(List.range len).map f, .inr ⟨b, off, cap, by simp, ?_, by simp; omega, fun j x hx i u hu => ?_⟩, fun x hx => ?_, by omega⟩
      · have := World.block_lt_of_cell? W _ c0
        simpa [Addr.add] using this
      · have hj : j < len := by have := (List.getElem?_eq_some_iff.1 hx).1; simpa using this
        simp [hj] at hx
        subst hx
        obtain ⟨_, r0, r1, r2⟩ := hf j hj
        rw [add_plain, ← Nat.add_assoc] at r0 r1 r2
        match i, hu with
        | 0, hu => cases hu; exact r0
        | 1, hu => cases hu; exact r1
        | 2, hu => cases hu; exact r2
      · obtain ⟨j, hj, rfl⟩ := List.mem_map.1 hx
        exact (hf j (List.mem_range.1 hj)).1
end Go.Proofs.Ytmkhnpkbaegchaa
