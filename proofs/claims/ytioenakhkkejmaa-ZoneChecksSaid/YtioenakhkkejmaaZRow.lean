/- Words for rows: an argument that is a zone, read as an offset and a list of shifts. Conditions: none. -/
import Derived.Test.YtioenakhkkejmaaKRow
import Derived.Test.YtioenakhkkejmaaZSh
import Derived.Lib.SmallJoins
import Derived.Deep.Slices
import Derived.Deep.Fields
namespace Go.Proofs.Ytioenakhkkejmaa
open Go.ChangeShapes Go.WideShapes Go.ChangeAt Go.RowKit Go.Joins Go.Deep

theorem sh_of {H : Type} {enc : TypeId × Value → H} {P : Program} {W : World} {base : Nat} {spare : Nat → Bool} {held : Bool} {t e : TypeId} {f0 f1 : Field} {a : Option Addr} {len cap n : Nat} {y : DataW H × List MemPlace}
    (ht : P.underlying t = some (.slice e)) (he : P.underlying e = some (.struct #[f0, f1])) (hone : oneCellFields P #[f0, f1] = true) (hC : P.cellsOf e = 2) (h0i : P.underlying f0.type = some (.int .i64)) (h1i : P.underlying f1.type = some (.int .i64))
    (h : DataW.trod enc P W base spare held n t [.slice a len cap] = some y) : ∃ l, IsSh W (.slice a len cap) l := by
  rcases open_slice ht h with ⟨hcs, hx⟩ | ⟨a', len', cap', m, n', D, Pl, hcs, hb, hl, hm, hmm, hx, hi⟩
  · simp at hcs
    obtain ⟨rfl, rfl, rfl⟩ := hcs
    exact ⟨[], IsSh.nil W⟩
  · simp at hcs
    obtain ⟨rfl, rfl, rfl⟩ := hcs
    by_cases h0 : len = 0
    · subst h0
      exact ⟨[], .inl ⟨_, _, rfl, rfl⟩⟩
    · have hlm : len ≤ m := by rw [hmm]; split <;> omega
      have each : ∀ i, ∃ z : Int × Int, i < len → W.cell? (a'.add (i * 2)) = some (.int .i64 z.1) ∧ W.cell? (a'.add (i * 2 + 1)) = some (.int .i64 z.2) := by
        intro i
        by_cases hil : i < len
        · obtain ⟨cs', hc, ht'⟩ := hi i (by omega)
          rw [hC] at hc
          obtain ⟨y0, y1, n2, _, hlen2, k0, k1⟩ := trod_struct2 he ht'
          obtain ⟨_, hcl, hat⟩ := World.cells?_some hc
          obtain ⟨o0, q0⟩ := hone_of hone 0 f0 rfl
          obtain ⟨o1, q1⟩ := hone_of hone 1 f1 rfl
          match cs', hcl with
          | [c0, c1], _ =>
            rw [o0, q0] at k0
            rw [o1, q1] at k1
            obtain ⟨z0, e0, _, _⟩ := DataW.trod_int h0i k0
            obtain ⟨z1, e1, _, _⟩ := DataW.trod_int h1i k1
            simp at e0 e1
            subst e0 e1
            refine ⟨(z0, z1), fun _ => ⟨?_, ?_⟩⟩
            · have := hat 0 (by omega)
              simpa [Addr.add] using this
            · have := hat 1 (by omega)
              rw [← add_add]
              simpa using this
        · exact ⟨(0, 0), fun h => absurd h hil⟩
      obtain ⟨f, hf⟩ := Classical.skolem.1 each
      obtain ⟨b, off, spot⟩ := a'
      have c0 := (hf 0 (by omega)).1
      have hspot : spot = none := by simpa [Addr.add] using World.cell?_spot c0
      subst hspot
      refine ⟨(List.range len).map f, .inr ⟨b, off, cap, by simp, ?_, by simp; omega, fun j hj => ?_⟩⟩
      · have := World.block_lt_of_cell? W _ c0
        simpa [Addr.add] using this
      · simp at hj
        obtain ⟨k0, k1⟩ := hf j hj
        rw [add_plain] at k0 k1
        have e : ((List.range len).map f)[j]?.getD (0, 0) = f j := by simp [hj]
        rw [e]
        exact ⟨k0, by rw [Nat.add_assoc]; exact k1⟩
theorem slice_of {H : Type} {enc : TypeId × Value → H} {P : Program} {W : World} {base : Nat} {spare : Nat → Bool} {held : Bool} {t e : TypeId} {v : Value} {n : Nat} {y : DataW H × List MemPlace}
    (ht : P.underlying t = some (.slice e)) (h : DataW.trod enc P W base spare held n t [v] = some y) : ∃ a len cap, v = .slice a len cap := by
  rcases open_slice ht h with ⟨hcs, _⟩ | ⟨a', len', cap', m, n', D, Pl, hcs, _⟩
  · simp at hcs; exact ⟨_, _, _, hcs⟩
  · simp at hcs; exact ⟨_, _, _, hcs⟩
end Go.Proofs.Ytioenakhkkejmaa
