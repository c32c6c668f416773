/- Words for rows: an argument that is a slice of ints whose room is known. Conditions: none. -/
import Derived.Test.YtiilljcnikgeaaaDoorKRow
import Derived.Test.YtiilljcnikgeaaaDoorCMk
namespace Go.Proofs.YtiilljcnikgeaaaDoor
open Go.ChangeShapes Go.WideShapes Go.ChangeAt Go.RowKit

theorem intsc_of {H : Type} {enc : TypeId × Value → H} {P : Program} {W : World} {base : Nat} {spare : Nat → Bool} {held : Bool} {t e : TypeId} {a : Option Addr} {len cap : Nat} {d : DataW H} {p : List MemPlace} (ht : P.underlying t = some (.slice e)) (he : P.underlying e = some (.int .i64)) (hc : P.cellsOf e = 1)
    (h : DataW.Trod enc P W base spare held t (.slice a len cap) d p) : ∃ zs, IsIntsC W (.slice a len cap) zs ∧ InR zs := by
  obtain ⟨zs, h1, h2⟩ := ints_of ht he hc h
  have hlc : len ≤ cap := by
    obtain ⟨fuel, hf⟩ := h
    rcases open_ints ht he hc hf with ⟨hcs, hx⟩ | ⟨a', len', cap', zs', hcs, _, hl, hm, hz, hx, hcell, hw⟩
    · simp [Value.cells] at hcs
      obtain ⟨rfl, rfl, rfl⟩ := hcs
      exact Nat.le_refl _
    · simp [Value.cells] at hcs
      obtain ⟨rfl, rfl, rfl⟩ := hcs
      exact hl
  have hlen : len = zs.length := by
    rcases h1 with ⟨a', cap', e1, rfl⟩ | ⟨b, off, cap', e1, _⟩
    · cases e1; rfl
    · cases e1; rfl
  exact ⟨zs, ⟨h1, a, cap, by rw [hlen], by omega⟩, h2⟩
end Go.Proofs.YtiilljcnikgeaaaDoor
