/- A table of tables of integers that reads as a known datum: its cells. Conditions: none. -/
import Derived.Lib.LaidTab
namespace Go.Proofs.YtaiiibbnjmjamaaGreatDoor
open Go.Lib

theorem cell_of_grid {H : Type} {enc : TypeId × Value → H} {P : Program} {w : World} {base : Nat} {sp : Nat → Bool} {held : Bool} {fuel : Nat} {t r e : TypeId} {m n : Nat} {k : IntKind} {cs : List Value} {rows : List (List Int)} {p : List MemPlace}
    (ht : P.underlying t = some (.array m r)) (hr : P.underlying r = some (.array n e)) (he : P.underlying e = some (.int k)) (hce : P.cellsOf e = 1) (hcr : P.cellsOf r = n) (hct : P.cellsOf t = m * n)
    (h : DataW.trod enc P w base sp held fuel t cs = some (.agg (rows.map (tabData k)), p)) (i j : Nat) (hi : i < m) (hj : j < n) : cs[i * n + j]? = some (.int k ((rows.getD i []).getD j 0)) := by
  cases fuel with
  | zero => simp [DataW.trod] at h
  | succ fuel =>
    simp only [DataW.trod, ht, hcr] at h
    split at h
    · rename_i hl
      obtain ⟨xs, hm, hx⟩ := Option.map_eq_some_iff.1 h
      have hxs : xs.map (·.1) = rows.map (tabData k) := by
        have := congrArg Prod.fst hx
        simpa using this
      obtain ⟨b, hb, hf⟩ := mapM_at hm i i (by simp [hi])
      have h2 : (xs.map (·.1))[i]? = some b.1 := by simp [hb]
      rw [hxs] at h2
      simp only [List.getElem?_map, Option.map_eq_some_iff] at h2
      obtain ⟨row, hrow, hrb⟩ := h2
      have hc := cells_of_tab hr he hce hcr (zs := row) (p := b.2) (by rw [hrb]; exact hf)
      have hg : rows.getD i [] = row := by simp [List.getD, hrow]
      rw [hg]
      have hlen := congrArg List.length hc
      have h1 := congrArg (·[j]?) hc
      simp only [List.getElem?_map] at h1
      rw [List.getElem?_take_of_lt hj, List.getElem?_drop] at h1
      rw [h1]
      have hjr : j < row.length := by
        have hmn : (i + 1) * n ≤ m * n := Nat.mul_le_mul_right n hi
        rw [Nat.succ_mul] at hmn
        have hl' : cs.length = m * n := by simpa [hct] using hl
        simp at hlen
        omega
      simp [List.getD, hjr]
    · cases h
end Go.Proofs.YtaiiibbnjmjamaaGreatDoor
