/- copy between slices of elements of k cells, where the block written is known whole. Conditions: stated in it. -/
import Derived.Test.YtaiiibbnjmjamaaGreatDoorKApp
import Derived.Laws.CopyRow
import Derived.Lib.AppendZerosOnto
import Derived.Lib.Overlaps
import Derived.Shelf.Spec.SlicesInsert
import Derived.Laws.NewBlocks
namespace Go.Proofs.YtaiiibbnjmjamaaGreatDoor
open Go.RowKit

theorem run_copy_rowk {P : Program} (w : World) (dT sT ty elem : TypeId) (k g o dLen dCap : Nat) (a : Addr) (sLen sCap m : Nat) (cur : Array Value) (t : TypeId) (cs : List Value)
    (hu : P.underlying dT = some (.slice elem)) (hs : (P.info? elem).map (·.size) = some k)
    (hg : w.heap[g]? = some (.cells cur t (0, 0))) (hm : m = Nat.min sLen dLen) (hn : cs.length = m * k)
    (hsrc : ∀ j v, cs[j]? = some v → w.cell? (a.add j) = some v) (hfit : o + cs.length ≤ cur.size) (h1 : ∀ v ∈ cs, v.oneCell' = true) :
    (Builtin.copy_ #[dT, sT] ty #[.slice (some ⟨g, o, none⟩) dLen dCap, .slice (some a) sLen sCap]).run P w =
      .ok (goInt m) (w.setRow g (cur.toList.take o ++ cs ++ cur.toList.drop (o + cs.length)).toArray) := by
  have hl := run_loadCells_list (P := P) w a cs hsrc
  have hst := run_storeCells_at P g o t cs 0 cur w hg (by simpa using hfit) h1
  cases hq : P.info? elem with
  | none => simp [hq] at hs
  | some i =>
    have hi : i.size = k := by simpa [hq] using hs
    simp [Builtin.copy_, run_underlying hu, Builtin.lenOf, Builtin.firstCells, sizeOf, typeInfo, hq, hi, ← hm, ← hn, hl, hst]
theorem grown_setRow (w : World) (g : Nat) (cs : Array Value) : w.grownBy (w.setRow g cs) (some g) :=
  ⟨rfl, rfl, rfl, by simp, fun k _ hk => setRow_other w g k cs (fun e => hk (by rw [e]))⟩
theorem Blk.setRow {w : World} {g t : Nat} {old : Array Value} (h : Blk w g t old) (cs : Array Value) : Blk (w.setRow g cs) g t cs := setRow_heap w g old cs t (0, 0) h
theorem Blk.setRow_far {w : World} {g g' t : Nat} {old : Array Value} (h : Blk w g t old) (hne : g ≠ g') (cs : Array Value) : Blk (w.setRow g' cs) g t old := (setRow_other w g' g cs hne).trans h
/-- what stands in the block behind the two copies -/
theorem ins_cells {α : Type} {k : Nat} {enc : α → List Value} (hk : ∀ x, (enc x).length = k) (L : List α) (x : α) (i : Nat) (hi : i ≤ L.length) (c0 : List Value) (h0 : c0.take (i * k) = flatE enc (L.take i)) (hs : (L.length + 1) * k ≤ c0.length) :
    let c1 := c0.take ((i + 1) * k) ++ flatE enc (L.drop i) ++ c0.drop ((i + 1) * k + (flatE enc (L.drop i)).length)
    let c2 := c1.take (i * k) ++ enc x ++ c1.drop (i * k + (enc x).length)
    c2.length = c0.length ∧ c2.take ((L.length + 1) * k) = flatE enc (L.take i ++ x :: L.drop i) := by
  intro c1 c2
  have hd : (flatE enc (L.drop i)).length = (L.length - i) * k := by rw [flatE_len hk, List.length_drop]
  have hik : i * k ≤ (L.length) * k := Nat.mul_le_mul_right _ hi
  have e1 : (i + 1) * k = i * k + k := Nat.succ_mul ..
  have e2 : (L.length + 1) * k = L.length * k + k := Nat.succ_mul ..
  have e3 : (L.length - i) * k = L.length * k - i * k := Nat.sub_mul ..
  have hc1 : c1.length = c0.length := by
    show (c0.take _ ++ _ ++ c0.drop _).length = _
    simp only [List.length_append, List.length_take, List.length_drop, hd]
    omega
  have ht1 : c1.take (i * k) = c0.take (i * k) := by
    show (c0.take _ ++ _ ++ c0.drop _).take _ = _
    rw [List.append_assoc, List.take_append, List.take_take, List.length_take]
    rw [show min (i * k) ((i + 1) * k) = i * k by omega, show i * k - min ((i + 1) * k) c0.length = 0 by omega]
    simp
  have hd1 : c1.drop (i * k + k) = flatE enc (L.drop i) ++ c0.drop ((L.length + 1) * k) := by
    show (c0.take _ ++ _ ++ c0.drop _).drop _ = _
    rw [List.append_assoc, ← e1, List.drop_append, List.length_take, show min ((i + 1) * k) c0.length = (i + 1) * k by omega, List.drop_eq_nil_of_le (by rw [List.length_take]; omega), Nat.sub_self, List.drop_zero, List.nil_append, hd]
    congr 2
    omega
  have hcc : c2 = flatE enc (L.take i) ++ (enc x ++ (flatE enc (L.drop i) ++ c0.drop ((L.length + 1) * k))) := by
    show c1.take _ ++ enc x ++ c1.drop _ = _
    rw [ht1, h0, hk, hd1]
    simp
  have hft : flatE enc (L.take i ++ x :: L.drop i) = flatE enc (L.take i) ++ (enc x ++ flatE enc (L.drop i)) := by
    rw [flatE_append]
    congr 1
  refine ⟨?_, ?_⟩
  · rw [hcc]
    simp only [List.length_append, hd, hk, flatE_len hk, List.length_take, List.length_drop]
    rw [Nat.min_eq_left hi]
    omega
  · rw [hcc, hft]
    have hl : (flatE enc (L.take i) ++ (enc x ++ flatE enc (L.drop i))).length = (L.length + 1) * k := by
      simp only [List.length_append, hd, hk, flatE_len hk, List.length_take]
      rw [Nat.min_eq_left hi]
      omega
    rw [show flatE enc (L.take i) ++ (enc x ++ (flatE enc (L.drop i) ++ c0.drop ((L.length + 1) * k))) = (flatE enc (L.take i) ++ (enc x ++ flatE enc (L.drop i))) ++ c0.drop ((L.length + 1) * k) by simp]
    rw [List.take_append, hl, Nat.sub_self, List.take_zero, List.append_nil, List.take_of_length_le (by omega)]
/-- the same where the new elements come first -/
theorem ins_cells2 {α : Type} {k : Nat} {enc : α → List Value} (hk : ∀ x, (enc x).length = k) (L : List α) (x : α) (i : Nat) (hi : i ≤ L.length) (c0 : List Value) (h0 : c0.take (i * k) = flatE enc (L.take i)) (hs : (L.length + 1) * k ≤ c0.length) :
    let c1 := c0.take (i * k) ++ enc x ++ c0.drop (i * k + (enc x).length)
    let c2 := c1.take ((i + 1) * k) ++ flatE enc (L.drop i) ++ c1.drop ((i + 1) * k + (flatE enc (L.drop i)).length)
    c1.length = c0.length ∧ c2.length = c0.length ∧ c2.take ((L.length + 1) * k) = flatE enc (L.take i ++ x :: L.drop i) := by
  intro c1 c2
  have hd : (flatE enc (L.drop i)).length = (L.length - i) * k := by rw [flatE_len hk, List.length_drop]
  have hik : i * k ≤ (L.length) * k := Nat.mul_le_mul_right _ hi
  have e1 : (i + 1) * k = i * k + k := Nat.succ_mul ..
  have e2 : (L.length + 1) * k = L.length * k + k := Nat.succ_mul ..
  have e3 : (L.length - i) * k = L.length * k - i * k := Nat.sub_mul ..
  have ha : (c0.take (i * k) ++ enc x).length = (i + 1) * k := by
    rw [List.length_append, List.length_take, hk]; omega
  have hc1 : c1.length = c0.length := by
    show (c0.take _ ++ _ ++ c0.drop _).length = _
    simp only [List.length_append, List.length_take, List.length_drop, hk]
    omega
  have ht1 : c1.take ((i + 1) * k) = c0.take (i * k) ++ enc x := by
    show ((c0.take _ ++ _) ++ c0.drop _).take _ = _
    rw [List.take_append, ha, Nat.sub_self, List.take_zero, List.append_nil, List.take_of_length_le (by omega)]
  have hcc : c2 = (flatE enc (L.take i) ++ (enc x ++ flatE enc (L.drop i))) ++ c1.drop ((i + 1) * k + (flatE enc (L.drop i)).length) := by
    show c1.take _ ++ flatE enc (L.drop i) ++ c1.drop _ = _
    rw [ht1, h0]
    simp
  have hft : flatE enc (L.take i ++ x :: L.drop i) = flatE enc (L.take i) ++ (enc x ++ flatE enc (L.drop i)) := by
    rw [flatE_append]
    congr 1
  have hl : (flatE enc (L.take i) ++ (enc x ++ flatE enc (L.drop i))).length = (L.length + 1) * k := by
    simp only [List.length_append, hd, hk, flatE_len hk, List.length_take]
    rw [Nat.min_eq_left hi]
    omega
  refine ⟨hc1, ?_, ?_⟩
  · rw [hcc, List.length_append, hl, List.length_drop, hd, hc1]
    omega
  · rw [hcc, hft, List.take_append, hl, Nat.sub_self, List.take_zero, List.append_nil, List.take_of_length_le (by omega)]
theorem setCells_row {P : Program} {w : World} {g o t : Nat} {cur : Array Value} {vs : List Value} (h : Blk w g t cur) (hfit : o + vs.length ≤ cur.size) (h1 : ∀ v ∈ vs, v.oneCell' = true) :
    w.setCells g o vs = w.setRow g (cur.toList.take o ++ vs ++ cur.toList.drop (o + vs.length)).toArray := by
  have a := run_storeCells_at P g o t vs 0 cur w h (by simpa using hfit) h1
  have b := run_storeCells_cells (P := P) g o vs 0 w (fun j hj => by rw [Nat.add_zero, h.cell]; rw [Array.getElem?_eq_getElem (by omega)]; rfl) (fun j hj => h.frozen _) h1
  rw [a] at b
  injection b with _ b
  rw [Nat.add_zero] at b
  exact b.symm.trans (by rfl)
theorem run_clear_one {P : Program} {w : World} {g o c : Nat} {t e ty bt : TypeId} {z : Value} {cur : Array Value} (hu : P.underlying t = some (.slice e)) (hz : ∀ w, (zeroValue e).run P w = .ok z w) (h : Blk w g bt cur) (hfit : o + z.cells.size ≤ cur.size) (h1 : ∀ v ∈ z.cells.toList, v.oneCell' = true) :
    (Builtin.clear_ #[t] ty #[.slice (some ⟨g, o, none⟩) 1 c]).run P w = .ok (.tuple #[]) (w.setRow g (cur.toList.take o ++ z.cells.toList ++ cur.toList.drop (o + z.cells.size)).toArray) := by
  have hc : (Builtin.zeroCells z.cells 1).toList = z.cells.toList := by
    apply List.ext_getElem?
    intro j
    simp only [Builtin.zeroCells, Nat.one_mul, Array.toList_map, Array.toList_range, List.getElem?_map]
    by_cases hj : j < z.cells.size
    · rw [List.getElem?_range hj]
      simp [Nat.mod_eq_of_lt hj, Array.getElem?_eq_getElem hj, getElem!_pos z.cells j hj]
    · rw [List.getElem?_eq_none (by simpa using hj), List.getElem?_eq_none (by simpa using hj)]; rfl
  have hst := run_storeCells_at P g o bt z.cells.toList 0 cur w h (by simpa using hfit) h1
  simp [Builtin.clear_, run_underlying hu, hz, hc, hst]
end Go.Proofs.YtaiiibbnjmjamaaGreatDoor
