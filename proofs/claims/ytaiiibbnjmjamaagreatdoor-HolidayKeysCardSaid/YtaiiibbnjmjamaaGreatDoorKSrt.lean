/- A row of elements of k cells each that the call owns, in the words of the library's sort; ints likewise. Conditions: none. -/
import Derived.Test.YtaiiibbnjmjamaaGreatDoorKK
import Derived.Sort.OwnSortedInts
import Derived.Shelf.SlSortCmp.InsertionK
namespace Go.Proofs.YtaiiibbnjmjamaaGreatDoor
open Go.RowKit Go.Sort Go.Lib

section
variable {α : Type} [Inhabited α] {k : Nat} {enc : α → List Value}
theorem flatK_list (hk : ∀ x, (enc x).length = k) (l : List α) : (flatK enc k l.toArray).toList = flatE enc l := by
  apply List.ext_getElem?
  intro t
  by_cases ht : t < l.length * k
  · have k0 : 0 < k := by rcases Nat.eq_zero_or_pos k with h | h; · subst h; simp at ht
                          · exact h
    have hj : t / k < l.length := by rw [Nat.div_lt_iff_lt_mul k0]; exact ht
    have hi : t % k < k := Nat.mod_lt _ k0
    have h1 := flatE_at hk l (t / k) (l[t / k]) (by rw [List.getElem?_eq_getElem hj]) (t % k) ((enc l[t / k])[t % k]'(by rw [hk]; exact hi)) (by rw [List.getElem?_eq_getElem])
    rw [show t / k * k + t % k = t from Nat.div_add_mod' t k] at h1
    rw [h1, Array.getElem?_toList]
    have h2 : t < (flatK enc k l.toArray).size := by simpa using ht
    rw [Array.getElem?_eq_getElem h2, ← getElem!_pos _ t h2, get_flatK _ _ _ _ (by simpa using ht)]
    have e1 : l.toArray[t / k]! = l[t / k] := by rw [getElem!_pos _ _ (by simpa using hj)]; simp
    rw [e1, getElem!_pos _ _ (by rw [hk]; exact hi)]
  · rw [List.getElem?_eq_none (by simpa using ht), List.getElem?_eq_none (by rw [flatE_len hk]; omega)]
theorem holdsK_of_row {w : World} {g : Nat} {cur : Array Value} {e : TypeId} {l : List α} (hk : ∀ x, (enc x).length = k) (hb : w.heap[g]? = some (.cells cur e (0, 0))) (ht : cur.toList.take (l.length * k) = flatE enc l) : HoldsK enc k w g 0 l.toArray := by
  intro j hj
  have hj' : j < l.length * k := by simpa using hj
  refine ⟨?_, by simp [World.frozen?, hb]⟩
  have h1 : (cur.toList.take (l.length * k))[j]? = (flatE enc l)[j]? := by rw [ht]
  rw [List.getElem?_take_of_lt hj'] at h1
  simp only [World.cell?, hb, Nat.zero_add]
  simp only [Option.isSome_none, Bool.false_eq_true, if_false]
  rw [← Array.getElem?_toList, h1, ← flatK_list hk, Array.getElem?_toList, Array.getElem?_eq_getElem hj, ← getElem!_pos _ j hj]
  rfl
theorem heap_sortK {w : World} {g n : Nat} {os : Array Obj} {cur : Array Value} {e : TypeId} {fr : Nat × Nat} (d : Array α) (hb : w.heap[g]? = some (.cells cur e fr)) :
    (sortWorldK enc k w g 0 n d os).heap[g]? = some (.cells (putCells id 0 (flatK enc k d) cur) e fr) := by
  have hg : g < w.heap.size := (Array.getElem?_eq_some_iff.1 hb).1
  unfold sortWorldK putRowK
  rw [heap_grow_old _ _ (by simpa using hg)]
  simp [putRow, mapBlock, Sort.ahead, Array.getElem?_modify, hb, onCells]
theorem grownBy_sortK {w : World} {g n : Nat} {os : Array Obj} (d : Array α) : w.grownBy (sortWorldK enc k w g 0 n d os) (some g) := by
  unfold sortWorldK putRowK
  refine ⟨rfl, rfl, rfl, by simp, fun k hk hne => ?_⟩
  rw [heap_grow_old _ _ (by simpa using hk)]
  have : g ≠ k := fun e => hne (by rw [e])
  simp [putRow, mapBlock, Sort.ahead, Array.getElem?_modify, this]
theorem take_putK (cur : Array Value) (F : Array Value) (h : F.size ≤ cur.size) : (putCells id 0 F cur).toList.take F.size = F.toList := by
  apply List.ext_getElem?
  intro j
  by_cases hj : j < F.size
  · rw [List.getElem?_take_of_lt hj, Array.getElem?_toList]
    simp [putCells, hj, show j < cur.size by omega]
  · rw [List.getElem?_take_eq_none (by omega), List.getElem?_eq_none (by simp; omega)]
/-- behind the sort the same slice owns the sorted list -/
theorem ownsRow_sortK {w : World} {base g cap n : Nat} {e : TypeId} {os : Array Obj} {cur : Array Value} {ss ts : List α} (hk : ∀ x, (enc x).length = k) (hl : ts.length = ss.length) (hbase : base ≤ g) (hb : w.heap[g]? = some (.cells cur e (0, 0)))
    (h1 : ss.length ≤ cap) (h2 : cap ≤ maxLen) (h3 : cur.size = cap * k) :
    (sortWorldK enc k w g 0 n ts.toArray os).ownsRow base e k (.slice (some ⟨g, 0, none⟩) ss.length cap) ss.length (flatE enc ts) := by
  refine ⟨by rw [flatE_len hk, hl], .inr ⟨g, cap, _, rfl, hbase, heap_sortK _ hb, h1, h2, by simp [putCells, h3], ?_⟩⟩
  have hs : (flatK enc k ts.toArray).size = ss.length * k := by simp [hl]
  have hle : (flatK enc k ts.toArray).size ≤ cur.size := by rw [hs, h3]; exact Nat.mul_le_mul_right k h1
  rw [← hs, take_putK cur _ hle, flatK_list hk]
end
/-- ints in order -/
def sortI (zs : List Int) : List Int := zs.mergeSort fun x y => decide (x ≤ y)
theorem sortI_len (zs : List Int) : (sortI zs).length = zs.length := List.length_mergeSort _
end Go.Proofs.YtaiiibbnjmjamaaGreatDoor
