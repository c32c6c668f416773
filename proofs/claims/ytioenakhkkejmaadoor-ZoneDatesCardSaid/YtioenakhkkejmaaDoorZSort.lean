/- slices.Sort on a slice of ints that the call has made. Conditions: fewer than 2^62 elements. -/
import Derived.Test.YtioenakhkkejmaaDoorZLoc
import Derived.Sort.OwnSortedInts
import Derived.Test.YtioenakhkkejmaaDoorShelf
namespace Go.Proofs.YtioenakhkkejmaaDoor
open Go.RowKit

def sortI (zs : List Int) : List Int := zs.mergeSort fun x y => decide (x ≤ y)
theorem sortI_len (zs : List Int) : (sortI zs).length = zs.length := List.length_mergeSort _
theorem sortI_self {zs : List Int} (h : zs.Pairwise (· < ·)) : sortI zs = zs :=
  List.mergeSort_of_pairwise (h.imp fun h => decide_eq_true (Int.le_of_lt h))
def SortPost (B : Nat) (v : Value) (zs : List Int) (w : World) (e : Ending) (w' : World) : Prop :=
  e = .returned (.tuple #[]) ∧ w'.ownsRow B 3 1 v zs.length ((sortI zs).map (Value.int .i64)) ∧ w.grownBy w' v.ownBlock
theorem sort_row {B : Nat} {v : Value} {zs : List Int} {w : World} (hrow : w.ownsRow B 3 1 v zs.length (zs.map (Value.int .i64))) (hl : zs.length < 4611686018427387904) :
    Calls Tryd.prog 34 #[v] w (SortPost B v zs w) := by
  rcases hrow.2 with ⟨h1, h2⟩ | ⟨g, cap', cur, h1, hg, hh, hn, hcap, hsz, htake⟩
  · obtain rfl : zs = [] := List.length_eq_zero_iff.1 (by simpa using h2)
    rw [h1] at hrow ⊢
    refine (Tryd.slices_Sort_int_none _ _ _).mono ?_
    rintro e w' ⟨rfl, rfl⟩
    exact ⟨rfl, by rw [show sortI [] = [] from List.length_eq_zero_iff.1 (sortI_len [])]; exact hrow, ⟨rfl, rfl, rfl, Nat.le_refl _, fun _ _ _ => rfl⟩⟩
  · subst h1
    rw [Nat.mul_one] at htake
    refine (Tryd.slices_Sort_int g 0 cap' zs w (Go.holds_of_blockI hh htake) (Array.getElem?_eq_some_iff.1 hh).1 hl).mono ?_
    rintro e w' ⟨rfl, n, os, rfl⟩
    exact ⟨rfl, Go.ownsRow_sortedI (sortI_len zs) hg hh hn hcap hsz, Go.grownBy_sortedI _⟩
end Go.Proofs.YtioenakhkkejmaaDoor
