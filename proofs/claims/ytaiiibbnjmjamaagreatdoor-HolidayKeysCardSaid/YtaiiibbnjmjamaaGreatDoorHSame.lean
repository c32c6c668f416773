/- The cells of a list of named days. -/
import Derived.Test.YtaiiibbnjmjamaaGreatDoorHArr
import Derived.Laws.StructEq
namespace Go.Proofs.YtaiiibbnjmjamaaGreatDoor
open Go.RowKit
theorem IsNs.at {w : World} {b off : Nat} {l : List (Int × Int)} (hc : ∀ j x, l[j]? = some x → ∀ i u, (encN x)[i]? = some u → w.cell? ⟨b, off + j * 2 + i, none⟩ = some u) {k : Nat} {p : Int × Int} (hk : l[k]? = some p) :
    w.cell? ⟨b, off + k * 2, none⟩ = some (.int .i64 p.1) ∧ w.cell? ⟨b, off + k * 2 + 1, none⟩ = some (.int .i64 p.2) := ⟨hc k p hk 0 _ rfl, hc k p hk 1 _ rfl⟩
end Go.Proofs.YtaiiibbnjmjamaaGreatDoor
