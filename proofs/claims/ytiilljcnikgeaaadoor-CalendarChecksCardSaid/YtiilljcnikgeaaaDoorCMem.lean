/- Calendars in memory; the walks of within. Conditions: none. -/
import Derived.Test.YtiilljcnikgeaaaDoorCPlw
import Derived.Test.YtiilljcnikgeaaaDoorKK
import Derived.Test.YtiilljcnikgeaaaDoorZAll
namespace Go.Proofs.YtiilljcnikgeaaaDoor
open Go.RowKit

/-- a closure's cells -/
def encC (x : Clo) : List Value := [.int .i64 x.fr, .int .i64 x.un, .int .i64 x.kn]
theorem encC_len (x : Clo) : (encC x).length = 3 := rfl
abbrev IsClos (w : World) (v : Value) (l : List Clo) : Prop := IsRow 3 encC w v l
abbrev cellsC (c : Cal) (vh vc vs : Value) : Array Value := #[.bool (c.we 0), .bool (c.we 1), .bool (c.we 2), .bool (c.we 3), .bool (c.we 4), .bool (c.we 5), .bool (c.we 6), vh, vc, .int .i64 c.o, vs, .int .i64 c.hr]
abbrev aggC (c : Cal) (vh vc vs : Value) : Value := .agg #[.bool (c.we 0), .bool (c.we 1), .bool (c.we 2), .bool (c.we 3), .bool (c.we 4), .bool (c.we 5), .bool (c.we 6), vh, vc, .int .i64 c.o, vs, .int .i64 c.hr]
/-- a calendar in memory, whose rules are valid -/
structure CalIn (w : World) (vh vc vs : Value) (c : Cal) : Prop where
  ih : IsHols w vh c.hs
  ic : IsClos w vc c.cl
  is : IsSh w vs c.sh
  hv : ∀ x, x ∈ c.hs → hvB x = true
  hl : c.hs.length < 20
theorem CalIn.below {w w' : World} {vh vc vs : Value} {c : Cal} (h : CalIn w vh vc vs c) (hb : Below w.heap.size w w') : CalIn w' vh vc vs c :=
  ⟨h.ih.below hb, h.ic.below hb, h.is.below hb, h.hv, h.hl⟩
theorem CalIn.alloc {w : World} {vh vc vs : Value} {c : Cal} (h : CalIn w vh vc vs c) (o : Obj) : CalIn (w.alloc o) vh vc vs c := h.below (bl_alloc w o)
theorem we_cell (c : Cal) (vh vc vs : Value) (d : Int) : (cellsC c vh vc vs)[(d % 7).toNat]? = some (.bool (c.we (d % 7).toNat)) := by
  have h : (d % 7).toNat < 7 := by omega
  generalize (d % 7).toNat = q at *
  match q, h with
  | 0, _ => rfl
  | 1, _ => rfl
  | 2, _ => rfl
  | 3, _ => rfl
  | 4, _ => rfl
  | 5, _ => rfl
  | 6, _ => rfl
theorem IsClos.at {w : World} {b off : Nat} {l : List Clo} (hc : ∀ j x, l[j]? = some x → ∀ i u, (encC x)[i]? = some u → w.cell? ⟨b, off + j * 3 + i, none⟩ = some u) {k : Nat} {x : Clo} (hk : l[k]? = some x) :
    w.cell? ⟨b, off + k * 3, none⟩ = some (.int .i64 x.fr) ∧ w.cell? ⟨b, off + k * 3 + 1, none⟩ = some (.int .i64 x.un) ∧ w.cell? ⟨b, off + k * 3 + 2, none⟩ = some (.int .i64 x.kn) :=
  ⟨hc k x hk 0 _ rfl, hc k x hk 1 _ rfl, hc k x hk 2 _ rfl⟩
/-- where a row lies, once it has an element -/
theorem IsRow.open {α : Type} {k : Nat} {enc : α → List Value} {w : World} {v : Value} {l : List α} (hv : IsRow k enc w v l) : ∃ pa cap, v = .slice pa l.length cap ∧ l.length ≤ maxLen ∧ (0 < l.length → ∃ b off, pa = some ⟨b, off, none⟩ ∧ b < w.heap.size ∧ ∀ j x, l[j]? = some x → ∀ i u, (enc x)[i]? = some u → w.cell? ⟨b, off + j * k + i, none⟩ = some u) := by
  rcases hv with ⟨a, cap, rfl, rfl⟩ | ⟨b, off, cap, rfl, hlt, hm, hc⟩
  · exact ⟨a, cap, rfl, Nat.zero_le _, fun h => absurd h (by simp)⟩
  · exact ⟨_, cap, rfl, hm, fun _ => ⟨b, off, rfl, hlt, hc⟩⟩
set_option maxHeartbeats 400000 in
theorem cwithin_any (n : Int) (w : World) : Calls Tryd.prog 30 #[.int .i64 n] w (Pur (.bool (inD n)) w) := by
  by_cases h : 0 ≤ n
  · go_enter Tryd.func30, Tryd.ntmps30
    go_wp2
    go_ret
    exact ⟨ret_bool (by unfold inD; simp [h]), rfl⟩
  · go_enter Tryd.func30, Tryd.ntmps30
    go_wp2
    go_ret
    exact ⟨ret_bool (by unfold inD; rw [decide_eq_false (by omega)]; rfl), rfl⟩
set_option maxHeartbeats 400000 in
theorem crwithin_any (n : Int) (w : World) : Calls Tryd.prog 33 #[.int .i64 n] w (Pur (.bool (inD n)) w) := by
  by_cases h : 0 ≤ n
  · go_enter Tryd.func33, Tryd.ntmps33
    go_wp2
    go_ret
    exact ⟨ret_bool (by unfold inD; simp [h]), rfl⟩
  · go_enter Tryd.func33, Tryd.ntmps33
    go_wp2
    go_ret
    exact ⟨ret_bool (by unfold inD; rw [decide_eq_false (by omega)]; rfl), rfl⟩
end Go.Proofs.YtiilljcnikgeaaaDoor
