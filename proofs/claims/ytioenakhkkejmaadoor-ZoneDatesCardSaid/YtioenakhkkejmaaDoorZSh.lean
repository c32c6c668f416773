/- Zones in memory: a slice of shifts. Conditions: none. -/
import Derived.Test.YtioenakhkkejmaaDoorKBlk
import Derived.Test.YtioenakhkkejmaaDoorZPlain
import Derived.Test.YtioenakhkkejmaaDoorZNum
namespace Go.Proofs.YtioenakhkkejmaaDoor
open Go.RowKit

/-- the slice v reads as the shifts l -/
def IsSh (w : World) (v : Value) (l : Sh) : Prop :=
  (∃ a cap, v = .slice a 0 cap ∧ l = []) ∨ ∃ b off cap, v = .slice (some ⟨b, off, none⟩) l.length cap ∧ b < w.heap.size ∧ l.length ≤ maxLen ∧
    ∀ j, j < l.length → w.cell? ⟨b, off + j * 2, none⟩ = some (.int .i64 (l[j]?.getD (0, 0)).1) ∧ w.cell? ⟨b, off + j * 2 + 1, none⟩ = some (.int .i64 (l[j]?.getD (0, 0)).2)
theorem IsSh.below {w w' : World} {v : Value} {l : Sh} (h : IsSh w v l) (hb : Below w.heap.size w w') : IsSh w' v l := by
  rcases h with h | ⟨b, off, cap, e, hlt, hm, hc⟩
  · exact .inl h
  · exact .inr ⟨b, off, cap, e, Nat.lt_of_lt_of_le hlt hb.size, hm, fun j hj => ⟨(hb.cell (p := ⟨b, off + j * 2, none⟩) hlt).trans (hc j hj).1, (hb.cell (p := ⟨b, off + j * 2 + 1, none⟩) hlt).trans (hc j hj).2⟩⟩
theorem IsSh.nil (w : World) : IsSh w (.slice none 0 0) [] := .inl ⟨none, 0, rfl, rfl⟩
theorem IsSh.slice {w : World} {v : Value} {l : Sh} (h : IsSh w v l) : ∃ a cap, v = .slice a l.length cap ∧ l.length ≤ maxLen := by
  rcases h with ⟨a, cap, rfl, rfl⟩ | ⟨b, off, cap, e, hlt, hm, hc⟩
  · exact ⟨a, cap, rfl, Nat.zero_le _⟩
  · exact ⟨_, cap, e, hm⟩
def encSeg (s : Seg) : Array Value := #[.agg #[.int .i64 s.f, .int .i64 s.u, .int .i64 s.o, .int .i64 s.b]]
/-- the types of the iterator's own cells -/
def segT (t : TypeId) : Bool := t == 57 || t == 38
theorem drop_next {l : Sh} {k : Nat} (h : k < l.length) : l.drop k = ((l[k]?.getD (0, 0)).1, (l[k]?.getD (0, 0)).2) :: l.drop (k + 1) := by
  rw [List.drop_eq_getElem_cons h, List.getElem?_eq_getElem h]; rfl

set_option maxHeartbeats 1000000 in
/-- segments(z): the zone is boxed; the function value captures the box -/
theorem segments_any (n : Nat) (o : Int) (v : Value) (w : World) :
    CallsIn Fence.wide n Tryd.prog 23 #[.agg #[.int .i64 o, v]] w fun e w' => e = .returned (.func (.func 35) #[] #[.pointer (some ⟨w.heap.size, 0, none⟩)]) ∧ w' = w.alloc (.cells #[.int .i64 o, v] 25) := by
  refine callsIn_of_wp Tryd.func23 rfl trivial ?_ rfl
  simp only [Tryd.ntmps23, List.size_toArray, List.length_cons, List.length_nil, Nat.reduceAdd, Nat.reduceSub, Array.replicate_succ, Array.replicate_zero, List.push_toArray, List.append_toArray, List.nil_append, List.cons_append]
  gi_wp2
  go_ret
  exact ⟨rfl, rfl⟩
end Go.Proofs.YtioenakhkkejmaaDoor
