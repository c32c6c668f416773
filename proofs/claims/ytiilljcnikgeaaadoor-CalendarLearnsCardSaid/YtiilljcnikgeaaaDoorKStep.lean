/- Append onto a row of the call's own that is not nil, from a source that is nil, empty or not, at a step of a region that draws its order. Conditions: stated in it. -/
import Derived.Test.YtiilljcnikgeaaaDoorKApp
import Derived.Deep.AppendLies
namespace Go.Proofs.YtiilljcnikgeaaaDoor
open Go.RowKit

theorem row_empty {w : World} {g : Nat} {e : TypeId} {size : Nat} (h : Blk w g e #[]) : w.ownsRow g e size (.slice (some ⟨g, 0, none⟩) 0 0) 0 [] :=
  ⟨by simp, .inr ⟨g, 0, #[], rfl, Nat.le_refl _, h, Nat.le_refl _, Nat.zero_le _, by simp, by simp⟩⟩
theorem run_append_some {P : Program} {w : World} (t ty : TypeId) (base : Nat) (e : TypeId) (i : TypeInfo) (z : Value) (size bytes : Nat) (ht : P.underlying t = some (.slice e)) (hi : P.info? e = some i) (hz : i.zero = some z)
    (hsize : i.size = size) (hby : i.bytes = bytes) (hzs : z.cells.size = size) (hsz : 0 < size)
    (g0 cap0 : Nat) (n : Nat) (xs : List Value) (hown : w.ownsRow base e size (.slice (some ⟨g0, 0, none⟩) n cap0) n xs)
    (src : Value) (m : Nat) (news : List Value) (hsrc : SrcIs w src size m news) (h1 : ∀ u ∈ news, u.oneCell' = true)
    (h63 : n + m ≤ maxLen) (hbytes : (n + m) * bytes ≤ 140737488355328) (hbase : base ≤ w.heap.size) :
    ∃ g cap w', (Builtin.append_ #[t, t] ty #[.slice (some ⟨g0, 0, none⟩) n cap0, src]).run P w = .ok (.slice (some ⟨g, 0, none⟩) (n + m) cap) w' ∧
      w'.ownsRow base e size (.slice (some ⟨g, 0, none⟩) (n + m) cap) (n + m) (xs ++ news) ∧ w.grownBy w' (some g0) ∧ (g = g0 ∨ g = w.heap.size) ∧ g < w'.heap.size := by
  have key : ∀ (v' : Value) (w' : World), w'.ownsRow base e size v' (n + m) (xs ++ news) → v' ≠ .slice none 0 0 → (v'.ownBlock = some g0 ∨ v'.ownBlock = some w.heap.size) → ∃ g cap, v' = .slice (some ⟨g, 0, none⟩) (n + m) cap ∧ (g = g0 ∨ g = w.heap.size) ∧ g < w'.heap.size := by
    intro v' w' h2 h4 h5
    rcases h2.2 with ⟨h6, _⟩ | ⟨g, cap, cur, hv, hb, hg, _⟩
    · exact absurd h6 h4
    · subst hv
      refine ⟨g, cap, rfl, ?_, (Array.getElem?_eq_some_iff.1 hg).1⟩
      rcases h5 with h5 | h5
      · exact .inl (by simpa [Value.ownBlock] using h5)
      · exact .inr (by simpa [Value.ownBlock] using h5)
  rcases hsrc with ⟨h1', h2', h3'⟩ | ⟨ad, c, h2', h3, h4⟩
  · have hr := run_append_owned_none (P := P) (w := w) base t ty e i size ht hi (.slice (some ⟨g0, 0, none⟩) n cap0) n xs hown
    have hown' : w.ownsRow base e size (.slice (some ⟨g0, 0, none⟩) n cap0) (n + m) (xs ++ news) := by rw [h2', h3', Nat.add_zero, List.append_nil]; exact hown
    obtain ⟨g, cap, hv, h5, h6⟩ := key (.slice (some ⟨g0, 0, none⟩) n cap0) w hown' (fun h => by cases h) (.inl rfl)
    rw [h1']
    rw [hv] at hr hown'
    refine ⟨g, cap, w, ?_, hown', World.grownBy.refl w _, h5, h6⟩
    rw [hv]; exact hr
  · rw [h2']
    obtain ⟨v', w', hr, h5, h6, h7, h8⟩ := run_append_own_at (P := P) w base t ty e i z size bytes ht hi hz hsize hby hzs hsz _ n xs hown ad m c news h3 h4 h1 h63 hbytes hbase
    obtain ⟨g, cap, rfl, h9, h10⟩ := key v' w' h5 (fun h => by have := h7.1 h; cases this.1) h8
    exact ⟨g, cap, w', hr, h5, h6, h9, h10⟩
theorem step_append_some {P : Program} {w : World} {ops : Array Oper} {o : Oper} {a : Act} {K : Act → World → Prop} {Q : Exit → Act → World → Prop} {E : Prop} (hgd : o.guard = none) (s x : Operand) (t : TypeId)
    (ho : o.op = .call { callee := .builtin .append, args := #[s, x], argTypes := #[t, t] })
    (base : Nat) (e : TypeId) (i : TypeInfo) (z : Value) (size bytes : Nat) (ht : P.underlying t = some (.slice e)) (hi : P.info? e = some i) (hz : i.zero = some z)
    (hsize : i.size = size) (hby : i.bytes = bytes) (hzs : z.cells.size = size) (hsz : 0 < size)
    (g0 cap0 : Nat) (n : Nat) (xs : List Value) (hs : a.eval s = .slice (some ⟨g0, 0, none⟩) n cap0) (hown : w.ownsRow base e size (.slice (some ⟨g0, 0, none⟩) n cap0) n xs)
    (src : Value) (m : Nat) (news : List Value) (hx : a.eval x = src) (hsrc : SrcIs w src size m news) (h1 : ∀ u ∈ news, u.oneCell' = true)
    (h63 : n + m ≤ maxLen) (hbytes : (n + m) * bytes ≤ 140737488355328) (hbase : base ≤ w.heap.size)
    (h : ∀ g cap w', w'.ownsRow base e size (.slice (some ⟨g, 0, none⟩) (n + m) cap) (n + m) (xs ++ news) → w.grownBy w' (some g0) → (g = g0 ∨ g = w.heap.size) → g < w'.heap.size → K (a.put o.dst (.slice (some ⟨g, 0, none⟩) (n + m) cap)) w') :
    if Region.wanted o (yielded ops a.tmps) = true then Oper.wp P o a w K Q else E := by
  have hw : Region.wanted o (yielded ops a.tmps) = true := by simp [Region.wanted, hgd]
  rw [if_pos hw]
  obtain ⟨g, cap, w', hr, h2, h3, h4, h5⟩ := run_append_some (P := P) (w := w) t o.type base e i z size bytes ht hi hz hsize hby hzs hsz g0 cap0 n xs hown src m news hsrc h1 h63 hbytes hbase
  unfold Oper.wp execOp
  simp only [ho, resolve, invoke, builtin, Sem.run_bind, Sem.run_pure, Result.andThen_ok, List.map_toArray, List.map_cons, List.map_nil, hs, hx, hr]
  exact h g cap w' h2 h3 h4 h5
end Go.Proofs.YtiilljcnikgeaaaDoor
