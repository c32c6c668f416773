/- Append onto a row of the call's own from a source that is nil, empty or not. Conditions: stated in it. -/
import Derived.Test.YtaiiibbnjmjamaaGreatDoorKK
import Derived.Laws.AppendOwnNone
import Derived.Maps.AppendAt
namespace Go.Proofs.YtaiiibbnjmjamaaGreatDoor
open Go.RowKit

/-- what a source of m elements yields -/
def SrcIs (w : World) (src : Value) (size m : Nat) (news : List Value) : Prop :=
  (src = .slice none 0 0 ∧ m = 0 ∧ news = []) ∨ ∃ ad c, src = .slice (some ad) m c ∧ news.length = m * size ∧ ∀ j u, news[j]? = some u → w.cell? (ad.add j) = some u
theorem wpList_append_any {P : Program} {w : World} {ops : Array Oper} {rest : List Oper} {o : Oper} {a : Act} {Q : Exit → Act → World → Prop} (hgd : o.guard = none) (s x : Operand) (t : TypeId)
    (ho : o.op = .call { callee := .builtin .append, args := #[s, x], argTypes := #[t, t] })
    (base : Nat) (e : TypeId) (i : TypeInfo) (z : Value) (size bytes : Nat) (ht : P.underlying t = some (.slice e)) (hi : P.info? e = some i) (hz : i.zero = some z)
    (hsize : i.size = size) (hby : i.bytes = bytes) (hzs : z.cells.size = size) (hsz : 0 < size)
    (v : Value) (n : Nat) (xs : List Value) (hs : a.eval s = v) (hown : w.ownsRow base e size v n xs)
    (src : Value) (m : Nat) (news : List Value) (hx : a.eval x = src) (hsrc : SrcIs w src size m news) (h1 : ∀ u ∈ news, u.oneCell' = true)
    (h63 : n + m ≤ maxLen) (hbytes : (n + m) * bytes ≤ 140737488355328) (hbase : base ≤ w.heap.size)
    (h : ∀ v' w', w'.ownsRow base e size v' (n + m) (xs ++ news) → w.grownBy w' v.ownBlock → wpList P ops Q rest (a.put o.dst v') w') : wpList P ops Q (o :: rest) a w := by
  rcases hsrc with ⟨h2, rfl, rfl⟩ | ⟨ad, c, h2, h3, h4⟩
  · rw [h2] at hx
    exact wpList_append_own_none hgd s x t ho base e i size ht hi v n xs hs hown hx (h v w (by simpa using hown) (World.grownBy.refl w _))
  · rw [h2] at hx
    exact wpList_append_own w hgd s x t ho base e i z size bytes ht hi hz hsize hby hzs hsz v n xs hs hown ad m c news hx h3 h4 h1 h63 hbytes hbase fun v' w' h5 h6 _ => h v' w' h5 h6
/-- the same, and where the new row lies -/
theorem wpList_append_any_at {P : Program} {w : World} {ops : Array Oper} {rest : List Oper} {o : Oper} {a : Act} {Q : Exit → Act → World → Prop} (hgd : o.guard = none) (s x : Operand) (t : TypeId)
    (ho : o.op = .call { callee := .builtin .append, args := #[s, x], argTypes := #[t, t] })
    (base : Nat) (e : TypeId) (i : TypeInfo) (z : Value) (size bytes : Nat) (ht : P.underlying t = some (.slice e)) (hi : P.info? e = some i) (hz : i.zero = some z)
    (hsize : i.size = size) (hby : i.bytes = bytes) (hzs : z.cells.size = size) (hsz : 0 < size)
    (v : Value) (n : Nat) (xs : List Value) (hs : a.eval s = v) (hown : w.ownsRow base e size v n xs)
    (src : Value) (m : Nat) (news : List Value) (hx : a.eval x = src) (hsrc : SrcIs w src size m news) (h1 : ∀ u ∈ news, u.oneCell' = true)
    (h63 : n + m ≤ maxLen) (hbytes : (n + m) * bytes ≤ 140737488355328) (hbase : base ≤ w.heap.size)
    (h : ∀ v' w', w'.ownsRow base e size v' (n + m) (xs ++ news) → w.grownBy w' v.ownBlock → (v'.ownBlock = v.ownBlock ∨ v'.ownBlock = some w.heap.size) → wpList P ops Q rest (a.put o.dst v') w') : wpList P ops Q (o :: rest) a w := by
  rcases hsrc with ⟨h2, rfl, rfl⟩ | ⟨ad, c, h2, h3, h4⟩
  · rw [h2] at hx
    exact wpList_append_own_none hgd s x t ho base e i size ht hi v n xs hs hown hx (h v w (by simpa using hown) (World.grownBy.refl w _) (.inl rfl))
  · rw [h2] at hx
    exact wpList_append_own_at w hgd s x t ho base e i z size bytes ht hi hz hsize hby hzs hsz v n xs hs hown ad m c news hx h3 h4 h1 h63 hbytes hbase fun v' w' h5 h6 _ h7 => h v' w' h5 h6 h7
section
variable {α : Type} {k : Nat} {enc : α → List Value}
theorem flatE_take (hk : ∀ x, (enc x).length = k) : ∀ (L : List α) (j : Nat), flatE enc (L.take j) = (flatE enc L).take (j * k)
  | [], j => by simp [flatE]
  | a :: L, 0 => by simp [flatE]
  | a :: L, j + 1 => by
    have e : ∀ M : List α, flatE enc (a :: M) = enc a ++ flatE enc M := fun M => by unfold flatE; rw [List.flatMap_cons]
    rw [List.take_succ_cons, e, e, flatE_take hk L j, List.take_append, hk, Nat.succ_mul, Nat.add_sub_cancel, List.take_of_length_le (l := enc a) (by rw [hk]; omega)]
theorem flatE_drop (hk : ∀ x, (enc x).length = k) : ∀ (L : List α) (j : Nat), flatE enc (L.drop j) = (flatE enc L).drop (j * k)
  | [], j => by simp [flatE]
  | a :: L, 0 => by simp
  | a :: L, j + 1 => by
    have e : ∀ M : List α, flatE enc (a :: M) = enc a ++ flatE enc M := fun M => by unfold flatE; rw [List.flatMap_cons]
    rw [List.drop_succ_cons, e, flatE_drop hk L j, List.drop_append, hk, Nat.succ_mul, Nat.add_sub_cancel, show (enc a).drop (j * k + k) = [] from List.drop_eq_nil_of_le (by rw [hk]; omega), List.nil_append]
theorem blk_cells {w : World} {g : Nat} {cur : Array Value} {e : TypeId} {L : List α} {n : Nat} (hb : Blk w g e cur) (ht : cur.toList.take n = flatE enc L) (i : Nat) (u : Value) (h : (flatE enc L)[i]? = some u) : w.cell? ⟨g, i, none⟩ = some u := by
  rw [hb.cell, ← Array.getElem?_toList]
  rw [← ht] at h
  have hi : i < n := by
    apply Classical.byContradiction
    intro hn
    rw [List.getElem?_take_eq_none (by omega)] at h; cases h
  rw [List.getElem?_take_of_lt hi] at h
  exact h
theorem src_take (hk : ∀ x, (enc x).length = k) {w : World} {g c : Nat} {cur : Array Value} {e : TypeId} {L : List α} {j n : Nat} (hb : Blk w g e cur) (ht : cur.toList.take n = flatE enc L) (hj : j ≤ L.length) : SrcIs w (.slice (some ⟨g, 0, none⟩) j c) k j (flatE enc (L.take j)) := by
  refine .inr ⟨_, _, rfl, by rw [flatE_len hk, List.length_take, Nat.min_eq_left hj], fun i u hu => ?_⟩
  rw [Go.WideShapes.add_plain, Nat.zero_add]
  refine blk_cells hb ht i u ?_
  rw [flatE_take hk] at hu
  have hi : i < j * k := by
    apply Classical.byContradiction
    intro hn
    rw [List.getElem?_take_eq_none (by omega)] at hu; cases hu
  rwa [List.getElem?_take_of_lt hi] at hu
theorem src_drop (hk : ∀ x, (enc x).length = k) {w : World} {g c : Nat} {cur : Array Value} {e : TypeId} {L : List α} {j n : Nat} (hb : Blk w g e cur) (ht : cur.toList.take n = flatE enc L) : SrcIs w (.slice (some ⟨g, j * k, none⟩) (L.length - j) c) k (L.length - j) (flatE enc (L.drop j)) := by
  refine .inr ⟨_, _, rfl, by rw [flatE_len hk, List.length_drop], fun i u hu => ?_⟩
  rw [Go.WideShapes.add_plain]
  refine blk_cells hb ht _ u ?_
  rwa [flatE_drop hk, List.getElem?_drop] at hu
theorem src_end (hk : ∀ x, (enc x).length = k) {w : World} {g c : Nat} {L : List α} {o : Nat} : SrcIs w (.slice (some ⟨g, o, none⟩) 0 c) k 0 (flatE enc (L.drop L.length)) := by
  refine .inr ⟨_, _, rfl, by rw [flatE_len hk, List.length_drop]; simp, fun i u hu => ?_⟩
  rw [List.drop_length, flatE_nil] at hu; cases hu
theorem src_nil {w : World} : SrcIs w (.slice none 0 0) k 0 (flatE enc ([] : List α)) := .inl ⟨rfl, rfl, rfl⟩
theorem one_flat (h : ∀ x, ∀ u ∈ enc x, u.oneCell' = true) (L : List α) : ∀ u ∈ flatE enc L, u.oneCell' = true := by
  intro u hu
  unfold flatE at hu
  obtain ⟨x, _, hx⟩ := List.mem_flatMap.1 hu
  exact h x u hx
end
end Go.Proofs.YtaiiibbnjmjamaaGreatDoor
