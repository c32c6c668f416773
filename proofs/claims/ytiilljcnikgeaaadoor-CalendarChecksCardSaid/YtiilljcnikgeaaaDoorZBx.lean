/- A zone in a box; the gaps of a zone, shift by shift. Conditions: none. -/
import Derived.Test.YtiilljcnikgeaaaDoorZZone
import Derived.Test.YtiilljcnikgeaaaDoorZRes
import Derived.Test.YtiilljcnikgeaaaDoorZChk
namespace Go.Proofs.YtiilljcnikgeaaaDoor
open Go.RowKit

/-- a zone in a box -/
def ZBox (W : World) (B : Nat) (o : Int) (v : Value) (sh : Sh) : Prop := (W.cell? ⟨B, 0, none⟩ = some (.int .i64 o) ∧ W.cell? ⟨B, 1, none⟩ = some v) ∧ B < W.heap.size ∧ IsSh W v sh
theorem ZBox.below {W W' : World} {B o v sh} (h : ZBox W B o v sh) (hb : Below W.heap.size W W') : ZBox W' B o v sh :=
  ⟨⟨(hb.cell (p := ⟨B, 0, none⟩) h.2.1).trans h.1.1, (hb.cell (p := ⟨B, 1, none⟩) h.2.1).trans h.1.2⟩, Nat.lt_of_lt_of_le h.2.1 hb.size, h.2.2.below hb⟩
theorem ZBox.new {w : World} {o : Int} {v : Value} {sh : Sh} (hI : IsSh w v sh) : ZBox (w.alloc (.cells #[.int .i64 o, v] 28)) w.heap.size o v sh :=
  ⟨⟨(Blk.new _ _ _).cell 0, (Blk.new _ _ _).cell 1⟩, by simp, hI.below (bl_alloc _ _)⟩
theorem ZBox.up {W : World} {B o v sh} (h : ZBox W B o v sh) : (∀ u : UpW W, u.w.cell? ⟨B, 0, none⟩ = some (.int .i64 o)) ∧ (∀ u : UpW W, u.w.cell? ⟨B, 1, none⟩ = some v) ∧ ∀ u : UpW W, IsSh u.w v sh :=
  ⟨fun u => (h.below u.h).1.1, fun u => (h.below u.h).1.2, fun u => (h.below u.h).2.2⟩

theorem IsSh.at {w : World} {a : Option Addr} {n cap : Nat} {l : Sh} (h : IsSh w (.slice a n cap) l) {k : Nat} (hk : k < l.length) : ∃ b off, a = some ⟨b, off, none⟩ ∧ w.cell? ⟨b, off + k * 2, none⟩ = some (.int .i64 (shA l k)) ∧ w.cell? ⟨b, off + k * 2 + 1, none⟩ = some (.int .i64 (shO l k)) := by
  rcases h with ⟨a', cap', e, rfl⟩ | ⟨b, off, cap', e, hlt, hm, hc⟩
  · cases hk
  · cases e
    exact ⟨b, off, rfl, hc k hk⟩

/-- the loop: the last shift that skips n, so far; the offset before the next one -/
def gapK (n o : Int) (l : Sh) : Nat → Int × Int
  | 0 => (-1, o)
  | k + 1 => (if shA l k + (gapK n o l k).2 ≤ n ∧ n < shA l k + shO l k then (k : Int) else (gapK n o l k).1, shO l k)
/-- the gap of the first k shifts -/
def skipK (n o : Int) (l : Sh) (k : Nat) : Prop := ∃ j, j < k ∧ shA l j + (gapK n o l j).2 ≤ n ∧ n < shA l j + shO l j
theorem gapK_spec (n o : Int) (l : Sh) : ∀ k, (gapK n o l k).1 = -1 ∧ ¬ skipK n o l k ∨ ∃ j : Nat, j < k ∧ (gapK n o l k).1 = j ∧ shA l j + (gapK n o l j).2 ≤ n ∧ n < shA l j + shO l j
  | 0 => .inl ⟨rfl, fun ⟨j, h, _⟩ => absurd h (by omega)⟩
  | k + 1 => by
    by_cases h : shA l k + (gapK n o l k).2 ≤ n ∧ n < shA l k + shO l k
    · exact .inr ⟨k, by omega, by show (if _ then _ else _) = _; rw [if_pos h], h⟩
    · have e : (gapK n o l (k + 1)).1 = (gapK n o l k).1 := by show (if _ then _ else _) = _; rw [if_neg h]
      rcases gapK_spec n o l k with ⟨h1, h2⟩ | ⟨j, h1, h2, h3⟩
      · refine .inl ⟨e.trans h1, fun ⟨j, k1, k2⟩ => ?_⟩
        by_cases hj : j = k
        · rw [hj] at k2; exact h k2
        · exact h2 ⟨j, by omega, k2⟩
      · exact .inr ⟨j, by omega, e.trans h2, h3⟩
theorem gapK_cons (n o a q : Int) (l : Sh) : ∀ k, (gapK n o ((a, q) :: l) (k + 1)).2 = (gapK n q l k).2
  | 0 => rfl
  | _ + 1 => rfl
theorem skips_iff (n : Int) : ∀ (l : Sh) (o : Int), skips n o l ↔ ∃ j, j < l.length ∧ shA l j + (gapK n o l j).2 ≤ n ∧ n < shA l j + shO l j
  | [], o => ⟨fun h => h.elim, fun ⟨j, h, _⟩ => absurd h (by simp)⟩
  | (a, q) :: l, o => by
    have ih := skips_iff n l q
    constructor
    · rintro (h | h)
      · exact ⟨0, by simp, h⟩
      · obtain ⟨j, h1, h2⟩ := ih.1 h
        exact ⟨j + 1, by simpa using h1, by rw [gapK_cons]; exact h2⟩
    · rintro ⟨j, h1, h2⟩
      match j with
      | 0 => exact .inl h2
      | j + 1 =>
        rw [gapK_cons] at h2
        exact .inr (ih.2 ⟨j, by simpa using h1, h2⟩)
theorem skip_at (n : Int) : ∀ (l : Sh) (o f : Int), chain f l → ∀ j, j < l.length → shA l j + (gapK n o l j).2 ≤ n → n < shA l j + shO l j → gapAt o l n (shA l j)
  | [], _, _, _, j, h, _, _ => absurd h (by simp)
  | (a, q) :: l, o, f, ⟨h1, h2, h3, h4, h5⟩, j, hj, k1, k2 => by
    have e : ∀ x, off o ((a, q) :: l) x = if x < a then o else off q l x := fun _ => rfl
    match j with
    | 0 =>
      have k1 : a + o ≤ n := k1
      have k2 : n < a + q := k2
      show gapAt o ((a, q) :: l) n a
      unfold gapAt lt
      rw [e, e, if_pos (by omega), if_neg (by omega), off_first h5 (by omega)]
      omega
    | j + 1 =>
      rw [gapK_cons] at k1
      have ih := skip_at n l q a h5 j (by simpa using hj) k1 k2
      have := jump_at h5 (gap_jump ih)
      show gapAt o ((a, q) :: l) n (shA l j)
      unfold gapAt lt at *
      rw [e, e, if_neg (by omega), if_neg (by omega)]
      exact ih
theorem gapK_bd (n o : Int) (l : Sh) (hok : Ok o l) : ∀ k, k ≤ l.length → -900 ≤ (gapK n o l k).2 ∧ (gapK n o l k).2 ≤ 900
  | 0, _ => ⟨hok.1, hok.2.1⟩
  | k + 1, h => by
    have := (chain_at (by omega) hok.2.2 k (by omega)).1
    exact ⟨this.2.2.1, this.2.2.2⟩
theorem gapK_lo (n o : Int) (l : Sh) (k : Nat) (hk : k ≤ 1000) : -1 ≤ (gapK n o l k).1 ∧ (gapK n o l k).1 < 1000 := by
  rcases gapK_spec n o l k with ⟨h1, _⟩ | ⟨j, h1, h2, _⟩ <;> omega

end Go.Proofs.YtiilljcnikgeaaaDoor
