/- Plain: what the kept days of a year are, as members of the list; their bounds. No program in sight. Conditions: none. -/
import Derived.Test.YtnemgohcjjhfmaaGreatDoorHOf
namespace Go.Proofs.YtnemgohcjjhfmaaGreatDoor

theorem kepts_mem {ee ev : Int → Int} {y : Int} {p : Int × Int} : ∀ (l : List Hol) (i : Int), p ∈ kepts ee ev y l i ↔ ∃ (j : Nat) (h : Hol), l[j]? = some h ∧ kepB ee ev h y = true ∧ p = (kepV ev h y, i + j)
  | [], i => by simp [kepts]
  | h :: t, i => by
    have ih := kepts_mem (ee := ee) (ev := ev) (y := y) (p := p) t (i + 1)
    have e : kepts ee ev y (h :: t) i = if kepB ee ev h y then (kepV ev h y, i) :: kepts ee ev y t (i + 1) else kepts ee ev y t (i + 1) := rfl
    rw [e]
    constructor
    · intro hp
      by_cases hb : kepB ee ev h y = true
      · rw [if_pos hb] at hp
        rcases List.mem_cons.1 hp with rfl | hp
        · exact ⟨0, h, rfl, hb, by simp⟩
        · obtain ⟨j, g, h1, h2, h3⟩ := ih.1 hp
          exact ⟨j + 1, g, by simpa using h1, h2, by rw [h3]; congr 1; omega⟩
      · rw [if_neg hb] at hp
        obtain ⟨j, g, h1, h2, h3⟩ := ih.1 hp
        exact ⟨j + 1, g, by simpa using h1, h2, by rw [h3]; congr 1; omega⟩
    · rintro ⟨j, g, h1, h2, h3⟩
      cases j with
      | zero =>
        simp at h1; subst h1
        rw [if_pos h2, h3]; simp
      | succ j =>
        have := ih.2 ⟨j, g, by simpa using h1, h2, by rw [h3]; congr 1; omega⟩
        by_cases hb : kepB ee ev h y = true
        · rw [if_pos hb]; exact List.mem_cons_of_mem _ this
        · rw [if_neg hb]; exact this
theorem ofP_mem {y : Int} {l : List Hol} {p : Int × Int} : p ∈ ofP y l ↔ ∃ (j : Nat) (h : Hol), l[j]? = some h ∧ kB h y = true ∧ p = (kV h y, (j : Int)) := by
  show p ∈ stab _ (kepts eaE eaV y l 0) ↔ _
  rw [stab_mem, kepts_mem]
  simp
theorem kB_bd {h : Hol} {y : Int} (hb : kB h y = true) : (h.f ≤ y ∧ y ≤ h.l) ∧ nB h y = true ∧ 0 ≤ kV h y ∧ kV h y ≤ 3652058 := by
  have e : kB h y = (win y h.f h.l && nB h y && win (kV h y) 0 3652058) := rfl
  rw [e] at hb
  simp only [Bool.and_eq_true, win_iff] at hb
  exact ⟨hb.1.1, hb.1.2, hb.2⟩
theorem ofP_bd {y : Int} {l : List Hol} {p : Int × Int} (h : p ∈ ofP y l) : 0 ≤ p.1 ∧ p.1 ≤ 3652058 ∧ 0 ≤ p.2 ∧ p.2 < l.length := by
  obtain ⟨j, g, h1, h2, rfl⟩ := ofP_mem.1 h
  have := (kB_bd h2).2.2
  have hj := (List.getElem?_eq_some_iff.1 h1).1
  exact ⟨this.1, this.2, by simp, by simp; omega⟩
end Go.Proofs.YtnemgohcjjhfmaaGreatDoor
