/- Plain: a rule's kept day lies in the rule's year or next to it; so a day is kept by some rule in some year, or not at all. No program in sight. Conditions: the rules are valid. -/
import Derived.Test.YtaiiibbnjmjamaaGreatDoorHBtw
import Derived.Test.YtaiiibbnjmjamaaGreatDoorHPl
namespace Go.Proofs.YtaiiibbnjmjamaaGreatDoor

theorem nV_loc {h : Hol} {y : Int} (hv : hvB h = true) (hf : h.f ≤ y ∧ y ≤ h.l) (hb : nB h y = true) : num y 1 1 - 30 ≤ nV h y ∧ nV h y < num (y + 1) 1 1 := by
  obtain ⟨⟨k1, k4⟩, _, f1, _, l9, hk⟩ := hvB_spec hv
  have y1 : 1 ≤ y := by omega
  have y9 : y ≤ 9999 := by omega
  have hc : h.k = 1 ∨ h.k = 2 ∨ h.k = 3 ∨ h.k = 4 := by omega
  have e0 : nV h y = nomV eaV h y := rfl
  have e1 : nB h y = nomB eaE eaV h y := rfl
  rw [e1] at hb
  rw [e0]
  unfold nomB at hb
  unfold vldK at hk
  have hd1 : ∀ {mo : Int}, 1 ≤ mo → mo ≤ 12 → dayN y mo 1 = num y mo 1 := fun a b => by unfold dayN; rw [if_pos (hfirst y1 y9 a b)]
  rcases hc with e | e | e | e
  · rw [if_pos e] at hb
    have hc0 : chk y h.mo h.d = 0 := by simpa using hb
    have hvd : validB y h.mo h.d = true := by
      unfold chk at hc0
      cases q : validB y h.mo h.d
      · rw [q] at hc0; simp at hc0
      · rfl
    obtain ⟨_, _, m1, m2, d1, d2⟩ := valid_iff.1 hvd
    have := num_in (y := y) m1 m2 d1 d2
    unfold nomV
    rw [if_pos e]
    unfold dayN
    rw [if_pos hvd]
    omega
  · rw [if_neg (by omega), if_pos e] at hb
    rw [if_neg (by omega), if_pos e] at hk
    unfold vld2 at hk
    simp only [Bool.and_eq_true, win_iff] at hk
    obtain ⟨⟨m1, m2⟩, ⟨w1, w2⟩, n1, n2⟩ := hk
    have hl := len_in (y := y) m1 m2
    have i1 := num_in (y := y) (d := 1) m1 m2 (by omega) (by omega)
    have i2 := num_in (y := y) (d := len y h.mo) m1 m2 (by omega) (by omega)
    have q := num_d (y := y) (m := h.mo) (d := len y h.mo)
    have hw := fwd_bd (dayN y h.mo 1) h.wd
    have hlt := of_decide_eq_true hb
    unfold nomV at hlt ⊢
    rw [if_neg (by omega), if_pos e] at hlt ⊢
    rw [hd1 m1 m2] at *
    omega
  · rw [if_neg (by omega), if_neg (by omega), if_pos e] at hk
    unfold vld3 at hk
    simp only [Bool.and_eq_true, win_iff] at hk
    obtain ⟨⟨m1, m2⟩, w1, w2⟩ := hk
    have hl := len_in (y := y) m1 m2
    have i1 := num_in (y := y) (d := 1) m1 m2 (by omega) (by omega)
    have i2 := num_in (y := y) (d := len y h.mo) m1 m2 (by omega) (by omega)
    have q := num_d (y := y) (m := h.mo) (d := len y h.mo)
    have hw := lwd_bd (dayN y h.mo 1 + len y h.mo - 1) h.wd
    unfold nomV
    rw [if_neg (by omega), if_neg (by omega), if_pos e]
    rw [hd1 m1 m2] at *
    omega
  · rw [if_neg (by omega), if_neg (by omega), if_neg (by omega)] at hk hb
    unfold vld4 at hk
    simp only [win_iff] at hk
    have hy : 1583 ≤ y ∧ y ≤ 9999 := by
      unfold eaE at hb
      apply Classical.byContradiction
      intro hn
      rw [if_neg hn] at hb; simp at hb
    have hs := eas_year hy.1 hy.2
    have hev : eaV y = reasN y := by unfold eaV; rw [if_pos hy]; exact eas_eq hy.1 hy.2
    have g1 := num_le_m (y := y) (m := 1) (m' := 3) (by omega) (by omega) (by omega)
    have g2 := num_le_m (y := y) (m := 3) (m' := 12) (by omega) (by omega) (by omega)
    have g3 := num_year (y := y)
    unfold nomV
    rw [if_neg (by omega), if_neg (by omega), if_neg (by omega), hev]
    unfold reasN
    omega
theorem kV_loc {h : Hol} {y : Int} (hv : hvB h = true) (hk : kB h y = true) : ofY (kV h y) - 1 ≤ y ∧ y ≤ ofY (kV h y) + 1 := by
  obtain ⟨hf, hb, k0, k1⟩ := kB_bd hk
  obtain ⟨n1, n2⟩ := nV_loc hv hf hb
  have e : kV h y = nV h y + movV h.mv (nV h y % 7) := rfl
  have hm := movV_bd h.mv (nV h y % 7)
  obtain ⟨_, _, m1, m2, d1, d2⟩ := valid_of k0 k1
  have i := num_in (y := ofY (kV h y)) m1 m2 d1 d2
  rw [num_of k0 k1] at i
  have j : num (y + 1) 1 1 + 365 ≤ num (y + 2) 1 1 := by have := num_jan_mono (y := y + 1) (y' := y + 2) (by omega); omega
  have j2 : num (y - 1) 1 1 + 365 ≤ num y 1 1 := num_jan_mono (by omega)
  constructor
  · apply Classical.byContradiction
    intro hn
    rcases Int.lt_or_eq_of_le (show y + 2 ≤ ofY (kV h y) by omega) with g | g
    · have := num_jan_mono g; omega
    · rw [← g] at i; omega
  · apply Classical.byContradiction
    intro hn
    rcases Int.lt_or_eq_of_le (show ofY (kV h y) + 1 ≤ y - 1 by omega) with g | g
    · have := num_jan_mono g; omega
    · rw [g] at i; omega
/-- some rule is kept on a day in some year -/
def KeptOn (l : List Hol) (d : Int) : Prop := ∃ (y : Int) (h : Hol), h ∈ l ∧ kB h y = true ∧ kV h y = d
theorem KeptOn.bd {l : List Hol} {d : Int} (h : KeptOn l d) : 0 ≤ d ∧ d ≤ 3652058 := by
  obtain ⟨y, g, _, hk, rfl⟩ := h
  exact (kB_bd hk).2.2
theorem btw_iff {l : List Hol} (hv : ∀ x, x ∈ l → hvB x = true) {f u d : Int} : d ∈ btw l f u ↔ (f ≤ d ∧ d ≤ u) ∧ KeptOn l d := by
  rw [btw_mem]
  constructor
  · rintro ⟨h1, y, h, _, _, h2, h3, h4⟩
    exact ⟨by omega, y, h, h2, h3, h4⟩
  · rintro ⟨h1, y, h, h2, h3, h4⟩
    have hb := (kB_bd h3).2.2
    have hl := kV_loc (hv h h2) h3
    rw [h4] at hb hl
    have o1 := ofY_mono (a := max f 0) (b := d) (by omega) (by omega) (by omega)
    have o2 := ofY_mono (a := d) (b := min u 3652058) (by omega) (by omega) (by omega)
    exact ⟨by omega, y, h, by omega, by omega, h2, h3, h4⟩
theorem isB_iff {l : List Hol} (hv : ∀ x, x ∈ l → hvB x = true) {d : Int} : isB l d = true ↔ KeptOn l d := by
  unfold isB
  rw [Bool.and_eq_true, win_iff, decide_eq_true_eq]
  constructor
  · rintro ⟨h1, h2⟩
    obtain ⟨x, hx⟩ := List.exists_mem_of_length_pos h2
    obtain ⟨h3, h4⟩ := (btw_iff hv).1 hx
    have : x = d := by omega
    subst this
    exact h4
  · intro h
    have hb := h.bd
    exact ⟨hb, List.length_pos_of_mem ((btw_iff hv).2 ⟨⟨Int.le_refl _, Int.le_refl _⟩, h⟩)⟩
theorem isB_append {x y : List Hol} (hx : ∀ h, h ∈ x → hvB h = true) (hy : ∀ h, h ∈ y → hvB h = true) (d : Int) : isB (x ++ y) d = (isB x d || isB y d) := by
  rw [Bool.eq_iff_iff, Bool.or_eq_true, isB_iff hx, isB_iff hy, isB_iff (fun h hh => by rcases List.mem_append.1 hh with q | q; exact hx h q; exact hy h q)]
  constructor
  · rintro ⟨y', h, h1, h2, h3⟩
    rcases List.mem_append.1 h1 with q | q
    · exact .inl ⟨y', h, q, h2, h3⟩
    · exact .inr ⟨y', h, q, h2, h3⟩
  · rintro (⟨y', h, h1, h2, h3⟩ | ⟨y', h, h1, h2, h3⟩)
    · exact ⟨y', h, List.mem_append.2 (.inl h1), h2, h3⟩
    · exact ⟨y', h, List.mem_append.2 (.inr h1), h2, h3⟩
theorem keptOn_of {l : List Hol} {y : Int} {p : Int × Int} (hp : p ∈ ofP y l) : KeptOn l p.1 := by
  obtain ⟨j, h, h1, h2, rfl⟩ := ofP_mem.1 hp
  exact ⟨y, h, List.mem_of_getElem? h1, h2, rfl⟩
theorem kepts_cons (y : Int) (h : Hol) (t : List Hol) (i : Int) : kepts eaE eaV y (h :: t) i = if kepB eaE eaV h y then (kepV eaV h y, i) :: kepts eaE eaV y t (i + 1) else kepts eaE eaV y t (i + 1) := rfl
theorem kepts_lenA (y : Int) (b : List Hol) : ∀ (a : List Hol) (i : Int), (kepts eaE eaV y (a ++ b) i).length = (kepts eaE eaV y a i).length + (kepts eaE eaV y b 0).length
  | [], i => by
    have h : ∀ (b : List Hol) (i j : Int), (kepts eaE eaV y b i).length = (kepts eaE eaV y b j).length := by
      intro b
      induction b with
      | nil => intro i j; rfl
      | cons h t ih => intro i j; rw [kepts_cons, kepts_cons, apply_ite List.length, apply_ite List.length, List.length_cons, List.length_cons, ih (i + 1) (j + 1)]
    simp [kepts, h b i 0]
  | h :: t, i => by
    have ih := kepts_lenA y b t (i + 1)
    show (kepts eaE eaV y (h :: (t ++ b)) i).length = _
    rw [kepts_cons, kepts_cons, apply_ite List.length, apply_ite List.length, List.length_cons, List.length_cons, ih]
    split <;> omega
theorem ofP_lenA (y : Int) (a b : List Hol) : (ofP y (a ++ b)).length = (ofP y a).length + (ofP y b).length := by
  show (stab _ (kepts eaE eaV y (a ++ b) 0)).length = (stab _ (kepts eaE eaV y a 0)).length + (stab _ (kepts eaE eaV y b 0)).length
  rw [stab_len, stab_len, stab_len, kepts_lenA]
theorem ns_get {w : World} {a : Option Addr} {n cap : Nat} {l : List (Int × Int)} (h : IsNs w (.slice a n cap) l) (h0 : 0 < l.length) : ∃ b off, a = some ⟨b, off, none⟩ ∧ n = l.length ∧ b < w.heap.size ∧ ∀ j x, l[j]? = some x → ∀ i u, (encN x)[i]? = some u → w.cell? ⟨b, off + j * 2 + i, none⟩ = some u := by
  rcases h with ⟨_, _, _, rfl⟩ | ⟨b, off, cap', e, hlt, hm, hc⟩
  · simp at h0
  · cases e
    exact ⟨b, off, rfl, rfl, hlt, hc⟩
end Go.Proofs.YtaiiibbnjmjamaaGreatDoor
