/- Plain: zones as an offset and a list of shifts: offsets, segments, instants, gaps. Conditions: stated at each lemma. -/
namespace Go.Proofs.YtiilljcnikgeaaaDoor

abbrev Sh := List (Int × Int)
structure Seg where
  f : Int
  u : Int
  o : Int
  b : Int

/-- the segments of a zone from an instant on -/
def segs (f o b : Int) : Sh → List Seg
  | [] => [⟨f, 1125899906842624, o, b⟩]
  | (a, o') :: l => ⟨f, a, o, b⟩ :: segs a o' o l
def segsOf (o : Int) (l : Sh) : List Seg := segs (-1125899906842624) o o l
/-- the shifts behind f are apart, their offsets small -/
def chain (f : Int) : Sh → Prop
  | [] => True
  | (a, o) :: l => f + 2880 ≤ a ∧ a ≤ 8589934592 ∧ -900 ≤ o ∧ o ≤ 900 ∧ chain a l
/-- the offset at an instant -/
def off (o : Int) : Sh → Int → Int
  | [], _ => o
  | (a, o') :: l, t => if t < a then o else off o' l t
/-- by the segments -/
def offS : List Seg → Int → Int
  | [], _ => 0
  | s :: r, t => if t < s.u then s.o else offS r t
def inB (n : Int) (s : Seg) : Bool := decide (s.f ≤ n - s.o ∧ n - s.o < s.u)
def insS (n : Int) (ss : List Seg) : List Int := (ss.filter (inB n)).map (fun s => n - s.o)
def gapB (n : Int) (s : Seg) : Bool := decide (s.f + s.b ≤ n ∧ n < s.f + s.o)
def resS (n : Int) : List Seg → Int
  | [] => 0
  | s :: r => if gapB n s then s.f else resS n r
def resR (n b : Int) : Sh → Int
  | [] => 0
  | (a, o) :: l => if a + b ≤ n ∧ n < a + o then a else resR n o l
/-- by the reference -/
def offR (o : Int) (l : Sh) (t : Int) : Int := l.foldl (fun c s => if s.1 ≤ t then s.2 else c) o

theorem offS_segs (t : Int) (ht : t < 1125899906842624) : ∀ (l : Sh) (f o b : Int), offS (segs f o b l) t = off o l t
  | [], f, o, b => by simp [segs, offS, off, ht]
  | (a, o') :: l, f, o, b => by
    simp only [segs, offS, off]
    rw [offS_segs t ht l a o' o]
theorem chain_lo {f g : Int} (h : g ≤ f) : ∀ {l : Sh}, chain f l → chain g l
  | [], _ => trivial
  | (_, _) :: _, ⟨a1, a2⟩ => ⟨by omega, a2⟩
theorem offR_low {t : Int} : ∀ {l : Sh} {f c : Int}, chain f l → t < f → offR c l t = c
  | [], _, _, _, _ => rfl
  | (a, o) :: l, f, c, ⟨h1, _, _, _, h5⟩, ht => by
    have e : offR c ((a, o) :: l) t = offR (if a ≤ t then o else c) l t := rfl
    rw [e, if_neg (by omega)]
    exact offR_low h5 (by omega)
theorem offR_eq {t : Int} : ∀ {l : Sh} {f : Int} (c : Int), chain f l → offR c l t = off c l t
  | [], _, _, _ => rfl
  | (a, o) :: l, f, c, ⟨h1, _, _, _, h5⟩ => by
    have e : offR c ((a, o) :: l) t = offR (if a ≤ t then o else c) l t := rfl
    rw [e]
    by_cases h : t < a
    · rw [if_neg (by omega)]
      show _ = if t < a then c else off o l t
      rw [if_pos h]
      exact offR_low h5 h
    · rw [if_pos (by omega)]
      show _ = if t < a then c else off o l t
      rw [if_neg h]
      exact offR_eq o h5
theorem off_bd {t : Int} : ∀ {l : Sh} {f o : Int}, chain f l → -900 ≤ o → o ≤ 900 → -900 ≤ off o l t ∧ off o l t ≤ 900
  | [], _, _, _, h1, h2 => ⟨h1, h2⟩
  | (a, o') :: l, f, o, ⟨_, _, k3, k4, k5⟩, h1, h2 => by
    show -900 ≤ (if t < a then o else off o' l t) ∧ (if t < a then o else off o' l t) ≤ 900
    by_cases h : t < a
    · rw [if_pos h]; exact ⟨h1, h2⟩
    · rw [if_neg h]; exact off_bd k5 k3 k4
theorem off_first {l : Sh} {f o t : Int} (h : chain f l) (ht : t < f + 2880) : off o l t = o := by
  cases l with
  | nil => rfl
  | cons s l =>
    obtain ⟨a, o'⟩ := s
    have := h.1
    show (if t < a then o else off o' l t) = o
    rw [if_pos (by omega)]

/-! ### jumps -/
theorem jump_at {l : Sh} {f o t : Int} (h : chain f l) (hj : off o l (t - 1) ≠ off o l t) : f + 2880 ≤ t := by
  apply Classical.byContradiction
  intro hn
  exact hj (by rw [off_first h (by omega), off_first h (by omega)])
theorem jump_up {t : Int} : ∀ {l : Sh} {f o : Int}, chain f l → off o l (t - 1) ≠ off o l t → ∀ s, t ≤ s → s < t + 2880 → off o l s = off o l t
  | [], _, _, _, hj, _, _, _ => absurd rfl hj
  | (a, o') :: l, f, o, h, hj, s, h1, h2 => by
    have e : ∀ x, off o ((a, o') :: l) x = if x < a then o else off o' l x := fun _ => rfl
    rw [e, e] at hj ⊢
    have h5 := h.2.2.2.2
    by_cases k1 : t < a
    · rw [if_pos k1, if_pos (by omega)] at hj; exact absurd rfl hj
    · rw [if_neg k1] at hj ⊢
      rw [if_neg (by omega)]
      by_cases k2 : t - 1 < a
      · rw [off_first h5 (by omega), off_first h5 (by omega)]
      · rw [if_neg k2] at hj
        exact jump_up h5 hj s h1 h2
theorem jump_down {t : Int} : ∀ {l : Sh} {f o : Int}, chain f l → off o l (t - 1) ≠ off o l t → ∀ s, t - 2880 ≤ s → s < t → off o l s = off o l (t - 1)
  | [], _, _, _, hj, _, _, _ => absurd rfl hj
  | (a, o') :: l, f, o, h, hj, s, h1, h2 => by
    have e : ∀ x, off o ((a, o') :: l) x = if x < a then o else off o' l x := fun _ => rfl
    rw [e, e] at hj
    rw [e, e]
    have h5 := h.2.2.2.2
    by_cases k1 : t < a
    · rw [if_pos k1, if_pos (by omega)] at hj; exact absurd rfl hj
    · by_cases k2 : t - 1 < a
      · rw [if_pos k2, if_pos (by omega)]
      · rw [if_neg k1, if_neg k2] at hj
        have := jump_at h5 hj
        rw [if_neg k2, if_neg (by omega)]
        exact jump_down h5 hj s h1 h2

/-- the local time at an instant -/
def lt (o : Int) (l : Sh) (t : Int) : Int := t + off o l t
/-- the local time n is skipped at t -/
def gapAt (o : Int) (l : Sh) (n t : Int) : Prop := lt o l (t - 1) < n ∧ n < lt o l t

theorem gap_jump {o n t : Int} {l : Sh} (h : gapAt o l n t) : off o l (t - 1) ≠ off o l t := by
  intro e
  obtain ⟨h1, h2⟩ := h
  unfold lt at h1 h2
  rw [e] at h1
  omega
theorem gap_up {o n t f : Int} {l : Sh} (hc : chain f l) (ho : -900 ≤ o ∧ o ≤ 900) (h : gapAt o l n t) : ∀ s, t ≤ s → n < lt o l s := by
  intro s hs
  have hj := gap_jump h
  obtain ⟨h1, h2⟩ := h
  unfold lt at *
  by_cases k : s < t + 2880
  · rw [jump_up hc hj s hs k]; omega
  · have b1 := off_bd (t := s) hc ho.1 ho.2
    have b2 := off_bd (t := t) hc ho.1 ho.2
    omega
theorem gap_down {o n t f : Int} {l : Sh} (hc : chain f l) (ho : -900 ≤ o ∧ o ≤ 900) (h : gapAt o l n t) : ∀ s, s < t → lt o l s < n := by
  intro s hs
  have hj := gap_jump h
  obtain ⟨h1, h2⟩ := h
  unfold lt at *
  by_cases k : t - 2880 ≤ s
  · rw [jump_down hc hj s k hs]; omega
  · have b1 := off_bd (t := s) hc ho.1 ho.2
    have b2 := off_bd (t := t - 1) hc ho.1 ho.2
    omega
theorem gap_one {o n t r f : Int} {l : Sh} (hc : chain f l) (ho : -900 ≤ o ∧ o ≤ 900) (h : gapAt o l n t) (k : gapAt o l n r) : t = r := by
  apply Classical.byContradiction
  intro hn
  by_cases c : t < r
  · have := gap_up hc ho h (r - 1) (by omega)
    have := k.1
    omega
  · have := gap_up hc ho k (t - 1) (by omega)
    have := h.1
    omega
/-- from below n upwards: the first instant at which the local time is n or behind it -/
theorem cross {o n f : Int} {l : Sh} (hc : chain f l) (ho : -900 ≤ o ∧ o ≤ 900) : ∀ (k : Nat) (t : Int), (n + 901 - t).toNat ≤ k → lt o l t < n → ∃ r, t < r ∧ r ≤ n + 900 ∧ (∀ s, t ≤ s → s < r → lt o l s < n) ∧ (lt o l r = n ∨ gapAt o l n r) := by
  intro k
  induction k with
  | zero =>
    intro t hk h
    have b := off_bd (t := t) hc ho.1 ho.2
    unfold lt at h
    omega
  | succ k ih =>
    intro t hk h
    have hb : t < n + 900 := by
      have b := off_bd (t := t) hc ho.1 ho.2
      unfold lt at h
      omega
    by_cases h1 : lt o l (t + 1) < n
    · obtain ⟨r, r1, r2, r3, r4⟩ := ih (t + 1) (by omega) h1
      refine ⟨r, by omega, r2, fun s s1 s2 => ?_, r4⟩
      by_cases e : s = t
      · rw [e]; exact h
      · exact r3 s (by omega) s2
    · refine ⟨t + 1, by omega, by omega, fun s s1 s2 => ?_, ?_⟩
      · obtain rfl : s = t := by omega
        exact h
      · by_cases e : lt o l (t + 1) = n
        · exact .inl e
        · refine .inr ⟨?_, by omega⟩
          rw [show t + 1 - 1 = t from by omega]; exact h

/-! ### instants -/
theorem mem_ins {n x : Int} : ∀ {l : Sh} {f o : Int} (b : Int), chain f l → (x ∈ insS n (segs f o b l) ↔ f ≤ x ∧ x < 1125899906842624 ∧ lt o l x = n)
  | [], f, o, b, _ => by
    have e : insS n (segs f o b []) = if inB n ⟨f, 1125899906842624, o, b⟩ then [n - o] else [] := by
      unfold insS
      rw [segs, List.filter_cons]
      by_cases h : inB n ⟨f, 1125899906842624, o, b⟩ = true
      · rw [if_pos h, if_pos h]; rfl
      · rw [if_neg h, if_neg h]; rfl
    rw [e]
    have hlt : lt o [] x = x + o := rfl
    rw [hlt]
    by_cases h : inB n ⟨f, 1125899906842624, o, b⟩ = true
    · rw [if_pos h]
      have h' : f ≤ n - o ∧ n - o < 1125899906842624 := by simpa [inB] using h
      simp; omega
    · rw [if_neg h]
      have h' : ¬ (f ≤ n - o ∧ n - o < 1125899906842624) := by simpa [inB] using h
      simp; omega
  | (a, o') :: l, f, o, b, ⟨h1, h2, h3, h4, h5⟩ => by
    have ih := mem_ins (n := n) (x := x) (o := o') o h5
    have e : insS n (segs f o b ((a, o') :: l)) = (if inB n ⟨f, a, o, b⟩ then [n - o] else []) ++ insS n (segs a o' o l) := by
      unfold insS
      rw [segs, List.filter_cons]
      by_cases h : inB n ⟨f, a, o, b⟩ = true
      · rw [if_pos h, if_pos h]; rfl
      · rw [if_neg h, if_neg h]; rfl
    rw [e, List.mem_append, ih]
    have hlt : lt o ((a, o') :: l) x = if x < a then x + o else lt o' l x := by
      unfold lt
      show x + (if x < a then o else off o' l x) = _
      by_cases k : x < a
      · rw [if_pos k, if_pos k]
      · rw [if_neg k, if_neg k]
    rw [hlt]
    by_cases h : inB n ⟨f, a, o, b⟩ = true
    · rw [if_pos h]
      have h' : f ≤ n - o ∧ n - o < a := by simpa [inB] using h
      by_cases k : x < a
      · rw [if_pos k]; simp; omega
      · rw [if_neg k]; simp; omega
    · rw [if_neg h]
      have h' : ¬ (f ≤ n - o ∧ n - o < a) := by simpa [inB] using h
      by_cases k : x < a
      · rw [if_pos k]; simp; omega
      · rw [if_neg k]; simp; omega
theorem ins_sorted {n : Int} : ∀ {l : Sh} {f o : Int} (b : Int), chain f l → (insS n (segs f o b l)).Pairwise (· < ·)
  | [], f, o, b, _ => by
    simp [insS, segs, List.filter_cons]
    by_cases h : inB n ⟨f, 1125899906842624, o, b⟩ = true
    · rw [if_pos h]; simp
    · rw [if_neg h]; simp
  | (a, o') :: l, f, o, b, ⟨h1, h2, h3, h4, h5⟩ => by
    have ih := ins_sorted (n := n) (o := o') o h5
    unfold insS at *
    rw [segs, List.filter_cons]
    by_cases h : inB n ⟨f, a, o, b⟩ = true
    · rw [if_pos h, List.map_cons, List.pairwise_cons]
      refine ⟨fun x hx => ?_, ih⟩
      have h' : f ≤ n - o ∧ n - o < a := by simpa [inB] using h
      have hm := (mem_ins (n := n) (x := x) (o := o') o h5).1 hx
      show n - o < x
      omega
    · rw [if_neg h]; exact ih
theorem ins_far {n f o b : Int} {l : Sh} (hc : chain f l) (ho : -900 ≤ o ∧ o ≤ 900) (h : n + 900 < f) : insS n (segs f o b l) = [] := by
  rw [List.eq_nil_iff_forall_not_mem]
  intro x hx
  obtain ⟨h1, _, h3⟩ := (mem_ins b hc).1 hx
  have := off_bd (t := x) hc ho.1 ho.2
  unfold lt at h3
  omega
/-- three instants of one local time there are not -/
theorem ins_len {n f o b : Int} {l : Sh} (hc : chain f l) (ho : -900 ≤ o ∧ o ≤ 900) : (insS n (segs f o b l)).length ≤ 2 := by
  have hs := ins_sorted (n := n) (o := o) b hc
  have hm := fun x => mem_ins (n := n) (x := x) (o := o) b hc
  match hl : insS n (segs f o b l) with
  | [] => simp
  | [_] => simp
  | [_, _] => simp
  | x :: y :: z :: r =>
    exfalso
    rw [hl] at hs hm
    simp only [List.pairwise_cons] at hs
    have xy := hs.1 y (by simp)
    have yz := hs.2.1 z (by simp)
    have hx := ((hm x).1 (by simp)).2.2
    have hy := ((hm y).1 (by simp)).2.2
    have hz := ((hm z).1 (by simp)).2.2
    have bx := off_bd (t := x) hc ho.1 ho.2
    have by' := off_bd (t := y) hc ho.1 ho.2
    have bz := off_bd (t := z) hc ho.1 ho.2
    -- between x and y the offset falls, between y and z it falls: two jumps within 1800 minutes
    have j1 : ∃ t, x < t ∧ t ≤ y ∧ off o l (t - 1) ≠ off o l t := by
      apply Classical.byContradiction
      intro hn
      have : ∀ k : Nat, x + k ≤ y → off o l (x + k) = off o l x := by
        intro k
        induction k with
        | zero => intro _; simp
        | succ k ih =>
          intro hk
          have e := ih (by omega)
          have : off o l (x + (k + 1 : Nat) - 1) = off o l (x + (k + 1 : Nat)) := Classical.byContradiction fun h => hn ⟨_, by omega, hk, h⟩
          rw [← this, show x + ((k + 1 : Nat) : Int) - 1 = x + k from by omega]; exact e
      have e := this (y - x).toNat (by omega)
      rw [show x + ((y - x).toNat : Int) = y from by omega] at e
      unfold lt at hx hy
      omega
    have j2 : ∃ t, y < t ∧ t ≤ z ∧ off o l (t - 1) ≠ off o l t := by
      apply Classical.byContradiction
      intro hn
      have : ∀ k : Nat, y + k ≤ z → off o l (y + k) = off o l y := by
        intro k
        induction k with
        | zero => intro _; simp
        | succ k ih =>
          intro hk
          have e := ih (by omega)
          have : off o l (y + (k + 1 : Nat) - 1) = off o l (y + (k + 1 : Nat)) := Classical.byContradiction fun h => hn ⟨_, by omega, hk, h⟩
          rw [← this, show y + ((k + 1 : Nat) : Int) - 1 = y + k from by omega]; exact e
      have e := this (z - y).toNat (by omega)
      rw [show y + ((z - y).toNat : Int) = z from by omega] at e
      unfold lt at hy hz
      omega
    obtain ⟨t1, a1, a2, a3⟩ := j1
    obtain ⟨t2, b1, b2, b3⟩ := j2
    unfold lt at hx hy hz
    have e1 := jump_up hc a3 t2 (by omega) (by omega)
    have e2 := jump_up hc a3 (t2 - 1) (by omega) (by omega)
    exact b3 (by rw [e1, e2])

/-! ### gaps found -/
theorem resR_gap {n r : Int} : ∀ {l : Sh} {f o : Int}, chain f l → (-900 ≤ o ∧ o ≤ 900) → gapAt o l n r → resR n o l = r
  | [], _, _, _, _, h => absurd rfl (gap_jump h)
  | (a, o') :: l, f, o, hc, ho, h => by
    have hj := gap_jump h
    have hu := gap_down hc ho h
    have e : ∀ x, off o ((a, o') :: l) x = if x < a then o else off o' l x := fun _ => rfl
    have hc' := hc
    obtain ⟨h1, h2, h3, h4, h5⟩ := hc
    show (if a + o ≤ n ∧ n < a + o' then a else resR n o' l) = r
    obtain ⟨g1, g2⟩ := h
    unfold lt at g1 g2 hu
    rw [e] at hj g1 g2
    rw [e] at hj
    by_cases k1 : r < a
    · rw [if_pos k1, if_pos (by omega)] at hj; exact absurd rfl hj
    · by_cases k2 : r = a
      · subst k2
        rw [if_pos (by omega)] at g1
        rw [if_neg (by omega), off_first h5 (by omega)] at g2
        rw [if_pos (by omega)]
      · rw [if_neg (by omega)] at g1
        rw [if_neg k1] at g2
        have hA := hu a (by omega)
        rw [e, if_neg (by omega), off_first h5 (by omega)] at hA
        rw [if_neg (by omega)]
        exact resR_gap h5 ⟨h3, h4⟩ ⟨g1, g2⟩
/-- a shift that skips n -/
def skips (n b : Int) : Sh → Prop
  | [] => False
  | (a, o) :: l => (a + b ≤ n ∧ n < a + o) ∨ skips n o l
theorem skips_gap {n : Int} : ∀ {l : Sh} {f o : Int}, chain f l → skips n o l → ∃ r, f < r ∧ gapAt o l n r
  | [], _, _, _, h => h.elim
  | (a, o') :: l, f, o, ⟨h1, h2, h3, h4, h5⟩, h => by
    have e : ∀ x, off o ((a, o') :: l) x = if x < a then o else off o' l x := fun _ => rfl
    rcases h with h | h
    · refine ⟨a, by omega, ?_⟩
      unfold gapAt lt
      rw [e, e, if_pos (by omega), if_neg (by omega), off_first h5 (by omega)]
      omega
    · obtain ⟨r, hr, hg⟩ := skips_gap h5 h
      refine ⟨r, by omega, ?_⟩
      have := jump_at h5 (gap_jump hg)
      unfold gapAt lt at *
      rw [e, e, if_neg (by omega), if_neg (by omega)]
      exact hg
theorem gap_skips {n r : Int} : ∀ {l : Sh} {f o : Int}, chain f l → gapAt o l n r → skips n o l
  | [], _, _, _, h => absurd rfl (gap_jump h)
  | (a, o') :: l, f, o, ⟨h1, h2, h3, h4, h5⟩, h => by
    have hj := gap_jump h
    have e : ∀ x, off o ((a, o') :: l) x = if x < a then o else off o' l x := fun _ => rfl
    unfold gapAt lt at h
    rw [e, e] at h hj
    by_cases k1 : r < a
    · rw [if_pos k1, if_pos (by omega)] at hj; exact absurd rfl hj
    · by_cases k2 : r = a
      · subst k2
        rw [if_pos (by omega), if_neg (by omega), off_first h5 (by omega)] at h
        exact .inl ⟨by omega, by omega⟩
      · rw [if_neg k1, if_neg (by omega)] at h
        exact .inr (gap_skips h5 h)
theorem gapB_no {n : Int} {s : Seg} (h : ¬ (s.f + s.b ≤ n ∧ n < s.f + s.o)) : ¬ gapB n s = true := by unfold gapB; rw [decide_eq_true_eq]; exact h
theorem gapB_yes {n : Int} {s : Seg} (h : s.f + s.b ≤ n ∧ n < s.f + s.o) : gapB n s = true := decide_eq_true h
theorem resS_segs (n : Int) : ∀ (l : Sh) (f o b : Int), ¬ (f + b ≤ n ∧ n < f + o) → resS n (segs f o b l) = resR n o l
  | [], f, o, b, h => by
    show (if gapB n ⟨f, 1125899906842624, o, b⟩ then f else 0) = 0
    rw [if_neg (gapB_no h)]
  | (a, o') :: l, f, o, b, h => by
    show (if gapB n ⟨f, a, o, b⟩ then f else resS n (segs a o' o l)) = if a + o ≤ n ∧ n < a + o' then a else resR n o' l
    rw [if_neg (gapB_no h)]
    by_cases k : a + o ≤ n ∧ n < a + o'
    · rw [if_pos k]
      cases l with
      | nil => show (if gapB n ⟨a, 1125899906842624, o', o⟩ then a else 0) = a; rw [if_pos (gapB_yes k)]
      | cons s l => obtain ⟨a2, o2⟩ := s; show (if gapB n ⟨a, a2, o', o⟩ then a else _) = a; rw [if_pos (gapB_yes k)]
    · rw [if_neg k]
      exact resS_segs n l a o' o k

/-! ### zones -/
def Ok (o : Int) (l : Sh) : Prop := -900 ≤ o ∧ o ≤ 900 ∧ chain (-2880) l
theorem Ok.ch {o : Int} {l : Sh} (h : Ok o l) : chain (-1125899906842624) l := chain_lo (by omega) h.2.2
/-- the instants of a local time -/
def ins (o : Int) (l : Sh) (n : Int) : List Int := insS n (segsOf o l)
/-- one instant for a local time -/
def res (late : Bool) (o : Int) (l : Sh) (n : Int) : Int :=
  match ins o l n with
  | [] => resR n o l
  | x :: r => if late then (x :: r).getLast (by simp) else x
theorem res_seg {o n : Int} {l : Sh} : resS n (segsOf o l) = resR n o l := resS_segs n l _ o o (by omega)
theorem mem_ins' {o n x : Int} {l : Sh} (h : Ok o l) (hn : -1099511627776 ≤ n ∧ n ≤ 1099511627776) : x ∈ ins o l n ↔ lt o l x = n := by
  unfold ins segsOf
  rw [mem_ins _ h.ch]
  refine ⟨fun h => h.2.2, fun e => ?_⟩
  have b := off_bd (t := x) h.ch h.1 h.2.1
  unfold lt at e
  exact ⟨by omega, by omega, e⟩
/-- no instant: a gap, which resolves -/
theorem ins_gap {o n : Int} {l : Sh} (h : Ok o l) (hn : -1099511627776 ≤ n ∧ n ≤ 1099511627776) (he : ins o l n = []) : gapAt o l n (resR n o l) := by
  have hb : lt o l (n - 2000) < n := by
    have b := off_bd (t := n - 2000) h.ch h.1 h.2.1
    unfold lt; omega
  obtain ⟨r, _, _, _, hr⟩ := cross h.ch ⟨h.1, h.2.1⟩ _ _ (Nat.le_refl _) hb
  rcases hr with hr | hr
  · have := (mem_ins' h hn).2 hr
    rw [he] at this; cases this
  · rw [resR_gap h.ch ⟨h.1, h.2.1⟩ hr]; exact hr
theorem gap_ins {o n r : Int} {l : Sh} (h : Ok o l) (hn : -1099511627776 ≤ n ∧ n ≤ 1099511627776) (hg : gapAt o l n r) : ins o l n = [] := by
  rw [List.eq_nil_iff_forall_not_mem]
  intro x hx
  have e := (mem_ins' h hn).1 hx
  by_cases k : r ≤ x
  · have := gap_up h.ch ⟨h.1, h.2.1⟩ hg x k; omega
  · have := gap_down h.ch ⟨h.1, h.2.1⟩ hg x (by omega); omega
/-- the early one: the first instant at which it is n or later -/
theorem early {o n : Int} {l : Sh} (h : Ok o l) (hn : -1099511627776 ≤ n ∧ n ≤ 1099511627776) : n ≤ lt o l (res false o l n) ∧ ∀ t, t < res false o l n → lt o l t < n := by
  unfold res
  match hl : ins o l n with
  | [] =>
    have hg := ins_gap h hn hl
    exact ⟨by have := hg.2; show n ≤ lt o l (resR n o l); omega, gap_down h.ch ⟨h.1, h.2.1⟩ hg⟩
  | x :: r =>
    have hx := (mem_ins' h hn).1 (show x ∈ ins o l n by rw [hl]; simp)
    refine ⟨by show n ≤ lt o l x; omega, fun t ht => ?_⟩
    have ht : t < x := ht
    have hb : lt o l (min t (n - 2000)) < n := by
      have b := off_bd (t := min t (n - 2000)) h.ch h.1 h.2.1
      unfold lt; omega
    obtain ⟨q, q1, q2, q3, hr⟩ := cross h.ch ⟨h.1, h.2.1⟩ _ _ (Nat.le_refl _) hb
    rcases hr with hr | hr
    · have hq := (mem_ins' h hn).2 hr
      rw [hl] at hq
      have hs : (ins o l n).Pairwise (· < ·) := ins_sorted _ h.ch
      rw [hl, List.pairwise_cons] at hs
      have : x ≤ q := by
        rcases List.mem_cons.1 hq with e | e
        · omega
        · have := hs.1 q e; omega
      exact q3 t (by omega) (by omega)
    · have := gap_ins h hn hr
      rw [hl] at this; cases this
/-- the late one: behind it it is later than n -/
theorem late {o n : Int} {l : Sh} (h : Ok o l) (hn : -1099511627776 ≤ n ∧ n ≤ 1099511627776) : (∀ t, res true o l n < t → n < lt o l t) ∧ (lt o l (res true o l n) = n ∨ gapAt o l n (res true o l n)) := by
  unfold res
  match hl : ins o l n with
  | [] =>
    have hg := ins_gap h hn hl
    exact ⟨fun t ht => gap_up h.ch ⟨h.1, h.2.1⟩ hg t (by have : resR n o l < t := ht; omega), .inr hg⟩
  | x :: r =>
    have hm : (x :: r).getLast (by simp) ∈ ins o l n := by rw [hl]; exact List.getLast_mem _
    have hx := (mem_ins' h hn).1 hm
    refine ⟨fun t ht => ?_, .inl hx⟩
    have ht : (x :: r).getLast (by simp) < t := ht
    apply Classical.byContradiction
    intro hk
    have key : ∀ q, q ∈ ins o l n → q ≤ (x :: r).getLast (by simp) := by
      intro q hq
      have hs : (ins o l n).Pairwise (· < ·) := ins_sorted _ h.ch
      rw [hl] at hs hq
      have hs2 : (x :: r).Pairwise (· ≤ ·) := hs.imp (fun h => Int.le_of_lt h)
      rw [← List.dropLast_concat_getLast (l := x :: r) (by simp)] at hs2 hq
      rw [List.pairwise_append] at hs2
      rcases List.mem_append.1 hq with e | e
      · exact hs2.2.2 q e _ (by simp)
      · simp at e; omega
    by_cases e : lt o l t = n
    · have := key t ((mem_ins' h hn).2 e); omega
    · obtain ⟨q, q1, q2, q3, hr⟩ := cross h.ch ⟨h.1, h.2.1⟩ _ t (Nat.le_refl _) (show lt o l t < n by omega)
      rcases hr with hr | hr
      · have := key q ((mem_ins' h hn).2 hr); omega
      · have := gap_ins h hn hr
        rw [hl] at this; cases this
/-- the order of local times is kept -/
theorem res_mono {o n m : Int} {l : Sh} (b : Bool) (h : Ok o l) (hn : -1099511627776 ≤ n ∧ n ≤ 1099511627776) (hm : -1099511627776 ≤ m ∧ m ≤ 1099511627776) (hnm : n ≤ m) : res b o l n ≤ res b o l m := by
  cases b with
  | false =>
    apply Classical.byContradiction
    intro hk
    have a := (early h hn).2 _ (show res false o l m < res false o l n by omega)
    have c := (early h hm).1
    omega
  | true =>
    apply Classical.byContradiction
    intro hk
    have a := (late h hm).1 _ (show res true o l m < res true o l n by omega)
    rcases (late h hn).2 with c | c
    · omega
    · have d := gap_down h.ch ⟨h.1, h.2.1⟩ c _ (show res true o l m < res true o l n by omega)
      rcases (late h hm).2 with e | e
      · omega
      · have := e.2; omega
theorem res_late {o n : Int} {l : Sh} (h : Ok o l) (hn : -1099511627776 ≤ n ∧ n ≤ 1099511627776) : res false o l n ≤ res true o l n := by
  apply Classical.byContradiction
  intro hk
  have a := (early h hn).2 _ (show res true o l n < res false o l n by omega)
  rcases (late h hn).2 with e | e
  · omega
  · have := e.2; omega
/-- there is no instant exactly if a shift skips -/
theorem none_iff {o n : Int} {l : Sh} (h : Ok o l) (hn : -1099511627776 ≤ n ∧ n ≤ 1099511627776) : ins o l n = [] ↔ skips n o l := by
  refine ⟨fun e => gap_skips h.ch (ins_gap h hn e), fun e => ?_⟩
  obtain ⟨r, _, hg⟩ := skips_gap h.ch e
  exact gap_ins h hn hg

/-! ### the reference's instants -/
def insR (o : Int) (l : Sh) (n : Int) (qs : List Int) : List Int := qs.foldl (fun out q => if offR o l (n - q) = q ∧ ¬ (n - q) ∈ out then out ++ [n - q] else out) []
def swap2 : List Int → List Int
  | [x, y] => if y < x then [y, x] else [x, y]
  | l => l
def insRef (o : Int) (l : Sh) (n : Int) : List Int := swap2 (insR o l n (o :: l.map (·.2)))
theorem insR_snoc (o : Int) (l : Sh) (n : Int) (qs : List Int) (q : Int) : insR o l n (qs ++ [q]) = if offR o l (n - q) = q ∧ ¬ (n - q) ∈ insR o l n qs then insR o l n qs ++ [n - q] else insR o l n qs := by
  unfold insR; rw [List.foldl_append]; rfl
theorem insR_mem {o n : Int} {l : Sh} (qs : List Int) (x : Int) : x ∈ insR o l n qs ↔ ∃ q, q ∈ qs ∧ x = n - q ∧ offR o l (n - q) = q := by
  suffices h : ∀ qs' : List Int, x ∈ insR o l n qs'.reverse ↔ ∃ q, q ∈ qs'.reverse ∧ x = n - q ∧ offR o l (n - q) = q by have := h qs.reverse; rwa [List.reverse_reverse] at this
  intro qs'
  induction qs' with
  | nil => simp [insR]
  | cons q qs' ih =>
    rw [List.reverse_cons, insR_snoc]
    constructor
    · intro h
      by_cases k : offR o l (n - q) = q ∧ ¬ (n - q) ∈ insR o l n qs'.reverse
      · rw [if_pos k] at h
        rcases List.mem_append.1 h with e | e
        · obtain ⟨p, p1, p2⟩ := ih.1 e
          exact ⟨p, List.mem_append_left _ p1, p2⟩
        · exact ⟨q, by simp, by simpa using e, k.1⟩
      · rw [if_neg k] at h
        obtain ⟨p, p1, p2⟩ := ih.1 h
        exact ⟨p, List.mem_append_left _ p1, p2⟩
    · rintro ⟨p, p1, p2, p3⟩
      by_cases k : offR o l (n - q) = q ∧ ¬ (n - q) ∈ insR o l n qs'.reverse
      · rw [if_pos k]
        rcases List.mem_append.1 p1 with e | e
        · exact List.mem_append_left _ (ih.2 ⟨p, e, p2, p3⟩)
        · obtain rfl : p = q := by simpa using e
          exact List.mem_append_right _ (by simp [p2])
      · rw [if_neg k]
        rcases List.mem_append.1 p1 with e | e
        · exact ih.2 ⟨p, e, p2, p3⟩
        · obtain rfl : p = q := by simpa using e
          rw [p2]
          exact Classical.byContradiction fun h => k ⟨p3, h⟩
theorem insR_nodup {o n : Int} {l : Sh} (qs : List Int) : (insR o l n qs).Nodup := by
  suffices h : ∀ qs' : List Int, (insR o l n qs'.reverse).Nodup by have := h qs.reverse; rwa [List.reverse_reverse] at this
  intro qs'
  induction qs' with
  | nil => simp [insR]
  | cons q qs' ih =>
    rw [List.reverse_cons, insR_snoc]
    by_cases k : offR o l (n - q) = q ∧ ¬ (n - q) ∈ insR o l n qs'.reverse
    · rw [if_pos k, List.nodup_append]
      refine ⟨ih, by simp, fun a ha b hb => ?_⟩
      simp at hb
      intro e
      exact k.2 (by rw [← hb, ← e]; exact ha)
    · rw [if_neg k]; exact ih
theorem off_mem {t : Int} : ∀ (l : Sh) (o : Int), off o l t ∈ o :: l.map (·.2)
  | [], o => by simp [off]
  | (a, o') :: l, o => by
    show (if t < a then o else off o' l t) ∈ _
    by_cases h : t < a
    · rw [if_pos h]; simp
    · rw [if_neg h]
      exact List.mem_cons_of_mem _ (off_mem l o')
theorem insRef_eq {o n : Int} {l : Sh} (h : Ok o l) (hn : -1099511627776 ≤ n ∧ n ≤ 1099511627776) : insRef o l n = ins o l n := by
  have hm : ∀ x, x ∈ insR o l n (o :: l.map (·.2)) ↔ x ∈ ins o l n := by
    intro x
    rw [insR_mem, mem_ins' h hn]
    constructor
    · rintro ⟨q, _, rfl, e⟩
      rw [offR_eq o h.ch] at e
      unfold lt; omega
    · intro e
      unfold lt at e
      refine ⟨off o l x, off_mem l o, by omega, ?_⟩
      rw [offR_eq o h.ch, show n - off o l x = x from by omega]
  have hd := insR_nodup (o := o) (n := n) (l := l) (o :: l.map (·.2))
  have hs : (ins o l n).Pairwise (· < ·) := ins_sorted _ h.ch
  have hl : (ins o l n).length ≤ 2 := ins_len h.ch ⟨h.1, h.2.1⟩
  have hd2 : (ins o l n).Nodup := hs.imp (fun h => by omega)
  have hp : (insR o l n (o :: l.map (·.2))).length = (ins o l n).length :=
    Nat.le_antisymm (List.Nodup.length_le_of_subset hd (fun x hx => (hm x).1 hx)) (List.Nodup.length_le_of_subset hd2 (fun x hx => (hm x).2 hx))
  unfold insRef
  generalize insR o l n (o :: l.map (·.2)) = A at *
  generalize ins o l n = B at *
  match B, A, hl, hp with
  | [], [], _, _ => rfl
  | [x], [y], _, _ => have := (hm y).1 (by simp); simp at this; rw [this]; rfl
  | [x, y], [u, v], _, _ =>
    simp at hs hd
    have h1 := (hm u).1 (by simp)
    have h2 := (hm v).1 (by simp)
    simp at h1 h2
    show (if v < u then [v, u] else [u, v]) = [x, y]
    by_cases k : v < u
    · rw [if_pos k]
      rcases h1 with rfl | rfl <;> rcases h2 with rfl | rfl <;> first | rfl | omega
    · rw [if_neg k]
      rcases h1 with rfl | rfl <;> rcases h2 with rfl | rfl <;> first | rfl | omega
/-- a minute later -/
theorem off_step {o t : Int} : ∀ {l : Sh}, off o l (t + 1) ≠ off o l t → ∃ s, s ∈ l ∧ s.1 = t + 1
  | [], h => absurd rfl h
  | (a, o') :: l, h => by
    have e : ∀ x, off o ((a, o') :: l) x = if x < a then o else off o' l x := fun _ => rfl
    rw [e, e] at h
    by_cases k : t + 1 < a
    · rw [if_pos k, if_pos (by omega)] at h; exact absurd rfl h
    · by_cases k2 : t + 1 = a
      · exact ⟨(a, o'), by simp, k2.symm⟩
      · rw [if_neg k, if_neg (by omega)] at h
        obtain ⟨s, s1, s2⟩ := off_step h
        exact ⟨s, List.mem_cons_of_mem _ s1, s2⟩
theorem off_moved {o t k : Int} : ∀ (l : Sh), off o (l.map fun s => (s.1 + k, s.2)) (t + k) = off o l t
  | [] => rfl
  | (a, o') :: l => by
    show (if t + k < a + k then o else off o' (l.map fun s => (s.1 + k, s.2)) (t + k)) = if t < a then o else off o' l t
    rw [off_moved l]
    by_cases h : t < a
    · rw [if_pos h, if_pos (by omega)]
    · rw [if_neg h, if_neg (by omega)]
end Go.Proofs.YtiilljcnikgeaaaDoor
