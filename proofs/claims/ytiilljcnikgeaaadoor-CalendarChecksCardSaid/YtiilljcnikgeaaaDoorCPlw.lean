/- Several texts in one, each with its own word at its head. Conditions: stated there. -/
import Derived.Test.YtiilljcnikgeaaaDoorHLoc
import Derived.Test.YtiilljcnikgeaaaDoorZPlain
/- Plain: calendars: open days, the first open day from a day on, court days added and counted. Conditions: stated at each. -/
namespace Go.Proofs.YtiilljcnikgeaaaDoor

structure Clo where
  fr : Int
  un : Int
  kn : Int
structure Cal where
  we : Nat → Bool
  hs : List Hol
  cl : List Clo
  o : Int
  sh : Sh
  hr : Int
/-- a day of the range -/
def inD (d : Int) : Bool := decide (0 ≤ d) && decide (d ≤ 3652058)
theorem inD_iff {d : Int} : inD d = true ↔ 0 ≤ d ∧ d ≤ 3652058 := by unfold inD; simp
theorem inD_no {d : Int} : inD d = false ↔ ¬ (0 ≤ d ∧ d ≤ 3652058) := by rw [← inD_iff]; simp
/-- a closure that is known on k has the day d -/
def cloB (k d : Int) (x : Clo) : Bool := decide (x.kn ≤ k) && (decide (x.fr ≤ d) && decide (d ≤ x.un))
theorem cloB_iff {k d : Int} {x : Clo} : cloB k d x = true ↔ x.kn ≤ k ∧ x.fr ≤ d ∧ d ≤ x.un := by unfold cloB; simp
def closB (l : List Clo) (k d : Int) : Bool := l.any (cloB k d)
def shutB (c : Cal) (k d : Int) : Bool := c.we (d % 7).toNat || (closB c.cl k d || isB c.hs d)
def openB (c : Cal) (k d : Int) : Bool := inD d && !shutB c k d
/-- the days that are looked at -/
def daysL : Nat → Int → Int → List Int
  | 0, _, _ => []
  | n + 1, d, s => if inD d then d :: daysL n (d + s) s else []
def fndO (c : Cal) (k d s : Int) : Option Int := (daysL 1001 d s).find? (fun x => !shutB c k x)
def fstV (c : Cal) (k d s : Int) : Int := if inD d then (fndO c k d s).getD 0 else 0
def fstE (c : Cal) (k d s : Int) : Int := if inD d then (if (fndO c k d s).isSome then 0 else 31) else 5
/-- n court days away -/
def addO (c : Cal) (k s : Int) : Nat → Int → Option Int
  | 0, d => some d
  | n + 1, d => if fstE c k (d + s) s = 0 then addO c k s n (fstV c k (d + s) s) else none
def addS (n : Int) : Int := if n < 0 then -1 else 1
def addV (c : Cal) (k d n : Int) : Int := if inD d then (if n < -1000 ∨ 1000 < n then 0 else (addO c k (addS n) n.natAbs d).getD 0) else 0
def addE (c : Cal) (k d n : Int) : Int := if inD d then (if n < -1000 ∨ 1000 < n then 2 else (if (addO c k (addS n) n.natAbs d).isSome then 0 else 31)) else 5
/-- the open days from a day on, n days -/
def cntN (c : Cal) (k : Int) : Nat → Int → Nat
  | 0, _ => 0
  | n + 1, d => (if openB c k d then 1 else 0) + cntN c k n (d + 1)
def cntV (c : Cal) (k a b : Int) : Int := cntN c k (b - a + 1).toNat a
theorem cntN_le (c : Cal) (k : Int) : ∀ (n : Nat) (d : Int), cntN c k n d ≤ n
  | 0, _ => Nat.le_refl _
  | n + 1, d => by
    have := cntN_le c k n (d + 1)
    show (if openB c k d then 1 else 0) + cntN c k n (d + 1) ≤ n + 1
    split <;> omega
theorem cntN_snoc (c : Cal) (k : Int) : ∀ (n : Nat) (d : Int), cntN c k (n + 1) d = cntN c k n d + if openB c k (d + n) then 1 else 0
  | 0, d => by simp [cntN]
  | n + 1, d => by
    have h := cntN_snoc c k n (d + 1)
    show (if openB c k d then 1 else 0) + cntN c k (n + 1) (d + 1) = (if openB c k d then 1 else 0) + cntN c k n (d + 1) + _
    rw [h, show d + 1 + (n : Int) = d + ((n + 1 : Nat) : Int) by omega]
    omega
theorem daysL_in : ∀ (n : Nat) (d s x : Int), x ∈ daysL n d s → inD x = true
  | 0, _, _, _, h => by cases h
  | n + 1, d, s, x, h => by
    unfold daysL at h
    cases e : inD d
    · rw [if_neg (by simp [e])] at h; cases h
    · rw [if_pos e] at h
      rcases List.mem_cons.1 h with q | q
      · rw [q]; exact e
      · exact daysL_in n _ _ _ q
theorem fndO_in {c : Cal} {k d s x : Int} (h : fndO c k d s = some x) : openB c k x = true := by
  unfold fndO at h
  have h1 := List.find?_some h
  have h2 := daysL_in _ _ _ _ (List.mem_of_find?_eq_some h)
  unfold openB
  rw [h2]; exact h1
theorem fst_ok {c : Cal} {k d s : Int} (h : fstE c k d s = 0) : fndO c k d s = some (fstV c k d s) ∧ inD d = true := by
  unfold fstE at h
  unfold fstV
  cases e : inD d
  · rw [if_neg (by simp [e])] at h; cases h
  · rw [if_pos e] at h
    rw [if_pos rfl]
    cases e2 : fndO c k d s
    · rw [e2] at h; simp at h
    · exact ⟨rfl, rfl⟩
theorem fst_in {c : Cal} {k d s : Int} (h : fstE c k d s = 0) : openB c k (fstV c k d s) = true := fndO_in (fst_ok h).1
theorem fstE_cases (c : Cal) (k d s : Int) : fstE c k d s = 0 ∨ fstE c k d s = 31 ∨ fstE c k d s = 5 := by
  unfold fstE; split
  · split <;> simp
  · simp
theorem openB_in {c : Cal} {k d : Int} (h : openB c k d = true) : inD d = true := by unfold openB at h; simp at h; exact h.1
theorem fstV_bd (c : Cal) (k d s : Int) : 0 ≤ fstV c k d s ∧ fstV c k d s ≤ 3652058 := by
  unfold fstV
  split
  · cases e : fndO c k d s
    · simp
    · exact inD_iff.1 (openB_in (fndO_in e))
  · omega
end Go.Proofs.YtiilljcnikgeaaaDoor
/- Plain: laws of calendars: an open day is near, the first open day, court days added and taken away. Conditions: stated at each. -/
namespace Go.Proofs.YtiilljcnikgeaaaDoor

/-! ### counting -/
def cnt (p : Int → Bool) : Nat → Int → Nat
  | 0, _ => 0
  | n + 1, d => (if p d then 1 else 0) + cnt p n (d + 1)
theorem cnt_or {p q r : Int → Bool} (h : ∀ x, r x = true → p x = true ∨ q x = true) : ∀ (n : Nat) (d : Int), cnt r n d ≤ cnt p n d + cnt q n d
  | 0, _ => Nat.le_refl _
  | n + 1, d => by
    have ih := cnt_or h n (d + 1)
    have := h d
    show (if r d then 1 else 0) + cnt r n (d + 1) ≤ (if p d then 1 else 0) + cnt p n (d + 1) + ((if q d then 1 else 0) + cnt q n (d + 1))
    cases e : r d
    · simp; omega
    · rcases this e with g | g
      · simp [g]; omega
      · simp [g]; omega
theorem cnt_lt {p : Int → Bool} : ∀ (n : Nat) (d : Int), cnt p n d < n → ∃ i : Nat, i < n ∧ p (d + i) = false
  | 0, _, h => absurd h (by simp [cnt])
  | n + 1, d, h => by
    cases e : p d
    · exact ⟨0, by omega, by simpa using e⟩
    · have h1 : (if p d then 1 else 0) + cnt p n (d + 1) < n + 1 := h
      rw [e, if_pos rfl] at h1
      obtain ⟨i, h2, h3⟩ := cnt_lt (p := p) n (d + 1) (by omega)
      exact ⟨i + 1, by omega, by rw [← h3]; congr 1; omega⟩
theorem cnt_add (p : Int → Bool) : ∀ (m n : Nat) (d : Int), cnt p (m + n) d = cnt p m d + cnt p n (d + m)
  | 0, n, d => by simp [cnt]
  | m + 1, n, d => by
    have ih := cnt_add p m n (d + 1)
    rw [show m + 1 + n = (m + n) + 1 by omega]
    show (if p d then 1 else 0) + cnt p (m + n) (d + 1) = (if p d then 1 else 0) + cnt p m (d + 1) + _
    rw [ih, show d + 1 + (m : Int) = d + ((m + 1 : Nat) : Int) by omega]
    omega
/-- closed weekdays -/
def weB (we : Nat → Bool) (d : Int) : Bool := we (d % 7).toNat
theorem cnt_week {we : Nat → Bool} (h1 : we 1 = false) (h2 : we 2 = false) (h3 : we 3 = false) (h4 : we 4 = false) (d : Int) : cnt (weB we) 7 d ≤ 3 := by
  have hq : ∃ q : Nat, q < 7 ∧ d % 7 = q := ⟨(d % 7).toNat, by omega, by omega⟩
  obtain ⟨q, hq, e⟩ := hq
  have r : ∀ i : Int, 0 ≤ i → i < 7 → weB we (d + i) = we ((q + i.toNat) % 7) := by
    intro i h0 h7; unfold weB; congr 1; omega
  have e0 := r 0 (by omega) (by omega)
  have e1 := r 1 (by omega) (by omega)
  have e2 := r 2 (by omega) (by omega)
  have e3 := r 3 (by omega) (by omega)
  have e4 := r 4 (by omega) (by omega)
  have e5 := r 5 (by omega) (by omega)
  have e6 := r 6 (by omega) (by omega)
  have hd : cnt (weB we) 7 d = (if weB we (d + 0) then 1 else 0) + ((if weB we (d + 1) then 1 else 0) + ((if weB we (d + 2) then 1 else 0) + ((if weB we (d + 3) then 1 else 0) + ((if weB we (d + 4) then 1 else 0) + ((if weB we (d + 5) then 1 else 0) + ((if weB we (d + 6) then 1 else 0) + 0)))))) := by
    simp only [cnt, Int.add_zero, show d + 1 + 1 = d + 2 by omega, show d + 2 + 1 = d + 3 by omega, show d + 3 + 1 = d + 4 by omega, show d + 4 + 1 = d + 5 by omega, show d + 5 + 1 = d + 6 by omega]
  rw [hd, e0, e1, e2, e3, e4, e5, e6]
  have b : ∀ x : Bool, (if x = true then 1 else 0) ≤ 1 := fun x => by cases x <;> simp
  have b0 := b (we 0)
  have b5 := b (we 5)
  have b6 := b (we 6)
  match q, hq with
  | 0, _ => simp [h1, h2, h3, h4]; omega
  | 1, _ => simp [h1, h2, h3, h4]; omega
  | 2, _ => simp [h1, h2, h3, h4]; omega
  | 3, _ => simp [h1, h2, h3, h4]; omega
  | 4, _ => simp [h1, h2, h3, h4]; omega
  | 5, _ => simp [h1, h2, h3, h4]; omega
  | 6, _ => simp [h1, h2, h3, h4]; omega
theorem cnt_weeks {we : Nat → Bool} (h1 : we 1 = false) (h2 : we 2 = false) (h3 : we 3 = false) (h4 : we 4 = false) : ∀ (W : Nat) (d : Int), cnt (weB we) (7 * W) d ≤ 3 * W
  | 0, _ => by simp [cnt]
  | W + 1, d => by
    have := cnt_weeks h1 h2 h3 h4 W (d + 7)
    have h := cnt_week h1 h2 h3 h4 d
    rw [show 7 * (W + 1) = 7 + 7 * W by omega, cnt_add]
    have e : d + ((7 : Nat) : Int) = d + 7 := by omega
    rw [e]; omega
theorem cnt_clo (k : Int) (x : Clo) : ∀ (n : Nat) (d : Int), (cnt (fun e => cloB k e x) n d : Int) ≤ max 0 (x.un - max x.fr d + 1)
  | 0, d => by simp [cnt]; omega
  | n + 1, d => by
    have ih := cnt_clo k x n (d + 1)
    have e : cnt (fun e => cloB k e x) (n + 1) d = (if cloB k d x then 1 else 0) + cnt (fun e => cloB k e x) n (d + 1) := rfl
    rw [e]
    by_cases h : cloB k d x = true
    · rw [if_pos h]
      have := cloB_iff.1 h
      omega
    · rw [if_neg h]; omega
def cloLen : List Clo → Int
  | [] => 0
  | x :: l => max 0 (x.un - x.fr + 1) + cloLen l
theorem cnt_clos (k : Int) : ∀ (l : List Clo) (n : Nat) (d : Int), (cnt (fun e => closB l k e) n d : Int) ≤ cloLen l
  | [], n, d => by
    have : ∀ (n : Nat) (d : Int), cnt (fun e => closB [] k e) n d = 0 := by
      intro n
      induction n with
      | zero => intro d; rfl
      | succ n ih => intro d; show (if closB [] k d then 1 else 0) + cnt _ n (d + 1) = 0; rw [ih]; simp [closB]
    rw [this]; simp [cloLen]
  | x :: l, n, d => by
    have ih := cnt_clos k l n d
    have h := cnt_or (p := fun e => cloB k e x) (q := fun e => closB l k e) (r := fun e => closB (x :: l) k e) (fun e he => by simpa [closB] using he) n d
    have h2 := cnt_clo k x n d
    have e : cloLen (x :: l) = max 0 (x.un - x.fr + 1) + cloLen l := rfl
    rw [e]; omega
theorem cnt_filter (p : Int → Bool) : ∀ (n : Nat) (d : Int), cnt p n d = (((List.range n).map fun i : Nat => d + (i : Int)).filter p).length
  | 0, _ => by simp [cnt]
  | n + 1, d => by
    have ih := cnt_filter p n (d + 1)
    show (if p d then 1 else 0) + cnt p n (d + 1) = _
    rw [ih, List.range_succ_eq_map, List.map_cons, List.map_map, List.filter_cons]
    have e : (List.map ((fun i : Nat => d + (i : Int)) ∘ Nat.succ) (List.range n)) = List.map (fun i : Nat => d + 1 + (i : Int)) (List.range n) := by
      apply List.map_congr_left
      intro i _
      show d + ((i + 1 : Nat) : Int) = d + 1 + i
      omega
    rw [e]
    cases h : p (d + ((0 : Nat) : Int))
    · have h' : p d = false := by simpa using h
      rw [h']; simp
    · have h' : p d = true := by simpa using h
      rw [h']; simp; omega
theorem btw_lenY (l : List Hol) (f u : Int) : (btw l f u).length ≤ nYears (max f 0) (min u 3652058) * l.length := by
  unfold btw
  split
  · simp
  · refine Nat.le_trans (Go.Lib.compact_length_le _) ?_
    rw [sortI_len]
    exact rawD_len _ _ _ _ _
theorem cnt_hol {l : List Hol} (hv : ∀ x, x ∈ l → hvB x = true) (n : Nat) (d : Int) (h0 : 0 ≤ d) (hn : 1 ≤ n) (h1 : n ≤ 300) (h2 : d + n ≤ 3652058) : cnt (isB l) n d ≤ 4 * l.length := by
  have hb : (btw l d (d + n - 1)).length ≤ 4 * l.length := by
    refine Nat.le_trans (btw_lenY l _ _) (Nat.mul_le_mul_right _ ?_)
    rw [Int.max_eq_left h0, Int.min_eq_left (by omega)]
    unfold nYears
    obtain ⟨_, _, m1, m2, d1, d2⟩ := valid_of (n := d) h0 (by omega)
    obtain ⟨_, _, m3, m4, d3, d4⟩ := valid_of (n := d + n - 1) (by omega) (by omega)
    have n1 := num_of (n := d) h0 (by omega)
    have n2 := num_of (n := d + n - 1) (by omega) (by omega)
    have i1 := num_in (y := ofY d) m1 m2 d1 d2
    have i2 := num_in (y := ofY (d + n - 1)) m3 m4 d3 d4
    have j1 := num_jan (y := ofY d + 1)
    have j2 := num_jan (y := ofY (d + n - 1))
    omega
  rw [cnt_filter]
  refine Nat.le_trans ?_ hb
  refine List.Nodup.length_le_of_subset ?_ ?_
  · have h1 : ((List.range n).map fun i : Nat => d + (i : Int)).Pairwise (· ≠ ·) := by
      rw [List.pairwise_map]
      exact List.pairwise_lt_range.imp (fun h => by omega)
    exact List.Pairwise.sublist List.filter_sublist h1
  · intro x hx
    obtain ⟨h3, h4⟩ := List.mem_filter.1 hx
    obtain ⟨i, hi, rfl⟩ := List.mem_map.1 h3
    have := List.mem_range.1 hi
    exact (btw_iff hv).2 ⟨⟨by omega, by omega⟩, (isB_iff hv).1 h4⟩

/-! ### an open day is near -/
structure Reg (c : Cal) (m : Int) : Prop where
  w1 : c.we 1 = false
  w2 : c.we 2 = false
  w3 : c.we 3 = false
  w4 : c.we 4 = false
  hv : ∀ x, x ∈ c.hs → hvB x = true
  hl : c.hs.length ≤ 3
  cl : cloLen c.cl ≤ m
theorem near {c : Cal} {m : Int} (h : Reg c m) (k d : Int) (W : Nat) (hW : m + 12 < 4 * W) (h30 : W ≤ 30) (hW0 : 1 ≤ W) (h0 : 0 ≤ d) (h2 : d + 7 * W ≤ 3652058) : ∃ i : Nat, i < 7 * W ∧ openB c k (d + i) = true := by
  have c1 := cnt_weeks h.w1 h.w2 h.w3 h.w4 W d
  have c2 := cnt_clos k c.cl (7 * W) d
  have c3 := cnt_hol h.hv (7 * W) d h0 (by omega) (by omega) (by omega)
  have o1 := cnt_or (p := fun e => closB c.cl k e) (q := isB c.hs) (r := fun e => closB c.cl k e || isB c.hs e) (fun e he => by simpa using he) (7 * W) d
  have o2 := cnt_or (p := weB c.we) (q := fun e => closB c.cl k e || isB c.hs e) (r := shutB c k) (fun e he => by unfold shutB at he; unfold weB; simp at he; simp; exact he) (7 * W) d
  have := h.hl
  have := h.cl
  obtain ⟨i, hi, hp⟩ := cnt_lt (p := shutB c k) (7 * W) d (by omega)
  refine ⟨i, hi, ?_⟩
  unfold openB
  rw [inD_iff.2 (by omega), hp]; rfl

/-! ### the first open day -/
theorem step_mul (d s : Int) (i : Nat) : d + s + s * (i : Int) = d + s * ((i + 1 : Nat) : Int) := by
  rw [Int.natCast_add, Int.mul_add]; simp; omega
theorem find_iff (p : Int → Bool) (s : Int) : ∀ (n : Nat) (d x : Int), (daysL n d s).find? p = some x ↔ ∃ i : Nat, i < n ∧ x = d + s * i ∧ inD x = true ∧ p x = true ∧ ∀ j : Nat, j < i → inD (d + s * j) = true ∧ p (d + s * j) = false
  | 0, d, x => by simp [daysL]
  | n + 1, d, x => by
    have ih := find_iff p s n (d + s) x
    unfold daysL
    cases e : inD d
    · rw [if_neg (by simp)]
      constructor
      · intro h; cases h
      · rintro ⟨i, hi, rfl, h1, h2, h3⟩
        rcases Nat.eq_zero_or_pos i with g | g
        · subst g; simp [e] at h1
        · have := (h3 0 g).1; simp [e] at this
    · rw [if_pos rfl, List.find?_cons]
      cases e2 : p d
      · simp only
        rw [ih]
        constructor
        · rintro ⟨i, hi, rfl, h1, h2, h3⟩
          refine ⟨i + 1, by omega, step_mul d s i, h1, h2, fun j hj => ?_⟩
          rcases Nat.eq_zero_or_pos j with g | g
          · subst g; simp [e, e2]
          · have := h3 (j - 1) (by omega)
            rw [step_mul, show j - 1 + 1 = j by omega] at this
            exact this
        · rintro ⟨i, hi, rfl, h1, h2, h3⟩
          rcases Nat.eq_zero_or_pos i with g | g
          · subst g; simp [e2] at h2
          · refine ⟨i - 1, by omega, ?_, h1, h2, fun j hj => ?_⟩
            · rw [step_mul, show i - 1 + 1 = i by omega]
            · rw [step_mul]; exact h3 (j + 1) (by omega)
      · simp only
        constructor
        · intro h
          cases h
          exact ⟨0, by omega, by simp, e, e2, fun j hj => absurd hj (by omega)⟩
        · rintro ⟨i, hi, rfl, h1, h2, h3⟩
          rcases Nat.eq_zero_or_pos i with g | g
          · subst g; simp
          · have := (h3 0 g).2; simp [e2] at this
/-- what it is that x is the first open day -/
def IsFst (c : Cal) (k d s x : Int) (i : Nat) : Prop := i ≤ 1000 ∧ x = d + s * i ∧ openB c k x = true ∧ ∀ j : Nat, j < i → inD (d + s * j) = true ∧ openB c k (d + s * j) = false
theorem openB_shut {c : Cal} {k d : Int} (h : inD d = true) : openB c k d = !shutB c k d := by unfold openB; rw [h]; rfl
theorem fnd_iff {c : Cal} {k d s x : Int} : fndO c k d s = some x ↔ ∃ i, IsFst c k d s x i := by
  unfold fndO
  rw [find_iff]
  constructor
  · rintro ⟨i, hi, h1, h2, h3, h4⟩
    exact ⟨i, by omega, h1, by rw [openB_shut h2]; exact h3, fun j hj => ⟨(h4 j hj).1, by rw [openB_shut (h4 j hj).1]; exact (h4 j hj).2⟩⟩
  · rintro ⟨i, hi, h1, h2, h3⟩
    have hi2 := openB_in h2
    exact ⟨i, by omega, h1, hi2, by rw [← openB_shut hi2]; exact h2, fun j hj => ⟨(h3 j hj).1, by rw [← openB_shut (h3 j hj).1]; exact (h3 j hj).2⟩⟩
theorem fst_of {c : Cal} {k d s x : Int} {i : Nat} (h : IsFst c k d s x i) : fstE c k d s = 0 ∧ fstV c k d s = x := by
  have h1 := fnd_iff.2 ⟨i, h⟩
  have h2 : inD d = true := by
    rcases Nat.eq_zero_or_pos i with g | g
    · subst g
      have := openB_in h.2.2.1
      rw [h.2.1] at this; simpa using this
    · have := (h.2.2.2 0 g).1; simpa using this
  unfold fstE fstV
  rw [if_pos h2, if_pos h2, h1]; simp
theorem fst_is {c : Cal} {k d s : Int} (h : fstE c k d s = 0) : ∃ i, IsFst c k d s (fstV c k d s) i := fnd_iff.1 (fst_ok h).1
/-- from an open day at i steps on, the first one is at i steps or before -/
theorem fst_le {c : Cal} {k d s : Int} {i : Nat} (hi : i ≤ 1000) (ho : openB c k (d + s * i) = true) (hin : ∀ j : Nat, j < i → inD (d + s * j) = true) : ∃ j, j ≤ i ∧ IsFst c k d s (d + s * j) j := by
  induction i with
  | zero => exact ⟨0, Nat.le_refl _, by omega, rfl, ho, fun j hj => absurd hj (by omega)⟩
  | succ n ih =>
    by_cases h : ∃ j : Nat, j < n + 1 ∧ openB c k (d + s * j) = true
    · -- the least
      have key : ∀ m : Nat, (∃ j : Nat, j ≤ m ∧ openB c k (d + s * j) = true) → m ≤ n → ∃ j, j ≤ m ∧ IsFst c k d s (d + s * j) j := by
        intro m
        induction m with
        | zero =>
          rintro ⟨j, hj, h1⟩ _
          obtain rfl : j = 0 := by omega
          exact ⟨0, Nat.le_refl _, by omega, rfl, h1, fun j hj => absurd hj (by omega)⟩
        | succ m ihm =>
          rintro ⟨j, hj, h1⟩ hm
          by_cases h2 : ∃ j : Nat, j ≤ m ∧ openB c k (d + s * j) = true
          · obtain ⟨q, q1, q2⟩ := ihm h2 (by omega)
            exact ⟨q, by omega, q2⟩
          · have e : j = m + 1 := by
              apply Classical.byContradiction
              intro hne
              exact h2 ⟨j, by omega, h1⟩
            subst e
            refine ⟨m + 1, Nat.le_refl _, by omega, rfl, h1, fun q hq => ⟨hin q (by omega), ?_⟩⟩
            cases e3 : openB c k (d + s * q)
            · rfl
            · exact absurd ⟨q, by omega, e3⟩ h2
      obtain ⟨j, hj, h1⟩ := h
      obtain ⟨q, q1, q2⟩ := key n ⟨j, by omega, h1⟩ (Nat.le_refl _)
      exact ⟨q, by omega, q2⟩
    · refine ⟨n + 1, Nat.le_refl _, hi, rfl, ho, fun j hj => ⟨hin j hj, ?_⟩⟩
      cases e : openB c k (d + s * j)
      · rfl
      · exact absurd ⟨j, hj, e⟩ h
theorem fst_uniq {c : Cal} {k d s x y : Int} {i j : Nat} (h : IsFst c k d s x i) (h' : IsFst c k d s y j) : i = j := by
  rcases Nat.lt_trichotomy i j with g | g | g
  · have := (h'.2.2.2 i g).2; rw [← h.2.1, h.2.2.1] at this; cases this
  · exact g
  · have := (h.2.2.2 j g).2; rw [← h'.2.1, h'.2.2.1] at this; cases this
theorem fst_same {c c' : Cal} {k k' d s x : Int} {i : Nat} (h : IsFst c k d s x i) (hs : ∀ j : Nat, j ≤ i → openB c' k' (d + s * j) = openB c k (d + s * j)) : IsFst c' k' d s x i :=
  ⟨h.1, h.2.1, by rw [h.2.1, hs i (Nat.le_refl _), ← h.2.1]; exact h.2.2.1, fun j hj => ⟨(h.2.2.2 j hj).1, by rw [hs j (by omega)]; exact (h.2.2.2 j hj).2⟩⟩
/-- near: the next one and the one before -/
theorem next_near {c : Cal} {m : Int} (h : Reg c m) (k d : Int) (W : Nat) (hW : m + 12 < 4 * W) (h30 : W ≤ 30) (hW0 : 1 ≤ W) (h0 : 0 ≤ d) (h2 : d + 7 * W ≤ 3652058) : ∃ i : Nat, i < 7 * W ∧ IsFst c k d 1 (d + i) i := by
  obtain ⟨i, hi, ho⟩ := near h k d W hW h30 hW0 h0 h2
  obtain ⟨j, hj, hf⟩ := fst_le (s := 1) (i := i) (by omega) (by rw [Int.one_mul]; exact ho) (fun j hj => inD_iff.2 (by omega))
  exact ⟨j, by omega, by rw [Int.one_mul] at hf; exact hf⟩
theorem prev_near {c : Cal} {m : Int} (h : Reg c m) (k d : Int) (W : Nat) (hW : m + 12 < 4 * W) (h30 : W ≤ 30) (hW0 : 1 ≤ W) (h0 : 7 * W ≤ d) (h2 : d + 1 ≤ 3652058) : ∃ i : Nat, i < 7 * W ∧ IsFst c k d (-1) (d - i) i := by
  obtain ⟨i, hi, ho⟩ := near h k (d - 7 * W + 1) W hW h30 hW0 (by omega) (by omega)
  obtain ⟨j, hj, hf⟩ := fst_le (s := -1) (d := d) (c := c) (k := k) (i := 7 * W - 1 - i) (by omega) (by rw [show d + -1 * ((7 * W - 1 - i : Nat) : Int) = d - 7 * W + 1 + i by omega]; exact ho) (fun j hj => inD_iff.2 (by omega))
  exact ⟨j, by omega, by rw [show d + -1 * (j : Int) = d - j by omega] at hf; exact hf⟩

/-! ### court days added -/
theorem addO_add (c : Cal) (k s : Int) : ∀ (x y : Nat) (d : Int), addO c k s (x + y) d = (addO c k s x d).bind (addO c k s y)
  | 0, y, d => by rw [Nat.zero_add]; rfl
  | x + 1, y, d => by
    rw [show x + 1 + y = (x + y) + 1 by omega]
    show (if fstE c k (d + s) s = 0 then addO c k s (x + y) (fstV c k (d + s) s) else none) = (if fstE c k (d + s) s = 0 then addO c k s x (fstV c k (d + s) s) else none).bind _
    by_cases h : fstE c k (d + s) s = 0
    · rw [if_pos h, if_pos h]; exact addO_add c k s x y _
    · rw [if_neg h, if_neg h]; rfl
theorem addO_one {c : Cal} {k s d e : Int} (h : addO c k s 1 d = some e) : ∃ i, IsFst c k (d + s) s e i := by
  have h1 : (if fstE c k (d + s) s = 0 then addO c k s 0 (fstV c k (d + s) s) else none) = some e := h
  by_cases g : fstE c k (d + s) s = 0
  · rw [if_pos g] at h1
    have h2 : some (fstV c k (d + s) s) = some e := h1
    cases h2
    exact fst_is g
  · rw [if_neg g] at h1; cases h1
theorem addO_of {c : Cal} {k s d e : Int} {i n : Nat} (h : IsFst c k (d + s) s e i) : addO c k s (n + 1) d = addO c k s n e := by
  obtain ⟨h1, h2⟩ := fst_of h
  show (if fstE c k (d + s) s = 0 then addO c k s n (fstV c k (d + s) s) else none) = _
  rw [if_pos h1, h2]
theorem addO_succ {c : Cal} {k s d e : Int} {n : Nat} (h : addO c k s (n + 1) d = some e) : ∃ e' i, IsFst c k (d + s) s e' i ∧ addO c k s n e' = some e := by
  have h1 : (if fstE c k (d + s) s = 0 then addO c k s n (fstV c k (d + s) s) else none) = some e := h
  by_cases g : fstE c k (d + s) s = 0
  · rw [if_pos g] at h1
    obtain ⟨i, hi⟩ := fst_is g
    exact ⟨_, i, hi, h1⟩
  · rw [if_neg g] at h1; cases h1
theorem addO_up {c : Cal} {k : Int} : ∀ {n : Nat} {d e : Int}, addO c k 1 n d = some e → d + n ≤ e
  | 0, d, e, h => by cases h; simp
  | n + 1, d, e, h => by
    obtain ⟨e', i, h1, h2⟩ := addO_succ h
    have := addO_up h2
    have := h1.2.1
    omega
theorem addO_down {c : Cal} {k : Int} : ∀ {n : Nat} {d e : Int}, addO c k (-1) n d = some e → e + n ≤ d
  | 0, d, e, h => by cases h; simp
  | n + 1, d, e, h => by
    obtain ⟨e', i, h1, h2⟩ := addO_succ h
    have := addO_down h2
    have := h1.2.1
    omega
theorem addO_open {c : Cal} {k s : Int} : ∀ {n : Nat} {d e : Int}, addO c k s n d = some e → 0 < n → openB c k e = true
  | 0, _, _, _, h => absurd h (by omega)
  | n + 1, d, e, h, _ => by
    obtain ⟨e', i, h1, h2⟩ := addO_succ h
    rcases Nat.eq_zero_or_pos n with g | g
    · subst g; cases h2; exact h1.2.2.1
    · exact addO_open h2 g
/-- upwards there is always one -/
theorem addO_ex {c : Cal} {m : Int} (h : Reg c m) (k : Int) (W : Nat) (hW : m + 12 < 4 * W) (h30 : W ≤ 30) (hW0 : 1 ≤ W) : ∀ (n : Nat) (d : Int), 0 ≤ d → d + (7 * W + 1) * (n + 1 : Int) ≤ 3652058 → ∃ e, addO c k 1 n d = some e ∧ e ≤ d + (7 * W + 1) * (n : Int)
  | 0, d, _, _ => ⟨d, rfl, by simp⟩
  | n + 1, d, h0, h1 => by
    have hm : (7 * (W : Int) + 1) * ((n + 1 : Nat) + 1 : Int) = (7 * (W : Int) + 1) * (n + 1 : Int) + (7 * W + 1) := by rw [show ((n + 1 : Nat) : Int) + 1 = (n + 1 : Int) + 1 by omega, Int.mul_add, Int.mul_one]
    have hm2 : (7 * (W : Int) + 1) * (n + 1 : Int) = (7 * (W : Int) + 1) * (n : Int) + (7 * W + 1) := by rw [Int.mul_add, Int.mul_one]
    have hp : 0 ≤ (7 * (W : Int) + 1) * (n : Int) := Int.mul_nonneg (by omega) (by omega)
    obtain ⟨i, hi, hf⟩ := next_near h k (d + 1) W hW h30 hW0 (by omega) (by omega)
    obtain ⟨e, h2, h3⟩ := addO_ex h k W hW h30 hW0 n (d + 1 + i) (by omega) (by omega)
    refine ⟨e, by rw [addO_of hf]; exact h2, ?_⟩
    have hm3 : (7 * (W : Int) + 1) * ((n + 1 : Nat) : Int) = (7 * (W : Int) + 1) * (n + 1 : Int) := by rw [show ((n + 1 : Nat) : Int) = (n : Int) + 1 by omega]
    omega
theorem addO_exd {c : Cal} {m : Int} (h : Reg c m) (k : Int) (W : Nat) (hW : m + 12 < 4 * W) (h30 : W ≤ 30) (hW0 : 1 ≤ W) : ∀ (n : Nat) (d : Int), d + 1 ≤ 3652058 → (7 * W + 1) * (n + 1 : Int) ≤ d → ∃ e, addO c k (-1) n d = some e ∧ d ≤ e + (7 * W + 1) * (n : Int)
  | 0, d, _, _ => ⟨d, rfl, by simp⟩
  | n + 1, d, h0, h1 => by
    have hm : (7 * (W : Int) + 1) * ((n + 1 : Nat) + 1 : Int) = (7 * (W : Int) + 1) * (n + 1 : Int) + (7 * W + 1) := by rw [show ((n + 1 : Nat) : Int) + 1 = (n + 1 : Int) + 1 by omega, Int.mul_add, Int.mul_one]
    have hm2 : (7 * (W : Int) + 1) * (n + 1 : Int) = (7 * (W : Int) + 1) * (n : Int) + (7 * W + 1) := by rw [Int.mul_add, Int.mul_one]
    have hp : 0 ≤ (7 * (W : Int) + 1) * (n : Int) := Int.mul_nonneg (by omega) (by omega)
    obtain ⟨i, hi, hf⟩ := prev_near h k (d + -1) W hW h30 hW0 (by omega) (by omega)
    obtain ⟨e, h2, h3⟩ := addO_exd h k W hW h30 hW0 n (d + -1 - i) (by omega) (by omega)
    refine ⟨e, by rw [addO_of hf]; exact h2, ?_⟩
    have hm3 : (7 * (W : Int) + 1) * ((n + 1 : Nat) : Int) = (7 * (W : Int) + 1) * (n + 1 : Int) := by rw [show ((n + 1 : Nat) : Int) = (n : Int) + 1 by omega]
    omega
/-- as many open days on the way as were added -/
theorem cntN_cnt (c : Cal) (k : Int) : ∀ (n : Nat) (d : Int), cntN c k n d = cnt (openB c k) n d
  | 0, _ => rfl
  | n + 1, d => by show (if openB c k d then 1 else 0) + cntN c k n (d + 1) = _; rw [cntN_cnt c k n]; rfl
theorem cnt_none {p : Int → Bool} : ∀ {n : Nat} {d : Int}, (∀ j : Nat, j < n → p (d + j) = false) → cnt p n d = 0
  | 0, _, _ => rfl
  | n + 1, d, h => by
    have h0 : p d = false := by simpa using h 0 (by omega)
    show (if p d then 1 else 0) + cnt p n (d + 1) = 0
    rw [h0, cnt_none (fun j hj => by have := h (j + 1) (by omega); rw [← this]; congr 1; omega)]; rfl
theorem cnt_way {c : Cal} {k : Int} : ∀ {n : Nat} {d e : Int}, addO c k 1 n d = some e → cnt (openB c k) (e - d).toNat (d + 1) = n
  | 0, d, e, h => by cases h; simp [cnt]
  | n + 1, d, e, h => by
    obtain ⟨e', i, h1, h2⟩ := addO_succ h
    have ih := cnt_way h2
    have hu := addO_up h2
    have he := h1.2.1
    rw [show (e - d).toNat = i + (1 + (e - e').toNat) by omega, cnt_add, cnt_add, show d + 1 + (i : Int) + ((1 : Nat) : Int) = e' + 1 by omega, ih]
    rw [cnt_none (n := i) (fun j hj => by have := (h1.2.2.2 j hj).2; rw [Int.one_mul] at this; exact this)]
    have ho : openB c k (d + 1 + i) = true := by rw [show d + 1 + (i : Int) = e' by omega]; exact h1.2.2.1
    simp [cnt, ho]; omega
/-- from an open day, subtracting leads back -/
theorem back_one {c : Cal} {k d e : Int} {i : Nat} (h : IsFst c k (d + 1) 1 e i) (ho : openB c k d = true) : IsFst c k (e + -1) (-1) d i := by
  have he := h.2.1
  refine ⟨h.1, by omega, ho, fun j hj => ?_⟩
  have := h.2.2.2 (i - 1 - j) (by omega)
  rw [show d + 1 + 1 * ((i - 1 - j : Nat) : Int) = e + -1 + -1 * (j : Int) by omega] at this
  exact this
theorem addO_back {c : Cal} {k : Int} : ∀ {n : Nat} {d e : Int}, addO c k 1 n d = some e → openB c k d = true → addO c k (-1) n e = some d
  | 0, d, e, h, _ => by cases h; rfl
  | n + 1, d, e, h, ho => by
    rw [addO_add] at h
    cases h1 : addO c k 1 n d with
    | none => rw [h1] at h; cases h
    | some e' =>
      rw [h1] at h
      obtain ⟨i, hi⟩ := addO_one (show addO c k 1 1 e' = some e from h)
      have ho' : openB c k e' = true := by
        rcases Nat.eq_zero_or_pos n with g | g
        · subst g; cases h1; exact ho
        · exact addO_open h1 g
      rw [addO_of (back_one hi ho')]
      exact addO_back h1 ho
/-- only the days on the way count -/
theorem addO_same {c c' : Cal} {k s : Int} (hs : s = 1 ∨ s = -1) : ∀ {n : Nat} {d e : Int}, addO c k s n d = some e → (∀ x, min d e ≤ x → x ≤ max d e → openB c' k x = openB c k x) → addO c' k s n d = some e
  | 0, d, e, h, _ => by cases h; rfl
  | n + 1, d, e, h, hx => by
    obtain ⟨e', i, h1, h2⟩ := addO_succ h
    have he := h1.2.1
    rcases hs with rfl | rfl
    · have hu := addO_up h2
      rw [addO_of (fst_same h1 (fun j hj => hx _ (by omega) (by omega)))]
      exact addO_same (.inl rfl) h2 (fun x h3 h4 => hx x (by omega) (by omega))
    · have hu := addO_down h2
      rw [addO_of (fst_same h1 (fun j hj => hx _ (by omega) (by omega)))]
      exact addO_same (.inr rfl) h2 (fun x h3 h4 => hx x (by omega) (by omega))
end Go.Proofs.YtiilljcnikgeaaaDoor
