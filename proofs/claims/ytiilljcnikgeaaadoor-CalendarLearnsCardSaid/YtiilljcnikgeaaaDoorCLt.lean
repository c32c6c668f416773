/- Plain: a calendar with one closure more: what it changes. Conditions: stated at each. -/
import Derived.Test.YtiilljcnikgeaaaDoorCPlw
namespace Go.Proofs.YtiilljcnikgeaaaDoor

def addC (c : Cal) (x : Clo) : Cal := ⟨c.we, c.hs, c.cl ++ [x], c.o, c.sh, c.hr⟩
theorem addC_shut (c : Cal) (x : Clo) (k d : Int) : shutB (addC c x) k d = (shutB c k d || cloB k d x) := by
  unfold shutB addC closB
  simp only [List.any_append, List.any_cons, List.any_nil, Bool.or_false]
  cases c.we (d % 7).toNat <;> cases c.cl.any (cloB k d) <;> cases cloB k d x <;> cases isB c.hs d <;> rfl
theorem addC_open (c : Cal) (x : Clo) (k d : Int) : openB (addC c x) k d = (openB c k d && !cloB k d x) := by
  unfold openB
  rw [addC_shut]
  cases inD d <;> cases shutB c k d <;> cases cloB k d x <;> rfl
theorem cloLen_snoc : ∀ (l : List Clo) (x : Clo), cloLen (l ++ [x]) = cloLen l + max 0 (x.un - x.fr + 1)
  | [], x => by show max 0 (x.un - x.fr + 1) + 0 = 0 + max 0 (x.un - x.fr + 1); omega
  | y :: l, x => by
    have e1 : cloLen (y :: l ++ [x]) = max 0 (y.un - y.fr + 1) + cloLen (l ++ [x]) := rfl
    have e2 : cloLen (y :: l) = max 0 (y.un - y.fr + 1) + cloLen l := rfl
    rw [e1, e2, cloLen_snoc l x]; omega
theorem addC_reg {c : Cal} (h : Reg c 18) {x : Clo} (hx : x.un ≤ x.fr + 29) : Reg (addC c x) 48 :=
  ⟨h.w1, h.w2, h.w3, h.w4, h.hv, h.hl, by
    show cloLen (c.cl ++ [x]) ≤ 48
    rw [cloLen_snoc]
    have := h.cl
    omega⟩
/-- days that are open alike -/
theorem fst_congr {c c' : Cal} {k k' d s : Int} (h : ∀ e, openB c' k' e = openB c k e) : fstV c' k' d s = fstV c k d s ∧ fstE c' k' d s = fstE c k d s := by
  have hs : ∀ e, inD e = true → shutB c' k' e = shutB c k e := fun e he => by
    have := h e
    rw [openB_shut he, openB_shut he] at this
    cases a : shutB c' k' e <;> cases b : shutB c k e <;> simp [a, b] at this <;> rfl
  have hf : fndO c' k' d s = fndO c k d s := by
    unfold fndO
    have key : ∀ (n : Nat) (d : Int), (daysL n d s).find? (fun x => !shutB c' k' x) = (daysL n d s).find? (fun x => !shutB c k x) := by
      intro n
      induction n with
      | zero => intro d; rfl
      | succ n ih =>
        intro d
        unfold daysL
        cases e : inD d
        · rfl
        · rw [if_pos rfl, List.find?_cons, List.find?_cons, hs d e, ih]
    exact key _ _
  unfold fstV fstE
  rw [hf]; exact ⟨rfl, rfl⟩
theorem cnt_congr {p q : Int → Bool} (h : ∀ e, p e = q e) (n : Nat) (d : Int) : cnt p n d = cnt q n d := by rw [show p = q from funext h]
theorem cnt_mono {p q : Int → Bool} (h : ∀ e, p e = true → q e = true) : ∀ (n : Nat) (d : Int), cnt p n d ≤ cnt q n d
  | 0, _ => Nat.le_refl _
  | n + 1, d => by
    have ih := cnt_mono h n (d + 1)
    show (if p d then 1 else 0) + cnt p n (d + 1) ≤ (if q d then 1 else 0) + cnt q n (d + 1)
    cases e : p d
    · simp; omega
    · rw [h d e]; omega
/-- the law CalendarLearns in plain words -/
structure LearnOk (c c' : Cal) (d k : Int) : Prop where
  v : fstV c' k d 1 = fstV c k d 1
  e : fstE c' k d 1 = fstE c k d 1
  o : openB c' k d = openB c k d
  n : cntV c' k d (d + 50) = cntV c k d (d + 50)
  e1 : fstE c (k + 1) d 1 = 0
  e2 : fstE c' (k + 1) d 1 = 0
  e3 : fstE c (k + 1) d (-1) = 0
  e4 : fstE c' (k + 1) d (-1) = 0
  up : fstV c (k + 1) d 1 ≤ fstV c' (k + 1) d 1
  dn : fstV c' (k + 1) d (-1) ≤ fstV c (k + 1) d (-1)
  op : openB c' (k + 1) d = true → openB c (k + 1) d = true
  le : cntV c' (k + 1) d (d + 50) ≤ cntV c (k + 1) d (d + 50)
theorem learn_ok {c : Cal} (h : Reg c 18) {x : Clo} {d k : Int} (hx : x.un ≤ x.fr + 29) (hk : x.kn = k + 1) (d1 : 700000 ≤ d) (d2 : d ≤ 800000) : LearnOk c (addC c x) d k := by
  have h' := addC_reg h hx
  have hsame : ∀ e, openB (addC c x) k e = openB c k e := fun e => by
    have e1 : cloB k e x = false := by unfold cloB; rw [decide_eq_false (by omega)]; rfl
    rw [addC_open, e1]; simp
  have hmono : ∀ e, openB (addC c x) (k + 1) e = true → openB c (k + 1) e = true := fun e he => by
    rw [addC_open] at he; simp at he; exact he.1
  obtain ⟨i, _, f1⟩ := next_near h (k + 1) d 8 (by omega) (by omega) (by omega) (by omega) (by omega)
  obtain ⟨j, _, f2⟩ := next_near h' (k + 1) d 16 (by omega) (by omega) (by omega) (by omega) (by omega)
  obtain ⟨p, _, g1⟩ := prev_near h (k + 1) d 8 (by omega) (by omega) (by omega) (by omega) (by omega)
  obtain ⟨q, _, g2⟩ := prev_near h' (k + 1) d 16 (by omega) (by omega) (by omega) (by omega) (by omega)
  obtain ⟨a1, a2⟩ := fst_of f1
  obtain ⟨b1, b2⟩ := fst_of f2
  obtain ⟨c1, c2⟩ := fst_of g1
  obtain ⟨q1, q2⟩ := fst_of g2
  refine ⟨(fst_congr hsame).1, (fst_congr hsame).2, hsame d, ?_, a1, b1, c1, q1, ?_, ?_, hmono d, ?_⟩
  · unfold cntV; rw [cntN_cnt, cntN_cnt, cnt_congr hsame]
  · rw [a2, b2]
    apply Classical.byContradiction
    intro hn
    have h1 := (f1.2.2.2 j (by omega)).2
    rw [← f2.2.1, hmono _ f2.2.2.1] at h1; cases h1
  · rw [c2, q2]
    apply Classical.byContradiction
    intro hn
    have h1 := (g1.2.2.2 q (by omega)).2
    rw [← g2.2.1, hmono _ g2.2.2.1] at h1; cases h1
  · unfold cntV
    rw [cntN_cnt, cntN_cnt]
    have := cnt_mono hmono (d + 50 - d + 1).toNat d
    omega
/-- a closure has no day from a day to another one -/
def apB (x : Clo) (a b : Int) : Bool := decide (x.un < a) || decide (x.fr > b)
theorem ap_open {c : Cal} {x : Clo} {a b k e : Int} (h : apB x a b = true) (h1 : a ≤ e) (h2 : e ≤ b) : openB (addC c x) k e = openB c k e := by
  have e1 : cloB k e x = false := by
    unfold apB at h
    simp at h
    cases e2 : cloB k e x
    · rfl
    · have := cloB_iff.1 e2; omega
  rw [addC_open, e1]; simp
theorem addS_cases (n : Int) : addS n = 1 ∨ addS n = -1 := by unfold addS; split <;> simp
structure ConsOk (c c' : Cal) (x : Clo) (d k n : Int) : Prop where
  e1 : fstE c k d 1 = 0
  e2 : fstE c k d (-1) = 0
  e3 : addE c k d n = 0
  v1 : apB x d (fstV c k d 1) = true → fstV c' k d 1 = fstV c k d 1
  v2 : apB x (fstV c k d (-1)) d = true → fstV c' k d (-1) = fstV c k d (-1)
  v3 : apB x (min d (addV c k d n)) (max d (addV c k d n)) = true → addV c' k d n = addV c k d n
theorem cons_ok {c : Cal} (h : Reg c 18) {x : Clo} {d k n : Int} (d1 : 700000 ≤ d) (d2 : d ≤ 800000) (n1 : -30 ≤ n) (n2 : n ≤ 30) : ConsOk c (addC c x) x d k n := by
  obtain ⟨i, _, f1⟩ := next_near h k d 8 (by omega) (by omega) (by omega) (by omega) (by omega)
  obtain ⟨p, _, g1⟩ := prev_near h k d 8 (by omega) (by omega) (by omega) (by omega) (by omega)
  obtain ⟨a1, a2⟩ := fst_of f1
  obtain ⟨c1, c2⟩ := fst_of g1
  have hd : inD d = true := inD_iff.2 (by omega)
  obtain ⟨e, he⟩ : ∃ e, addO c k (addS n) n.natAbs d = some e := by
    rcases addS_cases n with hs | hs
    · rw [hs]
      obtain ⟨e, he, _⟩ := addO_ex h k 8 (by omega) (by omega) (by omega) n.natAbs d (by omega) (by omega)
      exact ⟨e, he⟩
    · rw [hs]
      obtain ⟨e, he, _⟩ := addO_exd h k 8 (by omega) (by omega) (by omega) n.natAbs d (by omega) (by omega)
      exact ⟨e, he⟩
  have hv : ∀ c : Cal, addO c k (addS n) n.natAbs d = some e → addV c k d n = e ∧ addE c k d n = 0 := fun c he => by
    unfold addV addE
    rw [if_pos hd, if_pos hd, if_neg (by omega), if_neg (by omega), he]; exact ⟨rfl, rfl⟩
  obtain ⟨v1, v2⟩ := hv c he
  refine ⟨a1, c1, v2, fun ha => ?_, fun ha => ?_, fun ha => ?_⟩
  · rw [a2] at ha ⊢
    exact (fst_of (fst_same f1 (fun j hj => ap_open ha (by omega) (by omega)))).2
  · rw [c2] at ha ⊢
    exact (fst_of (fst_same g1 (fun j hj => ap_open ha (by omega) (by omega)))).2
  · rw [v1] at ha ⊢
    exact (hv _ (addO_same (addS_cases n) he (fun y y1 y2 => ap_open ha y1 y2))).1
end Go.Proofs.YtiilljcnikgeaaaDoor
