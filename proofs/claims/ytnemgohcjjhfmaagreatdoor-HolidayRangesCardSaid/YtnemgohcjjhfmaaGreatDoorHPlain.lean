/- Plain law of the kept days: a rule's nominal day and the day on which it is kept, in one wording that both the program and the reference compute. No program in sight. Conditions: none. -/
import Derived.Test.YtnemgohcjjhfmaaGreatDoorDPlain
import Derived.Test.YtnemgohcjjhfmaaGreatDoorHSort
namespace Go.Proofs.YtnemgohcjjhfmaaGreatDoor

/-- a rule -/
structure Hol where
  k : Int
  mo : Int
  d : Int
  wd : Int
  nth : Int
  off : Int
  mv : Int
  f : Int
  l : Int
/-- a rule whose fields lie in their ranges -/
def Hol.shape (h : Hol) : Prop :=
  (h.k = 1 ∧ 1 ≤ h.mo ∧ h.mo ≤ 12 ∧ 1 ≤ h.d ∧ h.d ≤ 31) ∨ (h.k = 2 ∧ 1 ≤ h.mo ∧ h.mo ≤ 12 ∧ 0 ≤ h.wd ∧ h.wd ≤ 6 ∧ 1 ≤ h.nth ∧ h.nth ≤ 5) ∨
  (h.k = 3 ∧ 1 ≤ h.mo ∧ h.mo ≤ 12 ∧ 0 ≤ h.wd ∧ h.wd ≤ 6) ∨ (h.k = 4 ∧ -100 ≤ h.off ∧ h.off ≤ 100)
instance (h : Hol) : Decidable h.shape := by unfold Hol.shape; exact inferInstance
def Hol.valid (h : Hol) : Prop := 0 ≤ h.mv ∧ h.mv ≤ 2 ∧ 1 ≤ h.f ∧ h.f ≤ h.l ∧ h.l ≤ 9999 ∧ h.shape
instance (h : Hol) : Decidable h.valid := by unfold Hol.valid; exact inferInstance
/-- the weekday's first date in a month that begins on day b -/
def fwd (b wd : Int) : Int := b + (wd - b) % 7
/-- the weekday's last date up to day c -/
def lwd (c wd : Int) : Int := c - (c - wd) % 7
theorem fwd_bd (b wd : Int) : b ≤ fwd b wd ∧ fwd b wd ≤ b + 6 := by unfold fwd; omega
theorem lwd_bd (c wd : Int) : c - 6 ≤ lwd c wd ∧ lwd c wd ≤ c := by unfold lwd; omega
theorem fwd_day (b wd : Int) (h0 : 0 ≤ wd) (h1 : wd ≤ 6) : fwd b wd % 7 = wd := by unfold fwd; omega
theorem lwd_day (c wd : Int) (h0 : 0 ≤ wd) (h1 : wd ≤ 6) : lwd c wd % 7 = wd := by unfold lwd; omega
/-- the program's last: weeks added to the first -/
theorem last_eq (b c wd : Int) : fwd b wd + (c - fwd b wd) / 7 * 7 = lwd c wd := by unfold fwd lwd; omega
/-- the reference's walk to the first -/
theorem fwd_step (b wd : Int) (h0 : 0 ≤ wd) (h1 : wd ≤ 6) (h : b % 7 ≠ wd) : fwd (b + 1) wd = fwd b wd := by unfold fwd; omega
theorem fwd_stop (b wd : Int) (h : b % 7 = wd) : fwd b wd = b := by unfold fwd; omega
theorem lwd_step (c wd : Int) (h0 : 0 ≤ wd) (h1 : wd ≤ 6) (h : c % 7 ≠ wd) : lwd (c - 1) wd = lwd c wd := by unfold lwd; omega
theorem lwd_stop (c wd : Int) (h : c % 7 = wd) : lwd c wd = c := by unfold lwd; omega

/-- Easter's day and error are words of another text: given here as two functions -/
def nomV (ev : Int → Int) (h : Hol) (y : Int) : Int :=
  if h.k = 1 then dayN y h.mo h.d else if h.k = 2 then fwd (dayN y h.mo 1) h.wd + 7 * (h.nth - 1) else if h.k = 3 then lwd (dayN y h.mo 1 + len y h.mo - 1) h.wd else ev y + h.off
def nomB (ee : Int → Int) (ev : Int → Int) (h : Hol) (y : Int) : Bool :=
  if h.k = 1 then chk y h.mo h.d == 0 else if h.k = 2 then decide (nomV ev h y < dayN y h.mo 1 + len y h.mo) else if h.k = 3 then true else ee y == 0
/-- by how many days a rule moves -/
def movV (mv w : Int) : Int := if mv = 1 ∧ w = 5 then 2 else if mv = 2 ∧ w = 5 then -1 else if mv ≠ 0 ∧ w = 6 then 1 else 0
theorem movV_bd (mv w : Int) : -1 ≤ movV mv w ∧ movV mv w ≤ 2 := by unfold movV; repeat (first | omega | split)
def kepV (ev : Int → Int) (h : Hol) (y : Int) : Int := nomV ev h y + movV h.mv (nomV ev h y % 7)
def kepB (ee ev : Int → Int) (h : Hol) (y : Int) : Bool :=
  decide (h.f ≤ y ∧ y ≤ h.l) && nomB ee ev h y && decide (0 ≤ kepV ev h y ∧ kepV ev h y ≤ 3652058)
/-- the kept days of a year in the rules' order: day and index -/
def kepts (ee ev : Int → Int) (y : Int) : List Hol → Int → List (Int × Int)
  | [], _ => []
  | h :: t, i => if kepB ee ev h y then (kepV ev h y, i) :: kepts ee ev y t (i + 1) else kepts ee ev y t (i + 1)
/-- what Of hands back -/
def ofK (ee ev : Int → Int) (y : Int) (l : List Hol) : List (Int × Int) := stab (fun p : Int × Int => p.1) (kepts ee ev y l 0)
theorem kepts_snoc (ee ev : Int → Int) (y : Int) (h : Hol) : ∀ (l : List Hol) (i : Int), kepts ee ev y (l ++ [h]) i = kepts ee ev y l i ++ if kepB ee ev h y then [(kepV ev h y, i + l.length)] else []
  | [], i => by simp [kepts]
  | g :: t, i => by
    have e := kepts_snoc ee ev y h t (i + 1)
    have e2 : i + 1 + (t.length : Int) = i + ((g :: t).length : Int) := by simp; omega
    rw [e2] at e
    show (if kepB ee ev g y then (kepV ev g y, i) :: kepts ee ev y (t ++ [h]) (i + 1) else kepts ee ev y (t ++ [h]) (i + 1)) = (if kepB ee ev g y then (kepV ev g y, i) :: kepts ee ev y t (i + 1) else kepts ee ev y t (i + 1)) ++ _
    rw [e]
    split <;> simp
/-- a nominal day of a rule in its range is a day of the calendar or near it -/
theorem movV_eq0 (w : Int) : movV 0 w = 0 := by unfold movV; simp
theorem kepV_mod (ev : Int → Int) (h : Hol) (y : Int) (hm : 1 ≤ h.mv ∧ h.mv ≤ 2) : kepV ev h y % 7 ≤ 4 := by
  unfold kepV movV
  split
  · omega
  · split
    · omega
    · split <;> omega
end Go.Proofs.YtnemgohcjjhfmaaGreatDoor
