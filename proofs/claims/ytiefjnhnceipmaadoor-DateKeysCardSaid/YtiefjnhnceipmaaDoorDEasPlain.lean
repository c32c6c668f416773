/- Plain: the program's Easter and the reference's Easter are one, for every year of the range, by the kernel's reckoning. No program in sight. -/
import Derived.Test.YtiefjnhnceipmaaDoorDPlain
namespace Go.Proofs.YtiefjnhnceipmaaDoor

/- Easter by the cycle: the golden number, the century, and so on -/
def eaA (y : Int) : Int := y % 19
def eaB (y : Int) : Int := y / 100
def eaC (y : Int) : Int := y % 100
def eaG (y : Int) : Int := (eaB y - (eaB y + 8) / 25 + 1) / 3
def eaH (y : Int) : Int := (19 * eaA y + eaB y - eaB y / 4 - eaG y + 15) % 30
def eaL (y : Int) : Int := (32 + 2 * (eaB y % 4) + 2 * (eaC y / 4) - eaH y - eaC y % 4) % 7
def eaN (y : Int) : Int := eaH y + eaL y - 7 * ((eaA y + 11 * eaH y + 22 * eaL y) / 451) + 114
def easN (y : Int) : Int := num y (eaN y / 31) (eaN y % 31 + 1)

theorem ea_bd {y : Int} (h0 : 1583 ≤ y) (h1 : y ≤ 9999) : 0 ≤ eaA y ∧ eaA y ≤ 18 ∧ 15 ≤ eaB y ∧ eaB y ≤ 99 ∧ 0 ≤ eaC y ∧ eaC y ≤ 99 ∧ 0 ≤ eaG y ∧ eaG y ≤ 33 ∧ 0 ≤ eaH y ∧ eaH y ≤ 29 ∧ 0 ≤ eaL y ∧ eaL y ≤ 6 ∧ 107 ≤ eaN y ∧ eaN y ≤ 149 ∧ 0 ≤ 19 * eaA y + eaB y - eaB y / 4 - eaG y + 15 := by
  have a : 0 ≤ eaA y ∧ eaA y ≤ 18 := by unfold eaA; omega
  have b : 15 ≤ eaB y ∧ eaB y ≤ 99 := by unfold eaB; omega
  have c : 0 ≤ eaC y ∧ eaC y ≤ 99 := by unfold eaC; omega
  have g : 0 ≤ eaG y ∧ eaG y ≤ 33 := by unfold eaG; omega
  have h : 0 ≤ eaH y ∧ eaH y ≤ 29 := by unfold eaH; omega
  have l : 0 ≤ eaL y ∧ eaL y ≤ 6 := by unfold eaL; omega
  have n : 107 ≤ eaN y ∧ eaN y ≤ 149 := by unfold eaN; omega
  have p : 0 ≤ 19 * eaA y + eaB y - eaB y / 4 - eaG y + 15 := by unfold eaG; omega
  omega

/- Easter by the epact -/
def reG (y : Int) : Int := y % 19 + 1
def reC (y : Int) : Int := y / 100 + 1
def reX (y : Int) : Int := 3 * reC y / 4 - 12
def reZ (y : Int) : Int := (8 * reC y + 5) / 25 - 5
def reD (y : Int) : Int := 5 * y / 4 - reX y - 10
def reR (y : Int) : Int := 11 * reG y + 20 + reZ y - reX y
def reE0 (y : Int) : Int := reR y % 30
def reE (y : Int) : Int := if reE0 y = 24 then 25 else if reE0 y = 25 ∧ 11 < reG y then 26 else reE0 y
def reN0 (y : Int) : Int := if 44 - reE y < 21 then 44 - reE y + 30 else 44 - reE y
def reN (y : Int) : Int := reN0 y + 7 - (reD y + reN0 y) % 7
def reasN (y : Int) : Int := num y 3 1 + reN y - 1

theorem re_bd {y : Int} (h0 : 1583 ≤ y) (h1 : y ≤ 9999) : 1 ≤ reG y ∧ reG y ≤ 19 ∧ 16 ≤ reC y ∧ reC y ≤ 100 ∧ 0 ≤ reX y ∧ reX y ≤ 63 ∧ 0 ≤ reZ y ∧ reZ y ≤ 27 ∧ 1900 ≤ reD y ∧ reD y ≤ 12500 ∧ -40 ≤ reR y ∧ reR y ≤ 260 ∧ 0 ≤ reE0 y ∧ reE0 y ≤ 29 ∧ 0 ≤ reE y ∧ reE y ≤ 29 ∧ 15 ≤ reN0 y ∧ reN0 y ≤ 53 ∧ 16 ≤ reN y ∧ reN y ≤ 60 := by
  have a : 1 ≤ reG y ∧ reG y ≤ 19 := by unfold reG; omega
  have b : 16 ≤ reC y ∧ reC y ≤ 100 := by unfold reC; omega
  have c : 0 ≤ reX y ∧ reX y ≤ 63 := by unfold reX; omega
  have d : 0 ≤ reZ y ∧ reZ y ≤ 27 := by unfold reZ; omega
  have e : 1900 ≤ reD y ∧ reD y ≤ 12500 := by unfold reD; omega
  have f : -40 ≤ reR y ∧ reR y ≤ 260 := by unfold reR; omega
  have g : 0 ≤ reE0 y ∧ reE0 y ≤ 29 := by unfold reE0; omega
  have h : 0 ≤ reE y ∧ reE y ≤ 29 := by unfold reE; split <;> (try split) <;> omega
  have i : 15 ≤ reN0 y ∧ reN0 y ≤ 53 := by unfold reN0; split <;> omega
  have j : 16 ≤ reN y ∧ reN y ≤ 60 := by unfold reN; omega
  omega

/-- one year: the two agree, on a Sunday from March 22 to April 25 -/
def easOk (y : Int) : Bool := decide (reN y = eaN y - 92) && decide (easN y % 7 = 6) && decide (22 ≤ reN y) && decide (reN y ≤ 56)
def easAll : Nat → Bool
  | 0 => true
  | k + 1 => easOk (1583 + k) && easAll k
theorem easAll_spec : ∀ (k : Nat), easAll k = true → ∀ i : Nat, i < k → easOk (1583 + i) = true
  | 0, _, i, hi => by omega
  | k + 1, h, i, hi => by
    unfold easAll at h
    rw [Bool.and_eq_true] at h
    by_cases e : i = k
    · subst e; exact h.1
    · exact easAll_spec k h.2 i (by omega)
theorem easAll_run : easAll 8417 = true := by decide +kernel
theorem eas_year {y : Int} (h0 : 1583 ≤ y) (h1 : y ≤ 9999) : reN y = eaN y - 92 ∧ easN y % 7 = 6 ∧ 22 ≤ reN y ∧ reN y ≤ 56 := by
  have h := easAll_spec 8417 easAll_run (y - 1583).toNat (by omega)
  have e : (1583 : Int) + ((y - 1583).toNat : Nat) = y := by omega
  rw [e] at h
  unfold easOk at h
  simp only [Bool.and_eq_true, decide_eq_true_eq] at h
  omega
theorem eas_eq {y : Int} (h0 : 1583 ≤ y) (h1 : y ≤ 9999) : easN y = reasN y := by
  have a := eas_year h0 h1
  have b := ea_bd h0 h1
  unfold easN reasN
  have s := num_succ (y := y) (m := 3) (d := eaN y % 31 + 1) (by omega) (by omega)
  rw [len3] at s
  have p := num_d (y := y) (m := 3) (d := eaN y % 31 + 1)
  have q : eaN y / 31 = 3 ∨ eaN y / 31 = 4 := by omega
  rcases q with q | q
  · rw [q]; omega
  · rw [q, show (4 : Int) = 3 + 1 from rfl]; omega
end Go.Proofs.YtiefjnhnceipmaaDoor
