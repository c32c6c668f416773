/- Plain: calendars out of numbers, as the reference makes them; they are valid. Conditions: none. -/
import Derived.Test.YtiilljcnikgeaaaDoorCPlw
import Derived.Test.YtiilljcnikgeaaaDoorZZone
import Derived.Test.YtiilljcnikgeaaaDoorZChk
namespace Go.Proofs.YtiilljcnikgeaaaDoor
open Go.RowKit

theorem pick_bd (zs : List Int) (i : Nat) {m : Int} (h : 1 ≤ m) : 0 ≤ pick zs i m ∧ pick zs i m < m := by
  unfold pick
  split
  · exact around_bd _ h
  · omega
/-- a rule out of two numbers -/
def cHol (a b : Int) : Hol :=
  if a % 4 = 0 then ⟨1, 1 + a / 4 % 4, 1 + b / 3 % 31, 0, 0, 0, b % 3, 1, 9999⟩
  else if a % 4 = 1 then ⟨2, 1 + a / 4 % 4, 0, b / 3 % 7, 1 + b / 21 % 5, 0, 0, 1, 9999⟩
  else if a % 4 = 2 then ⟨3, 1 + a / 4 % 4, 0, b / 3 % 7, 0, 0, 0, 1, 9999⟩
  else ⟨4, 0, 0, 0, 0, b / 3 % 61 - 10, b % 3, 1, 9999⟩
def cHolAt (zs : List Int) (j : Nat) : Hol := cHol (pick zs (3 + 2 * j) 1000000) (pick zs (4 + 2 * j) 1000000)
def cHols (zs : List Int) (n : Nat) : List Hol := (List.range n).map (cHolAt zs)
def cClo (a : Int) : Clo := ⟨739616 + a % 120, 739616 + a % 120 + a / 120 % 6, 739616 + a / 720 % 130⟩
def cCloAt (zs : List Int) (j : Nat) : Clo := cClo (pick zs (10 + j) 1000000)
def cClos (zs : List Int) (n : Nat) : List Clo := (List.range n).map (cCloAt zs)
def mvSh (l : Sh) : Sh := l.map fun s => (s.1 + 1065047040, s.2)
def hourT (p : Int) : Int := if p = 0 then 1439 else if p = 1 then 1020 else if p = 2 then 0 else 720
def cZs (zs : List Int) : List Int := if 13 < zs.length then zs.drop 13 else []
def cWe (w : Int) (i : Nat) : Bool := if i = 5 then w != 1 else if i = 6 then w != 2 else if i = 0 then w == 3 else false
def cN (zs : List Int) (i : Nat) : Nat := (pick zs i 4).toNat
def mkCal (zs : List Int) : Cal := ⟨cWe (pick zs 1 8), cHols zs (cN zs 2), cClos zs (cN zs 9), zoneO (cZs zs), mvSh (zoneSh (cZs zs)), hourT (pick zs 0 4)⟩
theorem cHols_succ (zs : List Int) (j : Nat) : cHols zs (j + 1) = cHols zs j ++ [cHolAt zs j] := by unfold cHols; rw [List.range_succ, List.map_append]; rfl
theorem cHols_len (zs : List Int) (j : Nat) : (cHols zs j).length = j := by unfold cHols; simp
theorem cClos_succ (zs : List Int) (j : Nat) : cClos zs (j + 1) = cClos zs j ++ [cCloAt zs j] := by unfold cClos; rw [List.range_succ, List.map_append]; rfl
theorem cClos_len (zs : List Int) (j : Nat) : (cClos zs j).length = j := by unfold cClos; simp
theorem cN_le (zs : List Int) (i : Nat) : cN zs i ≤ 3 := by have := pick_bd zs i (m := 4) (by omega); unfold cN; omega
theorem win_mk {n a b : Int} (h : a ≤ n ∧ n ≤ b) : win n a b = true := decide_eq_true h
theorem cHol_valid (a b : Int) : hvB (cHol a b) = true := by
  unfold cHol
  split
  · unfold hvB vldK vld1
    rw [win_mk (by show (1 : Int) ≤ 1 ∧ (1 : Int) ≤ 4; omega), win_mk (by show (0 : Int) ≤ b % 3 ∧ b % 3 ≤ 2; omega), if_pos rfl, win_mk (by show 1 ≤ 1 + a / 4 % 4 ∧ 1 + a / 4 % 4 ≤ 12; omega), win_mk (by show 1 ≤ 1 + b / 3 % 31 ∧ 1 + b / 3 % 31 ≤ 31; omega)]; rfl
  · split
    · unfold hvB vldK vld2
      rw [win_mk (by show (1 : Int) ≤ 2 ∧ (2 : Int) ≤ 4; omega), win_mk (by show (0 : Int) ≤ 0 ∧ (0 : Int) ≤ 2; omega), if_neg (by simp), if_pos rfl, win_mk (by show 1 ≤ 1 + a / 4 % 4 ∧ 1 + a / 4 % 4 ≤ 12; omega), win_mk (by show 0 ≤ b / 3 % 7 ∧ b / 3 % 7 ≤ 6; omega), win_mk (by show 1 ≤ 1 + b / 21 % 5 ∧ 1 + b / 21 % 5 ≤ 5; omega)]; rfl
    · split
      · unfold hvB vldK vld3
        rw [win_mk (by show (1 : Int) ≤ 3 ∧ (3 : Int) ≤ 4; omega), win_mk (by show (0 : Int) ≤ 0 ∧ (0 : Int) ≤ 2; omega), if_neg (by simp), if_neg (by simp), if_pos rfl, win_mk (by show 1 ≤ 1 + a / 4 % 4 ∧ 1 + a / 4 % 4 ≤ 12; omega), win_mk (by show 0 ≤ b / 3 % 7 ∧ b / 3 % 7 ≤ 6; omega)]; rfl
      · unfold hvB vldK vld4
        rw [win_mk (by show (1 : Int) ≤ 4 ∧ (4 : Int) ≤ 4; omega), win_mk (by show (0 : Int) ≤ b % 3 ∧ b % 3 ≤ 2; omega), if_neg (by simp), if_neg (by simp), if_neg (by simp), win_mk (by show -100 ≤ b / 3 % 61 - 10 ∧ b / 3 % 61 - 10 ≤ 100; omega)]; rfl
theorem cHols_valid (zs : List Int) (n : Nat) : ∀ x, x ∈ cHols zs n → hvB x = true := by
  intro x hx
  unfold cHols at hx
  obtain ⟨j, _, rfl⟩ := List.mem_map.1 hx
  exact cHol_valid _ _
theorem cClo_bd (a : Int) : 739616 ≤ (cClo a).fr ∧ (cClo a).fr ≤ (cClo a).un ∧ (cClo a).un ≤ (cClo a).fr + 5 ∧ (cClo a).un ≤ 739740 ∧ 739616 ≤ (cClo a).kn ∧ (cClo a).kn ≤ 739745 := by
  show 739616 ≤ 739616 + a % 120 ∧ 739616 + a % 120 ≤ 739616 + a % 120 + a / 120 % 6 ∧ 739616 + a % 120 + a / 120 % 6 ≤ 739616 + a % 120 + 5 ∧ 739616 + a % 120 + a / 120 % 6 ≤ 739740 ∧ 739616 ≤ 739616 + a / 720 % 130 ∧ 739616 + a / 720 % 130 ≤ 739745
  omega
theorem cClos_bd (zs : List Int) (n : Nat) : ∀ x, x ∈ cClos zs n → 739616 ≤ x.fr ∧ x.fr ≤ x.un ∧ x.un ≤ x.fr + 5 ∧ x.un ≤ 739740 ∧ 739616 ≤ x.kn ∧ x.kn ≤ 739745 := by
  intro x hx
  unfold cClos at hx
  obtain ⟨j, _, rfl⟩ := List.mem_map.1 hx
  exact cClo_bd _
theorem cloLen_le : ∀ (l : List Clo), (∀ x, x ∈ l → x.un ≤ x.fr + 5) → cloLen l ≤ 6 * l.length
  | [], _ => by simp [cloLen]
  | x :: l, h => by
    have ih := cloLen_le l (fun y hy => h y (List.mem_cons_of_mem _ hy))
    have h1 := h x (by simp)
    have e : cloLen (x :: l) = max 0 (x.un - x.fr + 1) + cloLen l := rfl
    rw [e, List.length_cons]; omega
theorem hourT_bd (p : Int) : 0 ≤ hourT p ∧ hourT p < 1440 := by
  unfold hourT; split
  · omega
  · split
    · omega
    · split <;> omega
theorem mkCal_reg (zs : List Int) : Reg (mkCal zs) 18 := by
  refine ⟨rfl, rfl, rfl, rfl, cHols_valid _ _, ?_, ?_⟩
  · show (cHols _ _).length ≤ 3; rw [cHols_len]; exact cN_le _ _
  · refine Int.le_trans (cloLen_le _ (fun x hx => (cClos_bd _ _ x hx).2.2.1)) ?_
    show 6 * ((cClos _ _).length : Int) ≤ 18
    rw [cClos_len]; have := cN_le zs 9; omega
theorem mvSh_len (l : Sh) : (mvSh l).length = l.length := by unfold mvSh; simp
theorem mvSh_chain : ∀ {l : Sh} {f : Int}, chain f l → (∀ s, s ∈ l → s.1 ≤ 1000000000) → chain (f + 1065047040) (mvSh l)
  | [], _, _, _ => trivial
  | (a, o) :: l, f, ⟨h1, h2, h3, h4, h5⟩, hb => by
    have := hb (a, o) (by simp)
    exact ⟨by show f + 1065047040 + 2880 ≤ a + 1065047040; omega, by show a + 1065047040 ≤ 8589934592; simp at this; omega, h3, h4, mvSh_chain h5 (fun s hs => hb s (List.mem_cons_of_mem _ hs))⟩
theorem zoneSh_bd (zs : List Int) : ∀ s, s ∈ zoneSh zs → s.1 ≤ 1000000000 := by
  intro s hs
  unfold zoneSh zpre at hs
  obtain ⟨k, hk, rfl⟩ := List.mem_map.1 hs
  have h1 := zat_bd zs k
  have h2 := around_bd (zs[1 + 2 * k]?.getD 0) (m := 20000) (by omega)
  have h3 := List.mem_range.1 hk
  have h4 : zrounds zs ≤ 20 := by unfold zrounds; omega
  have h5 : (k : Int) * 22880 ≤ 20 * 22880 := by omega
  show zat zs k + around (zs[1 + 2 * k]?.getD 0) 20000 ≤ 1000000000
  omega
theorem mkCal_ok (zs : List Int) : Ok (mkCal zs).o (mkCal zs).sh := by
  have h := zone_ok (cZs zs)
  refine ⟨h.1, h.2.1, chain_lo (by omega) (mvSh_chain h.2.2 (zoneSh_bd _))⟩
theorem mkCal_len (zs : List Int) : (mkCal zs).sh.length ≤ 20 := by show (mvSh _).length ≤ 20; rw [mvSh_len]; exact zone_len _
theorem mkCal_hr (zs : List Int) : 0 ≤ (mkCal zs).hr ∧ (mkCal zs).hr < 1440 := hourT_bd _
end Go.Proofs.YtiilljcnikgeaaaDoor
