/- Plain: a calendar out of numbers is valid. Conditions: none. -/
import Derived.Test.YtiilljcnikgeaaaDoorCLvs
import Derived.Test.YtiilljcnikgeaaaDoorCRChk
namespace Go.Proofs.YtiilljcnikgeaaaDoor
open Go.RowKit

theorem hchk_mk {l : List Hol} (h6 : l.length ≤ 6) (hv : ∀ x, x ∈ l → hvB x = true) : hchk l = 0 := by
  unfold hchk chkR
  rw [if_neg (by omega), if_pos (List.all_eq_true.2 hv)]
theorem cchk_mk (zs : List Int) : cchk (mkCal zs) = 0 := by
  have hr := mkCal_reg zs
  have hw : allW (mkCal zs) = false := by
    unfold allW
    rw [Bool.eq_false_iff]
    intro h
    have := List.all_eq_true.1 h 1 (by simp)
    rw [hr.w1] at this; cases this
  have hh : hchk (mkCal zs).hs = 0 := hchk_mk (by have := hr.hl; omega) hr.hv
  have hl : (mkCal zs).cl.length ≤ 3 := by show (cClos _ _).length ≤ 3; rw [cClos_len]; exact cN_le _ _
  have hc : (mkCal zs).cl.all cloOk = true := by
    rw [List.all_eq_true]
    intro x hx
    obtain ⟨h1, h2, h3, h4, h5, h6⟩ := cClos_bd zs _ x hx
    unfold cloOk
    rw [decide_eq_false (by omega : ¬ x.fr > x.un), inD_iff.2 (by omega), inD_iff.2 (by omega), inD_iff.2 (by omega)]; rfl
  have hz : zchk (mkCal zs).o (mkCal zs).sh = 0 := zchk_ok (mkCal_ok zs) (by have := mkCal_len zs; omega)
  obtain ⟨h1, h2⟩ := mkCal_hr zs
  unfold cchk
  rw [hw, hh, hc, hz]
  rw [if_neg (by simp), if_neg (by simp), if_neg (by omega), if_neg (by simp), if_neg (by simp), if_neg (by omega)]
theorem rows_ne {w : World} {B B' n n' e e' k k' : Nat} {v v' : Value} {xs ys : List Value} (h : w.ownsRow B e k v n xs) (h' : w.ownsRow B' e' k' v' n' ys) (hne : e ≠ e') : v.ownBlock = none ∨ v.ownBlock ≠ v'.ownBlock := by
  rcases h.2 with ⟨rfl, _⟩ | ⟨g1, c1, cur1, rfl, _, h1, _⟩
  · exact .inl rfl
  · refine .inr (fun e => ?_)
    rcases h'.2 with ⟨rfl, _⟩ | ⟨g2, c2, cur2, rfl, _, h2, _⟩
    · cases e
    · have e1 : g1 = g2 := Option.some.inj e
      subst e1
      rw [h1] at h2
      injection h2 with h2
      injection h2 with _ h3
      exact hne h3
end Go.Proofs.YtiilljcnikgeaaaDoor
