/- The walks of the reference's Valid and Check of rules. Conditions: the rules lie in memory. -/
import Derived.Test.YtiilljcnikgeaaaDoorHCheck
namespace Go.Proofs.YtiilljcnikgeaaaDoor
open Go.RowKit

set_option maxHeartbeats 4000000 in
theorem rvalid_no (h : Hol) (w : World) (hq : win h.mv 0 2 = false ∨ (win h.mv 0 2 = true ∧ (h.f < 1 ∨ (¬ h.f < 1 ∧ (h.l < h.f ∨ (¬ h.l < h.f ∧ 9999 < h.l)))))) : Calls Tryd.prog 50 #[aggH h] w (Ret (.bool false) w) := by
  rcases hq with e2 | ⟨e2, hq⟩
  · have K2 : ∀ w, Calls Tryd.prog 73 #[.int .i64 h.mv, .int .i64 0, .int .i64 2] w (Pur (.bool false) w) := fun w => by rw [← e2]; exact rwithin_any _ _ _ _
    have KK2 := Lib.hid K2; clear e2 K2
    go_enter Tryd.func50, Tryd.ntmps50
    go_wp2_with (refine (KK2.out _).mono ?_; rintro e w' ⟨rfl, rfl⟩)
    go_ret
    exact ⟨rfl, bl_alloc _ _⟩
  · have K2 : ∀ w, Calls Tryd.prog 73 #[.int .i64 h.mv, .int .i64 0, .int .i64 2] w (Pur (.bool true) w) := fun w => by rw [← e2]; exact rwithin_any _ _ _ _
    have KK2 := Lib.hid K2; clear e2 K2
    rcases hq with d3 | ⟨d3, hq⟩
    · go_enter Tryd.func50, Tryd.ntmps50
      go_wp2_with (refine (KK2.out _).mono ?_; rintro e w' ⟨rfl, rfl⟩)
      go_ret
      exact ⟨rfl, bl_alloc _ _⟩
    · rcases hq with d4 | ⟨d4, d5⟩
      · go_enter Tryd.func50, Tryd.ntmps50
        go_wp2_with (refine (KK2.out _).mono ?_; rintro e w' ⟨rfl, rfl⟩)
        go_ret
        exact ⟨rfl, bl_alloc _ _⟩
      · go_enter Tryd.func50, Tryd.ntmps50
        go_wp2_with (refine (KK2.out _).mono ?_; rintro e w' ⟨rfl, rfl⟩)
        go_ret
        exact ⟨rfl, bl_alloc _ _⟩
/-- the test of a kind, over the tests of its month and weekday -/
def rvK (h : Hol) (bm bw : Bool) : Bool := if h.k = 1 then bm && win h.d 1 31 else if h.k = 2 then bm && (bw && win h.nth 1 5) else if h.k = 3 then bm && bw else if h.k = 4 then win h.off (-100) 100 else false
set_option maxRecDepth 100000 in
set_option maxHeartbeats 8000000 in
theorem rvalid_yes (h : Hol) (bm bw : Bool) (w : World) (e2 : win h.mv 0 2 = true) (d3 : ¬ h.f < 1) (d4 : ¬ h.l < h.f) (d5 : ¬ 9999 < h.l) (e6 : win h.mo 1 12 = bm) (e7 : win h.wd 0 6 = bw) :
    Calls Tryd.prog 50 #[aggH h] w (Ret (.bool (rvK h bm bw)) w) := by
  have K2 : ∀ w, Calls Tryd.prog 73 #[.int .i64 h.mv, .int .i64 0, .int .i64 2] w (Pur (.bool true) w) := fun w => by rw [← e2]; exact rwithin_any _ _ _ _
  have K6 : ∀ w, Calls Tryd.prog 73 #[.int .i64 h.mo, .int .i64 1, .int .i64 12] w (Pur (.bool bm) w) := fun w => by rw [← e6]; exact rwithin_any _ _ _ _
  have K7 : ∀ w, Calls Tryd.prog 73 #[.int .i64 h.wd, .int .i64 0, .int .i64 6] w (Pur (.bool bw) w) := fun w => by rw [← e7]; exact rwithin_any _ _ _ _
  have K8 : ∀ w, Calls Tryd.prog 73 #[.int .i64 h.d, .int .i64 1, .int .i64 31] w (Pur (.bool (win h.d 1 31)) w) := fun w => rwithin_any _ _ _ _
  have K9 : ∀ w, Calls Tryd.prog 73 #[.int .i64 h.nth, .int .i64 1, .int .i64 5] w (Pur (.bool (win h.nth 1 5)) w) := fun w => rwithin_any _ _ _ _
  have KA : ∀ w, Calls Tryd.prog 73 #[.int .i64 h.off, .int .i64 (-100), .int .i64 100] w (Pur (.bool (win h.off (-100) 100)) w) := fun w => rwithin_any _ _ _ _
  have hR : rvK h bm bw = if h.k = 1 then bm && win h.d 1 31 else if h.k = 2 then bm && (bw && win h.nth 1 5) else if h.k = 3 then bm && bw else if h.k = 4 then win h.off (-100) 100 else false := rfl
  generalize win h.d 1 31 = vd at *
  generalize win h.nth 1 5 = vn at *
  generalize win h.off (-100) 100 = vo at *
  generalize rvK h bm bw = R at *
  have HR := Lib.hid hR
  have KK2 := Lib.hid K2; have KK6 := Lib.hid K6; have KK7 := Lib.hid K7; have KK8 := Lib.hid K8; have KK9 := Lib.hid K9; have KKA := Lib.hid KA
  clear e2 e6 e7 K2 K6 K7 K8 K9 KA hR
  have hcase : ((h.k == 1) = true ∧ R = (bm && vd)) ∨ ((h.k == 1) = false ∧ (h.k == 2) = true ∧ R = (bm && (bw && vn))) ∨ ((h.k == 1) = false ∧ (h.k == 2) = false ∧ (h.k == 3) = true ∧ R = (bm && bw)) ∨ ((h.k == 1) = false ∧ (h.k == 2) = false ∧ (h.k == 3) = false ∧ (h.k == 4) = true ∧ R = vo) ∨ ((h.k == 1) = false ∧ (h.k == 2) = false ∧ (h.k == 3) = false ∧ (h.k == 4) = false ∧ R = false) := by
    simp only [beq_iff_eq, beq_eq_false_iff_ne]
    by_cases c1 : h.k = 1
    · exact .inl ⟨c1, by rw [HR.out, if_pos c1]⟩
    · by_cases c2 : h.k = 2
      · exact .inr (.inl ⟨c1, c2, by rw [HR.out, if_neg c1, if_pos c2]⟩)
      · by_cases c3 : h.k = 3
        · exact .inr (.inr (.inl ⟨c1, c2, c3, by rw [HR.out, if_neg c1, if_neg c2, if_pos c3]⟩))
        · by_cases c4 : h.k = 4
          · exact .inr (.inr (.inr (.inl ⟨c1, c2, c3, c4, by rw [HR.out, if_neg c1, if_neg c2, if_neg c3, if_pos c4]⟩)))
          · exact .inr (.inr (.inr (.inr ⟨c1, c2, c3, c4, by rw [HR.out, if_neg c1, if_neg c2, if_neg c3, if_neg c4]⟩)))
  clear HR
  rcases hcase with ⟨t1, rfl⟩ | ⟨t1, t2, rfl⟩ | ⟨t1, t2, t3, rfl⟩ | ⟨t1, t2, t3, t4, rfl⟩ | ⟨t1, t2, t3, t4, rfl⟩
  · cases bm
    all_goals
      go_enter Tryd.func50, Tryd.ntmps50
      go_wp2_with (first | ((with_reducible refine (KK2.out _).mono ?_); rintro e w' ⟨rfl, rfl⟩) | ((with_reducible refine (KK6.out _).mono ?_); rintro e w' ⟨rfl, rfl⟩) | ((with_reducible refine (KK7.out _).mono ?_); rintro e w' ⟨rfl, rfl⟩) | ((with_reducible refine (KK8.out _).mono ?_); rintro e w' ⟨rfl, rfl⟩))
      go_ret
      exact ⟨ret_bool (by simp), bl_alloc _ _⟩
  · cases bm <;> cases bw
    all_goals
      go_enter Tryd.func50, Tryd.ntmps50
      go_wp2_with (first | ((with_reducible refine (KK2.out _).mono ?_); rintro e w' ⟨rfl, rfl⟩) | ((with_reducible refine (KK6.out _).mono ?_); rintro e w' ⟨rfl, rfl⟩) | ((with_reducible refine (KK7.out _).mono ?_); rintro e w' ⟨rfl, rfl⟩) | ((with_reducible refine (KK9.out _).mono ?_); rintro e w' ⟨rfl, rfl⟩))
      go_ret
      exact ⟨ret_bool (by simp), bl_alloc _ _⟩
  · cases bm
    all_goals
      go_enter Tryd.func50, Tryd.ntmps50
      go_wp2_with (first | ((with_reducible refine (KK2.out _).mono ?_); rintro e w' ⟨rfl, rfl⟩) | ((with_reducible refine (KK6.out _).mono ?_); rintro e w' ⟨rfl, rfl⟩) | ((with_reducible refine (KK7.out _).mono ?_); rintro e w' ⟨rfl, rfl⟩))
      go_ret
      exact ⟨ret_bool (by simp), bl_alloc _ _⟩
  · go_enter Tryd.func50, Tryd.ntmps50
    go_wp2_with (first | ((with_reducible refine (KK2.out _).mono ?_); rintro e w' ⟨rfl, rfl⟩) | ((with_reducible refine (KK6.out _).mono ?_); rintro e w' ⟨rfl, rfl⟩) | ((with_reducible refine (KK7.out _).mono ?_); rintro e w' ⟨rfl, rfl⟩) | ((with_reducible refine (KKA.out _).mono ?_); rintro e w' ⟨rfl, rfl⟩))
    go_ret
    exact ⟨rfl, bl_alloc _ _⟩
  · go_enter Tryd.func50, Tryd.ntmps50
    go_wp2_with (first | ((with_reducible refine (KK2.out _).mono ?_); rintro e w' ⟨rfl, rfl⟩) | ((with_reducible refine (KK6.out _).mono ?_); rintro e w' ⟨rfl, rfl⟩) | ((with_reducible refine (KK7.out _).mono ?_); rintro e w' ⟨rfl, rfl⟩))
    go_ret
    exact ⟨rfl, bl_alloc _ _⟩
theorem rvalid_any (h : Hol) (w : World) : Calls Tryd.prog 50 #[aggH h] w (Ret (.bool (hvB h)) w) := by
  cases e2 : win h.mv 0 2
  · rw [show hvB h = false by unfold hvB; rw [e2]; cases win h.k 1 4 <;> rfl]
    exact rvalid_no h w (.inl e2)
  · by_cases d3 : h.f < 1
    · rw [show hvB h = false by unfold hvB; rw [decide_eq_true d3]; cases win h.k 1 4 <;> cases win h.mv 0 2 <;> rfl]
      exact rvalid_no h w (.inr ⟨e2, .inl d3⟩)
    · by_cases d4 : h.l < h.f
      · rw [show hvB h = false by unfold hvB; rw [decide_eq_true d4]; cases win h.k 1 4 <;> cases win h.mv 0 2 <;> cases decide (h.f < 1) <;> rfl]
        exact rvalid_no h w (.inr ⟨e2, .inr ⟨d3, .inl d4⟩⟩)
      · by_cases d5 : 9999 < h.l
        · rw [show hvB h = false by unfold hvB; rw [decide_eq_true d5]; cases win h.k 1 4 <;> cases win h.mv 0 2 <;> cases decide (h.f < 1) <;> cases decide (h.l < h.f) <;> rfl]
          exact rvalid_no h w (.inr ⟨e2, .inr ⟨d3, .inr ⟨d4, d5⟩⟩⟩)
        · have := rvalid_yes h _ _ w e2 d3 d4 d5 rfl rfl
          have e : rvK h (win h.mo 1 12) (win h.wd 0 6) = hvB h := by
            unfold hvB vldK rvK
            rw [e2, decide_eq_false d3, decide_eq_false d4, decide_eq_false d5]
            by_cases c1 : h.k = 1
            · rw [if_pos c1, if_pos c1, show win h.k 1 4 = true by rw [c1]; rfl]; rfl
            · rw [if_neg c1, if_neg c1]
              by_cases c2 : h.k = 2
              · rw [if_pos c2, if_pos c2, show win h.k 1 4 = true by rw [c2]; rfl]; rfl
              · rw [if_neg c2, if_neg c2]
                by_cases c3 : h.k = 3
                · rw [if_pos c3, if_pos c3, show win h.k 1 4 = true by rw [c3]; rfl]; rfl
                · rw [if_neg c3, if_neg c3]
                  by_cases c4 : h.k = 4
                  · rw [if_pos c4, show win h.k 1 4 = true by rw [c4]; rfl]; rfl
                  · rw [if_neg c4, show win h.k 1 4 = false from decide_eq_false (by omega)]; rfl
          rwa [e] at this
set_option maxRecDepth 100000 in
set_option maxHeartbeats 2000000 in
theorem rcheck_some (b off cap : Nat) (l : List Hol) (w : World) (hb : b < w.heap.size) (hl : l.length ≤ maxLen)
    (hc : ∀ j x, l[j]? = some x → ∀ i u, (encH x)[i]? = some u → w.cell? ⟨b, off + j * 9 + i, none⟩ = some u) (h100 : ¬ 100 < l.length) :
    Calls Tryd.prog 32 #[.slice (some ⟨b, off, none⟩) l.length cap] w (Ret (.int .i64 (chkR l)) w) := by
  have HC := Lib.hid hc; clear hc
  unfold maxLen at hl
  have h100b : decide (100 < (l.length : Int)) = false := decide_eq_false (by omega)
  go_enter Tryd.func32, Tryd.ntmps32
  go_wp2
  go_loopw [3] (fun i wr => ∃ k : Nat, k ≤ l.length ∧ i = .int .i64 k ∧ Below w.heap.size w wr ∧ Hid ((l.take k).all hvB = true)) (fun i _ => l.length - (intOf i).toNat)
  case atStart => exact ⟨0, Nat.zero_le _, rfl, bl_refl _, by simp [Hid]⟩
  case round =>
    obtain ⟨k, hk, rfl, hbw, HT⟩ := hrel
    by_cases hlt : k < l.length
    · obtain ⟨h, hh⟩ : ∃ h, l[k]? = some h := ⟨_, List.getElem?_eq_getElem hlt⟩
      have hcw : ∀ j x, l[j]? = some x → ∀ i u, (encH x)[i]? = some u → wr.cell? ⟨b, off + j * 9 + i, none⟩ = some u := fun j x hx i u hu => (hbw.cell (p := ⟨b, off + j * 9 + i, none⟩) hb).trans (HC.out j x hx i u hu)
      obtain ⟨c0, c1, c2, c3, c4, c5, c6, c7, c8⟩ := IsHols.at hcw hh
      have HH := Lib.hid hh; clear hh hcw
      cases hv : hvB h
      · have hR : chkR l = 5 := by
          unfold chkR
          rw [if_neg]
          intro e
          rw [List.all_eq_true] at e
          have := e h (List.mem_of_getElem? HH.out)
          rw [hv] at this; cases this
        have hrv : ∀ w, Calls Tryd.prog 50 #[aggH h] w (Ret (.bool false) w) := fun w => by rw [← hv]; exact rvalid_any h w
        have HR := Lib.hid hR; have HRV := Lib.hid hrv
        clear hR hrv hv
        go_wp2_with fail
        refine (HRV.out _).mono ?_
        rintro e w2 ⟨rfl, hb2⟩
        go_wp2
        go_ret
        exact ⟨ret_int HR.out.symm, bl_trans hbw hb2⟩
      · have hrv : ∀ w, Calls Tryd.prog 50 #[aggH h] w (Ret (.bool true) w) := fun w => by rw [← hv]; exact rvalid_any h w
        have HT2 : Hid ((l.take (k + 1)).all hvB = true) := by
          show _ = _
          rw [List.take_add_one, HH.out, List.all_append, HT.out]
          simp [hv]
        have HRV := Lib.hid hrv
        clear hrv hv
        go_wp2_with fail
        refine (HRV.out _).mono ?_
        rintro e w2 ⟨rfl, hb2⟩
        go_wp2
        go_roundw
        case rel => exact ⟨k + 1, by omega, by go_num, bl_trans hbw hb2, HT2⟩
        case measure => simp [intOf]; omega
    · obtain rfl : k = l.length := by omega
      rw [List.take_length] at HT
      have HR : Hid (chkR l = 0) := by show _ = _; unfold chkR; rw [if_pos HT.out]
      go_wp2
      go_ret
      exact ⟨ret_int HR.out.symm, hbw⟩
set_option maxHeartbeats 400000 in
theorem rcheck_far (a : Option Addr) (cap : Nat) (l : List Hol) (w : World) (hl : l.length ≤ maxLen) (h100 : 100 < l.length) :
    Calls Tryd.prog 32 #[.slice a l.length cap] w (Ret (.int .i64 2) w) := by
  unfold maxLen at hl
  have h100b : decide (100 < (l.length : Int)) = true := decide_eq_true (by omega)
  go_enter Tryd.func32, Tryd.ntmps32
  go_wp2
  go_ret
  exact ⟨rfl, bl_refl _⟩
set_option maxHeartbeats 1000000 in
theorem rcheck_nil (a : Option Addr) (cap : Nat) (w : World) : Calls Tryd.prog 32 #[.slice a 0 cap] w (Ret (.int .i64 0) w) := by
  go_enter Tryd.func32, Tryd.ntmps32
  go_wp2
  go_loop [3] (fun i => i = .int .i64 0) (fun _ => 0)
  case atStart => rfl
  case round =>
    subst hrel
    go_wp2
    go_ret
    exact ⟨rfl, bl_refl _⟩
theorem rhcheck_any (v : Value) (l : List Hol) (w : World) (h : IsHols w v l) : Calls Tryd.prog 32 #[v] w (Ret (.int .i64 (hchk l)) w) := by
  obtain ⟨a, cap, rfl, hm⟩ := h.slice
  unfold hchk
  by_cases h100 : 100 < l.length
  · rw [if_pos h100]; exact rcheck_far a cap l w hm h100
  · rw [if_neg h100]
    rcases h with ⟨a', cap', e, rfl⟩ | ⟨b, off, cap', e, hlt, hm', hc⟩
    · exact rcheck_nil a cap w
    · cases e
      exact rcheck_some b off cap l w hlt hm' hc h100
end Go.Proofs.YtiilljcnikgeaaaDoor
