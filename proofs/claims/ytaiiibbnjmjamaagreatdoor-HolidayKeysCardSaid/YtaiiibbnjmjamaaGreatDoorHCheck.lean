/- The walks of holiday.kinds and holiday.Check. Conditions: the rules lie in memory. -/
import Derived.Test.YtaiiibbnjmjamaaGreatDoorHFirst
import Derived.Laws.EntriesVeiled
namespace Go.Proofs.YtaiiibbnjmjamaaGreatDoor
open Go.RowKit

abbrev fnV (n : Nat) : Value := .func (.func n) #[] #[]
/-- the table of kinds, cell by cell -/
abbrev allC : Array Value := #[fnV 34, fnV 35, fnV 36, fnV 37, fnV 40, fnV 41, fnV 42, fnV 43]
set_option maxHeartbeats 1000000 in
theorem kinds_any (w : World) : Calls Tryz.prog 15 #[] w (Ret (.agg allC) w) := by
  go_enter Tryz.func15, Tryz.ntmps15
  go_wp2
  exact bodyPost_ret (v := .agg allC) (by simp [results, Tryz.results15, go_sem]) rfl ⟨rfl, bl_alloc _ _⟩

/-- a rule is valid, as the program tests it -/
def vldK (h : Hol) : Bool := if h.k = 1 then vld1 h else if h.k = 2 then vld2 h else if h.k = 3 then vld3 h else vld4 h
def hvB (h : Hol) : Bool := win h.k 1 4 && (win h.mv 0 2 && (!decide (h.f < 1) && (!decide (h.l < h.f) && (!decide (9999 < h.l) && vldK h))))
def chkR (l : List Hol) : Int := if l.all hvB then 0 else 5
def hchk (l : List Hol) : Int := if 100 < l.length then 2 else chkR l

theorem IsHols.at {w : World} {b off : Nat} {l : List Hol} (hc : ∀ j x, l[j]? = some x → ∀ i u, (encH x)[i]? = some u → w.cell? ⟨b, off + j * 9 + i, none⟩ = some u) {k : Nat} {h : Hol} (hk : l[k]? = some h) :
    w.cell? ⟨b, off + k * 9, none⟩ = some (.int .i64 h.k) ∧ w.cell? ⟨b, off + k * 9 + 1, none⟩ = some (.int .i64 h.mo) ∧ w.cell? ⟨b, off + k * 9 + 2, none⟩ = some (.int .i64 h.d) ∧ w.cell? ⟨b, off + k * 9 + 3, none⟩ = some (.int .i64 h.wd) ∧ w.cell? ⟨b, off + k * 9 + 4, none⟩ = some (.int .i64 h.nth) ∧ w.cell? ⟨b, off + k * 9 + 5, none⟩ = some (.int .i64 h.off) ∧ w.cell? ⟨b, off + k * 9 + 6, none⟩ = some (.int .i64 h.mv) ∧ w.cell? ⟨b, off + k * 9 + 7, none⟩ = some (.int .i64 h.f) ∧ w.cell? ⟨b, off + k * 9 + 8, none⟩ = some (.int .i64 h.l) :=
  ⟨hc k h hk 0 _ rfl, hc k h hk 1 _ rfl, hc k h hk 2 _ rfl, hc k h hk 3 _ rfl, hc k h hk 4 _ rfl, hc k h hk 5 _ rfl, hc k h hk 6 _ rfl, hc k h hk 7 _ rfl, hc k h hk 8 _ rfl⟩

/-- what stands in the table at a kind -/
theorem vfn (h : Hol) (k1 : 1 ≤ h.k) (k4 : h.k ≤ 4) : ∃ f, (∀ args w, (callFunc f args).run Tryz.prog w = .ok (.enter f args) w) ∧ allC[(h.k.toNat - 1) * 2]? = some (fnV f) ∧ ∀ w, Calls Tryz.prog f #[aggH h] w (Ret (.bool (vldK h)) w) := by
  have hc : h.k = 1 ∨ h.k = 2 ∨ h.k = 3 ∨ h.k = 4 := by omega
  unfold vldK
  rcases hc with e | e | e | e
  · exact ⟨_, enters_of Tryz.func34 (by kernel_rfl) rfl, by rw [e]; rfl, fun w => by rw [if_pos e]; exact hvalid1 h w⟩
  · exact ⟨_, enters_of Tryz.func36 (by kernel_rfl) rfl, by rw [e]; rfl, fun w => by rw [if_neg (by omega), if_pos e]; exact hvalid2 h w⟩
  · exact ⟨_, enters_of Tryz.func40 (by kernel_rfl) rfl, by rw [e]; rfl, fun w => by rw [if_neg (by omega), if_neg (by omega), if_pos e]; exact hvalid3 h w⟩
  · exact ⟨_, enters_of Tryz.func42 (by kernel_rfl) rfl, by rw [e]; rfl, fun w => by rw [if_neg (by omega), if_neg (by omega), if_neg (by omega)]; exact hvalid4 h w⟩
set_option maxRecDepth 100000 in
set_option maxHeartbeats 4000000 in
theorem check_some (b off cap : Nat) (l : List Hol) (w : World) (hb : b < w.heap.size) (hl : l.length ≤ maxLen)
    (hc : ∀ j x, l[j]? = some x → ∀ i u, (encH x)[i]? = some u → w.cell? ⟨b, off + j * 9 + i, none⟩ = some u) (h100 : ¬ 100 < l.length) :
    Calls Tryz.prog 33 #[.slice (some ⟨b, off, none⟩) l.length cap] w (Ret (.int .i64 (chkR l)) w) := by
  have HC := Lib.hid hc; clear hc
  unfold maxLen at hl
  have h100b : decide (100 < (l.length : Int)) = false := decide_eq_false (by omega)
  go_enter Tryz.func33, Tryz.ntmps33
  go_wp2_with fail
  refine (kinds_any _).mono ?_
  rintro e w1 ⟨rfl, hb1⟩
  go_wp2
  have hbC : Blk (w1.alloc (.cells allC 50)) w1.heap.size 50 allC := Blk.new _ _ _
  have hB1 : Below w.heap.size w (w1.alloc (.cells allC 50)) := bl_trans hb1 (bl_alloc _ _)
  obtain ⟨g, hg⟩ : ∃ g, g = w1.heap.size := ⟨_, rfl⟩
  rw [← hg] at hbC ⊢
  clear hg
  obtain ⟨W1, hW1⟩ : ∃ W1, W1 = w1.alloc (.cells allC 50) := ⟨_, rfl⟩
  rw [← hW1] at hbC hB1 ⊢
  clear hW1 hb1
  have hgW := hbC.lt
  have HBC := Lib.hid hbC; clear hbC
  go_loopw [12] (fun i wr => ∃ k : Nat, k ≤ l.length ∧ i = .int .i64 k ∧ Below W1.heap.size W1 wr ∧ Hid ((l.take k).all hvB = true)) (fun i _ => l.length - (intOf i).toNat)
  case atStart => exact ⟨0, Nat.zero_le _, rfl, bl_refl _, by simp [Hid]⟩
  case round =>
    obtain ⟨k, hk, rfl, hbw, HT⟩ := hrel
    by_cases hlt : k < l.length
    · obtain ⟨h, hh⟩ : ∃ h, l[k]? = some h := ⟨_, List.getElem?_eq_getElem hlt⟩
      have hBw := bl_trans hB1 hbw
      have hcw : ∀ j x, l[j]? = some x → ∀ i u, (encH x)[i]? = some u → wr.cell? ⟨b, off + j * 9 + i, none⟩ = some u := fun j x hx i u hu => (hBw.cell (p := ⟨b, off + j * 9 + i, none⟩) hb).trans (HC.out j x hx i u hu)
      obtain ⟨c0, c1, c2, c3, c4, c5, c6, c7, c8⟩ := IsHols.at hcw hh
      have HH := Lib.hid hh; clear hh hcw
      have hGw : g < wr.heap.size := Nat.lt_of_lt_of_le hgW hbw.size
      have bC : Blk wr g 50 allC := HBC.out.below hbw hgW
      have HBW := Lib.hid hBw; clear hBw
      go_upto_region 7 with (fail)
      have bH : Blk (wr.alloc (.cells (cellsH h) 45)) wr.heap.size 45 (cellsH h) := Blk.new _ _ _
      have hbx : Below wr.heap.size wr (wr.alloc (.cells (cellsH h) 45)) := bl_alloc _ _
      obtain ⟨B, hB⟩ : ∃ B, B = wr.heap.size := ⟨_, rfl⟩
      rw [← hB] at bH ⊢
      clear hB
      obtain ⟨W, hW⟩ : ∃ W, W = wr.alloc (.cells (cellsH h) 45) := ⟨_, rfl⟩
      rw [← hW] at bH hbx ⊢
      have HBW2 : Hid (Below W1.heap.size W1 W) := hbw.trans (by rw [hW]; exact (bl_alloc _ _).mono hbw.size)
      clear hW c0 c1 c2 c3 c4 c5 c6 c7 c8
      have bC2 := bC.below hbx hGw
      have bHl := bH.lt
      have bCl := bC2.lt
      have x0 : ∀ u : UpW W, u.w.cell? ⟨B, 0, none⟩ = some (.int .i64 h.k) := fun u => (bH.below u.h bHl).cell 0
      have x6 : ∀ u : UpW W, u.w.cell? ⟨B, 6, none⟩ = some (.int .i64 h.mv) := fun u => (bH.below u.h bHl).cell 6
      have x7 : ∀ u : UpW W, u.w.cell? ⟨B, 7, none⟩ = some (.int .i64 h.f) := fun u => (bH.below u.h bHl).cell 7
      have x8 : ∀ u : UpW W, u.w.cell? ⟨B, 8, none⟩ = some (.int .i64 h.l) := fun u => (bH.below u.h bHl).cell 8
      have x1 : ∀ u : UpW W, u.w.cell? ⟨B, 1, none⟩ = some (.int .i64 h.mo) := fun u => (bH.below u.h bHl).cell 1
      have x2 : ∀ u : UpW W, u.w.cell? ⟨B, 2, none⟩ = some (.int .i64 h.d) := fun u => (bH.below u.h bHl).cell 2
      have x3 : ∀ u : UpW W, u.w.cell? ⟨B, 3, none⟩ = some (.int .i64 h.wd) := fun u => (bH.below u.h bHl).cell 3
      have x4 : ∀ u : UpW W, u.w.cell? ⟨B, 4, none⟩ = some (.int .i64 h.nth) := fun u => (bH.below u.h bHl).cell 4
      have x5 : ∀ u : UpW W, u.w.cell? ⟨B, 5, none⟩ = some (.int .i64 h.off) := fun u => (bH.below u.h bHl).cell 5
      have hq2 : hvB h = (win h.k 1 4 && (win h.mv 0 2 && (!decide (h.f < 1) && (!decide (h.l < h.f) && (!decide (9999 < h.l) && vldK h))))) := rfl
      have hR : hvB h = false → chkR l = 5 := by
        intro hq
        unfold chkR
        rw [if_neg]
        intro e
        rw [List.all_eq_true] at e
        have := e h (List.mem_of_getElem? HH.out)
        rw [hq] at this; cases this
      rw [hq2] at hR
      clear hq2
      cases e1 : win h.k 1 4
      · have HR := Lib.hid (hR (by rw [e1]; rfl)); clear hR
        have K1 : ∀ w, Calls Tryz.prog 16 #[.int .i64 h.k, .int .i64 1, .int .i64 4] w (Ret (.bool false) w) := fun w => by rw [← e1]; exact pur_ret (within_any _ _ _ _)
        have KK1 := Lib.hid K1; clear e1 K1
        refine wp_region_up (by kernel_rfl) (by kernel_rfl) ?_
        repeat (go_big_quiet_step (fail))
        go_big_quiet_step (exact Ret.up (KK1.out _))
        repeat (go_big_quiet_step (fail))
        refine wpQuiet_nil ?_
        rintro _ ⟨⟨w2, hb2⟩, rfl⟩
        go_wp2
        go_ret
        exact ⟨ret_int HR.out.symm, bl_trans HBW.out (bl_trans hbx hb2)⟩
      have w1k := e1
      have HE1 := Lib.hid e1
      have K1 : ∀ w, Calls Tryz.prog 16 #[.int .i64 h.k, .int .i64 1, .int .i64 4] w (Ret (.bool true) w) := fun w => by rw [← e1]; exact pur_ret (within_any _ _ _ _)
      have KK1 := Lib.hid K1; clear K1
      rw [e1] at hR; clear e1
      cases e2 : win h.mv 0 2
      · have HR := Lib.hid (hR (by rw [e2]; rfl)); clear hR
        have K2 : ∀ w, Calls Tryz.prog 16 #[.int .i64 h.mv, .int .i64 0, .int .i64 2] w (Ret (.bool false) w) := fun w => by rw [← e2]; exact pur_ret (within_any _ _ _ _)
        have KK2 := Lib.hid K2; clear e2 K2 w1k
        refine wp_region_up (by kernel_rfl) (by kernel_rfl) ?_
        repeat (go_big_quiet_step (fail))
        go_big_quiet_step (exact Ret.up (KK1.out _))
        repeat (go_big_quiet_step (fail))
        go_big_quiet_step (exact Ret.up (KK2.out _))
        repeat (go_big_quiet_step (fail))
        refine wpQuiet_nil ?_
        rintro _ ⟨⟨w2, hb2⟩, rfl⟩
        go_wp2
        go_ret
        exact ⟨ret_int HR.out.symm, bl_trans HBW.out (bl_trans hbx hb2)⟩
      have K2 : ∀ w, Calls Tryz.prog 16 #[.int .i64 h.mv, .int .i64 0, .int .i64 2] w (Ret (.bool true) w) := fun w => by rw [← e2]; exact pur_ret (within_any _ _ _ _)
      have KK2 := Lib.hid K2; clear K2
      have HE2 := Lib.hid e2
      rw [e2] at hR; clear e2
      cases d3 : decide (h.f < 1)
      rotate_left
      · have HR := Lib.hid (hR (by rw [d3]; rfl)); clear hR w1k
        refine wp_region_up (by kernel_rfl) (by kernel_rfl) ?_
        repeat (go_big_quiet_step (fail))
        go_big_quiet_step (exact Ret.up (KK1.out _))
        repeat (go_big_quiet_step (fail))
        go_big_quiet_step (exact Ret.up (KK2.out _))
        repeat (go_big_quiet_step (fail))
        refine wpQuiet_nil ?_
        rintro _ ⟨⟨w2, hb2⟩, rfl⟩
        go_wp2
        go_ret
        exact ⟨ret_int HR.out.symm, bl_trans HBW.out (bl_trans hbx hb2)⟩
      rw [d3] at hR
      cases d4 : decide (h.l < h.f)
      rotate_left
      · have HR := Lib.hid (hR (by rw [d4]; rfl)); clear hR w1k
        refine wp_region_up (by kernel_rfl) (by kernel_rfl) ?_
        repeat (go_big_quiet_step (fail))
        go_big_quiet_step (exact Ret.up (KK1.out _))
        repeat (go_big_quiet_step (fail))
        go_big_quiet_step (exact Ret.up (KK2.out _))
        repeat (go_big_quiet_step (fail))
        refine wpQuiet_nil ?_
        rintro _ ⟨⟨w2, hb2⟩, rfl⟩
        go_wp2
        go_ret
        exact ⟨ret_int HR.out.symm, bl_trans HBW.out (bl_trans hbx hb2)⟩
      rw [d4] at hR
      cases d5 : decide (9999 < h.l)
      rotate_left
      · have HR := Lib.hid (hR (by rw [d5]; rfl)); clear hR w1k
        refine wp_region_up (by kernel_rfl) (by kernel_rfl) ?_
        repeat (go_big_quiet_step (fail))
        go_big_quiet_step (exact Ret.up (KK1.out _))
        repeat (go_big_quiet_step (fail))
        go_big_quiet_step (exact Ret.up (KK2.out _))
        repeat (go_big_quiet_step (fail))
        refine wpQuiet_nil ?_
        rintro _ ⟨⟨w2, hb2⟩, rfl⟩
        go_wp2
        go_ret
        exact ⟨ret_int HR.out.symm, bl_trans HBW.out (bl_trans hbx hb2)⟩
      rw [d5] at hR
      have hR' : vldK h = false → chkR l = 5 := fun e => hR (by rw [e]; rfl)
      have hk4 : 1 ≤ h.k ∧ h.k ≤ 4 := of_decide_eq_true w1k
      obtain ⟨k1, k4⟩ := hk4
      clear hR w1k
      have s1 : IntKind.i64.wrap (h.k - 1) = h.k - 1 := IntWalk.i64_in _ (by omega)
      have s2 : 0 ≤ h.k - 1 := by omega
      have s3 : h.k - 1 < 4 := by omega
      obtain ⟨f, ef, hfa, hfc⟩ := vfn h k1 k4
      have xf : ∀ u : UpW W, u.w.cell? ⟨g, (h.k.toNat - 1) * 2, none⟩ = some (fnV f) := fun u => ((bC2.below u.h bCl).cell _).trans hfa
      cases hv : vldK h
      · rw [hv] at hfc
        have HR := Lib.hid (hR' hv)
        have HFC := Lib.hid hfc
        clear hfa hfc hv hR'
        refine wp_region_up (by kernel_rfl) (by kernel_rfl) ?_
        repeat (go_big_quiet_step (fail))
        go_big_quiet_step (exact Ret.up (KK1.out _))
        repeat (go_big_quiet_step (fail))
        go_big_quiet_step (exact Ret.up (KK2.out _))
        repeat (go_big_quiet_step (fail))
        go_big_quiet_step (exact Ret.up (HFC.out _))
        repeat (go_big_quiet_step (fail))
        refine wpQuiet_nil ?_
        rintro _ ⟨⟨w2, hb2⟩, rfl⟩
        go_wp2
        go_ret
        exact ⟨ret_int HR.out.symm, bl_trans HBW.out (bl_trans hbx hb2)⟩
      · rw [hv] at hfc
        have HT2 : Hid ((l.take (k + 1)).all hvB = true) := by
          show _ = _
          rw [List.take_add_one, HH.out, List.all_append, HT.out]
          have : hvB h = true := by unfold hvB; rw [HE1.out, HE2.out, d3, d4, d5, hv]; rfl
          simp [this]
        have HFC := Lib.hid hfc
        clear hfa hfc hv hR'
        refine wp_region_up (by kernel_rfl) (by kernel_rfl) ?_
        repeat (go_big_quiet_step (fail))
        go_big_quiet_step (exact Ret.up (KK1.out _))
        repeat (go_big_quiet_step (fail))
        go_big_quiet_step (exact Ret.up (KK2.out _))
        repeat (go_big_quiet_step (fail))
        go_big_quiet_step (exact Ret.up (HFC.out _))
        repeat (go_big_quiet_step (fail))
        refine wpQuiet_nil ?_
        rintro _ ⟨⟨w2, hb2⟩, rfl⟩
        go_wp2
        go_roundw
        case rel => exact ⟨k + 1, by omega, by go_num, HBW2.out.trans (hb2.mono HBW2.out.size), HT2⟩
        case measure => simp [intOf]; omega
    · obtain rfl : k = l.length := by omega
      rw [List.take_length] at HT
      have HR : Hid (chkR l = 0) := by show _ = _; unfold chkR; rw [if_pos HT.out]
      go_wp2
      go_ret
      exact ⟨ret_int HR.out.symm, bl_trans hB1 hbw⟩
set_option maxHeartbeats 400000 in
theorem check_far (a : Option Addr) (cap : Nat) (l : List Hol) (w : World) (hl : l.length ≤ maxLen) (h100 : 100 < l.length) :
    Calls Tryz.prog 33 #[.slice a l.length cap] w (Ret (.int .i64 2) w) := by
  unfold maxLen at hl
  have h100b : decide (100 < (l.length : Int)) = true := decide_eq_true (by omega)
  go_enter Tryz.func33, Tryz.ntmps33
  go_wp2
  go_ret
  exact ⟨rfl, bl_refl _⟩
set_option maxHeartbeats 1000000 in
theorem check_nil (a : Option Addr) (cap : Nat) (w : World) : Calls Tryz.prog 33 #[.slice a 0 cap] w (Ret (.int .i64 0) w) := by
  go_enter Tryz.func33, Tryz.ntmps33
  go_wp2_with fail
  refine (kinds_any _).mono ?_
  rintro e w1 ⟨rfl, hb1⟩
  go_wp2
  go_loop [12] (fun i => i = .int .i64 0) (fun _ => 0)
  case atStart => rfl
  case round =>
    subst hrel
    go_wp2
    go_ret
    exact ⟨rfl, bl_trans hb1 (bl_alloc _ _)⟩
theorem hcheck_any (v : Value) (l : List Hol) (w : World) (h : IsHols w v l) : Calls Tryz.prog 33 #[v] w (Ret (.int .i64 (hchk l)) w) := by
  obtain ⟨a, cap, rfl, hm⟩ := h.slice
  unfold hchk
  by_cases h100 : 100 < l.length
  · rw [if_pos h100]; exact check_far a cap l w hm h100
  · rw [if_neg h100]
    rcases h with ⟨a', cap', e, rfl⟩ | ⟨b, off, cap', e, hlt, hm', hc⟩
    · exact check_nil a cap w
    · cases e
      exact check_some b off cap l w hlt hm' hc h100
end Go.Proofs.YtaiiibbnjmjamaaGreatDoor
