/- The walk of holiday.Of. Conditions: the rules lie in memory and are valid; fewer than 20 of them. -/
import Derived.Test.YtaiiibbnjmjamaaGreatDoorHCheck
import Derived.Test.YtaiiibbnjmjamaaGreatDoorHSrt
import Derived.Deep.AppendLies
namespace Go.Proofs.YtaiiibbnjmjamaaGreatDoor
open Go.RowKit

/-- the kept days, by the program's Easter -/
abbrev kV (h : Hol) (y : Int) : Int := kepV eaV h y
abbrev kB (h : Hol) (y : Int) : Bool := kepB eaE eaV h y
abbrev keptsP (y : Int) (l : List Hol) : List (Int × Int) := kepts eaE eaV y l 0
abbrev ofP (y : Int) (l : List Hol) : List (Int × Int) := ofK eaE eaV y l
theorem win_iff {n a b : Int} : win n a b = true ↔ a ≤ n ∧ n ≤ b := by unfold win; simp
theorem hvB_spec {h : Hol} (hv : hvB h = true) : (1 ≤ h.k ∧ h.k ≤ 4) ∧ (0 ≤ h.mv ∧ h.mv ≤ 2) ∧ 1 ≤ h.f ∧ h.f ≤ h.l ∧ h.l ≤ 9999 ∧ vldK h = true := by
  unfold hvB at hv
  simp only [Bool.and_eq_true, win_iff, Bool.not_eq_true', decide_eq_false_iff_not] at hv
  obtain ⟨a, b, c, d, e, f⟩ := hv
  exact ⟨a, b, by omega, by omega, by omega, f⟩
theorem nfn (h : Hol) (y : Int) (hv : hvB h = true) : ∃ f, (∀ args w, (callFunc f args).run Tryz.prog w = .ok (.enter f args) w) ∧ allC[(h.k.toNat - 1) * 2 + 1]? = some (fnV f) ∧ ∀ w, GoodH w → Calls Tryz.prog f #[aggH h, .int .i64 y] w (Ret (.tuple #[.int .i64 (nV h y), .bool (nB h y)]) w) := by
  obtain ⟨⟨k1, k4⟩, _, _, _, _, hk⟩ := hvB_spec hv
  have hc : h.k = 1 ∨ h.k = 2 ∨ h.k = 3 ∨ h.k = 4 := by omega
  unfold vldK at hk
  rcases hc with e | e | e | e
  · exact ⟨_, enters_of Tryz.func35 (by kernel_rfl) rfl, by rw [e]; rfl, fun w hG => hnom1 h y w hG e⟩
  · rw [if_neg (by omega), if_pos e] at hk
    unfold vld2 at hk
    simp only [Bool.and_eq_true, win_iff] at hk
    exact ⟨_, enters_of Tryz.func37 (by kernel_rfl) rfl, by rw [e]; rfl, fun w hG => hnom2 h y w hG e hk.2.1.1 hk.2.1.2 hk.2.2.1 hk.2.2.2⟩
  · rw [if_neg (by omega), if_neg (by omega), if_pos e] at hk
    unfold vld3 at hk
    simp only [Bool.and_eq_true, win_iff] at hk
    exact ⟨_, enters_of Tryz.func41 (by kernel_rfl) rfl, by rw [e]; rfl, fun w hG => hnom3 h y w hG e hk.2.1 hk.2.2 hk.1.1 hk.1.2⟩
  · rw [if_neg (by omega), if_neg (by omega), if_neg (by omega)] at hk
    unfold vld4 at hk
    simp only [win_iff] at hk
    exact ⟨_, enters_of Tryz.func43 (by kernel_rfl) rfl, by rw [e]; rfl, fun w _ => hnom4 h y w e (by omega) (by omega)⟩
/-- bounds of a nominal day of a valid rule in force -/
theorem nV_bd {h : Hol} (y : Int) (hv : hvB h = true) : -1000 ≤ nV h y ∧ nV h y ≤ 3653000 := by
  obtain ⟨⟨k1, k4⟩, _, _, _, _, hk⟩ := hvB_spec hv
  have hc : h.k = 1 ∨ h.k = 2 ∨ h.k = 3 ∨ h.k = 4 := by omega
  have e0 : nV h y = nomV eaV h y := rfl
  rw [e0]
  unfold vldK at hk
  unfold nomV
  have a := dayN_bd y h.mo h.d
  have b := dayN_bd y h.mo 1
  have c := fwd_bd (dayN y h.mo 1) h.wd
  have d := lwd_bd (dayN y h.mo 1 + len y h.mo - 1) h.wd
  have e := len_le y h.mo
  have f := eaV_bd y
  rcases hc with g | g | g | g
  · rw [if_pos g]; omega
  · rw [if_neg (by omega), if_pos g]
    rw [if_neg (by omega), if_pos g] at hk
    unfold vld2 at hk
    simp only [Bool.and_eq_true, win_iff] at hk
    omega
  · rw [if_neg (by omega), if_neg (by omega), if_pos g]; omega
  · rw [if_neg (by omega), if_neg (by omega), if_neg (by omega)]
    rw [if_neg (by omega), if_neg (by omega), if_neg (by omega)] at hk
    unfold vld4 at hk
    simp only [win_iff] at hk
    omega
theorem infoNamed : (Tryz.prog.info? 33).map (fun i => (i.zero, i.size, i.bytes)) = some (some (.agg #[.int .i64 0, .int .i64 0]), 2, 16) := by kernel_rfl
def OfPost (ns : List (Int × Int)) (w : World) (e : Ending) (w' : World) : Prop := ∃ v, e = .returned v ∧ w'.ownsRow w.heap.size 33 2 v ns.length (flatE encN ns) ∧ Below w.heap.size w w'
/-- the loop's state after k rules -/
def OfRel (y : Int) (l : List Hol) (W1 : World) (k : Nat) (o : Value) (wr : World) : Prop :=
  wr.ownsRow W1.heap.size 33 2 o (keptsP y (l.take k)).length (flatE encN (keptsP y (l.take k))) ∧ Below W1.heap.size W1 wr
theorem kepts_take {y : Int} {l : List Hol} {k : Nat} {h : Hol} (hh : l[k]? = some h) : keptsP y (l.take (k + 1)) = keptsP y (l.take k) ++ if kB h y then [(kV h y, (k : Int))] else [] := by
  have hk : k < l.length := (List.getElem?_eq_some_iff.1 hh).1
  show kepts eaE eaV y (l.take (k + 1)) 0 = _
  rw [List.take_add_one, hh]
  show kepts eaE eaV y (l.take k ++ [h]) 0 = _
  rw [kepts_snoc, List.length_take, Nat.min_eq_left (by omega), Int.zero_add]
theorem kepts_len (ee ev : Int → Int) (y : Int) : ∀ (l : List Hol) (i : Int), (kepts ee ev y l i).length ≤ l.length
  | [], _ => Nat.le_refl _
  | h :: t, i => by
    have := kepts_len ee ev y t (i + 1)
    unfold kepts
    split <;> simp <;> omega
set_option maxRecDepth 100000 in
set_option maxHeartbeats 8000000 in
theorem hof_some (b off cap : Nat) (l : List Hol) (y : Int) (w : World) (hG : GoodH w) (hb : b < w.heap.size) (hlen : l.length < 20)
    (hc : ∀ j x, l[j]? = some x → ∀ i u, (encH x)[i]? = some u → w.cell? ⟨b, off + j * 9 + i, none⟩ = some u) (hv : ∀ x, x ∈ l → hvB x = true) :
    Calls Tryz.prog 5 #[.slice (some ⟨b, off, none⟩) l.length cap, .int .i64 y] w (OfPost (ofP y l) w) := by
  have HC := Lib.hid hc; have HVV := Lib.hid hv; clear hc hv
  obtain ⟨i0, hi, hz0, hz1, hz2⟩ := info_parts infoNamed
  go_enter Tryz.func5, Tryz.ntmps5
  go_wp2_with fail
  refine (kinds_any _).mono ?_
  rintro e w1 ⟨rfl, hb1⟩
  go_wp2
  have hbC : Blk (w1.alloc (.cells allC 50)) w1.heap.size 50 allC := Blk.new _ _ _
  have hB1 : Below w.heap.size w (w1.alloc (.cells allC 50)) := bl_trans hb1 (bl_alloc _ _)
  obtain ⟨g, hg⟩ : ∃ g, g = w1.heap.size := ⟨_, rfl⟩
  rw [← hg] at hbC ⊢
  clear hg
  obtain ⟨W1, hW1⟩ : ∃ W1, W1 = w1.alloc (.cells allC 50) := ⟨_, rfl⟩
  rw [← hW1] at hbC hB1 ⊢
  clear hW1 hb1
  have hgW := hbC.lt
  have HBC := Lib.hid hbC; clear hbC
  have hG1 := hG.below hB1
  go_loopw [5, 14] (fun o i wr => ∃ k : Nat, k ≤ l.length ∧ i = .int .i64 k ∧ OfRel y l W1 k o wr) (fun _ i _ => l.length - (intOf i).toNat)
  case atStart => exact ⟨0, Nat.zero_le _, rfl, World.ownsRow_nil _ _ _ _, bl_refl _⟩
  case round =>
    obtain ⟨k, hk, rfl, hrow, hbw⟩ := hrel
    by_cases hlt : k < l.length
    · obtain ⟨h, hh⟩ : ∃ h, l[k]? = some h := ⟨_, List.getElem?_eq_getElem hlt⟩
      have hBw := bl_trans hB1 hbw
      have hcw : ∀ j x, l[j]? = some x → ∀ i u, (encH x)[i]? = some u → wr.cell? ⟨b, off + j * 9 + i, none⟩ = some u := fun j x hx i u hu => (hBw.cell (p := ⟨b, off + j * 9 + i, none⟩) hb).trans (HC.out j x hx i u hu)
      obtain ⟨c0, c1, c2, c3, c4, c5, c6, c7, c8⟩ := IsHols.at hcw hh
      have hvh := HVV.out h (List.mem_of_getElem? hh)
      have htk := kepts_take (y := y) hh
      have HTK := Lib.hid htk
      clear hh hcw htk
      have hGw : g < wr.heap.size := Nat.lt_of_lt_of_le hgW hbw.size
      have bC : Blk wr g 50 allC := HBC.out.below hbw hgW
      have HBW := Lib.hid hBw; clear hBw
      go_upto_region 6 with (fail)
      have bH : Blk (wr.alloc (.cells (cellsH h) 45)) wr.heap.size 45 (cellsH h) := Blk.new _ _ _
      have hrowW := hrow.alloc (.cells (cellsH h) 45)
      have HBW2 : Hid (Below W1.heap.size W1 (wr.alloc (.cells (cellsH h) 45))) := hbw.trans ((bl_alloc _ _).mono hbw.size)
      have bC2 := bC.alloc (.cells (cellsH h) 45)
      obtain ⟨B, hB⟩ : ∃ B, B = wr.heap.size := ⟨_, rfl⟩
      rw [← hB] at bH ⊢
      clear hB
      obtain ⟨W, hW⟩ : ∃ W, W = wr.alloc (.cells (cellsH h) 45) := ⟨_, rfl⟩
      rw [← hW] at bH bC2 hrowW HBW2 ⊢
      clear hW c0 c1 c2 c3 c4 c5 c6 c7 c8 hrow hbw bC
      have bHl := bH.lt
      have bCl := bC2.lt
      have c7 := bH.cell 7
      have c8 := bH.cell 8
      simp at c7 c8
      have hkB : kB h y = (win y h.f h.l && nB h y && win (kV h y) 0 3652058) := rfl
      have hkV : kV h y = nV h y + movV h.mv (nV h y % 7) := rfl
      cases e1 : win y h.f h.l
      · have hT : keptsP y (l.take (k + 1)) = keptsP y (l.take k) := by rw [HTK.out, hkB, e1]; simp
        have HT := Lib.hid hT
        have K1 : ∀ w, Calls Tryz.prog 16 #[.int .i64 y, .int .i64 h.f, .int .i64 h.l] w (Pur (.bool false) w) := fun w => by rw [← e1]; exact within_any _ _ _ _
        have KK1 := Lib.hid K1
        clear e1 K1 hkB hkV hT bC2 bH
        go_wp2_with fail
        refine (KK1.out _).mono ?_
        rintro e w2 ⟨rfl, rfl⟩
        go_wp2
        go_roundw
        case rel => exact ⟨k + 1, by omega, by go_num, by rw [HT.out]; exact hrowW, HBW2.out⟩
        case measure => simp [intOf]; omega
      have K1 : ∀ w, Calls Tryz.prog 16 #[.int .i64 y, .int .i64 h.f, .int .i64 h.l] w (Pur (.bool true) w) := fun w => by rw [← e1]; exact within_any _ _ _ _
      have KK1 := Lib.hid K1
      have HE1 := Lib.hid e1
      clear e1 K1
      go_wp2_with fail
      refine (KK1.out _).mono ?_
      rintro e w2 ⟨rfl, rfl⟩
      obtain ⟨⟨k1, k4⟩, ⟨m1, m2⟩, _, _, _, _⟩ := hvB_spec hvh
      obtain ⟨n1, n2⟩ := nV_bd y hvh
      obtain ⟨f, ef, hfa, hfc⟩ := nfn h y hvh
      have hGW : GoodH W := (hG1.below HBW2.out)
      clear c7 c8 hvh
      have x0 : ∀ u : UpW W, u.w.cell? ⟨B, 0, none⟩ = some (.int .i64 h.k) := fun u => (bH.below u.h bHl).cell 0
      have x1 : ∀ u : UpW W, u.w.cell? ⟨B, 1, none⟩ = some (.int .i64 h.mo) := fun u => (bH.below u.h bHl).cell 1
      have x2 : ∀ u : UpW W, u.w.cell? ⟨B, 2, none⟩ = some (.int .i64 h.d) := fun u => (bH.below u.h bHl).cell 2
      have x3 : ∀ u : UpW W, u.w.cell? ⟨B, 3, none⟩ = some (.int .i64 h.wd) := fun u => (bH.below u.h bHl).cell 3
      have x4 : ∀ u : UpW W, u.w.cell? ⟨B, 4, none⟩ = some (.int .i64 h.nth) := fun u => (bH.below u.h bHl).cell 4
      have x5 : ∀ u : UpW W, u.w.cell? ⟨B, 5, none⟩ = some (.int .i64 h.off) := fun u => (bH.below u.h bHl).cell 5
      have x6 : ∀ u : UpW W, u.w.cell? ⟨B, 6, none⟩ = some (.int .i64 h.mv) := fun u => (bH.below u.h bHl).cell 6
      have x7 : ∀ u : UpW W, u.w.cell? ⟨B, 7, none⟩ = some (.int .i64 h.f) := fun u => (bH.below u.h bHl).cell 7
      have x8 : ∀ u : UpW W, u.w.cell? ⟨B, 8, none⟩ = some (.int .i64 h.l) := fun u => (bH.below u.h bHl).cell 8
      have xf : ∀ u : UpW W, u.w.cell? ⟨g, (h.k.toNat - 1) * 2 + 1, none⟩ = some (fnV f) := fun u => ((bC2.below u.h bCl).cell _).trans hfa
      have s1 : IntKind.i64.wrap (h.k - 1) = h.k - 1 := IntWalk.i64_in _ (by omega)
      have s2 : 0 ≤ h.k - 1 := by omega
      have s3 : h.k - 1 < 4 := by omega
      have HFC := Lib.hid hfc
      have HKB := Lib.hid hkB; have HKV := Lib.hid hkV
      clear hfa hfc hkB hkV
      go_upto_region 7 with (fail)
      refine wp_region_up (by kernel_rfl) (by kernel_rfl) ?_
      repeat (go_big_quiet_step (fail))
      go_big_quiet_step (exact Ret.up (HFC.out _ (hGW.below (UpW.h _))))
      repeat (go_big_quiet_step (fail))
      refine wpQuiet_nil ?_
      rintro w2 ⟨⟨_, hb2⟩, rfl⟩
      clear x0 x1 x2 x3 x4 x5 x6 x7 x8 xf s1 s2 s3
      have hrow2 := row_below hrowW hb2
      have hbw2 : Below W1.heap.size W1 w2 := HBW2.out.trans (hb2.mono HBW2.out.size)
      have c6 := (bH.below hb2 bHl).cell 6
      simp at c6
      have hG2 := hGW.below hb2
      clear HFC KK1 hrowW hGW
      cases eB : nB h y
      · have hT : keptsP y (l.take (k + 1)) = keptsP y (l.take k) := by rw [HTK.out, HKB.out, eB]; simp
        have HT := Lib.hid hT
        clear hT
        go_wp2
        go_roundw
        case rel => exact ⟨k + 1, by omega, by go_num, by rw [HT.out]; exact hrow2, hbw2⟩
        case measure => simp [intOf]; omega
      have q0 : 0 ≤ nV h y % 7 := by omega
      have q1 : nV h y % 7 ≤ 6 := by omega
      have q2 : nV h y % 7 < 7 := by omega
      have m3 : h.mv < 3 := by omega
      have hwk : ∀ w, Calls Tryz.prog 17 #[.int .i64 (nV h y)] w (Pur (.int .i64 (nV h y % 7)) w) := fun w => weekday_any _ w
      have hmv := movV_bd h.mv (nV h y % 7)
      have cm : w2.cell? ⟨0, h.mv.toNat * 7 + (nV h y % 7).toNat, none⟩ = some (.int .i64 (movV h.mv (nV h y % 7))) := by
        rw [hG2.2.2 h.mv.toNat (nV h y % 7).toNat (by omega) (by omega), movT_eq _ _ (by omega) (by omega), Int.toNat_of_nonneg m1, Int.toNat_of_nonneg q0]
      have HEB := Lib.hid eB; clear eB
      generalize movV h.mv (nV h y % 7) = mo at *
      generalize nV h y % 7 = q at *
      generalize nV h y = n at *
      obtain ⟨mo1, mo2⟩ := hmv
      have s1 : IntKind.i64.wrap (n + mo) = n + mo := IntWalk.i64_in _ (by omega)
      have HWK := Lib.hid hwk; clear hwk
      go_upto_region 9 with (fail)
      go_big_quiet ((go_at_call 17; exact Pur.quiet (HWK.out _)))
      have hb3 := bl_drewN (bl_refl w2) nq
      have hrow3 := row_below hrow2 hb3
      have hbw3 : Below W1.heap.size W1 (w2.drewN nq) := hbw2.trans (hb3.mono hbw2.size)
      obtain ⟨w3, hw3⟩ : ∃ w3, w3 = w2.drewN nq := ⟨_, rfl⟩
      rw [← hw3] at hrow3 hbw3 ⊢
      clear hw3 hb3 cm HWK s1 c6 hrow2 hbw2
      have hW1 := hbw3.size
      cases e2 : win (n + mo) 0 3652058
      · have hT : keptsP y (l.take (k + 1)) = keptsP y (l.take k) := by rw [HTK.out, HKB.out, HKV.out, e2]; simp
        have HT := Lib.hid hT
        have K2 : ∀ w, Calls Tryz.prog 16 #[.int .i64 (n + mo), .int .i64 0, .int .i64 3652058] w (Pur (.bool false) w) := fun w => by rw [← e2]; exact within_any _ _ _ _
        have KK2 := Lib.hid K2
        clear e2 K2 hT
        go_wp2_with fail
        refine (KK2.out _).mono ?_
        rintro e w4 ⟨rfl, rfl⟩
        go_wp2
        go_roundw
        case rel => exact ⟨k + 1, by omega, by go_num, by rw [HT.out]; exact hrow3, hbw3⟩
        case measure => simp [intOf]; omega
      · have hT : keptsP y (l.take (k + 1)) = keptsP y (l.take k) ++ [(n + mo, (k : Int))] := by rw [HTK.out, HKB.out, HKV.out, HE1.out, HEB.out, e2]; simp
        have hl2 : (keptsP y (l.take k)).length ≤ k := by have h9 : (keptsP y (l.take k)).length ≤ (l.take k).length := kepts_len eaE eaV y (l.take k) 0; have h8 : (l.take k).length ≤ k := List.length_take_le _ _; omega
        have HT := Lib.hid hT
        have K2 : ∀ w, Calls Tryz.prog 16 #[.int .i64 (n + mo), .int .i64 0, .int .i64 3652058] w (Pur (.bool true) w) := fun w => by rw [← e2]; exact within_any _ _ _ _
        have KK2 := Lib.hid K2
        clear e2 K2 hT
        have hms : maxLen = 9223372036854775807 := rfl
        have HMS := Lib.hid hms; clear hms
        generalize keptsP y (l.take k) = ks at *
        go_wp2_with fail
        refine (KK2.out _).mono ?_
        rintro e w4 ⟨rfl, rfl⟩
        go_wp2_with (at_builtin; refine wpList_append_lies _ (by rfl) _ _ 25 (by rfl) W1.heap.size 33 i0 _ 2 16 Tryz.underlying25 hi hz0 hz1 hz2 rfl (by omega) _ ks.length (flatE encN ks) (by rfl) (hrow3.alloc _) ⟨w3.heap.size, 0, none⟩ 1 1 [.int .i64 (n + mo), .int .i64 k] (by rfl) (by rfl) (World.news_of_block (cs := #[.int .i64 (n + mo), .int .i64 k]) (t := 33) (fr := (0, 0)) (heap_alloc_new w3 _)) (by simp [Value.oneCell']) (by omega) (by have := HMS.out; omega) (by omega) (by simp; omega) (w3.heap.size + 1) (by simp) ?_; intro gg cap' w5 hown1 hgrow hat hlt1)
        go_roundw
        case rel =>
          refine ⟨k + 1, by omega, by go_num, ?_, ?_⟩
          · rw [HT.out, List.length_append, flatE_snoc]
            exact hown1
          · exact (hbw3.trans ((bl_alloc _ _).mono hW1)).grown hgrow (by simp; omega) (fun r e => (hrow3.lt r e).1)
        case measure => simp [intOf]; omega
    · obtain rfl : k = l.length := by omega
      rw [List.take_length] at hrow
      have hl2 : (keptsP y l).length ≤ l.length := kepts_len eaE eaV y l 0
      have hst := sortst_row hrow (by omega)
      have hst2 : (stab (fun p : Int × Int => p.1) (keptsP y l)) = ofP y l := rfl
      have hst3 : (ofP y l).length = (keptsP y l).length := stab_len _ _
      have HST := Lib.hid hst; have HS2 := Lib.hid hst2; have HS3 := Lib.hid hst3
      clear hst hst2 hst3
      generalize keptsP y l = ks at *
      go_wp2_with fail
      refine HST.out.mono ?_
      rintro e w2 ⟨rfl, hr2, hg2⟩
      go_wp2
      go_ret
      refine ⟨_, rfl, ?_, bl_trans hB1 (hbw.grown hg2 hbw.size (fun r e => (hrow.lt r e).1))⟩
      rw [HS3.out, ← HS2.out]
      exact row_base hr2 hB1.size
set_option maxHeartbeats 2000000 in
theorem hof_nil (a : Option Addr) (cap : Nat) (y : Int) (w : World) : Calls Tryz.prog 5 #[.slice a 0 cap, .int .i64 y] w (OfPost (ofP y []) w) := by
  have e0 : ofP y [] = [] := rfl
  rw [e0]
  clear e0
  have hst := fun w : World => sortst_row (B := w.heap.size) (l := []) (World.ownsRow_nil w w.heap.size 33 2) (by simp)
  have HST := Lib.hid hst; clear hst
  go_enter Tryz.func5, Tryz.ntmps5
  go_wp2_with fail
  refine (kinds_any _).mono ?_
  rintro e w1 ⟨rfl, hb1⟩
  go_wp2
  go_loop [5, 14] (fun o i => i = .int .i64 0 ∧ o = .slice none 0 0) (fun _ _ => 0)
  case atStart => exact ⟨rfl, rfl⟩
  case round =>
    obtain ⟨rfl, rfl⟩ := hrel
    go_wp2_with fail
    refine (HST.out _).mono ?_
    rintro e w2 ⟨rfl, hr2, hg2⟩
    go_wp2
    go_ret
    refine ⟨_, rfl, World.ownsRow_nil _ _ _ _, ?_⟩
    exact (bl_trans hb1 (bl_alloc _ _)).grown hg2 (bl_trans hb1 (bl_alloc _ _)).size (fun r e => by cases e)
theorem hof_any (v : Value) (l : List Hol) (y : Int) (w : World) (hG : GoodH w) (h : IsHols w v l) (hlen : l.length < 20) (hv : ∀ x, x ∈ l → hvB x = true) :
    Calls Tryz.prog 5 #[v, .int .i64 y] w (OfPost (ofP y l) w) := by
  rcases h with ⟨a, cap, rfl, rfl⟩ | ⟨b, off, cap, rfl, hlt, hm, hc⟩
  · exact hof_nil a cap y w
  · exact hof_some b off cap l y w hG hlt hlen hc hv
theorem OfPost.ns {ns : List (Int × Int)} {w : World} {e : Ending} {w' : World} (h : OfPost ns w e w') (hl : ns.length ≤ maxLen) : ∃ a cap, e = .returned (.slice a ns.length cap) ∧ IsNs w' (.slice a ns.length cap) ns ∧ Below w.heap.size w w' := by
  obtain ⟨v, rfl, hrow, hb⟩ := h
  have hI := IsRow.of_row encN_len hrow hl
  obtain ⟨a, cap, rfl⟩ := row_slice hrow
  exact ⟨a, cap, rfl, hI, hb⟩
theorem ofP_len (y : Int) (l : List Hol) : (ofP y l).length ≤ l.length := by
  show (stab _ (kepts eaE eaV y l 0)).length ≤ _
  rw [stab_len]; exact kepts_len _ _ _ _ _
end Go.Proofs.YtaiiibbnjmjamaaGreatDoor
