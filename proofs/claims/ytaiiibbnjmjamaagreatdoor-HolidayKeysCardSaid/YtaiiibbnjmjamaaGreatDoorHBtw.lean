/- The walks of holiday.Between and holiday.Is. Conditions: the rules lie in memory and are valid, fewer than 20 of them; the listed tables lie in memory. -/
import Derived.Test.YtaiiibbnjmjamaaGreatDoorHMB
import Derived.Test.YtaiiibbnjmjamaaGreatDoorKApp
import Derived.Test.YtaiiibbnjmjamaaGreatDoorHSame
import Derived.Test.YtaiiibbnjmjamaaGreatDoorDAll
namespace Go.Proofs.YtaiiibbnjmjamaaGreatDoor
open Go.RowKit

theorem infoInt : (Tryz.prog.info? 3).map (fun i => (i.zero, i.size, i.bytes)) = some (some (.int .i64 0), 1, 8) := by kernel_rfl
abbrev IntRow (w : World) (B : Nat) (v : Value) (zs : List Int) : Prop := w.ownsRow B 3 1 v zs.length (zs.map (Value.int .i64))
def SortPost (B : Nat) (v : Value) (zs : List Int) (w : World) (e : Ending) (w' : World) : Prop :=
  e = .returned (.tuple #[]) ∧ w'.ownsRow B 3 1 v zs.length ((sortI zs).map (Value.int .i64)) ∧ w.grownBy w' v.ownBlock
theorem sort_row {B : Nat} {v : Value} {zs : List Int} {w : World} (hrow : w.ownsRow B 3 1 v zs.length (zs.map (Value.int .i64))) (hl : zs.length < 4611686018427387904) :
    Calls Tryz.prog 62 #[v] w (SortPost B v zs w) := by
  rcases hrow.2 with ⟨h1, h2⟩ | ⟨g, cap', cur, h1, hg, hh, hn, hcap, hsz, htake⟩
  · obtain rfl : zs = [] := List.length_eq_zero_iff.1 (by simpa using h2)
    rw [h1] at hrow ⊢
    refine (Tryz.slices_Sort_int_none _ _ _).mono ?_
    rintro e w' ⟨rfl, rfl⟩
    exact ⟨rfl, by rw [show sortI [] = [] from List.length_eq_zero_iff.1 (sortI_len [])]; exact hrow, ⟨rfl, rfl, rfl, Nat.le_refl _, fun _ _ _ => rfl⟩⟩
  · subst h1
    rw [Nat.mul_one] at htake
    refine (Tryz.slices_Sort_int g 0 cap' zs w (Go.holds_of_blockI hh htake) (Array.getElem?_eq_some_iff.1 hh).1 hl).mono ?_
    rintro e w' ⟨rfl, n, os, rfl⟩
    exact ⟨rfl, Go.ownsRow_sortedI (sortI_len zs) hg hh hn hcap hsz, Go.grownBy_sortedI _⟩
def CompPost (B : Nat) (zs : List Int) (w : World) (e : Ending) (w' : World) : Prop :=
  ∃ v', e = .returned v' ∧ w'.ownsRow B 3 1 v' (Lib.compact zs).length ((Lib.compact zs).map (Value.int .i64)) ∧ Below B w w'
theorem comp_row {B : Nat} {v : Value} {n : Nat} {zs : List Int} {w : World} (hn : n = zs.length) (hB : B ≤ w.heap.size) (hrow : w.ownsRow B 3 1 v n (zs.map (Value.int .i64))) :
    Calls Tryz.prog 63 #[v] w (CompPost B zs w) := by
  subst hn
  rcases hrow.2 with ⟨h1, h2⟩ | ⟨g, cap', cur, h1, hg, hh, hn, hcap, hsz, htake⟩
  · obtain rfl : zs = [] := List.length_eq_zero_iff.1 (by simpa using h2)
    rw [h1]
    refine (Tryz.slices_Compact_int_empty _ _ _).mono ?_
    rintro e w' ⟨rfl, rfl⟩
    exact ⟨_, rfl, World.ownsRow_nil _ _ _ _, Below.refl _ _⟩
  · subst h1
    rw [Nat.mul_one] at htake
    have hcl := Lib.compact_length_le zs
    refine (Tryz.slices_Compact_int g 0 cap' zs w (Go.holds_of_blockI hh htake) (Nat.le_trans hn hcap) hn).mono ?_
    rintro e w' ⟨rfl, q, rfl⟩
    have hgr := Go.grownBy_sortedI (w := w) (g := g) (n := q) (os := #[]) (Lib.compact zs ++ List.replicate (zs.length - (Lib.compact zs).length) 0).toArray
    have hrw := Go.ownsRow_sortedI (w := w) (base := B) (n := q) (os := #[]) (ts := Lib.compact zs ++ List.replicate (zs.length - (Lib.compact zs).length) 0) (by rw [List.length_append, List.length_replicate]; omega) hg hh hn hcap hsz
    rw [Sort.grow_empty] at hgr hrw
    refine ⟨_, rfl, ?_, (Below.refl B w).grown hgr hB (fun k e => by cases e; exact hg)⟩
    rcases hrw.2 with ⟨e1, _⟩ | ⟨g2, cap2, cur2, e1, hg2, hh2, hn2, hcap2, hsz2, htake2⟩
    · cases e1
    · cases e1
      refine ⟨by simp, .inr ⟨g, cap', cur2, rfl, hg2, hh2, by omega, hcap2, hsz2, ?_⟩⟩
      rw [Nat.mul_one] at htake2 ⊢
      have h3 := congrArg (List.take (Lib.compact zs).length) htake2
      rw [List.take_take, Nat.min_eq_left hcl, List.map_append, List.take_left' (by simp)] at h3
      exact h3
def BtwPost (zs : List Int) (w : World) (e : Ending) (w' : World) : Prop := ∃ v, e = .returned v ∧ w'.ownsRow w.heap.size 3 1 v zs.length (zs.map (Value.int .i64)) ∧ Below w.heap.size w w'
theorem yDays_pre (l : List Hol) (a b y : Int) (m : Nat) {p : Int × Int} (hp : (ofP y l)[m]? = some p) : (((ofP y l).take (m + 1)).map (·.1)).filter (fun d => win d a b) = (((ofP y l).take m).map (·.1)).filter (fun d => win d a b) ++ if win p.1 a b then [p.1] else [] := by
  rw [List.take_add_one, hp, List.map_append, List.filter_append]
  congr 1
  cases e : win p.1 a b
  · simp [e]
  · simp [e]
set_option maxHeartbeats 1000000 in
theorem btw_none (v : Value) (f u : Int) (l : List Hol) (w : World) (h : max f 0 > min u 3652058) : Calls Tryz.prog 30 #[v, .int .i64 f, .int .i64 u] w (BtwPost (btw l f u) w) := by
  have e : btw l f u = [] := by unfold btw; rw [if_pos h]
  rw [e]
  clear e
  go_enter Tryz.func30, Tryz.ntmps30
  go_wp2
  go_ret
  exact ⟨_, rfl, World.ownsRow_nil _ _ _ _, bl_refl _⟩
theorem OfPost.mid {ns : List (Int × Int)} {w : World} {e : Ending} {w' : World} (h : OfPost ns w e w') : ∃ a cap, e = .returned (.slice a ns.length cap) ∧ Below w.heap.size w w' ∧
    (0 < ns.length → ∃ g, a = some ⟨g, 0, none⟩ ∧ w.heap.size ≤ g ∧ g < w'.heap.size ∧ ∀ j x, ns[j]? = some x → ∀ i u, (encN x)[i]? = some u → w'.cell? ⟨g, 0 + j * 2 + i, none⟩ = some u) := by
  obtain ⟨v, rfl, hrow, hb⟩ := h
  rcases hrow.2 with ⟨h1, h2⟩ | ⟨g, cap', cur, h1, hg, hh, hn, hcap, hsz, htake⟩
  · subst h1
    exact ⟨none, 0, by rw [h2], hb, fun h0 => by omega⟩
  · subst h1
    refine ⟨_, cap', rfl, hb, fun _ => ⟨g, rfl, hg, (Array.getElem?_eq_some_iff.1 hh).1, fun j x hx i u hu => ?_⟩⟩
    have c := hrow.cells (g := g) rfl (j * 2 + i) u (flatE_at encN_len ns j x hx i u hu)
    rw [Go.WideShapes.add_plain] at c
    rw [Nat.add_assoc]
    exact c
def BtwRel (l : List Hol) (a b A : Int) (W1 : World) (j : Nat) (o : Value) (wr : World) : Prop := IntRow wr W1.heap.size o (rawD l a b A j) ∧ Below W1.heap.size W1 wr
set_option maxRecDepth 100000 in
set_option maxHeartbeats 8000000 in
theorem btw_some (v : Value) (f u : Int) (l : List Hol) (w : World) (hG : GoodH w) (hv : IsHols w v l) (hlen : l.length < 20) (hval : ∀ x, x ∈ l → hvB x = true) (h : ¬ max f 0 > min u 3652058) : Calls Tryz.prog 30 #[v, .int .i64 f, .int .i64 u] w (BtwPost (btw l f u) w) := by
  have e : btw l f u = Lib.compact (sortI (rawD l (max f 0) (min u 3652058) (ofY (max f 0) - 1) (nYears (max f 0) (min u 3652058)))) := by unfold btw; rw [if_neg h]
  rw [e]
  clear e
  have h0 : 0 ≤ max f 0 := by omega
  have h9 : min u 3652058 ≤ 3652058 := by omega
  have hab : max f 0 ≤ min u 3652058 := by omega
  clear h
  obtain ⟨i0, hi, hz0, hz1, hz2⟩ := info_parts infoInt
  have hms : maxLen = 9223372036854775807 := rfl
  have HMS := Lib.hid hms; clear hms
  have hof := fun y w hG h => hof_any v l y w hG h hlen hval
  have HOF := Lib.hid hof; clear hof hval
  go_enter Tryz.func30, Tryz.ntmps30
  go_upto_region 2 with (fail)
  generalize max f 0 = a at *
  generalize min u 3652058 = b at *
  obtain ⟨y1, y2, _, _, _, _⟩ := valid_of h0 (by omega)
  obtain ⟨z1, z2, _, _, _, _⟩ := valid_of (n := b) (by omega) h9
  have hmo := ofY_mono h0 hab h9
  have hna : ¬ b < a := by omega
  have hda := fun w => of_yes a w h0 (by omega)
  have hdb := fun w => of_yes b w (by omega) h9
  have hny : nYears a b = (ofY b - ofY a + 3).toNat := rfl
  generalize ofY a = Ya at *
  generalize ofY b = Yb at *
  generalize nYears a b = N at *
  have HDA := Lib.hid hda; have HDB := Lib.hid hdb; have HNY := Lib.hid hny
  clear hda hdb hny
  go_wp2_with fail
  refine (HDA.out _).mono ?_
  rintro e w1 ⟨rfl, hb1⟩
  have bA := Blk.new w1 67 #[.int .i64 Ya, .int .i64 (ofM a), .int .i64 (ofD a)]
  have hB := bl_trans hb1 (bl_alloc w1 (.cells #[.int .i64 Ya, .int .i64 (ofM a), .int .i64 (ofD a)] 67))
  go_wp2_with fail
  refine (HDB.out _).mono ?_
  rintro e w2 ⟨rfl, hb2⟩
  have bA2 := (bA.below hb2 bA.lt).alloc (.cells #[.int .i64 Yb, .int .i64 (ofM b), .int .i64 (ofD b)] 67)
  have bB2 := Blk.new w2 67 #[.int .i64 Yb, .int .i64 (ofM b), .int .i64 (ofD b)]
  have hB2 := bl_trans (bl_trans hB hb2) (bl_alloc w2 (.cells #[.int .i64 Yb, .int .i64 (ofM b), .int .i64 (ofD b)] 67))
  have cA := bA2.cell 0
  simp at cA
  obtain ⟨g, hg⟩ : ∃ g, g = w2.heap.size := ⟨_, rfl⟩
  rw [← hg] at bB2
  obtain ⟨W1, hW1⟩ : ∃ W1, W1 = w2.alloc (.cells #[.int .i64 Yb, .int .i64 (ofM b), .int .i64 (ofD b)] 67) := ⟨_, rfl⟩
  rw [← hW1] at bB2 hB2
  go_wp2
  rw [← hg, ← hW1]
  clear hg hW1 bA2 bA hB cA hb2 hb1
  have hG1 := hG.below hB2
  have hv1 := hv.below hB2
  have HV1 := Lib.hid hv1; clear hv1
  go_loopw [11, 12] (fun o y wr => ∃ j : Nat, j ≤ N ∧ y = .int .i64 (Ya - 1 + j) ∧ BtwRel l a b (Ya - 1) W1 j o wr) (fun _ y _ => (20000 - intOf y).toNat)
  case atStart => exact ⟨0, Nat.zero_le _, by simp, World.ownsRow_nil _ _ _ _, bl_refl _⟩
  case round =>
    obtain ⟨j, hj, rfl, hrow, hbw⟩ := hrel
    have hcB := (bB2.below hbw bB2.lt).cell 0
    simp at hcB
    have hN := HNY.out
    have hrl := rawD_len l a b (Ya - 1) j
    have hrs := rawD_succ l a b (Ya - 1) j
    have hjN : j ≤ 10010 := by omega
    have hrl2 : (rawD l a b (Ya - 1) j).length ≤ 300000 := by
      have h1 : j * l.length ≤ 10010 * 20 := Nat.mul_le_mul hjN (by omega)
      omega
    obtain ⟨y, hy⟩ : ∃ y, y = Ya - 1 + (j : Int) := ⟨_, rfl⟩
    rw [← hy] at hrs ⊢
    have y3 : 0 ≤ y := by omega
    have y4 : y ≤ 10011 := by omega
    by_cases hlt : j < N
    · have hly : y ≤ Yb + 1 := by omega
      have HY := Lib.hid hy; have HRS := Lib.hid hrs; have HN := Lib.hid hN
      clear hy hrs hN hrl
      go_wp2_with fail
      refine (HOF.out _ _ (hG1.below hbw) (HV1.out.below hbw)).mono ?_
      intro e w3 hp
      have hol : (ofP y l).length ≤ 20 := Nat.le_trans (ofP_len y l) (by omega)
      obtain ⟨pa, ca, rfl, hb3, hns⟩ := OfPost.mid hp
      have hm0 := hb3.size
      have hr3 := row_below hrow hb3
      have hbw3 : Below W1.heap.size W1 w3 := hbw.trans (hb3.mono hbw.size)
      have hyd : ((((ofP y l).map (·.1)).filter (fun d => win d a b))) = yDays l a b y := rfl
      have hypr := fun m p hp => yDays_pre l a b y m (p := p) hp
      generalize ofP y l = ns at *
      have HNS := Lib.hid hns; have HYD := Lib.hid hyd; have HYP := Lib.hid hypr
      have HOB : Hid (OutB wr.heap.size w3.heap.size u11) := OutB.of_lt hrow (Nat.le_refl _)
      clear hp hb3 hrow hbw hns hcB hyd hypr
      generalize rawD l a b (Ya - 1) j = R at *
      go_wp2
      go_loopw [11, 46] (fun o i wr2 => ∃ m : Nat, m ≤ ns.length ∧ i = .int .i64 m ∧ IntRow wr2 W1.heap.size o (R ++ ((ns.take m).map (·.1)).filter (fun d => win d a b)) ∧ Below W1.heap.size W1 wr2 ∧ Mid wr.heap.size w3.heap.size w3 wr2 ∧ OutB wr.heap.size w3.heap.size o) (fun _ i _ => 100 - (intOf i).toNat)
      case atStart => exact ⟨0, Nat.zero_le _, rfl, by simpa using hr3, hbw3, Mid.refl (Nat.le_refl _), HOB.out⟩
      case round =>
        obtain ⟨m, hm, rfl, hrw, hbw4, hmid, hout⟩ := hrel
        by_cases hml : m < ns.length
        · obtain ⟨bn, rfl, hlo, hln, hcn⟩ := HNS.out (by omega)
          obtain ⟨q, hq⟩ : ∃ q, ns[m]? = some q := ⟨_, List.getElem?_eq_getElem hml⟩
          obtain ⟨c0, c1⟩ := IsNs.at (fun j x hx i u hu => (hmid.cell hlo hln (0 + j * 2 + i)).trans (hcn j x hx i u hu)) hq
          simp only [Nat.zero_add] at c0 c1
          have hst := HYP.out m q hq
          have hln2 : (((ns.take m).map (·.1)).filter (fun d => win d a b)).length ≤ 20 := by
            refine Nat.le_trans (List.length_filter_le _ _) ?_
            rw [List.length_map, List.length_take]; omega
          have hz4 := hbw4.size
          clear hq hcn
          cases e2 : win q.1 a b
          · rw [e2, if_neg (by simp), List.append_nil] at hst
            have HST := Lib.hid hst
            have K2 : ∀ w, Calls Tryz.prog 16 #[.int .i64 q.1, .int .i64 a, .int .i64 b] w (Pur (.bool false) w) := fun w => by rw [← e2]; exact within_any _ _ _ _
            have KK2 := Lib.hid K2
            clear e2 K2 hst
            go_wp2_with fail
            refine (KK2.out _).mono ?_
            rintro e w4 ⟨rfl, rfl⟩
            go_wp2
            go_roundw
            case rel => exact ⟨m + 1, by omega, by go_num, by rw [HST.out]; exact hrw.alloc _, hbw4.trans ((bl_alloc _ _).mono hz4), hmid.alloc _, hout⟩
            case measure => simp [intOf]; omega
          · rw [e2, if_pos rfl] at hst
            have HST := Lib.hid hst
            have K2 : ∀ w, Calls Tryz.prog 16 #[.int .i64 q.1, .int .i64 a, .int .i64 b] w (Pur (.bool true) w) := fun w => by rw [← e2]; exact within_any _ _ _ _
            have KK2 := Lib.hid K2
            clear e2 K2 hst
            generalize ((ns.take m).map (·.1)).filter (fun d => win d a b) = Pm at *
            go_wp2_with fail
            refine (KK2.out _).mono ?_
            rintro e w4 ⟨rfl, rfl⟩
            go_wp2_with (at_builtin; refine wpList_append_any_at (by rfl) (.tmp 55) (.tmp 58) 22 (by rfl) W1.heap.size 3 i0 _ 1 8 Tryz.underlying22 hi hz0 hz1 hz2 rfl (by omega) _ (R ++ Pm).length _ (by rfl) ((hrw.alloc _).alloc _) (.slice (some ⟨wr.heap.size + 1, 0, none⟩) 1 1) 1 [.int .i64 q.1] (by rfl) (.inr ⟨_, _, rfl, rfl, (World.news_of_block (cs := #[.int .i64 q.1]) (t := 3) (fr := (0, 0)) (by have := heap_alloc_new (wr.alloc (.cells #[.int .i64 q.1, .int .i64 q.2] 33)) (.cells #[.int .i64 q.1] 3); rwa [World.size_alloc] at this))⟩) (by simp [Value.oneCell']) (by have := HMS.out; rw [List.length_append]; omega) (by rw [List.length_append]; omega) (by simp; omega) ?_; intro v1 w5 hown1 hgrow1 hat1)
            have hmz := hmid.1
            go_roundw
            case rel => exact ⟨m + 1, by omega, by go_num, by rw [HST.out, ← List.append_assoc]; show w5.ownsRow _ _ _ _ _ _; rw [List.length_append, List.map_append]; exact hown1, (hbw4.trans (((bl_trans (bl_alloc _ _) (bl_alloc _ _))).mono hz4)).grown hgrow1 (by simp; omega) (fun r e => (hrw.lt r e).1), ((hmid.alloc _).alloc _).grown hgrow1 hout, hout.at hat1 (by simp; omega)⟩
            case measure => simp [intOf]; omega
        · obtain rfl : m = ns.length := by omega
          rw [List.take_length, HYD.out, ← HRS.out] at hrw
          clear hout hmid
          go_wp2
          go_roundw
          case rel => exact ⟨j + 1, by omega, by rw [show y + 1 = Ya - 1 + ((j + 1 : Nat) : Int) by rw [HY.out]; omega], hrw, hbw4⟩
          case measure => simp [intOf]; omega
    · have hly : ¬ y ≤ Yb + 1 := by omega
      obtain rfl : j = N := by omega
      have hst := sort_row hrow (by omega)
      have hsl := sortI_len (rawD l a b (Ya - 1) j)
      generalize hRR : rawD l a b (Ya - 1) j = R at *
      have HST := Lib.hid hst; have HSL := Lib.hid hsl;
      clear hst hsl hrs hrl hy hN hRR
      go_wp2_with fail
      refine HST.out.mono ?_
      rintro e w3 ⟨rfl, hr3, hg3⟩
      have hbw3 : Below W1.heap.size W1 w3 := hbw.grown hg3 hbw.size (fun r e => (hrow.lt r e).1)
      have hcm := comp_row HSL.out.symm hbw3.size hr3
      have HCM := Lib.hid hcm; clear hcm
      go_wp2_with fail
      refine HCM.out.mono ?_
      rintro e w4 ⟨v4, rfl, hr4, hb4⟩
      go_wp2
      go_ret
      exact ⟨v4, rfl, row_base hr4 hB2.size, bl_trans hB2 (hbw3.trans hb4)⟩
theorem btw_any (v : Value) (f u : Int) (l : List Hol) (w : World) (hG : GoodH w) (hv : IsHols w v l) (hlen : l.length < 20) (hval : ∀ x, x ∈ l → hvB x = true) : Calls Tryz.prog 30 #[v, .int .i64 f, .int .i64 u] w (BtwPost (btw l f u) w) := by
  by_cases h : max f 0 > min u 3652058
  · exact btw_none v f u l w h
  · exact btw_some v f u l w hG hv hlen hval h
theorem btw_len (l : List Hol) (f u : Int) (hl : l.length ≤ 20) : (btw l f u).length ≤ 300000 := by
  unfold btw
  split
  · simp
  · refine Nat.le_trans (Lib.compact_length_le _) ?_
    rw [sortI_len]
    refine Nat.le_trans (rawD_len l _ _ _ _) ?_
    obtain ⟨y1, y2, _⟩ := valid_of (n := max f 0) (by omega) (by omega)
    obtain ⟨z1, z2, _⟩ := valid_of (n := min u 3652058) (by omega) (by omega)
    have hn : nYears (max f 0) (min u 3652058) ≤ 10010 := by unfold nYears; omega
    have h1 : nYears (max f 0) (min u 3652058) * l.length ≤ 10010 * 20 := Nat.mul_le_mul hn hl
    omega
theorem BtwPost.zs {zs : List Int} {w : World} {e : Ending} {w' : World} (h : BtwPost zs w e w') (hl : zs.length ≤ maxLen) : ∃ a cap, e = .returned (.slice a zs.length cap) ∧ IsInts w' (.slice a zs.length cap) zs ∧ Below w.heap.size w w' := by
  obtain ⟨v, rfl, hrow, hb⟩ := h
  have hI := IsInts.of_row hrow hl
  obtain ⟨a, cap, rfl⟩ := row_slice hrow
  exact ⟨a, cap, rfl, hI, hb⟩
/-- whether a holiday is kept on a day -/
def isB (l : List Hol) (d : Int) : Bool := win d 0 3652058 && decide (0 < (btw l d d).length)
set_option maxHeartbeats 1000000 in
theorem is_any (v : Value) (d : Int) (l : List Hol) (w : World) (hG : GoodH w) (hv : IsHols w v l) (hlen : l.length < 20) (hval : ∀ x, x ∈ l → hvB x = true) : Calls Tryz.prog 13 #[v, .int .i64 d] w (Ret (.bool (isB l d)) w) := by
  have hbt := fun w hG h => btw_any v d d l w hG h hlen hval
  have hbl := btw_len l d d (by omega)
  unfold isB
  cases e2 : win d 0 3652058
  · have K2 : ∀ w, Calls Tryz.prog 16 #[.int .i64 d, .int .i64 0, .int .i64 3652058] w (Pur (.bool false) w) := fun w => by rw [← e2]; exact within_any _ _ _ _
    have KK2 := Lib.hid K2
    clear e2 K2 hbt
    go_enter Tryz.func13, Tryz.ntmps13
    go_wp2_with fail
    refine (KK2.out _).mono ?_
    rintro e w2 ⟨rfl, rfl⟩
    go_wp2
    go_ret
    exact ⟨rfl, bl_refl _⟩
  · have K2 : ∀ w, Calls Tryz.prog 16 #[.int .i64 d, .int .i64 0, .int .i64 3652058] w (Pur (.bool true) w) := fun w => by rw [← e2]; exact within_any _ _ _ _
    have KK2 := Lib.hid K2
    have HBT := Lib.hid hbt
    clear e2 K2 hbt
    generalize btw l d d = X at *
    rw [Bool.true_and]
    go_enter Tryz.func13, Tryz.ntmps13
    go_wp2_with fail
    refine (KK2.out _).mono ?_
    rintro e w2 ⟨rfl, rfl⟩
    go_wp2_with fail
    refine (HBT.out _ hG hv).mono ?_
    intro e w3 hp
    obtain ⟨a, cap, rfl, _, hb⟩ := BtwPost.zs hp (by unfold maxLen; omega)
    have hx : X.length ≤ 9223372036854775807 := by omega
    clear hp
    go_wp2
    go_ret
    exact ⟨ret_bool (by simp), hb⟩
end Go.Proofs.YtaiiibbnjmjamaaGreatDoor
