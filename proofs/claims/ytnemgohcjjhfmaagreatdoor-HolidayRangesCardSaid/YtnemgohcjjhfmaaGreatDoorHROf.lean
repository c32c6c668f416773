/- The walk of the reference's Of and SameNamed. Conditions: the rules lie in memory and are valid; fewer than 20 of them. -/
import Derived.Test.YtnemgohcjjhfmaaGreatDoorHRNom
import Derived.Test.YtnemgohcjjhfmaaGreatDoorKApp
namespace Go.Proofs.YtnemgohcjjhfmaaGreatDoor
open Go.RowKit

abbrev key1 (p : Int × Int) : Int := p.1
theorem stab_snoc {α : Type} (key : α → Int) (l : List α) (x : α) : stab key (l ++ [x]) = insG key (stab key l) x := by unfold stab; rw [List.foldl_append]; rfl
theorem cnt_of {L : List (Int × Int)} {x : Int × Int} {j : Nat} (h1 : ∀ (i : Nat) p, i < j → L[i]? = some p → p.1 ≤ x.1) (hj : j ≤ L.length) (h2 : ∀ p, L[j]? = some p → x.1 < p.1) : cntLe key1 x L = j := by
  induction L generalizing j with
  | nil => simp at hj; subst hj; rfl
  | cons a L ih =>
    cases j with
    | zero =>
      have := h2 a rfl
      unfold cntLe
      rw [List.takeWhile_cons_of_neg (by simp [key1]; omega)]; rfl
    | succ j =>
      have h0 := h1 0 a (by omega) rfl
      have := ih (j := j) (fun i p hi hp => h1 (i + 1) p (by omega) (by simpa using hp)) (by simpa using hj) (fun p hp => h2 p (by simpa using hp))
      unfold cntLe at this ⊢
      rw [List.takeWhile_cons_of_pos (by simp [key1]; omega), List.length_cons, this]
theorem encN_one : ∀ x, ∀ u ∈ encN x, u.oneCell' = true := by
  intro x u hu
  simp [encN] at hu
  rcases hu with rfl | rfl <;> rfl
theorem flat_mid (A B : List (Int × Int)) (x : Int × Int) : flatE encN (A ++ x :: B) = flatE encN A ++ [.int .i64 x.1, .int .i64 x.2] ++ flatE encN B := by
  rw [flatE_append, show x :: B = [x] ++ B from rfl, flatE_append, flatE_one, ← List.append_assoc]; rfl
theorem mid_len {L : List (Int × Int)} {x : Int × Int} {j : Nat} (hj : j ≤ L.length) : (L.take j ++ x :: L.drop j).length = j + 1 + (L.length - j) := by
  rw [List.length_append, List.length_cons, List.length_take, List.length_drop, Nat.min_eq_left hj]; omega
def ROfRel (y : Int) (l : List Hol) (w : World) (k : Nat) (o : Value) (wr : World) : Prop :=
  wr.ownsRow w.heap.size 30 2 o (ofP y (l.take k)).length (flatE encN (ofP y (l.take k))) ∧ Below w.heap.size w wr
theorem ofP_take {y : Int} {l : List Hol} {k : Nat} {h : Hol} (hh : l[k]? = some h) : ofP y (l.take (k + 1)) = if kB h y then insG key1 (ofP y (l.take k)) (kV h y, (k : Int)) else ofP y (l.take k) := by
  show stab key1 (keptsP y (l.take (k + 1))) = _
  rw [kepts_take hh]
  cases kB h y
  · simp; rfl
  · rw [if_pos rfl, if_pos rfl, stab_snoc]; rfl
theorem ofP_sorted (y : Int) (l : List Hol) : SortK key1 (ofP y l) := stab_sorted _ _

set_option maxRecDepth 100000 in
set_option maxHeartbeats 8000000 in
theorem rhof_some (b off cap : Nat) (l : List Hol) (y : Int) (w : World) (hb : b < w.heap.size) (hlen : l.length < 20)
    (hc : ∀ j x, l[j]? = some x → ∀ i u, (encH x)[i]? = some u → w.cell? ⟨b, off + j * 9 + i, none⟩ = some u) (hv : ∀ x, x ∈ l → hvB x = true) :
    Calls Tryz.prog 9 #[.slice (some ⟨b, off, none⟩) l.length cap, .int .i64 y] w (OfPost (ofP y l) w) := by
  have HC := Lib.hid hc; have HVV := Lib.hid hv; clear hc hv
  obtain ⟨i0, hi, hz0, hz1, hz2⟩ := info_parts infoNamed
  go_enter Tryz.func9, Tryz.ntmps9
  go_wp2
  go_loopw [5, 6] (fun o i wr => ∃ k : Nat, k ≤ l.length ∧ i = .int .i64 k ∧ ROfRel y l w k o wr) (fun _ i _ => l.length - (intOf i).toNat)
  case atStart => exact ⟨0, Nat.zero_le _, rfl, World.ownsRow_nil _ _ _ _, bl_refl _⟩
  case round =>
    obtain ⟨k, hk, rfl, hrow, hbw⟩ := hrel
    by_cases hlt : k < l.length
    · obtain ⟨h, hh⟩ : ∃ h, l[k]? = some h := ⟨_, List.getElem?_eq_getElem hlt⟩
      have hcw : ∀ j x, l[j]? = some x → ∀ i u, (encH x)[i]? = some u → wr.cell? ⟨b, off + j * 9 + i, none⟩ = some u := fun j x hx i u hu => (hbw.cell (p := ⟨b, off + j * 9 + i, none⟩) hb).trans (HC.out j x hx i u hu)
      obtain ⟨c0, c1, c2, c3, c4, c5, c6, c7, c8⟩ := IsHols.at hcw hh
      have hvh := HVV.out h (List.mem_of_getElem? hh)
      have htk := ofP_take (y := y) hh
      have hkp := fun w => rkept_any h y w hvh
      have hl2 : (ofP y (l.take k)).length ≤ k := Nat.le_trans (ofP_len y _) (List.length_take_le _ _)
      have hso := ofP_sorted y (l.take k)
      clear hh hcw hvh
      cases eB : kB h y
      · rw [eB] at hkp htk
        have HKP := Lib.hid hkp
        have HT := Lib.hid htk
        clear hkp htk eB hso
        go_wp2_with fail
        refine (HKP.out _).mono ?_
        rintro e w1 ⟨rfl, hb1⟩
        have hr1 := row_below hrow hb1
        go_wp2
        go_roundw
        case rel => exact ⟨k + 1, by omega, by go_num, by rw [HT.out]; exact hr1, bl_trans hbw hb1⟩
        case measure => simp [intOf]; omega
      rw [eB, if_pos rfl] at htk
      have hrk : rkV h y = kV h y := by
        unfold rkV
        have : rnB h y = true := by
          have e : kB h y = (rnB h y && win (kV h y) 0 3652058) := rfl
          rw [e] at eB
          cases hq : rnB h y
          · rw [hq] at eB; cases eB
          · rfl
        rw [if_pos this]
      rw [eB, hrk] at hkp
      have HKP := Lib.hid hkp
      have HT := Lib.hid htk
      have HSO := Lib.hid hso
      clear hkp htk eB hso hrk
      generalize kV h y = d at *
      generalize ofP y (l.take k) = L at *
      have hms : maxLen = 9223372036854775807 := rfl
      have HMS := Lib.hid hms; clear hms
      go_wp2_with fail
      refine (HKP.out _).mono ?_
      rintro e w1 ⟨rfl, hb1⟩
      have hr1 := row_below hrow hb1
      have hbw1 := bl_trans hbw hb1
      clear hrow hbw hb1 c0 c1 c2 c3 c4 c5 c6 c7 c8
      rcases hr1.2 with ⟨n1, n2⟩ | ⟨g, cap', cur, n1, hg, hbk, hn, hcap, hsz, htake⟩
      · obtain rfl : L = [] := List.length_eq_zero_iff.1 n2
        subst n1
        have hins : insG key1 [] (d, (k : Int)) = [(d, (k : Int))] := rfl
        have HINS := Lib.hid hins; clear hins
        go_wp2
        go_loop [9] (fun v => v = .int .i64 0) (fun _ => 0)
        case atStart => rfl
        case round =>
          subst hrel
          go_upto_region 12 with (at_builtin; refine wpList_append_any_at (by rfl) (.tmp 43) (.tmp 46) 26 (by rfl) w.heap.size 30 i0 _ 2 16 Tryz.underlying26 hi hz0 hz1 hz2 rfl (by omega) (.slice none 0 0) 0 [] (by rfl) (World.ownsRow_nil w1 w.heap.size 30 2) (.slice none 0 0) 0 (flatE encN []) (by rfl) src_nil (one_flat encN_one _) (by have := HMS.out; omega) (by omega) hbw1.size ?_; intro v1 w2 hown1 hgrow1 hat1)
          have hbw2 : Below w.heap.size w w2 := hbw1.grown hgrow1 hbw1.size (fun r e => by cases e)
          have hwz := hbw2.size
          go_upto_region 13 with (at_builtin; refine wpList_append_any_at (by rfl) (.tmp 48) (.tmp 52) 26 (by rfl) w.heap.size 30 i0 _ 2 16 Tryz.underlying26 hi hz0 hz1 hz2 rfl (by omega) v1 (0 + 0) _ (by rfl) (hown1.alloc _) (.slice (some ⟨w2.heap.size, 0, none⟩) 1 1) 1 [.int .i64 d, .int .i64 k] (by rfl) (.inr ⟨_, _, rfl, rfl, (World.news_of_block (cs := #[.int .i64 d, .int .i64 k]) (t := 30) (fr := (0, 0)) (heap_alloc_new w2 _))⟩) (by simp [Value.oneCell']) (by have := HMS.out; omega) (by omega) (by simp; omega) ?_; intro v2 w3 hown2 hgrow2 hat2)
          have hbw3 : Below w.heap.size w w3 := (bl_trans hbw2 (bl_alloc _ _)).grown hgrow2 (by simp; omega) (fun r e => (hown1.lt r e).1)
          go_wp2_with (at_builtin; refine wpList_append_any_at (by rfl) (.tmp 54) (.tmp 57) 26 (by rfl) w.heap.size 30 i0 _ 2 16 Tryz.underlying26 hi hz0 hz1 hz2 rfl (by omega) v2 _ _ (by rfl) hown2 (.slice none 0 0) 0 (flatE encN []) (by rfl) src_nil (one_flat encN_one _) (by have := HMS.out; omega) (by omega) hbw3.size ?_; intro v3 w4 hown3 hgrow3 hat3)
          have hbw4 : Below w.heap.size w w4 := hbw3.grown hgrow3 hbw3.size (fun r e => (hown2.lt r e).1)
          go_roundw
          case rel =>
            refine ⟨k + 1, by omega, by go_num, ?_, hbw4⟩
            rw [HT.out, HINS.out]
            exact hown3
          case measure => simp [intOf]; omega
      · subst n1
        have hcell : ∀ (j : Nat) p, L[j]? = some p → w1.cell? ⟨g, j * 2, none⟩ = some (.int .i64 p.1) := fun j p hp => by
          have c := hr1.cells (g := g) rfl (j * 2 + 0) (.int .i64 p.1) (flatE_at encN_len L j p hp 0 _ rfl)
          rw [Go.WideShapes.add_plain] at c
          simpa using c
        have HCELL := Lib.hid hcell; clear hcell
        have hbg : Blk w1 g 30 cur := hbk
        go_wp2
        go_loop [9] (fun v => ∃ j : Nat, j ≤ L.length ∧ v = .int .i64 j ∧ Hid (∀ (i : Nat) p, i < j → L[i]? = some p → p.1 ≤ d)) (fun v => L.length - (intOf v).toNat)
        case atStart => exact ⟨0, Nat.zero_le _, rfl, fun i p hi => absurd hi (by omega)⟩
        case round =>
          obtain ⟨j, hj, rfl, HJ⟩ := hrel
          have fin : (∀ p, L[j]? = some p → d < p.1) → insG key1 L (d, (k : Int)) = L.take j ++ (d, (k : Int)) :: L.drop j := fun h2 => by
            have := ref_ins key1 L (d, (k : Int)) HSO.out
            rw [cnt_of HJ.out hj h2] at this
            exact this.symm
          have FIN := Lib.hid fin; clear fin
          by_cases hjl : j < L.length
          · obtain ⟨p, hp⟩ : ∃ p, L[j]? = some p := ⟨_, List.getElem?_eq_getElem hjl⟩
            have cj := HCELL.out j p hp
            by_cases hpd : p.1 ≤ d
            · have HJ2 : Hid (∀ (i : Nat) p, i < j + 1 → L[i]? = some p → p.1 ≤ d) := fun i q hi hq => by
                by_cases e : i = j
                · subst e; rw [hp] at hq; cases hq; exact hpd
                · exact HJ.out i q (by omega) hq
              have HP := Lib.hid hp; clear hp
              go_wp2
              go_round
              case rel => exact ⟨j + 1, by omega, by go_num, HJ2⟩
              case measure => simp [intOf]; omega
            · have hres := FIN.out (fun q hq => by rw [hp] at hq; cases hq; omega)
              have HRES := Lib.hid hres
              clear hres hp FIN
              have hLl : L.length ≤ 20 := by omega
              have hjl2 : j ≤ L.length := by omega
              go_upto_region 12 with (at_builtin; refine wpList_append_any_at (by rfl) (.tmp 43) (.tmp 46) 26 (by rfl) w.heap.size 30 i0 _ 2 16 Tryz.underlying26 hi hz0 hz1 hz2 rfl (by omega) (.slice none 0 0) 0 [] (by rfl) (World.ownsRow_nil w1 w.heap.size 30 2) (.slice (some ⟨g, 0, none⟩) j cap') j (flatE encN (L.take j)) (by rfl) (src_take encN_len hbg htake hjl2) (one_flat encN_one _) (by have := HMS.out; omega) (by omega) hbw1.size ?_; intro v1 w2 hown1 hgrow1 hat1)
              have hgw := hbg.lt
              have hb2 := hbg.kept hgrow1 (by simp [Value.ownBlock])
              have hbw2 : Below w.heap.size w w2 := hbw1.grown hgrow1 hbw1.size (fun r e => by cases e)
              have hne1 : some g ≠ v1.ownBlock := by rcases hat1 with e | e <;> rw [e]; simp [Value.ownBlock]; intro q; cases q; omega
              simp only [Nat.zero_add, List.nil_append] at hown1
              have hwz := hbw2.size
              go_upto_region 13 with (at_builtin; refine wpList_append_any_at (by rfl) (.tmp 48) (.tmp 52) 26 (by rfl) w.heap.size 30 i0 _ 2 16 Tryz.underlying26 hi hz0 hz1 hz2 rfl (by omega) v1 j (flatE encN (L.take j)) (by rfl) (hown1.alloc _) (.slice (some ⟨w2.heap.size, 0, none⟩) 1 1) 1 [.int .i64 d, .int .i64 k] (by rfl) (.inr ⟨_, _, rfl, rfl, (World.news_of_block (cs := #[.int .i64 d, .int .i64 k]) (t := 30) (fr := (0, 0)) (heap_alloc_new w2 _))⟩) (by simp [Value.oneCell']) (by have := HMS.out; omega) (by omega) (by simp; omega) ?_; intro v2 w3 hown2 hgrow2 hat2)
              have hb3 := (hb2.alloc (.cells #[.int .i64 d, .int .i64 k] 30)).kept hgrow2 hne1
              have hne2 : some g ≠ v2.ownBlock := by rcases hat2 with e | e <;> rw [e]; exact hne1; simp; have := hb2.lt; omega
              have hbw3 : Below w.heap.size w w3 := (bl_trans hbw2 (bl_alloc _ _)).grown hgrow2 (by simp; omega) (fun r e => (hown1.lt r e).1)
              have hwz3 := hbw3.size
              have hcj : ¬ cap' = j := by omega
              have hcj2 : j < cap' := by omega
              go_wp2_with (at_builtin; refine wpList_append_any_at (by rfl) (.tmp 54) (.tmp 57) 26 (by rfl) w.heap.size 30 i0 _ 2 16 Tryz.underlying26 hi hz0 hz1 hz2 rfl (by omega) v2 (j + 1) _ (by rfl) hown2 (.slice (some ⟨g, j * 2, none⟩) (L.length - j) (cap' - j)) (L.length - j) (flatE encN (L.drop j)) (by rfl) (src_drop encN_len hb3 htake) (one_flat encN_one _) (by have := HMS.out; omega) (by omega) hbw3.size ?_; intro v3 w4 hown3 hgrow3 hat3)
              have hbw4 : Below w.heap.size w w4 := hbw3.grown hgrow3 hbw3.size (fun r e => (hown2.lt r e).1)
              go_roundw
              case rel =>
                refine ⟨k + 1, by omega, by go_num, ?_, hbw4⟩
                rw [HT.out, HRES.out, flat_mid, mid_len hjl2]
                exact hown3
              case measure => simp [intOf]; omega
          · obtain rfl : j = L.length := by omega
            have hres := FIN.out (fun q hq => by rw [List.getElem?_eq_none (Nat.le_refl _)] at hq; cases hq)
            have HRES := Lib.hid hres
            clear hres FIN
            have hLl : L.length ≤ 20 := by omega
            have hjl2 : L.length ≤ L.length := by omega
            go_upto_region 12 with (at_builtin; refine wpList_append_any_at (by rfl) (.tmp 43) (.tmp 46) 26 (by rfl) w.heap.size 30 i0 _ 2 16 Tryz.underlying26 hi hz0 hz1 hz2 rfl (by omega) (.slice none 0 0) 0 [] (by rfl) (World.ownsRow_nil w1 w.heap.size 30 2) (.slice (some ⟨g, 0, none⟩) L.length cap') L.length (flatE encN (L.take L.length)) (by rfl) (src_take encN_len hbg htake hjl2) (one_flat encN_one _) (by have := HMS.out; omega) (by omega) hbw1.size ?_; intro v1 w2 hown1 hgrow1 hat1)
            have hgw := hbg.lt
            have hb2 := hbg.kept hgrow1 (by simp [Value.ownBlock])
            have hbw2 : Below w.heap.size w w2 := hbw1.grown hgrow1 hbw1.size (fun r e => by cases e)
            have hne1 : some g ≠ v1.ownBlock := by rcases hat1 with e | e <;> rw [e]; simp [Value.ownBlock]; intro q; cases q; omega
            simp only [Nat.zero_add, List.nil_append] at hown1
            have hwz := hbw2.size
            go_upto_region 13 with (at_builtin; refine wpList_append_any_at (by rfl) (.tmp 48) (.tmp 52) 26 (by rfl) w.heap.size 30 i0 _ 2 16 Tryz.underlying26 hi hz0 hz1 hz2 rfl (by omega) v1 L.length (flatE encN (L.take L.length)) (by rfl) (hown1.alloc _) (.slice (some ⟨w2.heap.size, 0, none⟩) 1 1) 1 [.int .i64 d, .int .i64 k] (by rfl) (.inr ⟨_, _, rfl, rfl, (World.news_of_block (cs := #[.int .i64 d, .int .i64 k]) (t := 30) (fr := (0, 0)) (heap_alloc_new w2 _))⟩) (by simp [Value.oneCell']) (by have := HMS.out; omega) (by omega) (by simp; omega) ?_; intro v2 w3 hown2 hgrow2 hat2)
            have hb3 := (hb2.alloc (.cells #[.int .i64 d, .int .i64 k] 30)).kept hgrow2 hne1
            have hne2 : some g ≠ v2.ownBlock := by rcases hat2 with e | e <;> rw [e]; exact hne1; simp; have := hb2.lt; omega
            have hbw3 : Below w.heap.size w w3 := (bl_trans hbw2 (bl_alloc _ _)).grown hgrow2 (by simp; omega) (fun r e => (hown1.lt r e).1)
            have hwz3 := hbw3.size
            by_cases hcj : cap' = L.length
            · have hcj2 : cap' - L.length = 0 := by omega
              go_wp2_with (at_builtin; refine wpList_append_any_at (by rfl) (.tmp 54) (.tmp 57) 26 (by rfl) w.heap.size 30 i0 _ 2 16 Tryz.underlying26 hi hz0 hz1 hz2 rfl (by omega) v2 (L.length + 1) _ (by rfl) hown2 (.slice (some ⟨g, 0, none⟩) 0 0) 0 (flatE encN (L.drop L.length)) (by rfl) (src_end encN_len) (one_flat encN_one _) (by have := HMS.out; omega) (by omega) hbw3.size ?_; intro v3 w4 hown3 hgrow3 hat3)
              have hbw4 : Below w.heap.size w w4 := hbw3.grown hgrow3 hbw3.size (fun r e => (hown2.lt r e).1)
              go_roundw
              case rel =>
                refine ⟨k + 1, by omega, by go_num, ?_, hbw4⟩
                rw [HT.out, HRES.out, flat_mid, mid_len hjl2, Nat.sub_self]
                exact hown3
              case measure => simp [intOf]; omega
            · have hcj2 : L.length < cap' := by omega
              go_wp2_with (at_builtin; refine wpList_append_any_at (by rfl) (.tmp 54) (.tmp 57) 26 (by rfl) w.heap.size 30 i0 _ 2 16 Tryz.underlying26 hi hz0 hz1 hz2 rfl (by omega) v2 (L.length + 1) _ (by rfl) hown2 (.slice (some ⟨g, L.length * 2, none⟩) 0 (cap' - L.length)) 0 (flatE encN (L.drop L.length)) (by rfl) (src_end encN_len) (one_flat encN_one _) (by have := HMS.out; omega) (by omega) hbw3.size ?_; intro v3 w4 hown3 hgrow3 hat3)
              have hbw4 : Below w.heap.size w w4 := hbw3.grown hgrow3 hbw3.size (fun r e => (hown2.lt r e).1)
              go_roundw
              case rel =>
                refine ⟨k + 1, by omega, by go_num, ?_, hbw4⟩
                rw [HT.out, HRES.out, flat_mid, mid_len hjl2, Nat.sub_self]
                exact hown3
              case measure => simp [intOf]; omega
    · obtain rfl : k = l.length := by omega
      rw [List.take_length] at hrow
      go_wp2
      go_ret
      exact ⟨_, rfl, hrow, hbw⟩
set_option maxHeartbeats 1000000 in
theorem rhof_nil (a : Option Addr) (cap : Nat) (y : Int) (w : World) : Calls Tryz.prog 9 #[.slice a 0 cap, .int .i64 y] w (OfPost (ofP y []) w) := by
  have e0 : ofP y [] = [] := rfl
  rw [e0]
  clear e0
  go_enter Tryz.func9, Tryz.ntmps9
  go_wp2
  go_loop [5, 6] (fun o i => i = .int .i64 0 ∧ o = .slice none 0 0) (fun _ _ => 0)
  case atStart => exact ⟨rfl, rfl⟩
  case round =>
    obtain ⟨rfl, rfl⟩ := hrel
    go_wp2
    go_ret
    exact ⟨_, rfl, World.ownsRow_nil _ _ _ _, bl_refl _⟩
theorem rhof_any (v : Value) (l : List Hol) (y : Int) (w : World) (h : IsHols w v l) (hlen : l.length < 20) (hv : ∀ x, x ∈ l → hvB x = true) :
    Calls Tryz.prog 9 #[v, .int .i64 y] w (OfPost (ofP y l) w) := by
  rcases h with ⟨a, cap, rfl, rfl⟩ | ⟨b, off, cap, rfl, hlt, hm, hc⟩
  · exact rhof_nil a cap y w
  · exact rhof_some b off cap l y w hlt hlen hc hv
end Go.Proofs.YtnemgohcjjhfmaaGreatDoor
