/- The walk of the law HolidayCycle: it returns true at every input. Conditions: the numbers are ints that lie in memory, the listed tables lie in memory. -/
import Derived.Test.YtnemgohcjjhfmaaDoorHLives
import Derived.Test.YtnemgohcjjhfmaaDoorHMk
import Derived.Test.YtnemgohcjjhfmaaDoorHCyPlain
import Derived.Test.YtnemgohcjjhfmaaDoorKApp
import Derived.Test.YtnemgohcjjhfmaaDoorHSame
import Derived.Test.YtnemgohcjjhfmaaDoorHMem
namespace Go.Proofs.YtnemgohcjjhfmaaDoor
open Go.RowKit

theorem kepts_cyc {y : Int} (h0 : 2 ≤ y) (h1 : y ≤ 9597) : ∀ (l : List Hol) (i : Int), (∀ x, x ∈ l → x.f = 1 ∧ x.l = 9999 ∧ x.shape ∧ x.k ≠ 4) → kepts eaE eaV (y + 400) l i = (kepts eaE eaV y l i).map (fun p => (p.1 + 146097, p.2))
  | [], _, _ => rfl
  | h :: t, i, hl => by
    obtain ⟨a, b, c, d⟩ := hl h (by simp)
    have ih := kepts_cyc h0 h1 t (i + 1) (fun x hx => hl x (List.mem_cons_of_mem _ hx))
    obtain ⟨e1, e2⟩ := kep_400 eaE eaV h h0 h1 a b c d
    unfold kepts
    rw [e1, ih]
    cases hq : kepB eaE eaV h y
    · simp
    · rw [if_pos rfl, if_pos rfl, e2 hq]; simp
theorem insG_cyc (L : List (Int × Int)) (x : Int × Int) : insG (fun p : Int × Int => p.1) (L.map (fun p => (p.1 + 146097, p.2))) (x.1 + 146097, x.2) = (insG (fun p : Int × Int => p.1) L x).map (fun p => (p.1 + 146097, p.2)) := by
  unfold insG
  rw [List.map_append, List.map_cons, List.filter_map, List.filter_map]
  congr 1
  · congr 1
    apply List.filter_congr
    intro p _
    simp
  · congr 2
    apply List.filter_congr
    intro p _
    simp
theorem stab_cyc (L : List (Int × Int)) : stab (fun p : Int × Int => p.1) (L.map (fun p => (p.1 + 146097, p.2))) = (stab (fun p : Int × Int => p.1) L).map (fun p => (p.1 + 146097, p.2)) := by
  unfold stab
  have : ∀ (Q P : List (Int × Int)), (Q.map (fun p => (p.1 + 146097, p.2))).foldl (insG (fun p : Int × Int => p.1)) (P.map (fun p => (p.1 + 146097, p.2))) = (Q.foldl (insG (fun p : Int × Int => p.1)) P).map (fun p => (p.1 + 146097, p.2)) := by
    intro Q
    induction Q with
    | nil => intro P; rfl
    | cons a Q ih => intro P; rw [List.map_cons, List.foldl_cons, List.foldl_cons, insG_cyc, ih]
  exact this L []
theorem ofP_cyc {y : Int} (h0 : 2 ≤ y) (h1 : y ≤ 9597) (l : List Hol) (hl : ∀ x, x ∈ l → x.f = 1 ∧ x.l = 9999 ∧ x.shape ∧ x.k ≠ 4) : ofP (y + 400) l = (ofP y l).map (fun p => (p.1 + 146097, p.2)) := by
  show stab _ (kepts eaE eaV (y + 400) l 0) = (stab _ (kepts eaE eaV y l 0)).map _
  rw [kepts_cyc h0 h1 l 0 hl, stab_cyc]
theorem shape_of {h : Hol} (hv : hvB h = true) : h.shape := by
  obtain ⟨⟨k1, k4⟩, _, _, _, _, hk⟩ := hvB_spec hv
  have hc : h.k = 1 ∨ h.k = 2 ∨ h.k = 3 ∨ h.k = 4 := by omega
  unfold vldK vld1 vld2 vld3 vld4 at hk
  unfold Hol.shape
  rcases hc with e | e | e | e
  · rw [if_pos e] at hk
    simp only [Bool.and_eq_true, win_iff] at hk
    omega
  · rw [if_neg (by omega), if_pos e] at hk
    simp only [Bool.and_eq_true, win_iff] at hk
    omega
  · rw [if_neg (by omega), if_neg (by omega), if_pos e] at hk
    simp only [Bool.and_eq_true, win_iff] at hk
    omega
  · rw [if_neg (by omega), if_neg (by omega), if_neg (by omega)] at hk
    simp only [win_iff] at hk
    omega
theorem alw_valid {h : Hol} (hv : hvB h = true) : hvB (alw h) = true := by
  obtain ⟨a, b, _, _, _, f⟩ := hvB_spec hv
  unfold hvB
  have e1 : win (alw h).k 1 4 = true := win_iff.2 a
  have e2 : win (alw h).mv 0 2 = true := win_iff.2 b
  have e3 : vldK (alw h) = true := f
  rw [e1, e2, e3]; rfl
/-- the rules that do not depend on Easter, in force in all years -/
def allR (l : List Hol) : List Hol := (l.filter (fun h => h.k != 4)).map alw
theorem allR_snoc (l : List Hol) (h : Hol) : allR (l ++ [h]) = allR l ++ if h.k != 4 then [alw h] else [] := by
  unfold allR
  rw [List.filter_append, List.map_append]
  congr 1
  by_cases e : (h.k != 4) = true
  · rw [if_pos e, List.filter_cons_of_pos (by simpa using e)]; rfl
  · rw [if_neg e, List.filter_cons_of_neg (by simpa using e)]; rfl
theorem allR_len (l : List Hol) : (allR l).length ≤ l.length := by unfold allR; rw [List.length_map]; exact List.length_filter_le _ _
theorem allR_ok {l : List Hol} (hv : ∀ x, x ∈ l → hvB x = true) : (∀ x, x ∈ allR l → hvB x = true) ∧ ∀ x, x ∈ allR l → x.f = 1 ∧ x.l = 9999 ∧ x.shape ∧ x.k ≠ 4 := by
  have h : ∀ x, x ∈ allR l → ∃ g, g ∈ l ∧ g.k ≠ 4 ∧ x = alw g := by
    intro x hx
    unfold allR at hx
    obtain ⟨g, hg, rfl⟩ := List.mem_map.1 hx
    obtain ⟨h1, h2⟩ := List.mem_filter.1 hg
    exact ⟨g, h1, by simpa using h2, rfl⟩
  refine ⟨fun x hx => ?_, fun x hx => ?_⟩
  · obtain ⟨g, h1, _, rfl⟩ := h x hx
    exact alw_valid (hv g h1)
  · obtain ⟨g, h1, h2, rfl⟩ := h x hx
    exact ⟨rfl, rfl, shape_of (alw_valid (hv g h1)), h2⟩
theorem ns_some {w : World} {a : Option Addr} {n cap : Nat} {l : List (Int × Int)} (h : IsNs w (.slice a n cap) l) (h0 : 0 < l.length) : ∃ b off, a = some ⟨b, off, none⟩ ∧ n = l.length ∧ b < w.heap.size ∧ ∀ j x, l[j]? = some x → ∀ i u, (encN x)[i]? = some u → w.cell? ⟨b, off + j * 2 + i, none⟩ = some u := by
  rcases h with ⟨_, _, _, rfl⟩ | ⟨b, off, cap', e, hlt, hm, hc⟩
  · simp at h0
  · cases e
    exact ⟨b, off, rfl, rfl, hlt, hc⟩
set_option maxRecDepth 100000 in
set_option maxHeartbeats 8000000 in
theorem law_hcycle (v : Value) (zs : List Int) (n : Int) (w : World) (hI : IsInts w v zs) (hz : InR zs) (hG : GoodH w) (h1 : -9223372036854775808 ≤ n) (h2 : n ≤ 9223372036854775807) :
    Calls Tryd.prog 6 #[v, .int .i64 n] w (Ret (.bool true) w) := by
  have hmk := mk_any v zs w hI hz
  have hl6 := mkHols_len zs
  have hval := mkHols_valid zs
  generalize mkHols zs = l at *
  have hlm : l.length ≤ maxLen := by unfold maxLen; omega
  have hA := fun w => around01 n 9596 w h1 h2 (by omega) (by omega)
  obtain ⟨a1, a2⟩ := around_bd n (m := 9596) (by omega)
  generalize around n 9596 = a at *
  have hcyc := ofP_cyc (y := 2 + a) (by omega) (by omega) (allR l) (allR_ok hval).2
  have hof := fun v y w hG h => hof_any v (allR l) y w hG h (by have := allR_len l; omega) (allR_ok hval).1
  have hal := fun h w => alw_any h w
  obtain ⟨i0, hi, hz0, hz1, hz2⟩ := info_parts infoHol
  have hms : maxLen = 9223372036854775807 := rfl
  have HMS := Lib.hid hms
  have HMK := Lib.hid hmk; have HA := Lib.hid hA; have HAL := Lib.hid hal; have HOF := Lib.hid hof; have HCYC := Lib.hid hcyc
  clear hmk hA hal hms hI hz hof hcyc hval
  go_enter Tryd.func6, Tryd.ntmps6
  go_wp2_with fail
  refine HMK.out.mono ?_
  intro e w1 hp
  obtain ⟨p, cap, rfl, hm, hb1⟩ := HolsPost.hs hp hlm
  have hG1 := hG.below hb1
  have HM := Lib.hid hm
  clear hp hm
  go_wp2
  go_loopw [6, 7] (fun o i wr => ∃ k : Nat, k ≤ l.length ∧ i = .int .i64 k ∧ wr.ownsRow w1.heap.size 27 9 o (allR (l.take k)).length (flatE encH (allR (l.take k))) ∧ Below w1.heap.size w1 wr) (fun _ i _ => 200 - (intOf i).toNat)
  case atStart => exact ⟨0, Nat.zero_le _, rfl, World.ownsRow_nil _ _ _ _, bl_refl _⟩
  case round =>
    obtain ⟨k, hk, rfl, hrow, hbw⟩ := hrel
    have hal6 : (allR (l.take k)).length ≤ 6 := by have h9 := allR_len (l.take k); have h8 := List.length_take_le k l; have h7 : (l.take k).length ≤ l.length := by rw [List.length_take]; omega
                                                   omega
    by_cases hlt : k < l.length
    · rcases HM.out with ⟨_, _, _, h0⟩ | ⟨b, off, cap', e1, hblt, hm, hc⟩
      · rw [h0] at hlt; simp at hlt
      cases e1
      obtain ⟨h, hh⟩ : ∃ h, l[k]? = some h := ⟨_, List.getElem?_eq_getElem hlt⟩
      obtain ⟨c0, c1, c2, c3, c4, c5, c6, c7, c8⟩ := IsHols.at (w := wr) (fun j x hx i u hu => (hbw.cell (p := ⟨b, off + j * 9 + i, none⟩) hblt).trans (hc j x hx i u hu)) hh
      have hsn : allR (l.take (k + 1)) = allR (l.take k) ++ if h.k != 4 then [alw h] else [] := by rw [List.take_add_one, hh]; exact allR_snoc _ _
      clear hc hh
      cases hq : (h.k != 4)
      · rw [hq, if_neg (by simp), List.append_nil] at hsn
        have HSN := Lib.hid hsn; clear hsn
        go_wp2
        go_roundw
        case rel => exact ⟨k + 1, by omega, by go_num, by rw [HSN.out]; exact hrow, hbw⟩
        case measure => simp [intOf]; omega
      · rw [hq, if_pos rfl] at hsn
        have HSN := Lib.hid hsn; clear hsn
        go_wp2_with fail
        refine (HAL.out _ _).mono ?_
        rintro e w3 ⟨rfl, hb3⟩
        have hr3 := row_below hrow hb3
        have hbw3 : Below w1.heap.size w1 w3 := bl_trans hbw hb3
        have hz3 := hbw3.size
        clear hrow hbw hb3
        go_wp2_with (at_builtin; refine wpList_append_any (by rfl) (.tmp 26) (.tmp 32) 22 (by rfl) w1.heap.size 27 i0 _ 9 72 Tryd.underlying22 hi hz0 hz1 hz2 rfl (by omega) _ _ _ (by rfl) (hr3.alloc _) (.slice (some ⟨w3.heap.size, 0, none⟩) 1 1) 1 (encH (alw h)) (by rfl) (.inr ⟨_, _, rfl, rfl, (World.news_of_block (cs := cellsH (alw h)) (t := 27) (fr := (0, 0)) (heap_alloc_new w3 _))⟩) (encH_one _) (by have := HMS.out; omega) (by omega) (by simp; omega) ?_; intro v1 w4 hown1 hgrow1)
        go_roundw
        case rel => exact ⟨k + 1, by omega, by go_num, by rw [HSN.out, List.length_append, flatE_snoc]; exact hown1, (bl_trans hbw3 (bl_alloc _ _)).grown hgrow1 (by simp; omega) (fun r e => (hr3.lt r e).1)⟩
        case measure => simp [intOf]; omega
    · obtain rfl : k = l.length := by omega
      rw [List.take_length] at hrow hal6
      have hX2 : IsHols wr u6 (allR l) := IsRow.of_row encH_len hrow (by have := HMS.out; omega)
      have hB := bl_trans hb1 hbw
      have hG2 := hG1.below hbw
      clear hrow hbw hk hlt
      go_wp2_with fail
      refine (HA.out _).mono ?_
      rintro e w2 ⟨rfl, rfl⟩
      go_wp2_with fail
      refine (HOF.out _ _ _ hG2 hX2).mono ?_
      intro e w3 hp
      obtain ⟨pa, ca, rfl, hna, hb⟩ := OfPost.ns hp (Nat.le_trans (ofP_len _ _) (by have := HMS.out; omega))
      have hB := bl_trans hB hb
      have hG2 := hG2.below hb
      have hX2 := hX2.below hb
      clear hp hb
      go_wp2_with fail
      refine (HOF.out _ _ _ hG2 hX2).mono ?_
      intro e w4 hp
      rw [HCYC.out] at hp
      obtain ⟨pb, cb, rfl, hnb, hb⟩ := OfPost.ns hp (by rw [List.length_map]; exact Nat.le_trans (ofP_len _ _) (by have := HMS.out; omega))
      have hB := bl_trans hB hb
      have hG2 := hG2.below hb
      have hna := hna.below hb
      rw [List.length_map]
      have hlx : (ofP (2 + a) (allR l)).length ≤ 6 := Nat.le_trans (ofP_len _ _) hal6
      have hbd : ∀ p, p ∈ ofP (2 + a) (allR l) → 0 ≤ p.1 ∧ p.1 ≤ 3652058 := fun p hp => by have := ofP_bd hp; exact ⟨this.1, this.2.1⟩
      have HNA := Lib.hid hna; have HNB := Lib.hid hnb; have HBD := Lib.hid hbd
      clear hp hb hX2 hna hnb hbd
      generalize ofP (2 + a) (allR l) = X at *
      have hne : ((X.length : Int) != X.length) = false := by simp
      go_wp2
      go_loopw [11] (fun i wr2 => ∃ k : Nat, k ≤ X.length ∧ i = .int .i64 k ∧ Below w4.heap.size w4 wr2) (fun i _ => 200 - (intOf i).toNat)
      case atStart => exact ⟨0, Nat.zero_le _, rfl, bl_refl _⟩
      case round =>
        obtain ⟨k, hk, rfl, hbw⟩ := hrel
        by_cases hlt : k < X.length
        · obtain ⟨ba, oa, rfl, -, hla, hca⟩ := ns_some HNA.out (by omega)
          rw [List.length_map] at HNB
          obtain ⟨bb, ob, rfl, -, hlb, hcb⟩ := ns_some HNB.out (by rw [List.length_map]; omega)
          obtain ⟨x, hx⟩ : ∃ x, X[k]? = some x := ⟨_, List.getElem?_eq_getElem hlt⟩
          obtain ⟨c0, c1⟩ := IsNs.at (fun j x hx i u hu => (hbw.cell (p := ⟨ba, oa + j * 2 + i, none⟩) hla).trans (hca j x hx i u hu)) hx
          obtain ⟨d0, d1⟩ := IsNs.at (fun j x hx i u hu => (hbw.cell (p := ⟨bb, ob + j * 2 + i, none⟩) hlb).trans (hcb j x hx i u hu)) (show (X.map (fun p => (p.1 + 146097, p.2)))[k]? = some (x.1 + 146097, x.2) by rw [List.getElem?_map, hx]; rfl)
          obtain ⟨x1, x2⟩ := HBD.out x (List.mem_of_getElem? hx)
          have s1 : IntKind.i64.wrap (x.1 + 146097) = x.1 + 146097 := IntWalk.i64_in _ (by omega)
          have q1 : ((x.1 + 146097) != (x.1 + 146097)) = false := by simp
          have q2 : (x.2 != x.2) = false := by simp
          simp only at d0 d1
          clear hx hca hcb hne
          have hx1 : X.length ≤ 9223372036854775807 := by omega
          go_upto_region 16 with (fail)
          go_big_quiet (fail)
          go_wp2
          go_roundw
          case rel => exact ⟨k + 1, by omega, by go_num, bl_drewN hbw _⟩
          case measure => simp [intOf]; omega
        · obtain rfl : k = X.length := by omega
          have hG3 := hG2.below hbw
          go_wp2_with fail
          refine (hlives_any _ hG3).mono ?_
          rintro e w5 ⟨rfl, hb5⟩
          go_wp2
          go_ret
          exact ⟨rfl, bl_trans hB (bl_trans hbw hb5)⟩
end Go.Proofs.YtnemgohcjjhfmaaDoor
