/- The walk of the law HolidayLists: it returns true at every input. Conditions: the numbers are ints that lie in memory, the listed tables lie in memory. -/
import Derived.Test.YtnemgohcjjhfmaaDoorHLives
import Derived.Test.YtnemgohcjjhfmaaDoorHMk
import Derived.Test.YtnemgohcjjhfmaaDoorHLoc
import Derived.Test.YtnemgohcjjhfmaaDoorKApp
namespace Go.Proofs.YtnemgohcjjhfmaaDoor
open Go.RowKit

theorem src_of_row {w : World} {B e k n : Nat} {v : Value} {xs : List Value} (h : w.ownsRow B e k v n xs) : SrcIs w v k n xs := by
  rcases h.2 with ⟨h1, h2⟩ | ⟨g, cap', cur, h1, hg, hh, hn, hcap, hsz, htake⟩
  · subst h2
    have : xs = [] := List.length_eq_zero_iff.1 (by simpa using h.1)
    exact .inl ⟨h1, rfl, this⟩
  · subst h1
    exact .inr ⟨_, _, rfl, h.1, fun j u hu => h.cells (g := g) rfl j u hu⟩
theorem empty_row (w : World) (e k cap : Nat) (hc : cap = 0) : (w.alloc (.cells #[] e)).ownsRow w.heap.size e k (.slice (some ⟨w.heap.size, 0, none⟩) 0 cap) 0 [] := by
  subst hc
  exact ⟨by simp, .inr ⟨w.heap.size, 0, #[], rfl, Nat.le_refl _, heap_alloc_new w _, Nat.le_refl _, by unfold maxLen; omega, by simp, by simp⟩⟩
theorem row_under {w : World} {B e k n g : Nat} {v : Value} {xs : List Value} (h : w.ownsRow B e k v n xs) (hg : w.heap.size ≤ g) : v.ownBlock ≠ some g := fun q => by have := (h.lt g q).2; omega
set_option maxRecDepth 100000 in
set_option maxHeartbeats 8000000 in
theorem law_hlists (va : Value) (za : List Int) (vb : Value) (zb : List Int) (yr at' : Int) (w : World) (hIa : IsInts w va za) (hza : InR za) (hIb : IsInts w vb zb) (hzb : InR zb) (hG : GoodH w)
    (h1 : -9223372036854775808 ≤ yr) (h2 : yr ≤ 9223372036854775807) (h3 : -9223372036854775808 ≤ at') (h4 : at' ≤ 9223372036854775807) :
    Calls Tryd.prog 8 #[va, vb, .int .i64 yr, .int .i64 at'] w (Ret (.bool true) w) := by
  have hmka := mk_any va za w hIa hza
  have hmkb := fun w h => mk_any vb zb w h hzb
  have hx6 := mkHols_len za
  have hy6 := mkHols_len zb
  have hxv := mkHols_valid za
  have hyv := mkHols_valid zb
  generalize mkHols za = x at *
  generalize mkHols zb = y at *
  have hbv : ∀ h, h ∈ x ++ y → hvB h = true := fun h hh => by rcases List.mem_append.1 hh with q | q; exact hxv h q; exact hyv h q
  have hA := fun w => around01 yr 40 w h1 h2 (by omega) (by omega)
  obtain ⟨a1, a2⟩ := around_bd yr (m := 40) (by omega)
  generalize around yr 40 = a at *
  have hofb := fun v y' w hG h => hof_any v (x ++ y) y' w hG h (by rw [List.length_append]; omega) hbv
  have hofx := fun v y' w hG h => hof_any v x y' w hG h (by omega) hxv
  have hofy := fun v y' w hG h => hof_any v y y' w hG h (by omega) hyv
  have hisb := fun v d w hG h => is_any v d (x ++ y) w hG h (by rw [List.length_append]; omega) hbv
  have hisx := fun v d w hG h => is_any v d x w hG h (by omega) hxv
  have hisy := fun v d w hG h => is_any v d y w hG h (by omega) hyv
  have hap := fun d => isB_append hxv hyv d
  have hko := fun d => isB_iff hbv (d := d)
  have hlxy : (x ++ y).length = 0 + x.length + y.length := by rw [List.length_append]; omega
  have hfxy : flatE encH (x ++ y) = [] ++ flatE encH x ++ flatE encH y := by rw [flatE_append]; rfl
  have hlA := fun n => ofP_lenA n x y
  generalize x ++ y = xy at *
  have HLXY := Lib.hid hlxy; have HFXY := Lib.hid hfxy; have HLA0 := Lib.hid hlA
  clear hlxy hfxy hlA
  obtain ⟨i0, hi, hz0, hz1, hz2⟩ := info_parts infoHol
  have hms : maxLen = 9223372036854775807 := rfl
  have HMS := Lib.hid hms
  have HMA := Lib.hid hmka; have HMB := Lib.hid hmkb; have HA := Lib.hid hA; have HOB := Lib.hid hofb; have HOX := Lib.hid hofx; have HOY := Lib.hid hofy; have HIB := Lib.hid hisb; have HIX := Lib.hid hisx; have HIY := Lib.hid hisy; have HAP := Lib.hid hap; have HKO := Lib.hid hko; have HII := Lib.hid hIb
  clear hmka hmkb hA hofb hofx hofy hisb hisx hisy hap hko hms hIa hIb hza hzb hxv hyv hbv
  go_enter Tryd.func8, Tryd.ntmps8
  go_wp2_with fail
  refine HMA.out.mono ?_
  rintro e w1 ⟨ux, rfl, hrx, hb1⟩
  go_wp2_with fail
  refine (HMB.out _ (HII.out.below hb1)).mono ?_
  rintro e w2 ⟨uy, rfl, hry, hb2⟩
  have hrx := row_below hrx hb2
  have hB := bl_trans hb1 hb2
  have hG2 := hG.below hB
  clear hb1 hb2
  have he := empty_row w2 27 9 0 rfl
  have hB3 := bl_alloc w2 (.cells #[] 27)
  have hrx3 := row_below hrx hB3
  have hry3 := row_below hry hB3
  go_upto_region 4 with (first | (at_builtin; refine wpList_append_any_at (by rfl) (.tmp 20) (.tmp 21) 22 (by rfl) w2.heap.size 27 i0 _ 9 72 Tryd.underlying22 hi hz0 hz1 hz2 rfl (by omega) _ 0 [] (by rfl) he ux x.length (flatE encH x) (by rfl) (src_of_row hrx3) (one_flat encH_one _) (by have := HMS.out; omega) (by omega) (by simp) ?_; intro v1 w4 hown1 hgrow1 hat1; have hry4 := hry3.kept hgrow1 (.inr (row_under hry (Nat.le_refl _)))) | (at_builtin; refine wpList_append_any_at (by rfl) (.tmp 22) (.tmp 23) 22 (by rfl) w2.heap.size 27 i0 _ 9 72 Tryd.underlying22 hi hz0 hz1 hz2 rfl (by omega) v1 _ _ (by rfl) hown1 uy y.length (flatE encH y) (by rfl) (src_of_row hry4) (one_flat encH_one _) (by have := HMS.out; omega) (by omega) (by have := hgrow1.size; simp at this; omega) ?_; intro v2 w5 hown2 hgrow2 hat2))
  have hB4 : Below w2.heap.size w2 w4 := hB3.grown hgrow1 (by simp) (fun r e => by simp [Value.ownBlock] at e; omega)
  have hB5 : Below w2.heap.size w2 w5 := hB4.grown hgrow2 hB4.size (fun r e => (hown1.lt r e).1)
  have hrx5 := row_below hrx hB5
  have hry5 := row_below hry hB5
  have hboth : IsHols w5 v2 xy := IsRow.of_row encH_len (by rw [HLXY.out, HFXY.out]; exact hown2) (by rw [HLXY.out]; have := HMS.out; omega)
  have hX : IsHols w5 ux x := IsRow.of_row encH_len hrx5 (by have := HMS.out; omega)
  have hY : IsHols w5 uy y := IsRow.of_row encH_len hry5 (by have := HMS.out; omega)
  have hBB := bl_trans hB hB5
  have hG5 := hG2.below hB5
  have HBO := Lib.hid hboth; have HXX := Lib.hid hX; have HYY := Lib.hid hY
  clear hrx hry hrx3 hry3 hry4 he hown1 hgrow1 hat1 hown2 hgrow2 hat2 hB4 hB5 hrx5 hry5 hboth hX hY hB hB3 hG2
  obtain ⟨pb, cb, rfl, _⟩ := HBO.out.slice
  obtain ⟨px, cx, rfl, _⟩ := HXX.out.slice
  obtain ⟨py, cy, rfl, _⟩ := HYY.out.slice
  have hkb := fun p hp => keptOn_of (l := xy) (y := 1990 + a) (p := p) hp
  have hbd := fun p hp => ofP_bd (l := xy) (y := 1990 + a) (p := p) hp
  have hlx := Nat.le_trans (ofP_len (1990 + a) x) hx6
  have hly := Nat.le_trans (ofP_len (1990 + a) y) hy6
  have HKB := Lib.hid hkb; have HBD := Lib.hid hbd
  have HLX : Hid ((ofP (1990 + a) x).length ≤ maxLen ∧ (ofP (1990 + a) y).length ≤ maxLen ∧ (ofP (1990 + a) xy).length ≤ maxLen) := by have := HMS.out; have h9 := HLA0.out (1990 + a); exact ⟨by omega, by omega, by omega⟩
  clear hkb hbd
  go_wp2_with fail
  refine (HA.out _).mono ?_
  rintro e w6 ⟨rfl, rfl⟩
  go_wp2_with fail
  refine (HOB.out _ _ _ hG5 HBO.out).mono ?_
  intro e w6 hp
  obtain ⟨pa, ca, rfl, hns, hb⟩ := OfPost.ns hp HLX.out.2.2
  have hBB := bl_trans hBB hb
  have hG5 := hG5.below hb
  have HBO := Lib.hid (HBO.out.below hb)
  have HXX := Lib.hid (HXX.out.below hb)
  have HYY := Lib.hid (HYY.out.below hb)
  clear hp hb
  go_wp2_with fail
  refine (HOX.out _ _ _ hG5 HXX.out).mono ?_
  intro e w7 hp
  obtain ⟨pa2, ca2, rfl, _, hb⟩ := OfPost.ns hp HLX.out.1
  have hBB := bl_trans hBB hb
  have hG5 := hG5.below hb
  have HBO := Lib.hid (HBO.out.below hb)
  have HXX := Lib.hid (HXX.out.below hb)
  have HYY := Lib.hid (HYY.out.below hb)
  have hns := hns.below hb
  clear hp hb
  go_wp2_with fail
  refine (HOY.out _ _ _ hG5 HYY.out).mono ?_
  intro e w8 hp
  obtain ⟨pa3, ca3, rfl, _, hb⟩ := OfPost.ns hp HLX.out.2.1
  have hBB := bl_trans hBB hb
  have hG5 := hG5.below hb
  have HBO := Lib.hid (HBO.out.below hb)
  have HXX := Lib.hid (HXX.out.below hb)
  have HYY := Lib.hid (HYY.out.below hb)
  have hns := hns.below hb
  clear hp hb
  have hlA := HLA0.out (1990 + a)
  clear HLA0
  generalize ofP (1990 + a) xy = ns at *
  generalize (ofP (1990 + a) x).length = Lx at *
  generalize (ofP (1990 + a) y).length = Ly at *
  have HLA := Lib.hid hlA
  have hne : ((ns.length : Int) != (Lx : Int) + Ly) = false := by rw [bne_eq_false_iff_eq]; omega
  have hns6 : ns.length ≤ 12 := by omega
  clear hlA
  by_cases h0 : ns.length = 0
  · have hq0 : ((ns.length : Int) == 0) = true := by rw [beq_iff_eq]; omega
    clear h0
    go_wp2_with fail
    refine (hlives_any _ hG5).mono ?_
    rintro e w9 ⟨rfl, hb⟩
    go_wp2
    go_ret
    exact ⟨rfl, bl_trans hBB hb⟩
  · have hq0 : ((ns.length : Int) == 0) = false := by rw [beq_eq_false_iff_ne]; omega
    have hAr := fun w => around01 at' ns.length w h3 h4 (by omega) (by omega)
    obtain ⟨r1, r2⟩ := around_bd at' (m := ns.length) (by omega)
    generalize around at' ns.length = r at *
    obtain ⟨r, rfl⟩ := Int.eq_ofNat_of_zero_le r1
    have hrl : r < ns.length := by omega
    obtain ⟨q, hq⟩ : ∃ q, ns[r]? = some q := ⟨_, List.getElem?_eq_getElem hrl⟩
    obtain ⟨bn, on, rfl, -, hln, hcn⟩ := ns_get hns (by omega)
    obtain ⟨c0, c1⟩ := IsNs.at hcn hq
    obtain ⟨q1, q2, _, _⟩ := HBD.out q (List.mem_of_getElem? hq)
    have hkq : isB xy q.1 = true := (HKO.out q.1).2 (HKB.out q (List.mem_of_getElem? hq))
    have HAR := Lib.hid hAr; have HKQ := Lib.hid hkq
    clear hAr hkq hcn hns hq h0
    go_wp2_with fail
    refine (HAR.out _).mono ?_
    rintro e w9 ⟨rfl, rfl⟩
    go_wp2
    generalize q.1 = D at *
    go_loopw [15] (fun v wr => ∃ d : Int, v = .int .i64 d ∧ D - 3 ≤ d ∧ d ≤ D + 4 ∧ Below w8.heap.size w8 wr) (fun v _ => (D + 10 - intOf v).toNat)
    case atStart => exact ⟨_, rfl, by omega, by omega, bl_refl _⟩
    case round =>
      obtain ⟨d, rfl, d1, d2, hbw⟩ := hrel
      have hGw := hG5.below hbw
      by_cases hlt : d ≤ D + 3
      · have hIB := HIB.out (.slice pb xy.length cb) d
        have hIX := HIX.out (.slice px x.length cx) d
        have hIY := HIY.out (.slice py y.length cy) d
        rw [HAP.out d] at hIB
        cases eX : isB x d
        · cases eY : isB y d
          · rw [eX, eY] at hIB
            rw [eX] at hIX
            rw [eY] at hIY
            have HIB1 := Lib.hid hIB; have HIX1 := Lib.hid hIX; have HIY1 := Lib.hid hIY
            clear hIB hIX hIY eX eY
            go_wp2_with fail
            refine (HIB1.out _ hGw (HBO.out.below hbw)).mono ?_
            rintro e w10 ⟨rfl, hb⟩
            have hbw := bl_trans hbw hb
            go_wp2_with fail
            refine (HIX1.out _ (hG5.below hbw) (HXX.out.below hbw)).mono ?_
            rintro e w11 ⟨rfl, hb⟩
            have hbw := bl_trans hbw hb
            go_wp2_with fail
            refine (HIY1.out _ (hG5.below hbw) (HYY.out.below hbw)).mono ?_
            rintro e w12 ⟨rfl, hb⟩
            have hbw := bl_trans hbw hb
            go_wp2
            go_roundw
            case rel => exact ⟨d + 1, rfl, by omega, by omega, hbw⟩
            case measure => simp [intOf]; omega
          · rw [eX, eY] at hIB
            rw [eX] at hIX
            rw [eY] at hIY
            have HIB1 := Lib.hid hIB; have HIX1 := Lib.hid hIX; have HIY1 := Lib.hid hIY
            clear hIB hIX hIY eX eY
            go_wp2_with fail
            refine (HIB1.out _ hGw (HBO.out.below hbw)).mono ?_
            rintro e w10 ⟨rfl, hb⟩
            have hbw := bl_trans hbw hb
            go_wp2_with fail
            refine (HIX1.out _ (hG5.below hbw) (HXX.out.below hbw)).mono ?_
            rintro e w11 ⟨rfl, hb⟩
            have hbw := bl_trans hbw hb
            go_wp2_with fail
            refine (HIY1.out _ (hG5.below hbw) (HYY.out.below hbw)).mono ?_
            rintro e w12 ⟨rfl, hb⟩
            have hbw := bl_trans hbw hb
            go_wp2
            go_roundw
            case rel => exact ⟨d + 1, rfl, by omega, by omega, hbw⟩
            case measure => simp [intOf]; omega
        · rw [eX, Bool.true_or] at hIB
          rw [eX] at hIX
          have HIB1 := Lib.hid hIB; have HIX1 := Lib.hid hIX
          clear hIB hIX hIY eX
          go_wp2_with fail
          refine (HIB1.out _ hGw (HBO.out.below hbw)).mono ?_
          rintro e w10 ⟨rfl, hb⟩
          have hbw := bl_trans hbw hb
          go_wp2_with fail
          refine (HIX1.out _ (hG5.below hbw) (HXX.out.below hbw)).mono ?_
          rintro e w11 ⟨rfl, hb⟩
          have hbw := bl_trans hbw hb
          go_wp2
          go_roundw
          case rel => exact ⟨d + 1, rfl, by omega, by omega, hbw⟩
          case measure => simp [intOf]; omega
      · have hIB := HIB.out (.slice pb xy.length cb) D
        rw [HKQ.out] at hIB
        have HIB1 := Lib.hid hIB
        clear hIB
        go_wp2_with fail
        refine (HIB1.out _ hGw (HBO.out.below hbw)).mono ?_
        rintro e w10 ⟨rfl, hb⟩
        have hbw := bl_trans hbw hb
        go_wp2_with fail
        refine (hlives_any _ (hG5.below hbw)).mono ?_
        rintro e w11 ⟨rfl, hb⟩
        go_wp2
        go_ret
        exact ⟨rfl, bl_trans hBB (bl_trans hbw hb)⟩
end Go.Proofs.YtnemgohcjjhfmaaDoor
