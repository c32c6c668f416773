/- The walk of Floor. Conditions: the tree lies in memory, its pairs are in order. -/
import Derived.Test.YtmkhnpkbaegchaaTFind
namespace Go.Proofs.Ytmkhnpkbaegchaa
open Go.RowKit

abbrev oK (o : Option KV) : ByteArray := match o with | some q => q.k | none => ⟨#[]⟩
abbrev oV (o : Option KV) : ByteArray := match o with | some q => q.v | none => ⟨#[]⟩
def FlrPost (o : Option KV) (w : World) (e : Ending) (w' : World) : Prop := Ret (.tuple #[.agg #[.string (oK o), .string (oV o)], .bool o.isSome]) w e w'
set_option maxRecDepth 100000 in
set_option maxHeartbeats 8000000 in
theorem floor_any (T : Tre) (k : ByteArray) (w : World) (h : IsT w T) (hlen : T.l.length ≤ 100000) : Calls Try.prog 34 #[ptrN T.p, .string k] w (FlrPost (flrL T.l k) w) := by
  have bR0 : Blk ((w.alloc (.cells #[.string ⟨#[]⟩, .string ⟨#[]⟩] 63)).alloc (.cells #[.string ⟨#[]⟩, .string ⟨#[]⟩] 63)) w.heap.size 63 #[.string ⟨#[]⟩, .string ⟨#[]⟩] := (Blk.new _ _ _).alloc _
  have bO0 : Blk ((w.alloc (.cells #[.string ⟨#[]⟩, .string ⟨#[]⟩] 63)).alloc (.cells #[.string ⟨#[]⟩, .string ⟨#[]⟩] 63)) (w.heap.size + 1) 63 #[.string ⟨#[]⟩, .string ⟨#[]⟩] := Blk.at (by simp) _ _
  have hB0 := bl_trans (bl_alloc w (.cells #[.string ⟨#[]⟩, .string ⟨#[]⟩] 63)) (bl_alloc _ (.cells #[.string ⟨#[]⟩, .string ⟨#[]⟩] 63))
  obtain ⟨W0, hW0⟩ : ∃ W0, W0 = (w.alloc (.cells #[.string ⟨#[]⟩, .string ⟨#[]⟩] 63)).alloc (.cells #[.string ⟨#[]⟩, .string ⟨#[]⟩] 63) := ⟨_, rfl⟩
  rw [← hW0] at bR0 bO0 hB0
  obtain ⟨R, hR⟩ : ∃ R, R = w.heap.size := ⟨_, rfl⟩
  obtain ⟨O, hO⟩ : ∃ O, O = R + 1 := ⟨_, rfl⟩
  rw [← hR] at bR0 bO0
  rw [← hO] at bO0
  have HW0 := Lib.hid hW0; have HR := Lib.hid hR; have HO := Lib.hid hO
  have hwR : w.heap.size ≤ R := by omega
  have hwO : w.heap.size ≤ O := by omega
  have hRO : R ≠ O := by omega
  have hOR : O ≠ R := by omega
  clear hW0 hR hO
  obtain ⟨hs, ⟨h1, _, _, h4⟩ | ⟨h', x, h1, h2, h3, _⟩⟩ := h
  · have c0 := (h4.below hB0 h4.lt).cell 0
    simp at c0
    have e1 : flrL T.l k = none := by rw [h1]; rfl
    rw [e1]
    have BR := Lib.hid bR0
    have r0 := bR0.cell 0
    have r1 := bR0.cell 1
    have q0 := bO0.cell 0
    have q1 := bO0.cell 1
    have fr0 := bR0.frozen 0
    have fr1 := bR0.frozen 1
    simp at r0 r1 q0 q1
    have HB0 := Lib.hid hB0
    clear h1 h4 hs bR0 bO0 hB0
    go_enter Try.func34, Try.ntmps34
    go_upto_region 3 with (fail)
    rw [← HR.out, ← HO.out, ← HW0.out]
    go_wp2
    go_loopg [7, 8] 0 (fun kx s7 s8 wr => s7 = .bool false ∧ s8 = .pointer none ∧ wr = W0)
    case atStart => exact ⟨rfl, rfl, rfl⟩
    case round =>
      obtain ⟨rfl, rfl, rfl⟩ := hrel
      go_wp2_with fail
      have bF := (BR.out.set 0 (.string (oK (none : Option KV)))).set 1 (.string (oV (none : Option KV)))
      have g0 := bF.cell 0
      have g1 := bF.cell 1
      simp at g0 g1
      refine bodyPost_ret (v := .tuple #[.agg #[.string (oK (none : Option KV)), .string (oV (none : Option KV))], .bool ((none : Option KV)).isSome]) (by simp [results, Try.f34, go_sem, g0, g1]) rfl ?_
      exact ⟨rfl, ((HB0.out).setCell (p := ⟨R, 0, none⟩) hwR _).setCell (p := ⟨R, 1, none⟩) hwR _⟩
  · have c0 := (h1.below hB0 h1.lt).cell 0
    simp at c0
    rw [h3] at hs hlen
    rw [h3]
    obtain ⟨o, ho⟩ : ∃ o, o = flrL x.l k := ⟨_, rfl⟩
    rw [← ho]
    have S0 := Lib.hid (And.intro h2 (And.intro hs (And.intro hlen (show o = (flrL x.l k).or none by rw [ho]; cases flrL x.l k <;> rfl))))
    have hBW := hB0
    clear h1 h3 hs hlen h2 ho
    go_enter Try.func34, Try.ntmps34
    go_upto_region 3 with (fail)
    rw [← HR.out, ← HO.out, ← HW0.out]
    go_wp2
    go_loopg [7, 8] h' (fun kx s7 s8 wr => ∃ (j : Nat) (y : Kid) (out : Option KV), s7 = .bool out.isSome ∧ s8 = ptrN y.p ∧ j ≤ kx ∧ Below w.heap.size w wr ∧ Blk wr R 63 #[.string ⟨#[]⟩, .string ⟨#[]⟩] ∧ Blk wr O 63 #[.string (oK out), .string (oV out)] ∧ Hid (IsN Any j w y ∧ Srt y.l ∧ y.l.length ≤ 100000 ∧ o = (flrL y.l k).or out))
    case atStart => exact ⟨h', x, none, rfl, rfl, Nat.le_refl _, hBW, bR0, bO0, S0⟩
    case round =>
      clear S0 bR0 bO0 hBW c0 hB0
      obtain ⟨j, y, out, rfl, rfl, hj, hB, bR, bO, S⟩ := hrel
      obtain ⟨ps, ks, hn⟩ := S.out.1.node
      have hsh := hn.shape
      have hsf : ks.map Kid.l = [] ∨ (ks.map Kid.l).length = ps.length + 1 := by rcases hsh with e | e; exact .inl (by simp [e]); exact .inr (by simp [e])
      have hsw : Srt (weave ps (ks.map Kid.l)) := hn.l ▸ S.out.2.1
      have hlp : ps.length ≤ 100000 := by have := hn.len; have := S.out.2.2.1; omega
      have hsr := fun W (hb : Below w.heap.size w W) => search_any y.p ps ks _ k W (hn.at_.below hb) (srt_own hsf hsw) (by omega)
      obtain ⟨pa, pc, ka, kc, d0, d1, hy0, hpp, hkk⟩ := hn.at_.cells
      have HSR := Lib.hid hsr; have HN := Lib.hid hn; have HSF := Lib.hid hsf; have HSW := Lib.hid hsw; have HPP := Lib.hid hpp; have HKK := Lib.hid hkk; have HSH := Lib.hid hsh
      clear hsr hn hsf hsw hpp hkk hsh
      have hyr := Nat.lt_of_lt_of_le hy0 hB.size
      have hyO : y.p ≠ O := by omega
      have hyR : y.p ≠ R := by omega
      go_wp2_with fail
      refine (HSR.out _ hB).mono ?_
      rintro e w1 ⟨i, ok, hok, rfl, hb1⟩
      have hB1 := bl_trans hB hb1
      have bR1 := bR.below hb1 bR.lt
      have bO1 := bO.below hb1 bO.lt
      have e0 := (hB1.cell (p := ⟨y.p, 0, none⟩) hy0).trans d0
      have e1 := (hB1.cell (p := ⟨y.p, 1, none⟩) hy0).trans d1
      have r0 := bR1.cell 0
      have r1 := bR1.cell 1
      have q0 := bO1.cell 0
      have q1 := bO1.cell 1
      have fr0 := bR1.frozen 0
      have fr1 := bR1.frozen 1
      have fq0 := bO1.frozen 0
      have fq1 := bO1.frozen 1
      simp only [List.getElem?_toArray, List.getElem?_cons_zero, List.getElem?_cons_succ] at r0 r1 q0 q1
      have BR := Lib.hid bR1; have BO := Lib.hid bO1
      have hil := hok.le
      clear d0 d1 hb1 bR bO bR1 bO1
      cases ok
      · have hlo := Lib.hid hok.lo
        have hno := Lib.hid (hok.no rfl)
        clear hok
        by_cases hi0 : i = 0
        · have hi00 : ¬ (0 < i) := by omega
          have HI0 := Lib.hid hi0
          clear hi0
          by_cases hk0 : ks.length = 0
          · have hkn : ks = [] := List.length_eq_zero_iff.1 hk0
            have hno2 : o = out := by
              rw [S.out.2.2.2, HN.out.l, hkn]
              simp only [List.map_nil, weave_nil]
              rw [(down_leaf hlo.out hno.out).2, show (ps.take i).getLast? = none by rw [HI0.out]; rfl]
              rfl
            have hno3 := Lib.hid hno2
            clear hno2
            go_wp2_with fail
            have bF := (BR.out.set 0 (.string (oK out))).set 1 (.string (oV out))
            have g0 := bF.cell 0
            have g1 := bF.cell 1
            simp at g0 g1
            refine bodyPost_ret (v := .tuple #[.agg #[.string (oK out), .string (oV out)], .bool (out).isSome]) (by simp [results, Try.f34, go_sem, g0, g1]) rfl ?_
            exact ⟨by rw [hno3.out], ((hB1).setCell (p := ⟨R, 0, none⟩) hwR _).setCell (p := ⟨R, 1, none⟩) hwR _⟩
          · skip
            have hkl : ks.length = ps.length + 1 := by rcases HSH.out with e | e; exact absurd (by rw [e]; rfl) hk0; exact e
            obtain ⟨j', rfl⟩ : ∃ j', j = j' + 1 := by
              cases j with
              | zero => exact absurd (by rw [HN.out.leaf rfl]; rfl) hk0
              | succ j' => exact ⟨j', rfl⟩
            obtain ⟨z, hz⟩ : ∃ z, ks[i]? = some z := ⟨_, List.getElem?_eq_getElem (by omega)⟩
            obtain ⟨g, og, rfl, hg, hc⟩ := HKK.out i z hz
            have f0 := (hB1.cell (p := ⟨g, og + i, none⟩) hg).trans hc
            have hgO : g ≠ O := by omega
            have hzm : z ∈ ks := List.mem_of_getElem? hz
            have hfl : (ks.map Kid.l)[i]? = some z.l := by rw [List.getElem?_map, hz]; rfl
            have hfl2 : (ks.map Kid.l).length = ps.length + 1 := by rw [List.length_map]; exact hkl
            have hd := (down_kid hfl2 hil hfl HSW.out hlo.out hno.out).2
            have hnew := Lib.hid (And.intro ((HN.out.kids j' rfl).2 z hzm).1 (And.intro (srt_child hfl2 hfl HSW.out) (And.intro (by have := kidsSum_mem hzm; have := HN.out.len; have := S.out.2.2.1; omega : z.l.length ≤ 100000) (by rw [S.out.2.2.2, HN.out.l, hd, show (ps.take i).getLast? = none by rw [HI0.out]; rfl]; cases flrL z.l k <;> rfl : o = (flrL z.l k).or (out)))))
            clear hd hfl hfl2 hzm hz hc
            go_wp2
            go_roundg j'
            case measure => omega
            case rel => exact ⟨j', z, out, rfl, rfl, Nat.le_refl _, hB1, BR.out, BO.out, hnew⟩
        · obtain ⟨q, hq⟩ : ∃ q, ps[i - 1]? = some q := ⟨_, List.getElem?_eq_getElem (by omega)⟩
          have htl : (ps.take i).getLast? = some q := by rw [take_last, if_neg hi0, if_pos hil, hq]
          have HTL := Lib.hid htl
          obtain ⟨gp, op, rfl, hgp, hc, hc2⟩ := HPP.out (i - 1) q hq
          have p0 := (hB1.cell (p := ⟨gp, op + (i - 1) * 2, none⟩) hgp).trans hc
          have p1 := (hB1.cell (p := ⟨gp, op + (i - 1) * 2 + 1, none⟩) hgp).trans hc2
          have hii : ((i : Int) - 1) = ((i - 1 : Nat) : Int) := by omega
          have hi1 : i - 1 < ps.length := by omega
          have hi2 : 0 < i := by omega
          have bO2 := (BO.out.set 0 (.string q.k)).set 1 (.string q.v)
          have bR2 := (BR.out.far (p := ⟨O, 0, none⟩) hRO (.string q.k)).far (p := ⟨O, 1, none⟩) hRO (.string q.v)
          have hB2 := (hB1.setCell (p := ⟨O, 0, none⟩) hwO (.string q.k)).setCell (p := ⟨O, 1, none⟩) hwO (.string q.v)
          simp only [List.setIfInBounds_toArray, List.set_cons_zero, List.set_cons_succ] at bO2
          have BO2 := Lib.hid bO2; have HB2 := Lib.hid hB2; have BR1 := BR; have BR := Lib.hid bR2
          clear htl hq hc hc2 bO2 hB2 bR2 BO
          by_cases hk0 : ks.length = 0
          · have hkn : ks = [] := List.length_eq_zero_iff.1 hk0
            have hno2 : o = (some q) := by
              rw [S.out.2.2.2, HN.out.l, hkn]
              simp only [List.map_nil, weave_nil]
              rw [(down_leaf hlo.out hno.out).2, HTL.out]
              rfl
            have hno3 := Lib.hid hno2
            clear hno2
            go_wp2_with fail
            have bF := (BR.out.set 0 (.string (oK (some q)))).set 1 (.string (oV (some q)))
            have g0 := bF.cell 0
            have g1 := bF.cell 1
            simp at g0 g1
            refine bodyPost_ret (v := .tuple #[.agg #[.string (oK (some q)), .string (oV (some q))], .bool ((some q)).isSome]) (by simp [results, Try.f34, go_sem, g0, g1]) rfl ?_
            exact ⟨by rw [hno3.out], ((HB2.out).setCell (p := ⟨R, 0, none⟩) hwR _).setCell (p := ⟨R, 1, none⟩) hwR _⟩
          · skip
            have hkl : ks.length = ps.length + 1 := by rcases HSH.out with e | e; exact absurd (by rw [e]; rfl) hk0; exact e
            obtain ⟨j', rfl⟩ : ∃ j', j = j' + 1 := by
              cases j with
              | zero => exact absurd (by rw [HN.out.leaf rfl]; rfl) hk0
              | succ j' => exact ⟨j', rfl⟩
            obtain ⟨z, hz⟩ : ∃ z, ks[i]? = some z := ⟨_, List.getElem?_eq_getElem (by omega)⟩
            obtain ⟨g, og, rfl, hg, hc⟩ := HKK.out i z hz
            have f0 := (hB1.cell (p := ⟨g, og + i, none⟩) hg).trans hc
            have hgO : g ≠ O := by omega
            have hzm : z ∈ ks := List.mem_of_getElem? hz
            have hfl : (ks.map Kid.l)[i]? = some z.l := by rw [List.getElem?_map, hz]; rfl
            have hfl2 : (ks.map Kid.l).length = ps.length + 1 := by rw [List.length_map]; exact hkl
            have hd := (down_kid hfl2 hil hfl HSW.out hlo.out hno.out).2
            have hnew := Lib.hid (And.intro ((HN.out.kids j' rfl).2 z hzm).1 (And.intro (srt_child hfl2 hfl HSW.out) (And.intro (by have := kidsSum_mem hzm; have := HN.out.len; have := S.out.2.2.1; omega : z.l.length ≤ 100000) (by rw [S.out.2.2.2, HN.out.l, hd, HTL.out]; cases flrL z.l k <;> rfl : o = (flrL z.l k).or ((some q))))))
            clear hd hfl hfl2 hzm hz hc
            go_wp2
            go_roundg j'
            case measure => omega
            case rel => exact ⟨j', z, (some q), rfl, rfl, Nat.le_refl _, HB2.out, BR.out, BO2.out, hnew⟩
      · obtain ⟨q, hq, hq1⟩ := hok.yes rfl
        have hi : i < ps.length := (List.getElem?_eq_some_iff.1 hq).1
        have hd := (down_yes HSW.out HSF.out hq hq1).2
        have hoo : o = some q := by rw [S.out.2.2.2, HN.out.l, hd]; rfl
        have HOO := Lib.hid hoo
        obtain ⟨g, og, rfl, hg, hc, hc2⟩ := HPP.out i q hq
        have f0 := (hB1.cell (p := ⟨g, og + i * 2, none⟩) hg).trans hc
        have f1 := (hB1.cell (p := ⟨g, og + i * 2 + 1, none⟩) hg).trans hc2
        clear hd hok hq hq1 hc hc2 hoo
        go_wp2_with fail
        have bF := (BR.out.set 0 (.string (oK (some q)))).set 1 (.string (oV (some q)))
        have g0 := bF.cell 0
        have g1 := bF.cell 1
        simp at g0 g1
        refine bodyPost_ret (v := .tuple #[.agg #[.string (oK (some q)), .string (oV (some q))], .bool ((some q)).isSome]) (by simp [results, Try.f34, go_sem, g0, g1]) rfl ?_
        exact ⟨by rw [HOO.out], ((hB1).setCell (p := ⟨R, 0, none⟩) hwR _).setCell (p := ⟨R, 1, none⟩) hwR _⟩
end Go.Proofs.Ytmkhnpkbaegchaa
