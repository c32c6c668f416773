/- The walk of filled, where the left neighbour lends. Conditions: the two slices are rows of the caller's own, the children lie in memory. -/
import Derived.Test.YtmkhnpkbaegchaaTFilA
import Derived.Deep.RegionHeld3
import Derived.BigQuiet
import Derived.Deep.AppendLies
namespace Go.Proofs.Ytmkhnpkbaegchaa
open Go.RowKit

set_option maxRecDepth 100000 in
set_option maxHeartbeats 16000000 in
theorem fil_left {F : Nat → Prop} (h B g1 c1 n1 g2 c2 n2 j : Nat) (ps : List KV) (ks : List Kid) (w : World) (hin : FIn F h B g1 c1 n1 g2 c2 n2 (j + 1) ps ks w) (x a : Kid) (m : KV) (hx : ks[j + 1]? = some x) (ha : ks[j]? = some a) (hm : ps[j]? = some m) (hx3 : x.n < 3) (ha3 : 3 < a.n) (h0 : 0 < h) :
    Calls Try.prog 66 #[.slice (some ⟨g1, 0, none⟩) n1 c1, .slice (some ⟨g2, 0, none⟩) n2 c2, .int .i64 ((j : Int) + 1)] w (FilPost F h ps ks g1 g2 w) := by
  obtain ⟨pa, ka, hna⟩ := (hin.kid j a ha).1.node
  obtain ⟨pb, kb, hnb⟩ := (hin.kid (j + 1) x hx).1.node
  have k0 := hin.st.k0 hx
  have k1 := hin.st.k0 ha
  obtain ⟨xa, xc, _, _, x0, _, hxl, _, _⟩ := hnb.at_.cells
  obtain ⟨aa, ac, _, _, a0, _, hal, _, _⟩ := hna.at_.cells
  have hxn : pb.length < 3 := by rw [← hnb.n]; exact hx3
  have hxn2 : 2 ≤ pb.length := by rw [← hnb.n]; exact (hin.kid _ _ hx).2.1
  have han : 3 < pa.length := by rw [← hna.n]; exact ha3
  have han8 : pa.length ≤ 8 := by rw [← hna.n]; exact (hin.kid _ _ ha).2.2.1
  have hpa : Parts (offG F g1 g2) h w pa ka := hna.parts
  have hpb : Parts (offG F g1 g2) h w pb kb := hnb.parts
  have hkl9 : ka.length ≤ 9 := by rcases hpa.shape with e | e; simp [e]; omega
  have hkl9b : kb.length ≤ 9 := by rcases hpb.shape with e | e; simp [e]; omega
  have hlf := hpa.leafs hpb
  obtain ⟨h', rfl⟩ : ∃ h', h = h' + 1 := ⟨h - 1, by omega⟩
  have hkal := (hpa.h1 h' rfl).1
  have hkbl := (hpb.h1 h' rfl).1
  obtain ⟨nl, hnl⟩ : ∃ nl, pa.length = nl + 1 := ⟨pa.length - 1, by omega⟩
  obtain ⟨q, hq⟩ : ∃ q, pa[pa.length - 1]? = some q := ⟨_, List.getElem?_eq_getElem (by omega)⟩
  obtain ⟨l1, l2, l3⟩ := hpa.lendL (m := m) hpb hq
  have hca : ∀ W, Kep g1 g2 w W → Calls Try.prog 63 #[ptrN a.p] W (CopPost pa ka W) := fun W hk => copies_any a.p pa ka _ W (hk.node hna.at_) (by omega) (by omega)
  have hcx : ∀ W, Kep g1 g2 w W → Calls Try.prog 63 #[ptrN x.p] W (CopPost pb kb W) := fun W hk => copies_any x.p pb kb _ W (hk.node hnb.at_) (by omega) (by omega)
  have hIN := Lib.hid hin; have hNA := Lib.hid hna; have hNB := Lib.hid hnb; have HCA := Lib.hid hca; have HCX := Lib.hid hcx; have HL := Lib.hid (And.intro l1 (And.intro l2 l3)); have HQ := Lib.hid hq; have HM := Lib.hid hm; have HA := Lib.hid ha; have HX := Lib.hid hx; have HPA := Lib.hid hpa; have HPB := Lib.hid hpb
  have hl := hin.len
  have hii := hin.hi
  have hn8 := hin.n8
  subst hl
  have hd3 : decide (3 < pa.length) = true := decide_eq_true han
  clear hin hna hnb hca hcx l1 l2 l3 hq hm ha hx hpa hpb hx3 ha3
  go_enter Try.func66, Try.ntmps66
  go_upto_region 9 with (fail)
  go_big_quiet (fail)
  clear hd3 k0 k1 x0 a0
  go_wp2_with fail
  refine (HCA.out _ (Kep.of (bl_drewN (bl_refl w) _))).mono ?_
  rintro e W2 ⟨v1, v2, rfl, ho1, ho2, hb2⟩
  have hB2 : Below w.heap.size w W2 := bl_trans (bl_drewN (bl_refl w) _) hb2
  have ho1' : W2.ownsRow w.heap.size 63 2 v1 pa.length (flatE encKV pa) := ho1
  have ho2' : W2.ownsRow w.heap.size 85 1 v2 ka.length (flatE encK ka) := ho2
  clear ho1 ho2 hb2
  obtain ⟨gl, cl, rfl, hgl1, hgl2⟩ := ho1'.form (by omega)
  obtain ⟨gk, ck, rfl, hgk1, hgk2⟩ := ho2'.form (by omega)
  go_wp2_with fail
  refine (HCX.out _ (Kep.of hB2)).mono ?_
  rintro e W3 ⟨v3, v4, rfl, ho3, ho4, hb3⟩
  obtain ⟨gr, cr, rfl, hgr1, hgr2⟩ := ho3.form (by omega)
  obtain ⟨rk, rkc, rfl⟩ := row_slice ho4
  have hB3 := bl_trans hB2 hb3
  have st3 := hIN.out.st.below hB3
  have p0 := st3.p0 HM.out
  have p1 := st3.p1 HM.out
  have hins : Calls Try.prog 67 #[.slice (some ⟨gr, 0, none⟩) pb.length cr, .int .i64 0, .slice (some ⟨W3.heap.size, 0, none⟩) 1 1] (W3.alloc (.cells #[.string m.k, .string m.v] 63)) (InsPost 63 2 encKV W2.heap.size pb m 0 (.slice (some ⟨gr, 0, none⟩) pb.length cr) (W3.alloc (.cells #[.string m.k, .string m.v] 63))) := insP_any pb m W2.heap.size W3.heap.size 0 _ _ (ho3.alloc _) (Blk.new _ _ _) (fun e => by have : gr = W3.heap.size := Option.some.inj e; omega) (by have := hb3.size; simp; omega) (Nat.zero_le _) (by omega)
  have HINS := Lib.hid hins; have HO1 := Lib.hid ho1'; have HO2 := Lib.hid ho2'; have HO3 := Lib.hid ho3; have HO4 := Lib.hid ho4; have HB2 := Lib.hid hB2; have HB3 := Lib.hid hb3
  clear hins ho1' ho2' ho3 ho4 hB2 hb3 st3 hB3
  go_wp2_with fail
  refine HINS.out.mono ?_
  rintro e W4 ⟨v5, rfl, ho5, hg5, _⟩
  have hb4 : Below W2.heap.size W2 W4 := (HB3.out.alloc HB3.out.size (.cells #[.string m.k, .string m.v] 63)).grown hg5 (by have := HB3.out.size; simp; omega) (fun k e => by have : gr = k := Option.some.inj e; omega)
  have ho1 := row_below HO1.out hb4
  have ho2 := row_below HO2.out hb4
  have ho4 := (HO4.out.alloc (.cells #[.string m.k, .string m.v] 63)).kept hg5 (by
    rcases hvo : (Value.slice rk kb.length rkc).ownBlock with _ | r
    · exact .inl rfl
    · exact .inr (fun e => rows_apart HO3.out HO4.out gr rfl (hvo.trans e)))
  have hB4 : Below w.heap.size w W4 := bl_trans HB2.out hb4
  have st4 := hIN.out.st.below hB4
  rw [List.take_zero, List.drop_zero, List.nil_append] at ho5
  clear p0 p1 hg5 hgr2 HINS HO1 HO2 HO3 HO4 HB3
  have hw24 := hb4.size
  rw [hnl] at ho1
  rw [hkal, hnl] at ho2
  rw [hkbl] at ho4
  have hqq := HQ.out
  rw [show pa.length - 1 = nl by omega] at hqq
  obtain ⟨q0, q1⟩ := row_p0 ho1 hqq
  have y0 := st4.p0 HM.out
  have y1 := st4.p1 HM.out
  have f0 := st4.f1 (j * 2)
  have f1 := st4.f1 (j * 2 + 1)
  obtain ⟨hcl1, hcl2⟩ := row_cap ho1
  have HO1 := Lib.hid ho1; have HO2 := Lib.hid ho2; have HO4 := Lib.hid ho4; have HO5 := Lib.hid ho5; have ST4 := Lib.hid st4; have HB4 := Lib.hid hB4
  clear ho1 ho2 ho4 ho5 st4 hB4 hqq hb4
  go_upto_region 15 with (fail)
  have hg45 := ST4.out.grP j q
  have st5 := ST4.out.setP j q
  have hs45 : W4.heap.size = ((W4.setCell ⟨g1, j * 2, none⟩ (.string q.k)).setCell ⟨g1, j * 2 + 1, none⟩ (.string q.v)).heap.size := by simp
  obtain ⟨W5, hW5⟩ : ∃ W5, W5 = (W4.setCell ⟨g1, j * 2, none⟩ (.string q.k)).setCell ⟨g1, j * 2 + 1, none⟩ (.string q.v) := ⟨_, rfl⟩
  rw [← hW5] at hg45 st5 hs45 ⊢
  have hg1w := hIN.out.st.lt1.2
  have hg2w := hIN.out.st.lt2.2
  have hw2 : w.heap.size ≤ W2.heap.size := HB2.out.size
  have hb45 : W2.heap.size ≤ W5.heap.size := by omega
  have ho1 := HO1.out.kept hg45 (.inr (row_far HO1.out hg1w).symm)
  have ho2 := HO2.out.kept hg45 (.inr (row_far HO2.out hg1w).symm)
  have ho4 := HO4.out.kept hg45 (.inr (row_far (row_base HO4.out hw2) hg1w).symm)
  have ho5 := HO5.out.kept hg45 (.inr (row_far (row_base HO5.out hw2) hg1w).symm)
  clear hg45 hW5 hs45 HO1 HO2 HO4 HO5 ST4 HB4 q0 q1 y0 y1 f0 f1
  have hz0 : ka.length = nl + 2 := by omega
  obtain ⟨z, hz⟩ : ∃ z, ka[nl + 1]? = some z := ⟨_, List.getElem?_eq_getElem (by omega)⟩
  have z0 := row_k0 ho2 hz
  have hzd : ka.drop (nl + 1) = [z] := by
    obtain ⟨h3, e3⟩ := List.getElem?_eq_some_iff.1 hz
    rw [List.drop_eq_getElem_cons h3, e3, List.drop_eq_nil_of_le (by omega)]
  have ho4k : W5.ownsRow W2.heap.size 85 1 (.slice rk kb.length rkc) kb.length (flatE encK kb) := by rw [hkbl]; exact ho4
  have hins2 : Calls Try.prog 68 #[.slice rk kb.length rkc, .int .i64 0, .slice (some ⟨W5.heap.size, 0, none⟩) 1 1] (W5.alloc (.cells #[ptrN z.p] 85)) (InsPost 85 1 encK W2.heap.size kb z 0 (.slice rk kb.length rkc) (W5.alloc (.cells #[ptrN z.p] 85))) := insK_any kb z W2.heap.size W5.heap.size 0 _ _ (ho4k.alloc _) (Blk.new _ _ _) (fun e => by have := (ho4k.lt _ e).2; omega) (by simp; omega) (Nat.zero_le _) (by omega)
  rw [hkbl] at hins2
  obtain ⟨hck1, hck2⟩ := row_cap ho2
  have HO1 := Lib.hid ho1; have HO2 := Lib.hid ho2; have HO4 := Lib.hid ho4k; have HO5 := Lib.hid ho5; have ST5 := Lib.hid st5; have HZ := Lib.hid hz; have HINS := Lib.hid hins2; have HZD := Lib.hid hzd
  clear ho1 ho2 ho4 ho4k ho5 st5 hz hins2 hz0 hzd
  go_wp2_with fail
  refine HINS.out.mono ?_
  rintro e W6 ⟨v6, rfl, ho6, hg6, _⟩
  have hb6 : Below W2.heap.size W5 W6 := ((Below.refl W2.heap.size W5).alloc hb45 (.cells #[ptrN z.p] 85)).grown hg6 (by simp; omega) (fun k e => (HO4.out.lt k (by rw [hkbl]; exact e)).1)
  have ho1 := row_low HO1.out hb6 (fun r e => by have : gl = r := Option.some.inj e; omega)
  have ho2 := row_low HO2.out hb6 (fun r e => by have : gk = r := Option.some.inj e; omega)
  have ho5 := (HO5.out.alloc (.cells #[ptrN z.p] 85)).kept hg6 (by
    rcases hvo : v5.ownBlock with _ | r
    · exact .inl rfl
    · exact .inr (fun e => rows_apart HO5.out HO4.out r hvo (by rw [hkbl]; exact e.symm)))
  have st6 := ST5.out.low (hb6.mono hw2) hg1w hg2w
  rw [List.take_zero, List.drop_zero, List.nil_append] at ho6
  have hR6 : IsRow 1 encK W6 v6 (ka.drop (nl + 1) ++ kb) := by
    rw [HZD.out]
    exact IsRow.of_row encK_len ho6 (by simp; unfold maxLen; omega)
  have hI6 : InF (offG F g1 g2) v6 := InF.of_row ho6 (fun b hb => ⟨hIN.out.hF b (by have := hIN.out.hB; omega), by omega, by omega⟩)
  clear z0 hg6 ho6 hb6 HO1 HO2 HO4 HO5 ST5 HINS
  have hpl := HL.out.1.kep st6.kep
  have hpr := HL.out.2.1.kep st6.kep
  have hsz := hIN.out.st.kep.size
  have hFg : ∀ b, w.heap.size ≤ b → offG F g1 g2 b := fun b hb => ⟨hIN.out.hF b (by have := hIN.out.hB; omega), by omega, by omega⟩
  have hs6 := st6.kep.size
  have hasum : (weave pa (ka.map Kid.l)).length ≤ 100000 ∧ (weave pb (kb.map Kid.l)).length ≤ 100000 := by
    have h1 := kidsSum_mem (List.mem_of_getElem? HA.out)
    have h2 := kidsSum_mem (List.mem_of_getElem? HX.out)
    have h3 := hIN.out.sum
    rw [← hNA.out.l, ← hNB.out.l]; omega
  have hL3 := congrArg List.length HL.out.2.2
  have hll := hpl.len
  have hlr := hpr.len
  simp only [List.length_append, List.length_cons] at hL3
  rw [show pa.length - 1 = nl by omega] at hpl hll hL3
  rw [hnl] at hpl hpr hll hlr hL3
  have hm1 : Calls Try.prog 48 #[.slice (some ⟨gl, 0, none⟩) nl cl, .slice (some ⟨gk, 0, none⟩) (nl + 1) ck] W6 (MadePost (offG F g1 g2) (pa.take nl) (ka.take (nl + 1)) W6) :=
    made_any _ _ _ _ W6 (row_head encKV_len (by rw [hnl]; exact ho1) (by omega) nl cl (by omega)) (row_head encK_len (by rw [hkal, hnl]; exact ho2) (by omega) (nl + 1) ck (by omega)) hpl.sz (by rw [← hll]; omega) (by rw [List.length_take]; omega) (fun b hb => hFg b (by omega)) (InF.at (hFg _ (by omega)) _ _) (InF.at (hFg _ (by omega)) _ _)
  have hR5 : IsRow 2 encKV W6 v5 (m :: pb) := IsRow.of_row encKV_len ho5 (by simp; unfold maxLen; omega)
  have hm2 : ∀ W, Below W6.heap.size W6 W → Calls Try.prog 48 #[v5, v6] W (MadePost (offG F g1 g2) (m :: pb) (ka.drop (nl + 1) ++ kb) W) := fun W hb =>
    made_any _ _ _ _ W (hR5.below hb) (IsRow.below hR6 hb) (hpr.sz.below hb) (by rw [← hlr]; omega) (by simp; omega) (fun b hb' => hFg b (by have := hb.size; omega)) (InF.of_row ho5 (fun b hb => hFg b (by omega))) hI6
  have ST6 := Lib.hid st6; have HM1 := Lib.hid hm1; have HM2 := Lib.hid hm2; have HPL := Lib.hid hpl; have HPR := Lib.hid hpr; have HFG := Lib.hid hFg
  clear hm1 hm2 hpl hpr st6 hFg ho1 ho2 ho5 hasum hL3 hll hlr hR5 hR6 hI6
  go_wp2_with fail
  refine HM1.out.mono ?_
  rintro e W7 ⟨q7, rfl, hq7, hn7, hb7⟩
  have HN7 := Lib.hid hn7; have HB7 := Lib.hid hb7
  clear hn7 hb7
  go_wp2_with fail
  refine (HM2.out _ HB7.out).mono ?_
  rintro e W8 ⟨q8, rfl, hq8, hn8', hb8⟩
  have st8 := (ST6.out.below HB7.out).below hb8
  have k0 := st8.k0 HA.out
  have k1 := st8.k0 HX.out
  have f0 := st8.f2 j
  have f1 := st8.f2 (j + 1)
  have HN8 := Lib.hid hn8'; have HB8 := Lib.hid hb8; have ST8 := Lib.hid st8
  clear hn8' hb8 st8
  go_upto_region 27 with (fail)
  have st9 := (ST8.out.setK j (kidOf q7 (pa.take nl) (ka.take (nl + 1)))).setK (j + 1) (kidOf q8 (m :: pb) (ka.drop (nl + 1) ++ kb))
  have hk9 : Kep g1 g2 W8 ((W8.setCell ⟨g2, j, none⟩ (ptrN q7)).setCell ⟨g2, j + 1, none⟩ (ptrN q8)) := (Kep.set W8 (.inr rfl) _ _).trans (Kep.set _ (.inr rfl) _ _)
  obtain ⟨W9, hW9⟩ : ∃ W9, W9 = (W8.setCell ⟨g2, j, none⟩ (ptrN q7)).setCell ⟨g2, j + 1, none⟩ (ptrN q8) := ⟨_, rfl⟩
  have st9' : FSt B g1 c1 n1 g2 c2 (n1 + 1) w W9 (ps.set j q) ((ks.set j (kidOf q7 (pa.take nl) (ka.take (nl + 1)))).set (j + 1) (kidOf q8 (m :: pb) (ka.drop (nl + 1) ++ kb))) := by rw [hW9]; exact st9
  rw [← hW9] at hk9 ⊢
  clear k0 k1 f0 f1 st9 hW9
  have ha9 : IsN (offG F g1 g2) _ W9 (kidOf q7 (pa.take nl) (ka.take (nl + 1))) := made_kid HPL.out (.of HB7.out) HN7.out ((Kep.of HB8.out).trans hk9)
  have hb9 : IsN (offG F g1 g2) _ W9 (kidOf q8 (m :: pb) (ka.drop (nl + 1) ++ kb)) := made_kid HPR.out (.of (bl_trans HB7.out HB8.out)) HN8.out hk9
  have tw := two_of hIN.out.klen HM.out HA.out HX.out
  have hL3 := HL.out.2.2
  rw [show pa.length - 1 = nl by omega] at hL3
  rw [hnl] at hL3
  have hlp := hIN.out.st.lp
  have hB6 := HB7.out.size
  have hend : Calls Try.prog 48 #[.slice (some ⟨g1, 0, none⟩) n1 c1, .slice (some ⟨g2, 0, none⟩) (n1 + 1) c2] W9 (FilPost F (h' + 1) ps ks g1 g2 w) := by
    refine fil_end st9' hIN.out.hB hIN.out.hF (fun t ht => ?_) rfl hn8 (tw.rot ?_) hIN.out.wlen (by omega) (by omega) (fun B0 N0 c h0 hf => tw.frm hf hNA.out.N hNB.out.N rfl rfl (allN_lend _ _ _) (by omega) (by omega))
    · rcases mem_two ht with rfl | rfl | ⟨k, h1, h2, h3⟩
      · exact ⟨ha9, by show 3 ≤ (pa.take nl).length; rw [List.length_take]; omega, by show (pa.take nl).length ≤ 8; rw [List.length_take]; omega⟩
      · exact ⟨hb9, by show 3 ≤ (m :: pb).length; rw [List.length_cons]; omega, by show (m :: pb).length ≤ 8; rw [List.length_cons]; omega⟩
      · obtain ⟨e1, _, e3, e4⟩ := hIN.out.kid k t h3
        exact ⟨st9'.kep.kid e1, e4 h2, e3⟩
    · rw [hNA.out.l, hNB.out.l]; exact hL3
  have HEND := Lib.hid hend
  clear hend tw st9' hk9 ha9 hb9 hL3
  go_wp2_with fail
  refine HEND.out.mono ?_
  rintro e w' ⟨y, rfl, hy⟩
  have HY := Lib.hid hy
  clear hy
  go_wp2
  go_ret
  exact ⟨y, rfl, HY.out⟩
set_option maxRecDepth 100000 in
set_option maxHeartbeats 16000000 in
theorem fil_left0 {F : Nat → Prop} (h B g1 c1 n1 g2 c2 n2 j : Nat) (ps : List KV) (ks : List Kid) (w : World) (hin : FIn F h B g1 c1 n1 g2 c2 n2 (j + 1) ps ks w) (x a : Kid) (m : KV) (hx : ks[j + 1]? = some x) (ha : ks[j]? = some a) (hm : ps[j]? = some m) (hx3 : x.n < 3) (ha3 : 3 < a.n) (h0 : h = 0) :
    Calls Try.prog 66 #[.slice (some ⟨g1, 0, none⟩) n1 c1, .slice (some ⟨g2, 0, none⟩) n2 c2, .int .i64 ((j : Int) + 1)] w (FilPost F h ps ks g1 g2 w) := by
  obtain ⟨pa, ka, hna⟩ := (hin.kid j a ha).1.node
  obtain ⟨pb, kb, hnb⟩ := (hin.kid (j + 1) x hx).1.node
  have k0 := hin.st.k0 hx
  have k1 := hin.st.k0 ha
  obtain ⟨xa, xc, _, _, x0, _, hxl, _, _⟩ := hnb.at_.cells
  obtain ⟨aa, ac, _, _, a0, _, hal, _, _⟩ := hna.at_.cells
  have hxn : pb.length < 3 := by rw [← hnb.n]; exact hx3
  have hxn2 : 2 ≤ pb.length := by rw [← hnb.n]; exact (hin.kid _ _ hx).2.1
  have han : 3 < pa.length := by rw [← hna.n]; exact ha3
  have han8 : pa.length ≤ 8 := by rw [← hna.n]; exact (hin.kid _ _ ha).2.2.1
  have hpa : Parts (offG F g1 g2) h w pa ka := hna.parts
  have hpb : Parts (offG F g1 g2) h w pb kb := hnb.parts
  have hkl9 : ka.length ≤ 9 := by rcases hpa.shape with e | e; simp [e]; omega
  have hkl9b : kb.length ≤ 9 := by rcases hpb.shape with e | e; simp [e]; omega
  have hlf := hpa.leafs hpb
  subst h0
  have hka0 := Lib.hid (hpa.h0 rfl)
  have hkb0 := Lib.hid (hpb.h0 rfl)
  have hkal : ka.length = 0 := by rw [hka0.out]; rfl
  have hkbl : kb.length = 0 := by rw [hkb0.out]; rfl
  obtain ⟨nl, hnl⟩ : ∃ nl, pa.length = nl + 1 := ⟨pa.length - 1, by omega⟩
  obtain ⟨q, hq⟩ : ∃ q, pa[pa.length - 1]? = some q := ⟨_, List.getElem?_eq_getElem (by omega)⟩
  obtain ⟨l1, l2, l3⟩ := hpa.lendL (m := m) hpb hq
  have hca : ∀ W, Kep g1 g2 w W → Calls Try.prog 63 #[ptrN a.p] W (CopPost pa ka W) := fun W hk => copies_any a.p pa ka _ W (hk.node hna.at_) (by omega) (by omega)
  have hcx : ∀ W, Kep g1 g2 w W → Calls Try.prog 63 #[ptrN x.p] W (CopPost pb kb W) := fun W hk => copies_any x.p pb kb _ W (hk.node hnb.at_) (by omega) (by omega)
  have hIN := Lib.hid hin; have hNA := Lib.hid hna; have hNB := Lib.hid hnb; have HCA := Lib.hid hca; have HCX := Lib.hid hcx; have HL := Lib.hid (And.intro l1 (And.intro l2 l3)); have HQ := Lib.hid hq; have HM := Lib.hid hm; have HA := Lib.hid ha; have HX := Lib.hid hx; have HPA := Lib.hid hpa; have HPB := Lib.hid hpb
  have hl := hin.len
  have hii := hin.hi
  have hn8 := hin.n8
  subst hl
  have hd3 : decide (3 < pa.length) = true := decide_eq_true han
  clear hin hna hnb hca hcx l1 l2 l3 hq hm ha hx hpa hpb hx3 ha3
  go_enter Try.func66, Try.ntmps66
  go_upto_region 9 with (fail)
  go_big_quiet (fail)
  clear hd3 k0 k1 x0 a0
  go_wp2_with fail
  refine (HCA.out _ (Kep.of (bl_drewN (bl_refl w) _))).mono ?_
  rintro e W2 ⟨v1, v2, rfl, ho1, ho2, hb2⟩
  have hB2 : Below w.heap.size w W2 := bl_trans (bl_drewN (bl_refl w) _) hb2
  have ho1' : W2.ownsRow w.heap.size 63 2 v1 pa.length (flatE encKV pa) := ho1
  have ho2' : W2.ownsRow w.heap.size 85 1 v2 ka.length (flatE encK ka) := ho2
  clear ho1 ho2 hb2
  obtain ⟨gl, cl, rfl, hgl1, hgl2⟩ := ho1'.form (by omega)
  obtain ⟨lk, lkc, rfl⟩ := row_slice ho2'
  go_wp2_with fail
  refine (HCX.out _ (Kep.of hB2)).mono ?_
  rintro e W3 ⟨v3, v4, rfl, ho3, ho4, hb3⟩
  obtain ⟨gr, cr, rfl, hgr1, hgr2⟩ := ho3.form (by omega)
  obtain ⟨rk, rkc, rfl⟩ := row_slice ho4
  have hB3 := bl_trans hB2 hb3
  have st3 := hIN.out.st.below hB3
  have p0 := st3.p0 HM.out
  have p1 := st3.p1 HM.out
  have hins : Calls Try.prog 67 #[.slice (some ⟨gr, 0, none⟩) pb.length cr, .int .i64 0, .slice (some ⟨W3.heap.size, 0, none⟩) 1 1] (W3.alloc (.cells #[.string m.k, .string m.v] 63)) (InsPost 63 2 encKV W2.heap.size pb m 0 (.slice (some ⟨gr, 0, none⟩) pb.length cr) (W3.alloc (.cells #[.string m.k, .string m.v] 63))) := insP_any pb m W2.heap.size W3.heap.size 0 _ _ (ho3.alloc _) (Blk.new _ _ _) (fun e => by have : gr = W3.heap.size := Option.some.inj e; omega) (by have := hb3.size; simp; omega) (Nat.zero_le _) (by omega)
  have HINS := Lib.hid hins; have HO1 := Lib.hid ho1'; have HO2 := Lib.hid ho2'; have HO3 := Lib.hid ho3; have HO4 := Lib.hid ho4; have HB2 := Lib.hid hB2; have HB3 := Lib.hid hb3
  clear hins ho1' ho2' ho3 ho4 hB2 hb3 st3 hB3
  go_wp2_with fail
  refine HINS.out.mono ?_
  rintro e W4 ⟨v5, rfl, ho5, hg5, _⟩
  have hb4 : Below W2.heap.size W2 W4 := (HB3.out.alloc HB3.out.size (.cells #[.string m.k, .string m.v] 63)).grown hg5 (by have := HB3.out.size; simp; omega) (fun k e => by have : gr = k := Option.some.inj e; omega)
  have ho1 := row_below HO1.out hb4
  have ho2 := row_below HO2.out hb4
  have ho4 := (HO4.out.alloc (.cells #[.string m.k, .string m.v] 63)).kept hg5 (by
    rcases hvo : (Value.slice rk kb.length rkc).ownBlock with _ | r
    · exact .inl rfl
    · exact .inr (fun e => rows_apart HO3.out HO4.out gr rfl (hvo.trans e)))
  have hB4 : Below w.heap.size w W4 := bl_trans HB2.out hb4
  have st4 := hIN.out.st.below hB4
  rw [List.take_zero, List.drop_zero, List.nil_append] at ho5
  clear p0 p1 hg5 hgr2 HINS HO1 HO2 HO3 HO4 HB3
  have hw24 := hb4.size
  rw [hnl] at ho1
  rw [hkal] at ho2
  rw [hkbl] at ho4
  have hqq := HQ.out
  rw [show pa.length - 1 = nl by omega] at hqq
  obtain ⟨q0, q1⟩ := row_p0 ho1 hqq
  have y0 := st4.p0 HM.out
  have y1 := st4.p1 HM.out
  have f0 := st4.f1 (j * 2)
  have f1 := st4.f1 (j * 2 + 1)
  obtain ⟨hcl1, hcl2⟩ := row_cap ho1
  have HO1 := Lib.hid ho1; have HO2 := Lib.hid ho2; have HO4 := Lib.hid ho4; have HO5 := Lib.hid ho5; have ST4 := Lib.hid st4; have HB4 := Lib.hid hB4
  clear ho1 ho2 ho4 ho5 st4 hB4 hqq hb4
  go_upto_region 17 with (fail)
  have hg45 := ST4.out.grP j q
  have st5 := ST4.out.setP j q
  have hs45 : W4.heap.size = ((W4.setCell ⟨g1, j * 2, none⟩ (.string q.k)).setCell ⟨g1, j * 2 + 1, none⟩ (.string q.v)).heap.size := by simp
  obtain ⟨W5, hW5⟩ : ∃ W5, W5 = (W4.setCell ⟨g1, j * 2, none⟩ (.string q.k)).setCell ⟨g1, j * 2 + 1, none⟩ (.string q.v) := ⟨_, rfl⟩
  rw [← hW5] at hg45 st5 hs45 ⊢
  have hg1w := hIN.out.st.lt1.2
  have hg2w := hIN.out.st.lt2.2
  have hw2 : w.heap.size ≤ W2.heap.size := HB2.out.size
  have hb45 : W2.heap.size ≤ W5.heap.size := by omega
  have ho1 := HO1.out.kept hg45 (.inr (row_far HO1.out hg1w).symm)
  have ho2 := HO2.out.kept hg45 (.inr (row_far HO2.out hg1w).symm)
  have ho4 := HO4.out.kept hg45 (.inr (row_far (row_base HO4.out hw2) hg1w).symm)
  have ho5 := HO5.out.kept hg45 (.inr (row_far (row_base HO5.out hw2) hg1w).symm)
  clear hg45 hW5 hs45 HO1 HO2 HO4 HO5 ST4 HB4 q0 q1 y0 y1 f0 f1
  obtain ⟨W6, rfl⟩ : ∃ W6, W6 = W5 := ⟨_, rfl⟩
  have st6 := st5
  clear st5
  have hpl := HL.out.1.kep st6.kep
  have hpr := HL.out.2.1.kep st6.kep
  have hsz := hIN.out.st.kep.size
  have hFg : ∀ b, w.heap.size ≤ b → offG F g1 g2 b := fun b hb => ⟨hIN.out.hF b (by have := hIN.out.hB; omega), by omega, by omega⟩
  have hs6 := st6.kep.size
  have hasum : (weave pa (ka.map Kid.l)).length ≤ 100000 ∧ (weave pb (kb.map Kid.l)).length ≤ 100000 := by
    have h1 := kidsSum_mem (List.mem_of_getElem? HA.out)
    have h2 := kidsSum_mem (List.mem_of_getElem? HX.out)
    have h3 := hIN.out.sum
    rw [← hNA.out.l, ← hNB.out.l]; omega
  have hL3 := congrArg List.length HL.out.2.2
  have hll := hpl.len
  have hlr := hpr.len
  simp only [List.length_append, List.length_cons] at hL3
  rw [show pa.length - 1 = nl by omega] at hpl hll hL3
  rw [hnl] at hpl hpr hll hlr hL3
  have hm1 : Calls Try.prog 48 #[.slice (some ⟨gl, 0, none⟩) nl cl, .slice lk 0 lkc] W6 (MadePost (offG F g1 g2) (pa.take nl) (ka.take (nl + 1)) W6) :=
    made_any _ _ _ _ W6 (row_head encKV_len (by rw [hnl]; exact ho1) (by omega) nl cl (by omega)) (.inl ⟨_, _, rfl, by simp [hka0.out]⟩) hpl.sz (by rw [← hll]; omega) (by rw [List.length_take]; omega) (fun b hb => hFg b (by omega)) (InF.at (hFg _ (by omega)) _ _) (fun a n c e hn => by cases e; omega)
  have hR5 : IsRow 2 encKV W6 v5 (m :: pb) := IsRow.of_row encKV_len ho5 (by simp; unfold maxLen; omega)
  have hm2 : ∀ W, Below W6.heap.size W6 W → Calls Try.prog 48 #[v5, .slice rk 0 rkc] W (MadePost (offG F g1 g2) (m :: pb) (ka.drop (nl + 1) ++ kb) W) := fun W hb =>
    made_any _ _ _ _ W (hR5.below hb) (IsRow.below (.inl ⟨_, _, rfl, by simp [hka0.out, hkb0.out]⟩) hb) (hpr.sz.below hb) (by rw [← hlr]; omega) (by simp; omega) (fun b hb' => hFg b (by have := hb.size; omega)) (InF.of_row ho5 (fun b hb => hFg b (by omega))) (fun a n c e hn => by cases e; omega)
  have ST6 := Lib.hid st6; have HM1 := Lib.hid hm1; have HM2 := Lib.hid hm2; have HPL := Lib.hid hpl; have HPR := Lib.hid hpr; have HFG := Lib.hid hFg
  clear hm1 hm2 hpl hpr st6 hFg ho1 ho2 ho5 hasum hL3 hll hlr hR5 ho4
  go_wp2_with fail
  refine HM1.out.mono ?_
  rintro e W7 ⟨q7, rfl, hq7, hn7, hb7⟩
  have HN7 := Lib.hid hn7; have HB7 := Lib.hid hb7
  clear hn7 hb7
  go_wp2_with fail
  refine (HM2.out _ HB7.out).mono ?_
  rintro e W8 ⟨q8, rfl, hq8, hn8', hb8⟩
  have st8 := (ST6.out.below HB7.out).below hb8
  have k0 := st8.k0 HA.out
  have k1 := st8.k0 HX.out
  have f0 := st8.f2 j
  have f1 := st8.f2 (j + 1)
  have HN8 := Lib.hid hn8'; have HB8 := Lib.hid hb8; have ST8 := Lib.hid st8
  clear hn8' hb8 st8
  go_upto_region 27 with (fail)
  have st9 := (ST8.out.setK j (kidOf q7 (pa.take nl) (ka.take (nl + 1)))).setK (j + 1) (kidOf q8 (m :: pb) (ka.drop (nl + 1) ++ kb))
  have hk9 : Kep g1 g2 W8 ((W8.setCell ⟨g2, j, none⟩ (ptrN q7)).setCell ⟨g2, j + 1, none⟩ (ptrN q8)) := (Kep.set W8 (.inr rfl) _ _).trans (Kep.set _ (.inr rfl) _ _)
  obtain ⟨W9, hW9⟩ : ∃ W9, W9 = (W8.setCell ⟨g2, j, none⟩ (ptrN q7)).setCell ⟨g2, j + 1, none⟩ (ptrN q8) := ⟨_, rfl⟩
  have st9' : FSt B g1 c1 n1 g2 c2 (n1 + 1) w W9 (ps.set j q) ((ks.set j (kidOf q7 (pa.take nl) (ka.take (nl + 1)))).set (j + 1) (kidOf q8 (m :: pb) (ka.drop (nl + 1) ++ kb))) := by rw [hW9]; exact st9
  rw [← hW9] at hk9 ⊢
  clear k0 k1 f0 f1 st9 hW9
  have ha9 : IsN (offG F g1 g2) _ W9 (kidOf q7 (pa.take nl) (ka.take (nl + 1))) := made_kid HPL.out (.of HB7.out) HN7.out ((Kep.of HB8.out).trans hk9)
  have hb9 : IsN (offG F g1 g2) _ W9 (kidOf q8 (m :: pb) (ka.drop (nl + 1) ++ kb)) := made_kid HPR.out (.of (bl_trans HB7.out HB8.out)) HN8.out hk9
  have tw := two_of hIN.out.klen HM.out HA.out HX.out
  have hL3 := HL.out.2.2
  rw [show pa.length - 1 = nl by omega] at hL3
  rw [hnl] at hL3
  have hlp := hIN.out.st.lp
  have hB6 := HB7.out.size
  have hend : Calls Try.prog 48 #[.slice (some ⟨g1, 0, none⟩) n1 c1, .slice (some ⟨g2, 0, none⟩) (n1 + 1) c2] W9 (FilPost F 0 ps ks g1 g2 w) := by
    refine fil_end st9' hIN.out.hB hIN.out.hF (fun t ht => ?_) rfl hn8 (tw.rot ?_) hIN.out.wlen (by omega) (by omega) (fun B0 N0 c h0 hf => tw.frm hf hNA.out.N hNB.out.N rfl rfl (allN_lend _ _ _) (by omega) (by omega))
    · rcases mem_two ht with rfl | rfl | ⟨k, h1, h2, h3⟩
      · exact ⟨ha9, by show 3 ≤ (pa.take nl).length; rw [List.length_take]; omega, by show (pa.take nl).length ≤ 8; rw [List.length_take]; omega⟩
      · exact ⟨hb9, by show 3 ≤ (m :: pb).length; rw [List.length_cons]; omega, by show (m :: pb).length ≤ 8; rw [List.length_cons]; omega⟩
      · obtain ⟨e1, _, e3, e4⟩ := hIN.out.kid k t h3
        exact ⟨st9'.kep.kid e1, e4 h2, e3⟩
    · rw [hNA.out.l, hNB.out.l]; exact hL3
  have HEND := Lib.hid hend
  clear hend tw st9' hk9 ha9 hb9 hL3
  go_wp2_with fail
  refine HEND.out.mono ?_
  rintro e w' ⟨y, rfl, hy⟩
  have HY := Lib.hid hy
  clear hy
  go_wp2
  go_ret
  exact ⟨y, rfl, HY.out⟩
end Go.Proofs.Ytmkhnpkbaegchaa
