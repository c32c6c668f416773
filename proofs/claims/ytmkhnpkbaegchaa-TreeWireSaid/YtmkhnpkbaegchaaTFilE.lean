/- The walk of filled, where the right neighbour lends. Conditions: the two slices are rows of the caller's own, the children lie in memory. -/
import Derived.Test.YtmkhnpkbaegchaaTFilA
import Derived.Deep.RegionHeld3
import Derived.BigQuiet
import Derived.Deep.AppendLies
namespace Go.Proofs.Ytmkhnpkbaegchaa
open Go.RowKit

set_option maxRecDepth 100000 in
set_option maxHeartbeats 16000000 in
theorem fil_right3 {F : Nat → Prop} (h B g1 c1 n1 g2 c2 n2 i : Nat) (ps : List KV) (ks : List Kid) (w : World) (hin : FIn F h B g1 c1 n1 g2 c2 n2 i ps ks w) (x b : Kid) (m : KV) (hx : ks[i]? = some x) (hb : ks[i + 1]? = some b) (hm : ps[i]? = some m) (hx3 : x.n < 3) (hb3 : 3 < b.n) (hi0 : i < 1) (h0 : h = 0) :
    Calls Try.prog 66 #[.slice (some ⟨g1, 0, none⟩) n1 c1, .slice (some ⟨g2, 0, none⟩) n2 c2, .int .i64 i] w (FilPost F h ps ks g1 g2 w) := by
  obtain ⟨px, kx, hnx⟩ := (hin.kid i x hx).1.node
  obtain ⟨pb, kb, hnb⟩ := (hin.kid (i + 1) b hb).1.node
  obtain ⟨i0, hif, hz0, hz1, hz2⟩ := info_parts infoP
  obtain ⟨i1, hif', hy0, hy1, hy2⟩ := info_parts infoK
  have k0 := hin.st.k0 hx
  have k1 := hin.st.k0 hb
  obtain ⟨xa, xc, _, _, x0, _, hxl, _, _⟩ := hnx.at_.cells
  obtain ⟨ba, bc, _, _, b0, _, hbl, _, _⟩ := hnb.at_.cells
  have hxn : px.length < 3 := by rw [← hnx.n]; exact hx3
  have hxn2 : 2 ≤ px.length := by rw [← hnx.n]; exact (hin.kid _ _ hx).2.1
  have hbn : 3 < pb.length := by rw [← hnb.n]; exact hb3
  have hbn8 : pb.length ≤ 8 := by rw [← hnb.n]; exact (hin.kid _ _ hb).2.2.1
  have hpx : Parts (offG F g1 g2) h w px kx := hnx.parts
  have hpb : Parts (offG F g1 g2) h w pb kb := hnb.parts
  have hkl9 : kx.length ≤ 9 := by rcases hpx.shape with e | e; simp [e]; omega
  have hkl9b : kb.length ≤ 9 := by rcases hpb.shape with e | e; simp [e]; omega
  subst h0
  have hka0 := Lib.hid (hpx.h0 rfl)
  have hkb0 := Lib.hid (hpb.h0 rfl)
  have hkal : kx.length = 0 := by rw [hka0.out]; rfl
  have hkbl : kb.length = 0 := by rw [hkb0.out]; rfl
  obtain ⟨nb, hnb1⟩ : ∃ nb, pb.length = nb + 1 := ⟨pb.length - 1, by omega⟩
  obtain ⟨q, hq⟩ : ∃ q, pb[0]? = some q := ⟨_, List.getElem?_eq_getElem (by omega)⟩
  obtain ⟨l1, l2, l3⟩ := hpx.lendR (m := m) hpb hq
  have hcx : ∀ W, Kep g1 g2 w W → Calls Try.prog 63 #[ptrN x.p] W (CopPost px kx W) := fun W hk => copies_any x.p px kx _ W (hk.node hnx.at_) (by omega) (by omega)
  have hcb : ∀ W, Kep g1 g2 w W → Calls Try.prog 63 #[ptrN b.p] W (CopPost pb kb W) := fun W hk => copies_any b.p pb kb _ W (hk.node hnb.at_) (by omega) (by omega)
  have hIN := Lib.hid hin; have hNX := Lib.hid hnx; have hNB := Lib.hid hnb; have HCX := Lib.hid hcx; have HCB := Lib.hid hcb; have HL := Lib.hid (And.intro l1 (And.intro l2 l3)); have HQ := Lib.hid hq; have HM := Lib.hid hm; have HX := Lib.hid hx; have HB := Lib.hid hb; have HPX := Lib.hid hpx; have HPB := Lib.hid hpb
  have hl := hin.len
  have hii : i < n1 := by have := (List.getElem?_eq_some_iff.1 hb).1; have := hin.klen; have := hin.st.lp; omega
  have hn8 := hin.n8
  subst hl
  clear hin hnx hnb hcx hcb l1 l2 l3 hq hm hx hb hpx hpb hx3 hb3 
  go_enter Try.func66, Try.ntmps66
  go_wp2_with fail
  refine (HCX.out _ (Kep.refl _ _ _)).mono ?_
  rintro e W2 ⟨v1, v2, rfl, ho1, ho2, hB2⟩
  obtain ⟨gl, cl, rfl, hgl1, hgl2⟩ := ho1.form (by omega)
  obtain ⟨lk, lkc, rfl⟩ := row_slice ho2
  have HO1 := Lib.hid ho1; have HO2 := Lib.hid ho2
  have st2 := hIN.out.st.below hB2
  have k1 := st2.k0 HB.out
  clear ho1 ho2 k0 x0 b0 
  go_wp2_with fail
  refine (HCB.out _ (Kep.of hB2)).mono ?_
  rintro e W3 ⟨v3, v4, rfl, ho3, ho4, hb3⟩
  obtain ⟨gr, cr, rfl, hgr1, hgr2⟩ := ho3.form (by omega)
  obtain ⟨rk, rkc, rfl⟩ := row_slice ho4
  have st3 := st2.below hb3
  have p0 := st3.p0 HM.out
  have p1 := st3.p1 HM.out
  have hw2 : w.heap.size ≤ W2.heap.size := hB2.size
  have hw3 : W2.heap.size ≤ W3.heap.size := hb3.size
  have ho1 := (row_below HO1.out hb3).alloc (.cells #[.string m.k, .string m.v] 63)
  have ho2 := (row_below HO2.out hb3).alloc (.cells #[.string m.k, .string m.v] 63)
  have ho3a := ho3.alloc (.cells #[.string m.k, .string m.v] 63)
  have ho4a := ho4.alloc (.cells #[.string m.k, .string m.v] 63)
  have st3a := st3.below (bl_alloc W3 (.cells #[.string m.k, .string m.v] 63))
  have hms : maxLen = 9223372036854775807 := rfl
  have HMS := Lib.hid hms
  have HO1 := Lib.hid ho1; have HO2 := Lib.hid ho2; have HO3 := Lib.hid ho3a; have HO4 := Lib.hid ho4a; have ST3 := Lib.hid st3a
  clear ho1 ho2 ho3 ho4 ho3a ho4a st2 st3 st3a hms hb3 hB2 k1
  go_upto_region 22 with (at_builtin; refine wpList_append_lies _ rfl _ _ 27 rfl w.heap.size 63 i0 _ 2 32 Try.underlying27 hif hz0 hz1 hz2 (by rfl) (by decide) _ _ _ rfl HO1.out ⟨W3.heap.size, 0, none⟩ 1 1 [.string m.k, .string m.v] rfl rfl (World.news_of_block (cs := #[.string m.k, .string m.v]) (t := 63) (fr := (0, 0)) (heap_alloc_new W3 _)) (by simp [Value.oneCell']) (by omega) (by have := HMS.out; omega) (by omega) (by simp; omega) _ rfl ?_; intro g' c' W4 hown hgrow hat hlt)
  have ho1 : W4.ownsRow w.heap.size 63 2 (.slice (some ⟨g', 0, none⟩) (px.length + 1) c') (px ++ [m]).length (flatE encKV (px ++ [m])) := by
    rw [List.length_append, flatE_snoc]; exact hown
  have hr1 : w.heap.size ≤ gl := hgl1
  have hlow4 : Below w.heap.size (W3.alloc (.cells #[.string m.k, .string m.v] 63)) W4 := (Below.refl _ _).grown hgrow (by simp; omega) (fun k e => by have : gl = k := Option.some.inj e; omega)
  have ho2 := HO2.out.kept hgrow (by
    rcases hvo : (Value.slice lk kx.length lkc).ownBlock with _ | r
    · exact .inl rfl
    · exact .inr (fun e => rows_apart HO1.out HO2.out gl rfl (hvo.trans e)))
  have ho3 := HO3.out.kept hgrow (.inr (row_far HO3.out hgl2).symm)
  have ho4 := HO4.out.kept hgrow (.inr (row_far HO4.out hgl2).symm)
  have hg1w := hIN.out.st.lt1.2
  have hg2w := hIN.out.st.lt2.2
  have st4 := ST3.out.low hlow4 hg1w hg2w
  have hw4 : W3.heap.size ≤ W4.heap.size := by have := hgrow.size; simp at this; omega
  rw [hkal] at ho2
  rw [hkbl] at ho4
  rw [hnb1] at ho3
  have hg'w : w.heap.size ≤ g' := (ho1.lt g' rfl).1
  have y0 := st4.p0 HM.out
  have y1 := st4.p1 HM.out
  have f0 := st4.f1 (i * 2)
  have f1 := st4.f1 (i * 2 + 1)
  obtain ⟨q0, q1⟩ := row_p0 ho3 HQ.out
  rw [Nat.zero_mul] at q0 q1
  rw [Nat.zero_add] at q1
  obtain ⟨hcr1, hcr2⟩ := row_cap ho3
  have HO1 := Lib.hid ho1; have HO2 := Lib.hid ho2; have HO3 := Lib.hid ho3; have HO4 := Lib.hid ho4; have ST4 := Lib.hid st4
  clear hown hgrow hat ho1 ho2 ho3 ho4 st4 hlow4 ST3 p0 p1
  go_upto_region 26 with (fail)
  have hg45 := ST4.out.grP i q
  have st5 := ST4.out.setP i q
  have hs45 : W4.heap.size = ((W4.setCell ⟨g1, i * 2, none⟩ (.string q.k)).setCell ⟨g1, i * 2 + 1, none⟩ (.string q.v)).heap.size := by simp
  obtain ⟨W5, hW5⟩ : ∃ W5, W5 = (W4.setCell ⟨g1, i * 2, none⟩ (.string q.k)).setCell ⟨g1, i * 2 + 1, none⟩ (.string q.v) := ⟨_, rfl⟩
  rw [← hW5] at hg45 st5 hs45 ⊢
  have hb45 : W2.heap.size ≤ W5.heap.size := by omega
  have ho1 := HO1.out.kept hg45 (.inr (row_far HO1.out hg1w).symm)
  have ho2 := HO2.out.kept hg45 (.inr (row_far HO2.out hg1w).symm)
  have ho3 := HO3.out.kept hg45 (.inr (row_far (row_base HO3.out hw2) hg1w).symm)
  have ho4 := HO4.out.kept hg45 (.inr (row_far (row_base HO4.out hw2) hg1w).symm)
  clear hg45 hW5 hs45 HO1 HO2 HO3 HO4 ST4 q0 q1 y0 y1 f0 f1
  obtain ⟨W6, rfl⟩ : ∃ W6, W6 = W5 := ⟨_, rfl⟩
  have st6 := st5
  clear st5
  have hpl := HL.out.1.kep st6.kep
  have hpr := HL.out.2.1.kep st6.kep
  have hsz := hIN.out.st.kep.size
  have hFg : ∀ b, w.heap.size ≤ b → offG F g1 g2 b := fun b hb => ⟨hIN.out.hF b (by have := hIN.out.hB; omega), by omega, by omega⟩
  have hs6 := st6.kep.size
  have hasum : (weave px (kx.map Kid.l)).length ≤ 100000 ∧ (weave pb (kb.map Kid.l)).length ≤ 100000 := by
    have h1 := kidsSum_mem (List.mem_of_getElem? HX.out)
    have h2 := kidsSum_mem (List.mem_of_getElem? HB.out)
    have h3 := hIN.out.sum
    rw [← hNX.out.l, ← hNB.out.l]; omega
  have hL3 := congrArg List.length HL.out.2.2
  have hll := hpl.len
  have hlr := hpr.len
  simp only [List.length_append, List.length_cons] at hL3
  have hl1 : (px ++ [m]).length = px.length + 1 := by simp
  have hlb : (pb.drop 1).length = nb := by rw [List.length_drop]; omega
  have hm1 : ∀ W, Below W6.heap.size W6 W → Calls Try.prog 48 #[.slice (some ⟨g', 0, none⟩) (px.length + 1) c', .slice lk 0 lkc] W (MadePost (offG F g1 g2) (px ++ [m]) (kx ++ kb.take 1) W) := fun W hb =>
    made_any _ _ _ _ W ((IsRow.of_row encKV_len (by rw [hl1] at ho1 ⊢; exact ho1) (by rw [hl1]; unfold maxLen; omega)).below hb) (IsRow.below (.inl ⟨_, _, rfl, by simp [hka0.out, hkb0.out]⟩) hb) (hpl.sz.below hb) (by rw [← hll]; omega) (by simp; omega) (fun b hb' => hFg b (by have := hb.size; omega)) (InF.at (hFg _ (by omega)) _ _) (fun a n c e hn => by cases e; omega)
  have hm2 : ∀ W, Below W6.heap.size W6 W → Calls Try.prog 48 #[.slice (some ⟨gr, 2, none⟩) nb (cr - 1), .slice rk 0 rkc] W (MadePost (offG F g1 g2) (pb.drop 1) (kb.drop 1) W) := fun W hb =>
    made_any _ _ _ _ W ((row_tail encKV_len (by rw [hnb1]; exact ho3) (by omega) 1 (cr - 1) 2 nb rfl (by omega)).below hb) (IsRow.below (.inl ⟨_, _, rfl, by simp [hkb0.out]⟩) hb) (hpr.sz.below hb) (by rw [← hlr]; omega) (by rw [List.length_drop]; omega) (fun b hb' => hFg b (by have := hb.size; omega)) (InF.at (a := ⟨gr, 2, none⟩) (hFg gr (by omega)) _ _) (fun a n c e hn => by cases e; omega)
  have ST6 := Lib.hid st6; have HM1 := Lib.hid hm1; have HM2 := Lib.hid hm2; have HPL := Lib.hid hpl; have HPR := Lib.hid hpr; have HFG := Lib.hid hFg; have HLB := Lib.hid (And.intro hl1 hlb)
  have hcr : ¬ cr = 1 := by omega
  have hcri : (1 : Int) ≤ (cr : Int) := by omega
  have hcri2 : (nb : Int) + 1 ≤ (cr : Int) := by omega
  have hnb2 : (1 : Int) ≤ (nb : Int) + 1 := by omega
  have hwj : IntKind.i64.wrap ((i : Int) + 1) = (i : Int) + 1 := IntWalk.i64_in _ (by omega)
  have hj0 : (0 : Int) ≤ (i : Int) + 1 := by omega
  have hj1 : (i : Int) < (n1 : Int) + 1 := by omega
  have hj2 : (i : Int) < (n1 : Int) := by omega
  clear hm1 hm2 hpl hpr st6 hFg ho1 ho2 ho3 ho4 hasum hL3 hll hlr hl1 hlb 
  go_upto_region 26 with (fail)
  go_region_held3 (fun _ => True) (first | go_keep | trivial) (first | ((with_reducible refine (HM1.out _ (bl_drew _)).mono ?_); rintro e W7 ⟨q7, rfl, hq7, hn7, hb7⟩) | ((with_reducible refine (HM2.out _ (bl_trans (bl_drew _) hb7)).mono ?_); rintro e W8 ⟨q8, rfl, hq8, hn8', hb8⟩; have st8 := Lib.hid ((ST6.out.below ((bl_drew W6).trans hb7)).below hb8); have k0 := st8.out.k0 HX.out; have k1 := st8.out.k0 HB.out; have f0 := st8.out.f2 i; have f1 := st8.out.f2 (i + 1)))
  all_goals
    have hB7 : Below W6.heap.size W6 W7 := (bl_drew W6).trans hb7
    have HN7 := Lib.hid hn7; have HB7 := Lib.hid hB7; have HN8 := Lib.hid hn8'; have HB8 := Lib.hid hb8
    have hq7' : W6.heap.size ≤ q7 := hq7
    clear hn7 hb7 hn8' hb8 hB7
    go_upto_region 27 with (fail)
    have st9 := (st8.out.setK i (kidOf q7 (px ++ [m]) (kx ++ kb.take 1))).setK (i + 1) (kidOf q8 (pb.drop 1) (kb.drop 1))
    have hk9 : Kep g1 g2 W8 ((W8.setCell ⟨g2, i, none⟩ (ptrN q7)).setCell ⟨g2, i + 1, none⟩ (ptrN q8)) := (Kep.set W8 (.inr rfl) _ _).trans (Kep.set _ (.inr rfl) _ _)
    obtain ⟨W9, hW9⟩ : ∃ W9, W9 = (W8.setCell ⟨g2, i, none⟩ (ptrN q7)).setCell ⟨g2, i + 1, none⟩ (ptrN q8) := ⟨_, rfl⟩
    have st9' : FSt B g1 c1 n1 g2 c2 (n1 + 1) w W9 (ps.set i q) ((ks.set i (kidOf q7 (px ++ [m]) (kx ++ kb.take 1))).set (i + 1) (kidOf q8 (pb.drop 1) (kb.drop 1))) := by rw [hW9]; exact st9
    rw [← hW9] at hk9 ⊢
    clear k0 k1 f0 f1 st9 hW9
    have ha9 : IsN (offG F g1 g2) _ W9 (kidOf q7 (px ++ [m]) (kx ++ kb.take 1)) := made_kid HPL.out (.of HB7.out) HN7.out ((Kep.of HB8.out).trans hk9)
    have hb9 : IsN (offG F g1 g2) _ W9 (kidOf q8 (pb.drop 1) (kb.drop 1)) := made_kid HPR.out (.of (bl_trans HB7.out HB8.out)) HN8.out hk9
    have tw := two_of hIN.out.klen HM.out HX.out HB.out
    have hL3 := HL.out.2.2
    have hlp := hIN.out.st.lp
    have hB6 := HB7.out.size
    obtain ⟨hl1, hlb⟩ := HLB.out
    have hend : Calls Try.prog 48 #[.slice (some ⟨g1, 0, none⟩) n1 c1, .slice (some ⟨g2, 0, none⟩) (n1 + 1) c2] W9 (FilPost F 0 ps ks g1 g2 w) := by
      refine fil_end st9' hIN.out.hB hIN.out.hF (fun t ht => ?_) rfl hn8 (tw.rot ?_) hIN.out.wlen (by omega) (by omega) (fun B0 N0 c h0 hf => tw.frm hf hNX.out.N hNB.out.N rfl rfl (allN_lend2 _ _ _) (by omega) (by omega))
      · rcases mem_two ht with rfl | rfl | ⟨k, h1, h2, h3⟩
        · exact ⟨ha9, by show 3 ≤ (px ++ [m]).length; omega, by show (px ++ [m]).length ≤ 8; omega⟩
        · exact ⟨hb9, by show 3 ≤ (pb.drop 1).length; omega, by show (pb.drop 1).length ≤ 8; omega⟩
        · obtain ⟨e1, _, e3, e4⟩ := hIN.out.kid k t h3
          exact ⟨st9'.kep.kid e1, e4 h1, e3⟩
      · rw [hNX.out.l, hNB.out.l]; exact hL3
    have HEND := Lib.hid hend
    clear hend tw st9' hk9 ha9 hb9 hL3
    go_wp2_with fail
    refine HEND.out.mono ?_
    rintro e w' ⟨y, rfl, hy⟩
    have HY := Lib.hid hy
    clear hy
    go_wp2
    go_ret
    exact ⟨y, rfl, HY.out⟩
set_option maxRecDepth 100000 in
set_option maxHeartbeats 16000000 in
theorem fil_right4 {F : Nat → Prop} (h B g1 c1 n1 g2 c2 n2 i : Nat) (ps : List KV) (ks : List Kid) (w : World) (hin : FIn F h B g1 c1 n1 g2 c2 n2 i ps ks w) (x b : Kid) (m : KV) (hx : ks[i]? = some x) (hb : ks[i + 1]? = some b) (hm : ps[i]? = some m) (hx3 : x.n < 3) (hb3 : 3 < b.n) (t : Nat) (a : Kid) (hti0 : i = t + 1) (ha : ks[t]? = some a) (ha3 : a.n ≤ 3) (h0 : h = 0) :
    Calls Try.prog 66 #[.slice (some ⟨g1, 0, none⟩) n1 c1, .slice (some ⟨g2, 0, none⟩) n2 c2, .int .i64 i] w (FilPost F h ps ks g1 g2 w) := by
  obtain ⟨pa, ka, hna⟩ := (hin.kid t a ha).1.node
  have k2 := hin.st.k0 ha
  obtain ⟨aa, ac, _, _, a0, _, hal, _, _⟩ := hna.at_.cells
  have han : pa.length ≤ 3 := by rw [← hna.n]; exact ha3
  have hwi : IntKind.i64.wrap ((i : Int) - 1) = (t : Int) := by rw [IntWalk.i64_in _ (by have := hin.hi; have := hin.n8; omega)]; omega
  have hti : (i : Int) - 1 = (t : Int) := by omega
  have hipos : 0 < i := by omega
  have htn : t ≤ n1 := by have := hin.hi; omega
  clear hna hti0
  obtain ⟨px, kx, hnx⟩ := (hin.kid i x hx).1.node
  obtain ⟨pb, kb, hnb⟩ := (hin.kid (i + 1) b hb).1.node
  obtain ⟨i0, hif, hz0, hz1, hz2⟩ := info_parts infoP
  obtain ⟨i1, hif', hy0, hy1, hy2⟩ := info_parts infoK
  have k0 := hin.st.k0 hx
  have k1 := hin.st.k0 hb
  obtain ⟨xa, xc, _, _, x0, _, hxl, _, _⟩ := hnx.at_.cells
  obtain ⟨ba, bc, _, _, b0, _, hbl, _, _⟩ := hnb.at_.cells
  have hxn : px.length < 3 := by rw [← hnx.n]; exact hx3
  have hxn2 : 2 ≤ px.length := by rw [← hnx.n]; exact (hin.kid _ _ hx).2.1
  have hbn : 3 < pb.length := by rw [← hnb.n]; exact hb3
  have hbn8 : pb.length ≤ 8 := by rw [← hnb.n]; exact (hin.kid _ _ hb).2.2.1
  have hpx : Parts (offG F g1 g2) h w px kx := hnx.parts
  have hpb : Parts (offG F g1 g2) h w pb kb := hnb.parts
  have hkl9 : kx.length ≤ 9 := by rcases hpx.shape with e | e; simp [e]; omega
  have hkl9b : kb.length ≤ 9 := by rcases hpb.shape with e | e; simp [e]; omega
  subst h0
  have hka0 := Lib.hid (hpx.h0 rfl)
  have hkb0 := Lib.hid (hpb.h0 rfl)
  have hkal : kx.length = 0 := by rw [hka0.out]; rfl
  have hkbl : kb.length = 0 := by rw [hkb0.out]; rfl
  obtain ⟨nb, hnb1⟩ : ∃ nb, pb.length = nb + 1 := ⟨pb.length - 1, by omega⟩
  obtain ⟨q, hq⟩ : ∃ q, pb[0]? = some q := ⟨_, List.getElem?_eq_getElem (by omega)⟩
  obtain ⟨l1, l2, l3⟩ := hpx.lendR (m := m) hpb hq
  have hcx : ∀ W, Kep g1 g2 w W → Calls Try.prog 63 #[ptrN x.p] W (CopPost px kx W) := fun W hk => copies_any x.p px kx _ W (hk.node hnx.at_) (by omega) (by omega)
  have hcb : ∀ W, Kep g1 g2 w W → Calls Try.prog 63 #[ptrN b.p] W (CopPost pb kb W) := fun W hk => copies_any b.p pb kb _ W (hk.node hnb.at_) (by omega) (by omega)
  have hIN := Lib.hid hin; have hNX := Lib.hid hnx; have hNB := Lib.hid hnb; have HCX := Lib.hid hcx; have HCB := Lib.hid hcb; have HL := Lib.hid (And.intro l1 (And.intro l2 l3)); have HQ := Lib.hid hq; have HM := Lib.hid hm; have HX := Lib.hid hx; have HB := Lib.hid hb; have HPX := Lib.hid hpx; have HPB := Lib.hid hpb
  have hl := hin.len
  have hii : i < n1 := by have := (List.getElem?_eq_some_iff.1 hb).1; have := hin.klen; have := hin.st.lp; omega
  have hn8 := hin.n8
  subst hl
  clear hin hnx hnb hcx hcb l1 l2 l3 hq hm hx hb hpx hpb hx3 hb3 ha ha3
  go_enter Try.func66, Try.ntmps66
  go_wp2_with fail
  refine (HCX.out _ (Kep.refl _ _ _)).mono ?_
  rintro e W2 ⟨v1, v2, rfl, ho1, ho2, hB2⟩
  obtain ⟨gl, cl, rfl, hgl1, hgl2⟩ := ho1.form (by omega)
  obtain ⟨lk, lkc, rfl⟩ := row_slice ho2
  have HO1 := Lib.hid ho1; have HO2 := Lib.hid ho2
  have st2 := hIN.out.st.below hB2
  have k1 := st2.k0 HB.out
  clear ho1 ho2 k0 x0 b0 k2 a0
  go_wp2_with fail
  refine (HCB.out _ (Kep.of hB2)).mono ?_
  rintro e W3 ⟨v3, v4, rfl, ho3, ho4, hb3⟩
  obtain ⟨gr, cr, rfl, hgr1, hgr2⟩ := ho3.form (by omega)
  obtain ⟨rk, rkc, rfl⟩ := row_slice ho4
  have st3 := st2.below hb3
  have p0 := st3.p0 HM.out
  have p1 := st3.p1 HM.out
  have hw2 : w.heap.size ≤ W2.heap.size := hB2.size
  have hw3 : W2.heap.size ≤ W3.heap.size := hb3.size
  have ho1 := (row_below HO1.out hb3).alloc (.cells #[.string m.k, .string m.v] 63)
  have ho2 := (row_below HO2.out hb3).alloc (.cells #[.string m.k, .string m.v] 63)
  have ho3a := ho3.alloc (.cells #[.string m.k, .string m.v] 63)
  have ho4a := ho4.alloc (.cells #[.string m.k, .string m.v] 63)
  have st3a := st3.below (bl_alloc W3 (.cells #[.string m.k, .string m.v] 63))
  have hms : maxLen = 9223372036854775807 := rfl
  have HMS := Lib.hid hms
  have HO1 := Lib.hid ho1; have HO2 := Lib.hid ho2; have HO3 := Lib.hid ho3a; have HO4 := Lib.hid ho4a; have ST3 := Lib.hid st3a
  clear ho1 ho2 ho3 ho4 ho3a ho4a st2 st3 st3a hms hb3 hB2 k1
  go_upto_region 22 with (at_builtin; refine wpList_append_lies _ rfl _ _ 27 rfl w.heap.size 63 i0 _ 2 32 Try.underlying27 hif hz0 hz1 hz2 (by rfl) (by decide) _ _ _ rfl HO1.out ⟨W3.heap.size, 0, none⟩ 1 1 [.string m.k, .string m.v] rfl rfl (World.news_of_block (cs := #[.string m.k, .string m.v]) (t := 63) (fr := (0, 0)) (heap_alloc_new W3 _)) (by simp [Value.oneCell']) (by omega) (by have := HMS.out; omega) (by omega) (by simp; omega) _ rfl ?_; intro g' c' W4 hown hgrow hat hlt)
  have ho1 : W4.ownsRow w.heap.size 63 2 (.slice (some ⟨g', 0, none⟩) (px.length + 1) c') (px ++ [m]).length (flatE encKV (px ++ [m])) := by
    rw [List.length_append, flatE_snoc]; exact hown
  have hr1 : w.heap.size ≤ gl := hgl1
  have hlow4 : Below w.heap.size (W3.alloc (.cells #[.string m.k, .string m.v] 63)) W4 := (Below.refl _ _).grown hgrow (by simp; omega) (fun k e => by have : gl = k := Option.some.inj e; omega)
  have ho2 := HO2.out.kept hgrow (by
    rcases hvo : (Value.slice lk kx.length lkc).ownBlock with _ | r
    · exact .inl rfl
    · exact .inr (fun e => rows_apart HO1.out HO2.out gl rfl (hvo.trans e)))
  have ho3 := HO3.out.kept hgrow (.inr (row_far HO3.out hgl2).symm)
  have ho4 := HO4.out.kept hgrow (.inr (row_far HO4.out hgl2).symm)
  have hg1w := hIN.out.st.lt1.2
  have hg2w := hIN.out.st.lt2.2
  have st4 := ST3.out.low hlow4 hg1w hg2w
  have hw4 : W3.heap.size ≤ W4.heap.size := by have := hgrow.size; simp at this; omega
  rw [hkal] at ho2
  rw [hkbl] at ho4
  rw [hnb1] at ho3
  have hg'w : w.heap.size ≤ g' := (ho1.lt g' rfl).1
  have y0 := st4.p0 HM.out
  have y1 := st4.p1 HM.out
  have f0 := st4.f1 (i * 2)
  have f1 := st4.f1 (i * 2 + 1)
  obtain ⟨q0, q1⟩ := row_p0 ho3 HQ.out
  rw [Nat.zero_mul] at q0 q1
  rw [Nat.zero_add] at q1
  obtain ⟨hcr1, hcr2⟩ := row_cap ho3
  have HO1 := Lib.hid ho1; have HO2 := Lib.hid ho2; have HO3 := Lib.hid ho3; have HO4 := Lib.hid ho4; have ST4 := Lib.hid st4
  clear hown hgrow hat ho1 ho2 ho3 ho4 st4 hlow4 ST3 p0 p1
  go_upto_region 26 with (fail)
  have hg45 := ST4.out.grP i q
  have st5 := ST4.out.setP i q
  have hs45 : W4.heap.size = ((W4.setCell ⟨g1, i * 2, none⟩ (.string q.k)).setCell ⟨g1, i * 2 + 1, none⟩ (.string q.v)).heap.size := by simp
  obtain ⟨W5, hW5⟩ : ∃ W5, W5 = (W4.setCell ⟨g1, i * 2, none⟩ (.string q.k)).setCell ⟨g1, i * 2 + 1, none⟩ (.string q.v) := ⟨_, rfl⟩
  rw [← hW5] at hg45 st5 hs45 ⊢
  have hb45 : W2.heap.size ≤ W5.heap.size := by omega
  have ho1 := HO1.out.kept hg45 (.inr (row_far HO1.out hg1w).symm)
  have ho2 := HO2.out.kept hg45 (.inr (row_far HO2.out hg1w).symm)
  have ho3 := HO3.out.kept hg45 (.inr (row_far (row_base HO3.out hw2) hg1w).symm)
  have ho4 := HO4.out.kept hg45 (.inr (row_far (row_base HO4.out hw2) hg1w).symm)
  clear hg45 hW5 hs45 HO1 HO2 HO3 HO4 ST4 q0 q1 y0 y1 f0 f1
  obtain ⟨W6, rfl⟩ : ∃ W6, W6 = W5 := ⟨_, rfl⟩
  have st6 := st5
  clear st5
  have hpl := HL.out.1.kep st6.kep
  have hpr := HL.out.2.1.kep st6.kep
  have hsz := hIN.out.st.kep.size
  have hFg : ∀ b, w.heap.size ≤ b → offG F g1 g2 b := fun b hb => ⟨hIN.out.hF b (by have := hIN.out.hB; omega), by omega, by omega⟩
  have hs6 := st6.kep.size
  have hasum : (weave px (kx.map Kid.l)).length ≤ 100000 ∧ (weave pb (kb.map Kid.l)).length ≤ 100000 := by
    have h1 := kidsSum_mem (List.mem_of_getElem? HX.out)
    have h2 := kidsSum_mem (List.mem_of_getElem? HB.out)
    have h3 := hIN.out.sum
    rw [← hNX.out.l, ← hNB.out.l]; omega
  have hL3 := congrArg List.length HL.out.2.2
  have hll := hpl.len
  have hlr := hpr.len
  simp only [List.length_append, List.length_cons] at hL3
  have hl1 : (px ++ [m]).length = px.length + 1 := by simp
  have hlb : (pb.drop 1).length = nb := by rw [List.length_drop]; omega
  have hm1 : ∀ W, Below W6.heap.size W6 W → Calls Try.prog 48 #[.slice (some ⟨g', 0, none⟩) (px.length + 1) c', .slice lk 0 lkc] W (MadePost (offG F g1 g2) (px ++ [m]) (kx ++ kb.take 1) W) := fun W hb =>
    made_any _ _ _ _ W ((IsRow.of_row encKV_len (by rw [hl1] at ho1 ⊢; exact ho1) (by rw [hl1]; unfold maxLen; omega)).below hb) (IsRow.below (.inl ⟨_, _, rfl, by simp [hka0.out, hkb0.out]⟩) hb) (hpl.sz.below hb) (by rw [← hll]; omega) (by simp; omega) (fun b hb' => hFg b (by have := hb.size; omega)) (InF.at (hFg _ (by omega)) _ _) (fun a n c e hn => by cases e; omega)
  have hm2 : ∀ W, Below W6.heap.size W6 W → Calls Try.prog 48 #[.slice (some ⟨gr, 2, none⟩) nb (cr - 1), .slice rk 0 rkc] W (MadePost (offG F g1 g2) (pb.drop 1) (kb.drop 1) W) := fun W hb =>
    made_any _ _ _ _ W ((row_tail encKV_len (by rw [hnb1]; exact ho3) (by omega) 1 (cr - 1) 2 nb rfl (by omega)).below hb) (IsRow.below (.inl ⟨_, _, rfl, by simp [hkb0.out]⟩) hb) (hpr.sz.below hb) (by rw [← hlr]; omega) (by rw [List.length_drop]; omega) (fun b hb' => hFg b (by have := hb.size; omega)) (InF.at (a := ⟨gr, 2, none⟩) (hFg gr (by omega)) _ _) (fun a n c e hn => by cases e; omega)
  have ST6 := Lib.hid st6; have HM1 := Lib.hid hm1; have HM2 := Lib.hid hm2; have HPL := Lib.hid hpl; have HPR := Lib.hid hpr; have HFG := Lib.hid hFg; have HLB := Lib.hid (And.intro hl1 hlb)
  have hcr : ¬ cr = 1 := by omega
  have hcri : (1 : Int) ≤ (cr : Int) := by omega
  have hcri2 : (nb : Int) + 1 ≤ (cr : Int) := by omega
  have hnb2 : (1 : Int) ≤ (nb : Int) + 1 := by omega
  have hwj : IntKind.i64.wrap ((i : Int) + 1) = (i : Int) + 1 := IntWalk.i64_in _ (by omega)
  have hj0 : (0 : Int) ≤ (i : Int) + 1 := by omega
  have hj1 : (i : Int) < (n1 : Int) + 1 := by omega
  have hj2 : (i : Int) < (n1 : Int) := by omega
  clear hm1 hm2 hpl hpr st6 hFg ho1 ho2 ho3 ho4 hasum hL3 hll hlr hl1 hlb 
  go_upto_region 26 with (fail)
  go_region_held3 (fun _ => True) (first | go_keep | trivial) (first | ((with_reducible refine (HM1.out _ (bl_drew _)).mono ?_); rintro e W7 ⟨q7, rfl, hq7, hn7, hb7⟩) | ((with_reducible refine (HM2.out _ (bl_trans (bl_drew _) hb7)).mono ?_); rintro e W8 ⟨q8, rfl, hq8, hn8', hb8⟩; have st8 := Lib.hid ((ST6.out.below ((bl_drew W6).trans hb7)).below hb8); have k0 := st8.out.k0 HX.out; have k1 := st8.out.k0 HB.out; have f0 := st8.out.f2 i; have f1 := st8.out.f2 (i + 1)))
  all_goals
    have hB7 : Below W6.heap.size W6 W7 := (bl_drew W6).trans hb7
    have HN7 := Lib.hid hn7; have HB7 := Lib.hid hB7; have HN8 := Lib.hid hn8'; have HB8 := Lib.hid hb8
    have hq7' : W6.heap.size ≤ q7 := hq7
    clear hn7 hb7 hn8' hb8 hB7
    go_upto_region 27 with (fail)
    have st9 := (st8.out.setK i (kidOf q7 (px ++ [m]) (kx ++ kb.take 1))).setK (i + 1) (kidOf q8 (pb.drop 1) (kb.drop 1))
    have hk9 : Kep g1 g2 W8 ((W8.setCell ⟨g2, i, none⟩ (ptrN q7)).setCell ⟨g2, i + 1, none⟩ (ptrN q8)) := (Kep.set W8 (.inr rfl) _ _).trans (Kep.set _ (.inr rfl) _ _)
    obtain ⟨W9, hW9⟩ : ∃ W9, W9 = (W8.setCell ⟨g2, i, none⟩ (ptrN q7)).setCell ⟨g2, i + 1, none⟩ (ptrN q8) := ⟨_, rfl⟩
    have st9' : FSt B g1 c1 n1 g2 c2 (n1 + 1) w W9 (ps.set i q) ((ks.set i (kidOf q7 (px ++ [m]) (kx ++ kb.take 1))).set (i + 1) (kidOf q8 (pb.drop 1) (kb.drop 1))) := by rw [hW9]; exact st9
    rw [← hW9] at hk9 ⊢
    clear k0 k1 f0 f1 st9 hW9
    have ha9 : IsN (offG F g1 g2) _ W9 (kidOf q7 (px ++ [m]) (kx ++ kb.take 1)) := made_kid HPL.out (.of HB7.out) HN7.out ((Kep.of HB8.out).trans hk9)
    have hb9 : IsN (offG F g1 g2) _ W9 (kidOf q8 (pb.drop 1) (kb.drop 1)) := made_kid HPR.out (.of (bl_trans HB7.out HB8.out)) HN8.out hk9
    have tw := two_of hIN.out.klen HM.out HX.out HB.out
    have hL3 := HL.out.2.2
    have hlp := hIN.out.st.lp
    have hB6 := HB7.out.size
    obtain ⟨hl1, hlb⟩ := HLB.out
    have hend : Calls Try.prog 48 #[.slice (some ⟨g1, 0, none⟩) n1 c1, .slice (some ⟨g2, 0, none⟩) (n1 + 1) c2] W9 (FilPost F 0 ps ks g1 g2 w) := by
      refine fil_end st9' hIN.out.hB hIN.out.hF (fun t ht => ?_) rfl hn8 (tw.rot ?_) hIN.out.wlen (by omega) (by omega) (fun B0 N0 c h0 hf => tw.frm hf hNX.out.N hNB.out.N rfl rfl (allN_lend2 _ _ _) (by omega) (by omega))
      · rcases mem_two ht with rfl | rfl | ⟨k, h1, h2, h3⟩
        · exact ⟨ha9, by show 3 ≤ (px ++ [m]).length; omega, by show (px ++ [m]).length ≤ 8; omega⟩
        · exact ⟨hb9, by show 3 ≤ (pb.drop 1).length; omega, by show (pb.drop 1).length ≤ 8; omega⟩
        · obtain ⟨e1, _, e3, e4⟩ := hIN.out.kid k t h3
          exact ⟨st9'.kep.kid e1, e4 h1, e3⟩
      · rw [hNX.out.l, hNB.out.l]; exact hL3
    have HEND := Lib.hid hend
    clear hend tw st9' hk9 ha9 hb9 hL3
    go_wp2_with fail
    refine HEND.out.mono ?_
    rintro e w' ⟨y, rfl, hy⟩
    have HY := Lib.hid hy
    clear hy
    go_wp2
    go_ret
    exact ⟨y, rfl, HY.out⟩
end Go.Proofs.Ytmkhnpkbaegchaa
