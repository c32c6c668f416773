/- The walk of filled, where two children are joined. Conditions: the two slices are rows of the caller's own, the children lie in memory. -/
import Derived.Test.YtmkhnpkbaegchaaTFilF
import Derived.Deep.RegionHeld3
import Derived.BigQuiet
import Derived.Deep.AppendLies
namespace Go.Proofs.Ytmkhnpkbaegchaa
open Go.RowKit

set_option maxRecDepth 100000 in
set_option maxHeartbeats 16000000 in
theorem fil_joinA {F : Nat → Prop} (h B g1 c1 g2 c2 n2 i t : Nat) (ps : List KV) (ks : List Kid) (w : World) (hin : FIn F h B g1 c1 i g2 c2 n2 i ps ks w) (hti0 : i = t + 1) (a b : Kid) (m : KV) (hx : ks[i]? = some b) (ha : ks[t]? = some a) (hm : ps[t]? = some m) (hb3 : b.n < 3) (ha3 : a.n ≤ 3) (h0 : 0 < h) :
    Calls Try.prog 66 #[.slice (some ⟨g1, 0, none⟩) i c1, .slice (some ⟨g2, 0, none⟩) n2 c2, .int .i64 i] w (FilPost F h ps ks g1 g2 w) := by
  have hwi : IntKind.i64.wrap ((i : Int) - 1) = (t : Int) := by rw [IntWalk.i64_in _ (by have := hin.hi; have := hin.n8; omega)]; omega
  have hti : (i : Int) - 1 = (t : Int) := by omega
  have hipos : 0 < i := by omega
  have htn : t < i := by omega
  have ki := hin.st.k0 hx
  rw [hti0] at hx
  have kx2 := hin.st.k0 hx
  obtain ⟨pa, ka, hna⟩ := (hin.kid t a ha).1.node
  obtain ⟨pb, kb, hnb⟩ := (hin.kid (t + 1) b hx).1.node
  obtain ⟨i0, hif, hz0, hz1, hz2⟩ := info_parts infoP
  obtain ⟨i1, hif', hy0, hy1, hy2⟩ := info_parts infoK
  have k0 := hin.st.k0 ha
  have k1 := hin.st.k0 hx
  obtain ⟨aa, ac, _, _, a0, _, hal, _, _⟩ := hna.at_.cells
  obtain ⟨ba, bc, _, _, b0, _, hbl, _, _⟩ := hnb.at_.cells
  have han : pa.length ≤ 3 := by rw [← hna.n]; omega
  have han2 : 2 ≤ pa.length := by rw [← hna.n]; exact (hin.kid _ _ ha).2.1
  have hbn : pb.length ≤ 3 := by rw [← hnb.n]; omega
  have hbn2 : 2 ≤ pb.length := by rw [← hnb.n]; exact (hin.kid _ _ hx).2.1
  have h5 : pa.length + pb.length ≤ 5 := by rw [← hna.n, ← hnb.n]; omega
  have hx2 : pb.length < 3 := by rw [← hnb.n]; omega
  have hpa : Parts (offG F g1 g2) h w pa ka := hna.parts
  have hpb : Parts (offG F g1 g2) h w pb kb := hnb.parts
  have hkl9 : ka.length ≤ 4 := by rcases hpa.shape with e | e; simp [e]; omega
  have hkl9b : kb.length ≤ 4 := by rcases hpb.shape with e | e; simp [e]; omega
  obtain ⟨h', rfl⟩ : ∃ h', h = h' + 1 := ⟨h - 1, by omega⟩
  have hkal := (hpa.h1 h' rfl).1
  have hkbl := (hpb.h1 h' rfl).1
  obtain ⟨l1, l3⟩ := hpa.join (m := m) hpb
  have hca : ∀ W, Kep g1 g2 w W → Calls Try.prog 63 #[ptrN a.p] W (CopPost pa ka W) := fun W hk => copies_any a.p pa ka _ W (hk.node hna.at_) (by omega) (by omega)
  -- the right one's slices, in all later worlds
  obtain ⟨vp, vk, hs1, hs2, hs3, hs4, hs5, hs6⟩ := hnb.at_
  obtain ⟨ad, ac1, rfl, hsrc⟩ : ∃ ad c, vp = .slice (some ad) pb.length c ∧ ∀ W, Kep g1 g2 w W → ∀ j u, (flatE encKV pb)[j]? = some u → W.cell? (ad.add j) = some u := by
    have hx : ∀ W, Kep g1 g2 w W → ∃ ad c, vp = .slice (some ad) pb.length c ∧ ∀ j u, (flatE encKV pb)[j]? = some u → W.cell? (ad.add j) = some u := fun W hk => by
      rcases src_isRow encKV_len (by decide) (hs2.kept hs5 hk.size (fun b hb hlt => hk.block b hlt hb.2.1 hb.2.2)) with ⟨_, _, e⟩ | hr
      · rw [e] at hbn2; simp at hbn2
      · exact hr
    obtain ⟨ad, c, e, _⟩ := hx w (Kep.refl _ _ _)
    refine ⟨ad, c, e, fun W hk => ?_⟩
    obtain ⟨ad', c', e', hq⟩ := hx W hk
    rw [e] at e'
    cases e'
    exact hq
  have hksrc : ∀ W, Kep g1 g2 w W → IsRow 1 encK W vk kb := fun W hk => hs3.kept hs6 hk.size (fun b hb hlt => hk.block b hlt hb.2.1 hb.2.2)
  obtain ⟨ka1, ka2, rfl⟩ : ∃ p c, vk = .slice p kb.length c := by obtain ⟨p, c, e, _⟩ := hs3.open; exact ⟨p, c, e⟩
  have bc0 := hs1.cell 0
  have bc1 := hs1.cell 1
  simp at bc0 bc1
  have hIN := Lib.hid hin; have hNA := Lib.hid hna; have hNB := Lib.hid hnb; have HCA := Lib.hid hca; have HL := Lib.hid (And.intro l1 l3); have HM := Lib.hid hm; have HA := Lib.hid ha; have HBI := Lib.hid hx; have HSRC := Lib.hid hsrc; have HKSRC := Lib.hid hksrc
  have hl := hin.len
  have hii : i ≤ i := Nat.le_refl _
  have hn8 := hin.n8
  have hpl := hin.st.lp
  subst hl
  have hdl : True := trivial
  have hwj : IntKind.i64.wrap ((t : Int) + 1) = (t : Int) + 1 := IntWalk.i64_in _ (by omega)
  have hj0 : (0 : Int) ≤ (t : Int) + 1 := by omega
  have hj1 : (t : Int) < (i : Int) := by omega
  have hj2 : (t : Int) + 1 < (i : Int) + 1 := by omega
  clear hin hna hnb hca l1 l3 hm ha hx hpa hpb hsrc hksrc hs1 hs2 hs3 hs4 hs5 hs6 b0 hpl hti0
  go_enter Try.func66, Try.ntmps66
  go_wp2_with fail
  refine (HCA.out _ (Kep.refl _ _ _)).mono ?_
  rintro e W2 ⟨v1, v2, rfl, ho1, ho2, hB2⟩
  obtain ⟨gl, cl, rfl, hgl1, hgl2⟩ := ho1.form (by omega)
  obtain ⟨lk, lkc, rfl⟩ := row_slice ho2
  have st2 := hIN.out.st.below hB2
  have q1 := st2.k0 HBI.out
  have p0 := st2.p0 HM.out
  have p1 := st2.p1 HM.out
  have r0 := (hB2.cell (p := ⟨b.p, 0, none⟩) hbl).trans bc0
  have r1 := (hB2.cell (p := ⟨b.p, 1, none⟩) hbl).trans bc1
  have hw2 : w.heap.size ≤ W2.heap.size := hB2.size
  have hg1w := hIN.out.st.lt1.2
  have hg2w := hIN.out.st.lt2.2
  have hms : maxLen = 9223372036854775807 := rfl
  have HMS := Lib.hid hms
  have HO1 := Lib.hid ho1; have HO2 := Lib.hid ho2; have ST2 := Lib.hid st2; have HB2 := Lib.hid hB2
  clear ho1 ho2 st2 hms hB2 bc0 bc1 ki k0 k1 a0 hdl kx2
  go_upto_region 4 with (fail)
  go_region_held3 (fun w' => w'.cell? ⟨g1, t * 2, none⟩ = some (.string m.k) ∧ w'.cell? ⟨g1, t * 2 + 1, none⟩ = some (.string m.v) ∧ w'.cell? ⟨g2, t + 1, none⟩ = some (ptrN b.p) ∧ w'.cell? ⟨b.p, 0, none⟩ = some (.slice (some ad) pb.length ac1)) (first | go_keep | (go_split_ands; exact ⟨(hgrow1.cell_far ⟨g1, t * 2, none⟩ (by simp; omega) (fun e => by have e1 : g1 = gl := Option.some.inj e; omega)).trans (by go_simp), (hgrow1.cell_far ⟨g1, t * 2 + 1, none⟩ (by simp; omega) (fun e => by have e1 : g1 = gl := Option.some.inj e; omega)).trans (by go_simp), (hgrow1.cell_far ⟨g2, t + 1, none⟩ (by simp; omega) (fun e => by have e1 : g2 = gl := Option.some.inj e; omega)).trans (by go_simp), (hgrow1.cell_far ⟨b.p, 0, none⟩ (by simp; omega) (fun e => by have e1 : b.p = gl := Option.some.inj e; omega)).trans (by go_simp)⟩) | (go_split_ands; exact ⟨(hgrow2.cell_far ⟨g1, t * 2, none⟩ (by show g1 < _; have := hlow1.size; omega) (fun e => by have e1 : g1 = ga := Option.some.inj e; omega)).trans (by assumption), (hgrow2.cell_far ⟨g1, t * 2 + 1, none⟩ (by show g1 < _; have := hlow1.size; omega) (fun e => by have e1 : g1 = ga := Option.some.inj e; omega)).trans (by assumption), (hgrow2.cell_far ⟨g2, t + 1, none⟩ (by show g2 < _; have := hlow1.size; omega) (fun e => by have e1 : g2 = ga := Option.some.inj e; omega)).trans (by assumption), (hgrow2.cell_far ⟨b.p, 0, none⟩ (by show b.p < _; have := hlow1.size; omega) (fun e => by have e1 : b.p = ga := Option.some.inj e; omega)).trans (by assumption)⟩)) (first | (refine step_append_lies _ (by rfl) (.tmp 34) (.tmp 39) 27 (by rfl) w.heap.size 63 i0 _ 2 32 Try.underlying27 hif hz0 hz1 hz2 rfl (by omega) (.slice (some ⟨gl, 0, none⟩) pa.length cl) pa.length (flatE encKV pa) (by rfl) ((row_below HO1.out (bl_drew W2)).alloc (.cells #[.string m.k, .string m.v] 63)) ⟨W2.heap.size, 0, none⟩ 1 1 [.string m.k, .string m.v] (by rfl) (by rfl) (World.news_of_block (cs := #[.string m.k, .string m.v]) (t := 63) (fr := (0, 0)) (heap_alloc_new W2.drew _)) (by simp [Value.oneCell']) (by omega) (by have := HMS.out; omega) (by omega) (by simp; omega) _ rfl ?_; intro ga ca w1 hown1 hgrow1 hat1 hlt1; have hlow1 : Below w.heap.size W2 w1 := (((bl_drew W2).trans (bl_alloc W2.drew (.cells #[.string m.k, .string m.v] 63))).mono hw2).grown hgrow1 (by simp; omega) (fun k e => by have e' : gl = k := Option.some.inj e; omega); have hga : w.heap.size ≤ ga := (hown1.lt ga rfl).1) | (refine step_append_lies _ (by rfl) (.tmp 40) (.tmp 48) 27 (by rfl) w.heap.size 63 i0 _ 2 32 Try.underlying27 hif hz0 hz1 hz2 rfl (by omega) (.slice (some ⟨ga, 0, none⟩) (pa.length + 1) ca) (pa.length + 1) (flatE encKV pa ++ [.string m.k, .string m.v]) (by rfl) hown1 ad pb.length ac1 (flatE encKV pb) (by rfl) (flatE_len encKV_len pb) (HSRC.out _ (.of (HB2.out.trans hlow1))) (one_flat encKV_one pb) (by omega) (by have := HMS.out; omega) (by omega) (by have := hlow1.size; omega) _ rfl ?_; intro gb cb w2 hown2 hgrow2 hat2 hlt2))
  all_goals
    rename_i hHeld
    clear hHeld p0 p1 q1 r0
    have hlow2 : Below w.heap.size W2 w2 := hlow1.grown hgrow2 (by have := hlow1.size; omega) (fun k e => by have e' : ga = k := Option.some.inj e; omega)
    have st4 := ST2.out.low hlow2 hg1w hg2w
    have ho2a := (row_below HO2.out (bl_drew W2)).alloc (.cells #[.string m.k, .string m.v] 63)
    have ho2b := ho2a.kept hgrow1 (by
      rcases hvo : (Value.slice lk ka.length lkc).ownBlock with _ | r
      · exact .inl rfl
      · exact .inr (fun e => rows_apart HO1.out HO2.out gl rfl (hvo.trans e)))
    have ho2 := ho2b.kept hgrow2 (by
      rcases hvo : (Value.slice lk ka.length lkc).ownBlock with _ | r
      · exact .inl rfl
      · refine .inr (fun e => rows_apart hown1 ho2b ga rfl (hvo.trans e)))
    rw [hkal] at ho2
    have hk4 : Kep g1 g2 w w2 := st4.kep
    have k1 := st4.k0 HBI.out
    have r1' := (hlow2.cell (p := ⟨b.p, 1, none⟩) hbl).trans r1
    have hks := HKSRC.out w2 hk4
    have hgb : w.heap.size ≤ gb := (hown2.lt gb rfl).1
    have hws : W2.heap.size ≤ w2.heap.size := hlow2.size
    have HOK := Lib.hid ho2; have HOP := Lib.hid hown2; have ST4 := Lib.hid st4; have HLOW := Lib.hid hlow2; have HKS := Lib.hid hks
    clear ho2a ho2b ho2 hown2 st4 hlow2 hks hown1 hgrow1 hgrow2 hat1 hat2 hlow1 hk4 r1 HO1 HO2 ST2 hga
    rcases src_isRow encK_len (by decide) HKS.out with ⟨_, _, e⟩ | ⟨adk, ck, hvk, hck⟩
    · exact absurd (hkbl.symm.trans (congrArg List.length e)) (Nat.succ_ne_zero _)
    rw [hkbl] at hvk
    obtain ⟨rfl, rfl⟩ : ka1 = some adk ∧ ka2 = ck := by simpa using hvk
    have HCK := Lib.hid hck
    clear hck hvk
    go_wp2_with (at_builtin; refine wpList_append_own_at _ rfl _ _ 92 rfl w.heap.size 85 i1 _ 1 8 Try.underlying92 hif' hy0 hy1 hy2 (by rfl) (by decide) _ _ _ rfl HOK.out adk (pb.length + 1) ka2 (flatE encK kb) rfl (by rw [flatE_len encK_len]; omega) HCK.out (one_flat encK_one kb) (by have := HMS.out; omega) (by omega) (by omega) ?_; intro v6 W6 ho6 hg6 _ hat6)
    clear HCK
    have hg6' : w2.grownBy W6 (Value.slice lk (pa.length + 1) lkc).ownBlock := hg6
    clear hg6 hat6
    have hop6 := HOP.out.kept hg6' (by
      rcases hvo : (Value.slice lk (pa.length + 1) lkc).ownBlock with _ | r
      · exact .inr (fun e => by cases e)
      · exact .inr (fun e => rows_apart HOP.out HOK.out r e hvo))
    have hlow6 : Below w.heap.size w2 W6 := (Below.refl _ _).grown hg6' (by omega) (fun k e => (HOK.out.lt k e).1)
    have st6 := ST4.out.low hlow6 hg1w hg2w
    clear hg6' hlow6
    clear HOK HOP ST4 HKS k1 r1'
    have hsum : (weave pa (ka.map Kid.l)).length ≤ 100000 ∧ (weave pb (kb.map Kid.l)).length ≤ 100000 := by
      have h1 := kidsSum_mem (List.mem_of_getElem? HA.out)
      have h2 := kidsSum_mem (List.mem_of_getElem? HBI.out)
      have h3 := hIN.out.sum
      rw [← hNA.out.l, ← hNB.out.l]; omega
    have hpj := HL.out.1.kep st6.kep
    have hlj := hpj.len
    have hL3 := congrArg List.length HL.out.2
    simp only [List.length_append, List.length_cons] at hL3
    have hFg : ∀ b, w.heap.size ≤ b → offG F g1 g2 b := fun b hb => ⟨hIN.out.hF b (by have := hIN.out.hB; omega), by omega, by omega⟩
    have hw6 := st6.kep.size
    have hlq : (pa ++ [m] ++ pb).length = pa.length + 1 + pb.length := by simp; omega
    have hm1 : Calls Try.prog 48 #[.slice (some ⟨gb, 0, none⟩) (pa.length + 1 + pb.length) cb, v6] W6 (MadePost (offG F g1 g2) (pa ++ [m] ++ pb) (ka ++ kb) W6) :=
      made_any _ _ _ _ W6 (by
        rw [← hlq]
        refine IsRow.of_row (B := w.heap.size) (e := 63) encKV_len ?_ (by rw [hlq]; unfold maxLen; omega)
        rw [hlq, flatE_append, flatE_snoc]; exact hop6) (by
        obtain ⟨p6, c6, rfl⟩ := row_slice ho6
        have hl6 : (ka ++ kb).length = pa.length + 1 + (pb.length + 1) := by rw [List.length_append]; omega
        rw [← hl6]
        refine IsRow.of_row (B := w.heap.size) (e := 85) encK_len ?_ (by rw [hl6]; unfold maxLen; omega)
        rw [hl6, flatE_append]; exact ho6) hpj.sz (by rw [← hlj, HL.out.2]; simp only [List.length_append, List.length_cons]; omega) (by rw [List.length_append]; omega) (fun b hb => hFg b (by omega)) (InF.at (a := ⟨gb, 0, none⟩) (hFg gb hgb) _ _) (InF.of_row ho6 (fun b hb => hFg b hb))
    have HM1 := Lib.hid hm1; have HPJ := Lib.hid hpj; have ST6 := Lib.hid st6
    clear hm1 hpj st6 hop6 ho6 hFg hlj hL3 hsum
    refine HM1.out.mono ?_
    rintro e W7 ⟨q7, rfl, hq7, hn7, hb7⟩
    have st7 := ST6.out.below hb7
    have k0 := st7.k0 HA.out
    have f0 := st7.f2 t
    have HN7 := Lib.hid hn7; have HB7 := Lib.hid hb7; have ST7 := Lib.hid st7
    clear hn7 hb7 st7
    go_upto_region 6 with (fail)
    have st8 := ST7.out.setK t (kidOf q7 (pa ++ [m] ++ pb) (ka ++ kb))
    have hk8 : Kep g1 g2 W7 (W7.setCell ⟨g2, t, none⟩ (ptrN q7)) := Kep.set W7 (.inr rfl) _ _
    obtain ⟨W8, hW8⟩ : ∃ W8, W8 = W7.setCell ⟨g2, t, none⟩ (ptrN q7) := ⟨_, rfl⟩
    have st8' : FSt B g1 c1 i g2 c2 (i + 1) w W8 ps (ks.set t (kidOf q7 (pa ++ [m] ++ pb) (ka ++ kb))) := by rw [hW8]; exact st8
    rw [← hW8] at hk8 ⊢
    clear st8 hW8 k0 f0
    have hlp := st8'.lp
    have hlk := st8'.lk
    have hrp := st8'.rp
    have hrk := st8'.rk
    rw [← hlp] at hrp
    rw [← hlk] at hrk
    have hdp := delP_any ps B t _ W8 hrp (by omega) (by omega)
    rw [hlp] at hdp
    have HDP := Lib.hid hdp; have ST8 := Lib.hid st8'; have HK8 := Lib.hid hk8
    clear hdp st8' hk8 hrp hrk
    go_wp2_with fail
    refine HDP.out.mono ?_
    rintro e W9 ⟨v9, rfl, ho9, hg9, hb9⟩
    rw [hlp] at ho9
    obtain ⟨c9, rfl, st9⟩ := ST8.out.delP (by omega) ho9 hg9 hb9
    have hk9 : Kep g1 g2 W8 W9 := .grown hg9 (.inl rfl)
    have hrk := st9.rk
    rw [← hlk] at hrk
    have hdk := delK_any _ B (t + 1) _ W9 hrk (by omega) (by omega)
    rw [hlk, show ((t + 1 : Nat) : Int) = (t : Int) + 1 by omega, show (t : Int) + 1 + 1 = (t : Int) + 2 by omega] at hdk
    have HDK := Lib.hid hdk; have ST9 := Lib.hid st9; have HK9 := Lib.hid hk9
    clear hdk st9 hk9 hrk ho9 hg9 hb9
    go_wp2_with fail
    refine HDK.out.mono ?_
    rintro e W10 ⟨v10, rfl, ho10, hg10, hb10⟩
    rw [hlk] at ho10
    obtain ⟨c10, rfl, st10⟩ := ST9.out.delK (n2' := i) rfl (by omega) ho10 hg10 hb10
    have hk10 : Kep g1 g2 W9 W10 := .grown hg10 (.inr rfl)
    have ha10 : IsN (offG F g1 g2) _ W10 (kidOf q7 (pa ++ [m] ++ pb) (ka ++ kb)) := made_kid HPJ.out (.of HB7.out) HN7.out ((HK8.out.trans HK9.out).trans hk10)
    have tw := two_of hIN.out.klen HM.out HA.out HBI.out
    have hB6 := HB7.out.size
    have hend : Calls Try.prog 48 #[.slice (some ⟨g1, 0, none⟩) (i - 1) c9, .slice (some ⟨g2, 0, none⟩) i c10] W10 (FilPost F (h' + 1) ps ks g1 g2 w) := by
      refine fil_end st10 hIN.out.hB hIN.out.hF (fun t' ht => ?_) (by have := hIN.out.n0; omega) (by omega) (tw.join ?_) hIN.out.wlen (by omega) (by omega) (fun B0 N0 c h0 hf => tw.frm1 hf hNA.out.N hNB.out.N rfl (by omega))
      · rcases mem_one ht with rfl | ⟨k, h1, h2, h3⟩
        · exact ⟨ha10, by show 3 ≤ (pa ++ [m] ++ pb).length; omega, by show (pa ++ [m] ++ pb).length ≤ 8; omega⟩
        · obtain ⟨e1, _, e3, e4⟩ := hIN.out.kid k t' h3
          exact ⟨st10.kep.kid e1, e4 (by omega), e3⟩
      · rw [hNA.out.l, hNB.out.l]; exact HL.out.2
    have HEND := Lib.hid hend
    clear hend tw st10 hk10 ha10 ho10 hg10 hb10
    go_wp2_with fail
    refine HEND.out.mono ?_
    rintro e w' ⟨y, rfl, hy⟩
    have HY := Lib.hid hy
    clear hy
    go_wp2
    go_ret
    exact ⟨y, rfl, HY.out⟩
end Go.Proofs.Ytmkhnpkbaegchaa
