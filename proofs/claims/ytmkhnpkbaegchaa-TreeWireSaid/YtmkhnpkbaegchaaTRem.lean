/- The walk of remove: a node without a key. Conditions: the node and all below it lie in memory, its pairs are in order. -/
import Derived.Test.YtmkhnpkbaegchaaTCut
import Derived.Test.YtmkhnpkbaegchaaTSearch
import Derived.LaidEqlPtr
namespace Go.Proofs.Ytmkhnpkbaegchaa
open Go.RowKit

theorem infoN : (Try.prog.info? 94).map (fun i => i.size) = some 3 := by kernel_rfl
theorem IsN.blk {F : Nat → Prop} {h : Nat} {w : World} {x : Kid} (hx : IsN F h w x) : ∃ cs, Blk w x.p 94 cs := by
  obtain ⟨ps, ks, hn⟩ := hx.node
  obtain ⟨vp, vk, h1, _⟩ := hn.at_
  exact ⟨_, h1⟩
theorem ptr_same (w : World) (p : Nat) : (binOp .eql 85 (ptrN p) (ptrN p)).run Try.prog w = .ok (.bool true) w := by
  obtain ⟨j, hj, _⟩ : ∃ j, Try.prog.info? 94 = some j ∧ j.size = 3 := by
    have h := infoN
    cases e : Try.prog.info? 94 with
    | none => rw [e] at h; cases h
    | some j => rw [e] at h; exact ⟨j, rfl, Option.some.inj h⟩
  exact run_eql_ptr_same w _ Try.underlying85 hj
theorem ptr_other {w : World} {p q t t' : Nat} {cs cs' : Array Value} (h : p ≠ q) (hp : Blk w p t cs) (hq : Blk w q t' cs') : (binOp .eql 85 (ptrN p) (ptrN q)).run Try.prog w = .ok (.bool false) w := by
  obtain ⟨j, hj, hs⟩ : ∃ j, Try.prog.info? 94 = some j ∧ j.size = 3 := by
    have h := infoN
    cases e : Try.prog.info? 94 with
    | none => rw [e] at h; cases h
    | some j => rw [e] at h; exact ⟨j, rfl, Option.some.inj h⟩
  exact run_eql_ptr_other w Try.underlying85 hj (by omega) (fun e => h (by cases e; rfl)) hp hq
def RemPost (F : Nat → Prop) (h : Nat) (x : Kid) (key : ByteArray) (w : World) (e : Ending) (w' : World) : Prop :=
  ∃ y, e = .returned (ptrN y.p) ∧ IsN F h w' y ∧ y.l = delL x.l key ∧ x.n ≤ y.n + 1 ∧ y.n ≤ x.n ∧ Frm w.heap.size x.N y.N (3 * h + 1) ∧ (y = x ∨ w.heap.size ≤ y.p) ∧ Below w.heap.size w w'
theorem del_leaf_no {ps : List KV} {k : ByteArray} {i : Nat} (h1 : ∀ x ∈ ps.take i, kl x.k k = true) (h2 : ∀ x ∈ ps.drop i, kl k x.k = true) : delL ps k = ps := by
  have := delL_mid (a := ps.take i) (b := []) (c := ps.drop i) (k := k) h1 h2
  rw [List.nil_append, List.take_append_drop] at this
  rw [this]
  show ps.take i ++ ([] ++ ps.drop i) = ps
  rw [List.nil_append, List.take_append_drop]
theorem parts_at {α : Type} {l : List α} {i : Nat} {x : α} (h : l[i]? = some x) : l = l.take i ++ x :: l.drop (i + 1) := by
  obtain ⟨h1, rfl⟩ := List.getElem?_eq_some_iff.1 h
  rw [← List.drop_eq_getElem_cons h1, List.take_append_drop]
theorem del_leaf_yes {ps : List KV} {k : ByteArray} {i : Nat} {q : KV} (hs : Srt ps) (hq : ps[i]? = some q) (e : q.k = k) : delL ps k = ps.eraseIdx i := by
  have h := parts_at hq
  rw [h] at hs
  have := del_pair hs
  rw [← h, e] at this
  rw [this, List.eraseIdx_eq_take_drop_succ]
set_option maxRecDepth 100000 in
set_option maxHeartbeats 8000000 in
theorem rem_leaf {F : Nat → Prop} (x : Kid) (key : ByteArray) (w : World) (hx : IsN F 0 w x) (hs : Srt x.l) (hn8 : x.n ≤ 8) (hF : ∀ b, w.heap.size ≤ b → F b) :
    Calls Try.prog 46 #[ptrN x.p, .string key] w (RemPost F 0 x key w) := by
  obtain ⟨ps, ks, hnd⟩ := hx.node
  have hk0 := hnd.leaf rfl
  subst hk0
  have hxl : x.l = ps := by rw [hnd.l]; simp [weave_nil]
  have hlp8 : ps.length ≤ 8 := by rw [← hnd.n]; exact hn8
  rw [hxl] at hs
  have hsr : ∀ W, Below w.heap.size w W → Calls Try.prog 55 #[ptrN x.p, .string key] W (SrchPost ps key W) := fun W hb => search_any x.p ps [] _ key W (hnd.at_.below hb) hs (by omega)
  have hcp : ∀ W, Below w.heap.size w W → Calls Try.prog 63 #[ptrN x.p] W (CopPost ps [] W) := fun W hb => copies_any x.p ps [] _ W (hnd.at_.below hb) (by omega) (by simp)
  have HSR := Lib.hid hsr; have HCP := Lib.hid hcp; have HND := Lib.hid hnd; have HX := Lib.hid hx; have HF := Lib.hid hF; have HS := Lib.hid hs; have HXL := Lib.hid hxl
  clear hsr hcp hnd hx hF hs hxl
  go_enter Try.func46, Try.ntmps46
  go_wp2_with fail
  refine (HSR.out _ (bl_refl _)).mono ?_
  rintro e W1 ⟨i, ok, hok, rfl, hB1⟩
  go_wp2_with fail
  refine (HCP.out _ hB1).mono ?_
  rintro e W2 ⟨v1, v2, rfl, ho1, ho2, hb2⟩
  have hB2 := bl_trans hB1 hb2
  have hil := hok.le
  obtain ⟨va, vac, rfl⟩ := row_slice ho1
  obtain ⟨vb, vbc, rfl⟩ := row_slice ho2
  cases ok
  · have hlo := Lib.hid hok.lo
    have hno := Lib.hid (hok.no rfl)
    clear hok
    have hfin : RemPost F 0 x key w (.returned (ptrN x.p)) W2 := ⟨x, rfl, HX.out.below hB2, by rw [HXL.out, del_leaf_no hlo.out hno.out], by omega, by omega, (Frm.old (fun q hq => hq) (fun q hq => HX.out.Nlt q hq)).mono (by omega), .inl rfl, hB2⟩
    have HFIN := Lib.hid hfin
    clear hfin ho1 ho2 hB1 hB2 hb2
    go_wp2
    go_ret
    exact HFIN.out
  · obtain ⟨q, hq, hqk⟩ := hok.yes rfl
    have hi : i < ps.length := (List.getElem?_eq_some_iff.1 hq).1
    have hdp := delP_any ps W1.heap.size i _ W2 ho1 hi (by omega)
    have HDP := Lib.hid hdp; have HQ := Lib.hid (And.intro hq hqk); have HO1 := Lib.hid ho1; have HB2 := Lib.hid hB2; have HB1 := Lib.hid hB1; have HB12 := Lib.hid hb2
    clear hok hdp hq hqk ho1 ho2 hB2 hB1 hb2
    go_wp2_with fail
    refine HDP.out.mono ?_
    rintro e W3 ⟨v3, rfl, ho3, hg3, _⟩
    have hB13 : Below W1.heap.size W1 W3 := HB12.out.grown hg3 (by have := HB12.out.size; omega) (fun k e => (HO1.out.lt k e).1)
    have hB3 := bl_trans HB1.out hB13
    have hle : (ps.eraseIdx i).length = ps.length - 1 := by rw [List.length_eraseIdx, if_pos hi]
    have hs3 := hB3.size
    have hm1 : Calls Try.prog 48 #[v3, .slice none 0 0] W3 (MadePost F (ps.eraseIdx i) [] W3) :=
      made_any _ _ _ _ W3 (by
        obtain ⟨p3, c3, rfl⟩ := row_slice ho3
        rw [← hle] at ho3 ⊢
        exact IsRow.of_row encKV_len ho3 (by rw [hle]; unfold maxLen; omega)) (IsRow.nil _) (fun y hy => by cases hy) (by rw [hle]; simp [kidsSum]; omega) (by simp) (fun b hb => HF.out b (by omega)) (InF.of_row ho3 (fun b hb => HF.out b (by have := HB1.out.size; omega))) (InF.nil _ _ _)
    have HM1 := Lib.hid hm1; have HB3 := Lib.hid hB3
    clear hm1 ho3 hg3 hB13 hB3
    go_wp2_with fail
    refine HM1.out.mono ?_
    rintro e W4 ⟨y, rfl, hy, hny, hb4⟩
    have hy4 := IsN.leaf hny (by simp [kidsSum])
    have hfin : RemPost F 0 x key w (.returned (ptrN y)) W4 := ⟨⟨y, (ps.eraseIdx i).length, ps.eraseIdx i, [y]⟩, rfl, hy4, by rw [HXL.out, del_leaf_yes HS.out HQ.out.1 HQ.out.2], by rw [HND.out.n]; show _ ≤ (ps.eraseIdx i).length + 1; omega, by rw [HND.out.n]; show (ps.eraseIdx i).length ≤ _; omega, ((Frm.old (B := w.heap.size) (N := x.N) (N' := []) (fun q hq => by cases hq) (fun q hq => by cases hq)).one (by omega)).mono (by omega), .inr (by show _ ≤ y; omega), bl_trans HB3.out hb4⟩
    have HFIN := Lib.hid hfin
    clear hfin hy4 hny hb4 hy
    go_wp2
    go_ret
    exact HFIN.out
theorem kidsSum_set {ks : List Kid} {i : Nat} {z y : Kid} (hz : ks[i]? = some z) : kidsSum (ks.set i y) + z.l.length = kidsSum ks + y.l.length := by
  have e1 := set_parts (y := y) hz
  have e2 := set_parts (y := z) hz
  have e3 : ks.set i z = ks := by
    obtain ⟨h5, h6⟩ := List.getElem?_eq_some_iff.1 hz
    rw [← h6, List.set_getElem_self]
  rw [e3] at e2
  have e4 := congrArg kidsSum e1
  have e5 := congrArg kidsSum e2
  rw [kidsSum_app, kidsSum_app] at e4 e5
  have e6 : kidsSum [y] = y.l.length := by simp [kidsSum]
  have e7 : kidsSum [z] = z.l.length := by simp [kidsSum]
  omega
/-- how filled is called with one child exchanged -/
theorem fin_set {F : Nat → Prop} {h B g1 c1 n1 g2 c2 n2 i : Nat} {ps ps' : List KV} {ks : List Kid} {z y : Kid} {w W0 W : World} (st : FSt B g1 c1 n1 g2 c2 n2 W0 W ps' (ks.set i y)) (hlp : ps'.length = ps.length) (hB : B ≤ W.heap.size) (hF : ∀ b, B ≤ b → F b) (hw0 : w.heap.size ≤ g1 ∧ w.heap.size ≤ g2) (hk0 : Below w.heap.size w W)
    (hlen : n2 = n1 + 1) (hn0 : 1 ≤ n1) (hn8 : n1 ≤ 8) (hi : i ≤ n1) (hz : ks[i]? = some z) (hsum : ps.length + kidsSum ks ≤ 100000) (hyl : y.l.length ≤ z.l.length) (hz3 : 3 ≤ z.n) (hz8 : z.n ≤ 8) (hy2 : z.n ≤ y.n + 1) (hy8 : y.n ≤ z.n)
    (hy : IsN (offG F g1 g2) h W y) (hkk : ∀ y ∈ ks, IsN (fun b => F b ∧ b < w.heap.size) h w y ∧ 3 ≤ y.n ∧ y.n ≤ 8) : FIn F h B g1 c1 n1 g2 c2 n2 i ps' (ks.set i y) W := by
  have hl1 := st.lp
  refine ⟨⟨st.lp, st.lk, st.rp, st.rk, Kep.refl _ _ _⟩, hB, hF, hlen, hn0, hn8, hi, ?_, fun t u hu => ?_⟩
  · have := kidsSum_set (y := y) hz; omega
  · rw [List.getElem?_set] at hu
    split at hu
    · split at hu
      · cases hu
        exact ⟨hy, by omega, by omega, fun e => by omega⟩
      · cases hu
    · obtain ⟨h1, h2, h3⟩ := hkk u (List.mem_of_getElem? hu)
      refine ⟨(h1.below hk0).mono (fun b hb' => ⟨hb'.1, ?_, ?_⟩), by omega, h3, fun _ => h2⟩
      · have := hb'.2; omega
      · have := hb'.2; omega
/-- the nodes that are new, one child exchanged -/
theorem frm_set {B c i : Nat} {N : List Nat} {ks : List Kid} {z y : Kid} (hz : ks[i]? = some z) (hold : ∀ q ∈ allN ks, q < B) (hsub : ∀ q ∈ allN ks, q ∈ N) (h : Frm B z.N y.N c) : Frm B N (allN (ks.set i y)) c := by
  have h1 : Frm B z.N (allN [y]) c := by rw [allN_cons]; simpa [allN] using h
  have h2 := Frm.kids (ys := [y]) hz hold h1
  rw [set_parts hz]
  exact h2.sub hsub
set_option maxRecDepth 100000 in
set_option maxHeartbeats 8000000 in
theorem rem_step {F : Nat → Prop} (h : Nat) (x : Kid) (key : ByteArray) (w : World) (hx : IsN F (h + 1) w x) (hs : Srt x.l) (hlen : x.l.length ≤ 100000) (hn1 : 1 ≤ x.n) (hn8 : x.n ≤ 8) (hF : ∀ b, w.heap.size ≤ b → F b)
    (hrec : ∀ (G : Nat → Prop) (y : Kid) (W : World), IsN G h W y → Srt y.l → y.l.length ≤ 100000 → 3 ≤ y.n → y.n ≤ 8 → (∀ b, W.heap.size ≤ b → G b) → Calls Try.prog 46 #[ptrN y.p, .string key] W (RemPost G h y key W)) :
    Calls Try.prog 46 #[ptrN x.p, .string key] w (RemPost F (h + 1) x key w) := by
  obtain ⟨ps, ks, hnd⟩ := hx.in.node
  obtain ⟨hkl, hkk⟩ := hnd.kids h rfl
  have hlp8 : ps.length ≤ 8 := by rw [← hnd.n]; exact hn8
  have hlp1 : 1 ≤ ps.length := by rw [← hnd.n]; exact hn1
  have hsum : ps.length + kidsSum ks ≤ 100000 := by rw [← hnd.len]; exact hlen
  have hsf : (ks.map Kid.l).length = ps.length + 1 := by rw [List.length_map]; exact hkl
  have hsw : Srt (weave ps (ks.map Kid.l)) := hnd.l ▸ hs
  have hso : Srt ps := srt_own (.inr hsf) hsw
  have hold : ∀ q ∈ allN ks, q < w.heap.size := hnd.kidsLt
  have hsub : ∀ q ∈ allN ks, q ∈ x.N := fun q hq => by rw [hnd.N]; exact List.mem_cons_of_mem _ hq
  have hsr : ∀ W, Below w.heap.size w W → Calls Try.prog 55 #[ptrN x.p, .string key] W (SrchPost ps key W) := fun W hb => search_any x.p ps ks _ key W (hnd.at_.below hb) hso (by omega)
  have hcp : ∀ W, Below w.heap.size w W → Calls Try.prog 63 #[ptrN x.p] W (CopPost ps ks W) := fun W hb => copies_any x.p ps ks _ W (hnd.at_.below hb) (by omega) (by omega)
  have HSR := Lib.hid hsr; have HCP := Lib.hid hcp; have HND := Lib.hid hnd; have HX := Lib.hid hx; have HF := Lib.hid hF; have HS := Lib.hid hs; have HKK := Lib.hid hkk; have HSW := Lib.hid hsw; have HOLD := Lib.hid (And.intro hold hsub); have HREC := Lib.hid hrec; have HSF := Lib.hid hsf
  clear hsr hcp hnd hx hF hs hkk hsw hso hold hsub hrec hsf
  go_enter Try.func46, Try.ntmps46
  go_wp2_with fail
  refine (HSR.out _ (bl_refl _)).mono ?_
  rintro e W1 ⟨i, ok, hok, rfl, hB1⟩
  go_wp2_with fail
  refine (HCP.out _ hB1).mono ?_
  rintro e W2 ⟨v1, v2, rfl, ho1, ho2, hb2⟩
  have hB2 := bl_trans hB1 hb2
  have hil := hok.le
  have hs1 := hB1.size
  have hs2 := hb2.size
  obtain ⟨g1, cp, rfl, hg11, hg12⟩ := ho1.form (by omega)
  obtain ⟨g2, ck, rfl, hg21, hg22⟩ := ho2.form (by omega)
  obtain ⟨z, hz⟩ : ∃ z, ks[i]? = some z := ⟨_, List.getElem?_eq_getElem (by omega)⟩
  have hzm := HKK.out z (List.mem_of_getElem? hz)
  have hzl : z.l.length ≤ kidsSum ks := kidsSum_mem (List.mem_of_getElem? hz)
  have hzf : (ks.map Kid.l)[i]? = some z.l := by rw [List.getElem?_map, hz]; rfl
  have z0 := row_k0 ho2 hz
  have st2 : FSt w.heap.size g1 cp ps.length g2 ck ks.length W2 W2 ps ks := ⟨rfl, rfl, row_base ho1 hs1, row_base ho2 hs1, Kep.refl _ _ _⟩
  have hGz : IsN (offG F g1 g2) h W2 z := ((hzm.1.mono (fun b hb' => ⟨hb'.1, by have := hb'.2; omega, by have := hb'.2; omega⟩)).below hB2)
  have hFz : ∀ b, W2.heap.size ≤ b → offG F g1 g2 b := fun b hb => ⟨HF.out b (by omega), by omega, by omega⟩
  rw [hkl] at st2
  have ST2 := Lib.hid st2; have HZ := Lib.hid hz; have HZM := Lib.hid hzm; have HZF := Lib.hid hzf; have HB2 := Lib.hid hB2; have HG := Lib.hid hGz; have HFZ := Lib.hid hFz
  clear ho1 ho2 st2 hz hzm hzf hB1 hb2 hB2 hGz hFz
  have hi0 : (0 : Int) ≤ (i : Int) := by omega
  have hi1 : (i : Int) < (ps.length : Int) + 1 := by omega
  have hi2 : i < ps.length + 1 := by omega
  cases ok
  · have hlo := Lib.hid hok.lo
    have hno := Lib.hid (hok.no rfl)
    clear hok
    have hrc := HREC.out (offG F g1 g2) z W2 HG.out (srt_child HSF.out HZF.out HSW.out) (by omega) HZM.out.2.1 HZM.out.2.2 HFZ.out
    have HRC := Lib.hid hrc
    clear hrc HREC HFZ
    go_wp2_with fail
    refine HRC.out.mono ?_
    rintro e W3 ⟨y, rfl, hy, hyl, hyn, hyn2, hyf, hyp, hb3⟩
    have hdc := del_child HSF.out hil HZF.out HSW.out hlo.out hno.out
    have z3 := (hb3.cell (p := ⟨g2, i, none⟩) hg22).trans z0
    have hzlt : z.p < W2.heap.size := HG.out.lt
    rcases hyp with rfl | hyp
    · have hfin : RemPost F (h + 1) x key w (.returned (ptrN x.p)) W3 := by
        have e1 := (weave_child HSF.out hil HZF.out).2.1
        refine ⟨x, rfl, HX.out.below (bl_trans HB2.out hb3), ?_, by omega, by omega, (Frm.old (fun q hq => hq) (fun q hq => HX.out.Nlt q hq)).mono (by omega), .inl rfl, bl_trans HB2.out hb3⟩
        rw [HND.out.l, hdc, ← hyl, ← e1]
      have HFIN := Lib.hid hfin
      have hsame := ptr_same W3 y.p
      clear hfin hy hyl hyf hb3 hdc z0
      go_wp2
      go_ret
      exact HFIN.out
    · have hne : ¬ (y.p = z.p) := by omega
      have hzb := HG.out.below hb3
      obtain ⟨csy, hcy⟩ := hy.blk
      obtain ⟨csz, hcz⟩ := hzb.blk
      have hoth := ptr_other hne hcy hcz
      clear hcy hcz hzb
      have st3 := ST2.out.below hb3
      have fz3 := st3.f2 i
      have ST3 := Lib.hid st3; have HY := Lib.hid hy; have HYL := Lib.hid hyl; have HYF := Lib.hid hyf; have HB3 := Lib.hid hb3; have HDC := Lib.hid hdc
      clear st3 hy hyl hyf hb3 hdc z0
      go_upto_region 14 with (fail)
      have st4 := ST3.out.setK i y
      have hk34 : Kep g1 g2 W3 (W3.setCell ⟨g2, i, none⟩ (ptrN y.p)) := Kep.set W3 (.inr rfl) _ _
      have hB34 : Below w.heap.size W3 (W3.setCell ⟨g2, i, none⟩ (ptrN y.p)) := hk34.below (by omega) (by omega) (by have := HB3.out.size; omega)
      obtain ⟨W4, hW4⟩ : ∃ W4, W4 = W3.setCell ⟨g2, i, none⟩ (ptrN y.p) := ⟨_, rfl⟩
      have hs34 : W4.heap.size = W3.heap.size := by rw [hW4]; simp
      rw [← hW4] at st4 hk34 hB34 ⊢
      have hB4 : Below w.heap.size w W4 := (bl_trans HB2.out HB3.out).trans hB34
      have hll := congrArg List.length HYL.out
      have hin : FIn F h w.heap.size g1 cp ps.length g2 ck (ps.length + 1) i ps (ks.set i y) W4 := fin_set st4 rfl hB4.size HF.out ⟨by omega, by omega⟩ hB4 rfl hlp1 hlp8 hil HZ.out hsum (by
        have h9 := congrArg List.length (srt_parts (srt_child HSF.out HZF.out HSW.out) key)
        rw [hll]
        unfold delL
        simp only [List.length_append] at h9 ⊢
        omega) HZM.out.2.1 HZM.out.2.2 hyn hyn2 (hk34.kid HY.out) HKK.out
      have hfa := filled_any h w.heap.size g1 cp ps.length g2 ck (ps.length + 1) i ps (ks.set i y) W4 hin
      have HFA := Lib.hid hfa; have HB4 := Lib.hid hB4
      clear hfa hin hB4 hll hB34 hk34 st4 hW4 z3 fz3 hoth
      go_wp2_with fail
      refine HFA.out.mono ?_
      rintro e W5 ⟨u, rfl, hu, hul, hun, hun2, huf, hup, hk5⟩
      have hfin : RemPost F (h + 1) x key w (.returned (ptrN u.p)) W5 := by
        have hw1 := (weave_child HSF.out hil HZF.out).1 y.l
        have hfr := frm_set HZ.out HOLD.out.1 HOLD.out.2 (HYF.out.weaken HB2.out.size (fun q hq => HOLD.out.1 q (mem_allN.2 ⟨z, List.mem_of_getElem? HZ.out, hq⟩)))
        have hs4 := HB4.out.size
        refine ⟨u, rfl, hu, ?_, by rw [HND.out.n]; exact hun, by rw [HND.out.n]; exact hun2, (huf _ _ _ (by omega) hfr).mono (by omega), .inr (by omega), HB4.out.trans (hk5.below (by omega) (by omega) (by omega))⟩
        rw [hul, List.map_set, hw1, HYL.out, HND.out.l, HDC.out]
      have HFIN := Lib.hid hfin
      clear hfin hu hul huf hk5
      go_wp2
      go_ret
      exact HFIN.out
  · obtain ⟨q0, hq0, hqk⟩ := hok.yes rfl
    clear hok
    have hi : i < ps.length := (List.getElem?_eq_some_iff.1 hq0).1
    have hrc := cut_any h (offG F g1 g2) z W2 HG.out (by omega) (by have := HZM.out.2.1; omega) HZM.out.2.2 HFZ.out
    have HRC := Lib.hid hrc; have HQ0 := Lib.hid (And.intro hq0 hqk)
    clear hrc HREC HFZ hq0 hqk
    go_wp2_with fail
    refine HRC.out.mono ?_
    rintro e W3 ⟨y, q, rfl, hy, hyl, hyn, hyn2, hyf, hyp, hb3⟩
    have st3 := ST2.out.below hb3
    have z3 := st3.k0 HZ.out
    have fz3 := st3.f2 i
    have y0 := st3.p0 HQ0.out.1
    have y1 := st3.p1 HQ0.out.1
    have f0 := st3.f1 (i * 2)
    have f1 := st3.f1 (i * 2 + 1)
    have hgg := st3.ne
    have hgg' := st3.ne.symm
    have ST3 := Lib.hid st3; have HY := Lib.hid hy; have HYL := Lib.hid hyl; have HYF := Lib.hid hyf; have HB3 := Lib.hid hb3
    clear st3 hy hyl hyf hb3 z0 HRC
    go_upto_region 9 with (fail)
    have st4 := (ST3.out.setK i y).setP i q
    have hk34 : Kep g1 g2 W3 (((W3.setCell ⟨g2, i, none⟩ (ptrN y.p)).setCell ⟨g1, i * 2, none⟩ (.string q.k)).setCell ⟨g1, i * 2 + 1, none⟩ (.string q.v)) := ((Kep.set W3 (.inr rfl) _ _).trans (Kep.set _ (.inl rfl) _ _)).trans (Kep.set _ (.inl rfl) _ _)
    have hs34 : (((W3.setCell ⟨g2, i, none⟩ (ptrN y.p)).setCell ⟨g1, i * 2, none⟩ (.string q.k)).setCell ⟨g1, i * 2 + 1, none⟩ (.string q.v)).heap.size = W3.heap.size := by simp
    obtain ⟨W4, hW4⟩ : ∃ W4, W4 = ((W3.setCell ⟨g2, i, none⟩ (ptrN y.p)).setCell ⟨g1, i * 2, none⟩ (.string q.k)).setCell ⟨g1, i * 2 + 1, none⟩ (.string q.v) := ⟨_, rfl⟩
    rw [← hW4] at st4 hk34 hs34 ⊢
    have hB34 : Below w.heap.size W3 W4 := hk34.below (by omega) (by omega) (by have := HB3.out.size; omega)
    have hB4 : Below w.heap.size w W4 := (bl_trans HB2.out HB3.out).trans hB34
    have hll := congrArg List.length HYL.out
    simp only [List.length_append, List.length_cons, List.length_nil] at hll
    have hin : FIn F h w.heap.size g1 cp ps.length g2 ck (ps.length + 1) i (ps.set i q) (ks.set i y) W4 := fin_set st4 (by rw [List.length_set]) hB4.size HF.out ⟨by omega, by omega⟩ hB4 rfl hlp1 hlp8 hil HZ.out hsum (by omega) HZM.out.2.1 HZM.out.2.2 hyn hyn2 (hk34.kid HY.out) HKK.out
    have hfa := filled_any h w.heap.size g1 cp ps.length g2 ck (ps.length + 1) i (ps.set i q) (ks.set i y) W4 hin
    have HFA := Lib.hid hfa; have HB4 := Lib.hid hB4
    clear hfa hin hB4 hll hB34 hk34 st4 hW4 z3 fz3 y0 y1 f0 f1
    go_wp2_with fail
    refine HFA.out.mono ?_
    rintro e W5 ⟨u, rfl, hu, hul, hun, hun2, huf, hup, hk5⟩
    rw [List.length_set] at hun hun2
    have hfin : RemPost F (h + 1) x key w (.returned (ptrN u.p)) W5 := by
      have hfr := frm_set HZ.out HOLD.out.1 HOLD.out.2 (HYF.out.weaken HB2.out.size (fun q hq => HOLD.out.1 q (mem_allN.2 ⟨z, List.mem_of_getElem? HZ.out, hq⟩)))
      have hs4 := HB4.out.size
      obtain ⟨z2, hz2⟩ : ∃ z2, ks[i + 1]? = some z2 := ⟨_, List.getElem?_eq_getElem (by omega)⟩
      have tw := two_of hkl HQ0.out.1 HZ.out hz2
      have e1 := two_weave (a := z) (b := z2) (tw.lK.trans tw.lA.symm) tw.lB q0
      have e2 := two_weave (a := y) (b := z2) (tw.lK.trans tw.lA.symm) tw.lB q
      have e3 : ks.set i y = ks.take i ++ y :: z2 :: ks.drop (i + 2) := by
        have := tw.ks
        rw [set_parts HZ.out, show i + 1 = i + 1 from rfl]
        obtain ⟨h5, h6⟩ := List.getElem?_eq_some_iff.1 hz2
        rw [List.drop_eq_getElem_cons h5, h6]; rfl
      refine ⟨u, rfl, hu, ?_, by rw [HND.out.n]; exact hun, by rw [HND.out.n]; exact hun2, (huf _ _ _ (by omega) hfr).mono (by omega), .inr (by omega), HB4.out.trans (hk5.below (by omega) (by omega) (by omega))⟩
      rw [hul, tw.setP, e3, e2, HND.out.l]
      have hU : wpre (ps.take i) ((ks.take i).map Kid.l) ++ ((z.l ++ q0 :: z2.l) ++ wpost (ps.drop (i + 1)) ((ks.drop (i + 2)).map Kid.l)) = (wpre (ps.take i) ((ks.take i).map Kid.l) ++ z.l) ++ q0 :: (z2.l ++ wpost (ps.drop (i + 1)) ((ks.drop (i + 2)).map Kid.l)) := by simp
      have hw : weave ps (ks.map Kid.l) = (wpre (ps.take i) ((ks.take i).map Kid.l) ++ z.l) ++ q0 :: (z2.l ++ wpost (ps.drop (i + 1)) ((ks.drop (i + 2)).map Kid.l)) := (congr (congrArg weave tw.ps) (congrArg (List.map Kid.l) tw.ks)).trans (e1.trans hU)
      have hs5 := HSW.out
      rw [hw] at hs5 ⊢
      rw [← HQ0.out.2, del_pair hs5, HYL.out]
      simp
    have HFIN := Lib.hid hfin
    clear hfin hu hul huf hk5
    go_wp2
    go_ret
    exact HFIN.out
theorem rem_any (key : ByteArray) : ∀ (h : Nat) (F : Nat → Prop) (x : Kid) (w : World), IsN F h w x → Srt x.l → x.l.length ≤ 100000 → 1 ≤ x.n → x.n ≤ 8 → (∀ b, w.heap.size ≤ b → F b) → Calls Try.prog 46 #[ptrN x.p, .string key] w (RemPost F h x key w)
  | 0, F, x, w, hx, hs, _, _, h8, hF => rem_leaf x key w hx hs h8 hF
  | h + 1, F, x, w, hx, hs, hl, h1, h8, hF => rem_step h x key w hx hs hl h1 h8 hF (fun G y W hy hys hyl hy3 hy8 hG => rem_any key h G y W hy hys hyl (by omega) hy8 hG)
end Go.Proofs.Ytmkhnpkbaegchaa
