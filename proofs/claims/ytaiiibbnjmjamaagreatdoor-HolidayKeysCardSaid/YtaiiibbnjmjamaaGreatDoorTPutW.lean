/- The walk of put, one step: its children by hypothesis. Conditions: the tree below the node lies in memory, its pairs are in order. -/
import Derived.Test.YtaiiibbnjmjamaaGreatDoorTPut
import Derived.Deep.AppendLies
namespace Go.Proofs.YtaiiibbnjmjamaaGreatDoor
open Go.RowKit

set_option maxRecDepth 100000 in
set_option maxHeartbeats 16000000 in
theorem put_step {F : Nat → Prop} (h : Nat) (x : Kid) (p : KV) (w : World) (hx : IsN F h w x) (hs : Srt x.l) (hlen : x.l.length ≤ 100000) (hn1 : 1 ≤ x.n) (hn8 : x.n ≤ 8) (hF : ∀ b, w.heap.size ≤ b → F b)
    (hrec : ∀ h', h = h' + 1 → ∀ (G : Nat → Prop) (y : Kid) (W : World), IsN G h' W y → Srt y.l → y.l.length ≤ 100000 → 3 ≤ y.n → y.n ≤ 8 → (∀ b, W.heap.size ≤ b → G b) → Calls Tryz.prog 21 #[ptrN y.p, aggP p] W (PutPost G h' y p W)) :
    Calls Tryz.prog 21 #[ptrN x.p, aggP p] w (PutPost F h x p w) := by
  obtain ⟨R, hR⟩ : ∃ R, R = w.heap.size + 1 := ⟨_, rfl⟩
  have hxo : IsN (offR F R) h w x := hx.in.mono (fun b hb => ⟨hb.1, by omega⟩)
  obtain ⟨ps, ks, hnd⟩ := hxo.node
  have hF' : ∀ b, R < b → offR F R b := fun b hb => ⟨hF b (by omega), by omega⟩
  have hlp : ps.length ≤ 8 := by rw [← hnd.n]; exact hn8
  have hlp1 : 1 ≤ ps.length := by rw [← hnd.n]; exact hn1
  have hsh := hnd.shape
  have hlk : ks.length ≤ 9 := by rcases hsh with e | e; simp [e]; omega
  have hlsum : ps.length + kidsSum ks ≤ 100000 := by rw [← hnd.len]; exact hlen
  have hsw : Srt (weave ps (ks.map Kid.l)) := hnd.l ▸ hs
  have hsf : ks.map Kid.l = [] ∨ (ks.map Kid.l).length = ps.length + 1 := by rcases hsh with e | e; exact .inl (by simp [e]); exact .inr (by simp [e])
  have hso : Srt ps := srt_own hsf hsw
  have hold : ∀ q ∈ allN ks, q < w.heap.size := hnd.kidsLt
  have hsub : ∀ q ∈ allN ks, q ∈ x.N := fun q hq => by rw [hnd.N]; exact List.mem_cons_of_mem _ hq
  have hsr : ∀ W, Below w.heap.size w W → Calls Tryz.prog 47 #[ptrN x.p, .string p.k] W (SrchPost ps p.k W) := fun W hb => search_any x.p ps ks _ p.k W (hnd.at_.below hb) hso (by omega)
  have hcp : ∀ W, Below w.heap.size w W → Calls Tryz.prog 48 #[ptrN x.p] W (CopPost ps ks W) := fun W hb => copies_any x.p ps ks _ W (hnd.at_.below hb) (by omega) (by omega)
  have HSR := Lib.hid hsr; have HCP := Lib.hid hcp; have HND := Lib.hid hnd; have HF := Lib.hid hF'; have HSW := Lib.hid hsw; have HSF := Lib.hid hsf; have HOLD := Lib.hid hold; have HSUB := Lib.hid hsub; have HREC := Lib.hid hrec; have HSH := Lib.hid hsh
  clear hsr hcp hnd hF' hF hsw hsf hold hsub hx hxo hs hso hrec hsh
  go_enter Tryz.func21, Tryz.ntmps21
  go_upto_region 3 with (fail)
  have bX : Blk ((w.alloc (.cells #[.string p.k, .string p.v] 36)).alloc (.cells #[.string ⟨#[]⟩, .string ⟨#[]⟩] 36)) w.heap.size 36 #[.string p.k, .string p.v] := (Blk.new _ _ _).alloc _
  have bR : Blk ((w.alloc (.cells #[.string p.k, .string p.v] 36)).alloc (.cells #[.string ⟨#[]⟩, .string ⟨#[]⟩] 36)) (w.heap.size + 1) 36 #[.string ⟨#[]⟩, .string ⟨#[]⟩] := Blk.at (by simp) _ _
  have hB0 := bl_trans (bl_alloc w (.cells #[.string p.k, .string p.v] 36)) (bl_alloc _ (.cells #[.string ⟨#[]⟩, .string ⟨#[]⟩] 36))
  have hW0s : ((w.alloc (.cells #[.string p.k, .string p.v] 36)).alloc (.cells #[.string ⟨#[]⟩, .string ⟨#[]⟩] 36)).heap.size = w.heap.size + 2 := by simp
  obtain ⟨W0, hW0⟩ : ∃ W0, W0 = (w.alloc (.cells #[.string p.k, .string p.v] 36)).alloc (.cells #[.string ⟨#[]⟩, .string ⟨#[]⟩] 36) := ⟨_, rfl⟩
  rw [← hW0] at bX bR hB0 hW0s ⊢
  rw [← hR] at bR ⊢
  have hwR : w.heap.size ≤ R := by omega
  have hRW : R < W0.heap.size := by omega
  obtain ⟨X, hX⟩ : ∃ X, X = w.heap.size := ⟨_, rfl⟩
  rw [← hX] at bX ⊢
  clear hW0 hW0s hR hX
  have x0 := bX.cell 0
  have x1 := bX.cell 1
  simp at x0 x1
  go_wp2_with fail
  refine (HSR.out _ hB0).mono ?_
  rintro e W1 ⟨i, ok, hok, rfl, hb1⟩
  have bX1 := bX.below hb1 bX.lt
  have bR1 := bR.below hb1 bR.lt
  have hB1 := bl_trans hB0 hb1
  have hRW1 := bR1.lt
  clear bX bR hB0 hb1 x0 x1 hRW
  go_wp2_with fail
  refine (HCP.out _ hB1).mono ?_
  rintro e W2 ⟨v1, v2, rfl, ho1, ho2, hb2⟩
  have bX2 := bX1.below hb2 bX1.lt
  have bR2 := bR1.below hb2 bR1.lt
  have hB2 := bl_trans hB1 hb2
  have hRW2 := bR2.lt
  have hnd1 := HND.out.below hB1
  have HN1 := Lib.hid hnd1
  have HB1 := Lib.hid hB1
  have hil := hok.le
  have x0 := bX2.cell 0
  have x1 := bX2.cell 1
  simp at x0 x1
  obtain ⟨va, vac, rfl⟩ := row_slice ho1
  obtain ⟨vb, vbc, rfl⟩ := row_slice ho2
  clear bX1 bR1 hnd1 hB1
  cases ok
  · have hlo := Lib.hid hok.lo
    have hno := Lib.hid (hok.no rfl)
    clear hok
    by_cases hk0 : ks.length = 0
    · skip
      obtain rfl : ks = [] := List.length_eq_zero_iff.1 hk0
      have h00 : h = 0 := by
        cases h with
        | zero => rfl
        | succ h => have := (HND.out.kids h rfl).1; simp at this
      have bV : Blk (W2.alloc (.cells #[.string p.k, .string p.v] 36)) W2.heap.size 36 (encKV p).toArray := Blk.new _ _ _
      have hins : Calls Tryz.prog 49 #[.slice va ps.length vac, .int .i64 i, .slice (some ⟨W2.heap.size, 0, none⟩) 1 1] (W2.alloc (.cells #[.string p.k, .string p.v] 36)) (InsPost 36 2 encKV W1.heap.size ps p i (.slice va ps.length vac) (W2.alloc (.cells #[.string p.k, .string p.v] 36))) := insP_any ps p W1.heap.size W2.heap.size i _ _ (ho1.alloc _) bV (fun e => by have := (ho1.lt _ e).2; omega) (by have := hb2.size; simp; omega) hil (by omega)
      have HINS := Lib.hid hins
      have hrow := fun k e => (ho1.lt k e)
      have HROW := Lib.hid hrow
      clear hins bV hrow
      go_wp2_with fail
      refine HINS.out.mono ?_
      rintro e W3 ⟨v3, rfl, ho3, hg3, _⟩
      have bR3 := (bR2.alloc (.cells #[.string p.k, .string p.v] 36)).kept hg3 (fun e => by have := (HROW.out R e.symm).1; omega)
      have hb3 : Below W1.heap.size W1 W3 := (hb2.alloc hb2.size (.cells #[.string p.k, .string p.v] 36)).grown hg3 (by have := hb2.size; simp; omega) (fun k e => (HROW.out k e).1)
      have hB3 := bl_trans HB1.out hb3
      have hl3 : (ps.take i ++ p :: ps.drop i).length = ps.length + 1 := by simp; omega
      obtain ⟨PS, hPS⟩ : ∃ PS, PS = ps.take i ++ p :: ps.drop i := ⟨_, rfl⟩
      rw [← hPS] at ho3 hl3
      have ho5 : W3.ownsRow W1.heap.size 36 2 v3 PS.length (flatE encKV PS) := by rw [hl3]; exact ho3
      have hPL : weave PS (([] : List Kid).map Kid.l) = putL x.l p := by
        have := put_leaf hlo.out hno.out
        rw [← hPS] at this
        rw [HND.out.l]
        simpa [weave_nil] using this
      have HPL := Lib.hid hPL
      have hFw : ∀ b, W1.heap.size ≤ b → offR F R b := fun b hb => HF.out b (by omega)
      have HI3 := Lib.hid (InF.of_row ho5 hFw)
      have hFw3 : ∀ b, W3.heap.size ≤ b → offR F R b := fun b hb => HF.out b (by have := hb3.size; omega)
      have HFW := Lib.hid hFw3
      obtain ⟨v3a, v3c, rfl⟩ := row_slice ho3
      have HO5 := Lib.hid ho5
      clear ho1 ho2 ho3 ho5 hg3 hb3 bR2 bX2 hb2 hB2 hPS hPL hFw hFw3 hlo hno
      by_cases hc : ps.length + 1 ≤ 8
      · go_wp2_with fail
        refine (made_any (F := offR F R) PS [] _ _ W3 (IsRow.of_row encKV_len HO5.out (by rw [hl3]; unfold maxLen; omega)) (.inl ⟨_, _, rfl, rfl⟩) (fun y hy => by cases hy) (by rw [hl3]; simp [kidsSum]; omega) (by simp) HFW.out HI3.out (fun a n c e hn => by cases e; simp at hn)).mono ?_
        rintro e W4 ⟨q, rfl, hq, hn, hb4⟩
        have bR4 := bR3.below hb4 bR3.lt
        have hB4 := bl_trans hB3 hb4
        have hwq : w.heap.size ≤ q := Nat.le_trans hB3.size hq
        have z0 := bR4.cell 0
        have z1 := bR4.cell 1
        have fz0 := bR4.frozen 0
        have fz1 := bR4.frozen 1
        simp at z0 z1
        have hfin : ∀ u0 u1, PutPost F h x p w (.returned (.tuple #[ptrN q, agg0, .pointer none])) ((W4.setCell ⟨R, 0, none⟩ u0).setCell ⟨R, 1, none⟩ u1) := fun u0 u1 => put_fin1 (ps := PS) (ks := []) hwR hB4 hwq hn (fun _ => rfl) (fun h' e => by rw [h00] at e; cases e) (HPL.out) (by rw [hl3]; exact hc) (by rw [hl3, HND.out.n]; omega) ((Frm.old (fun q hq => by simp [allN] at hq) (fun q hq => by simp [allN] at hq)).mono (Nat.zero_le _))
        have HFIN := Lib.hid hfin
        have BR := Lib.hid bR4
        clear hfin bR4 hB4 hb4 hq hn hB3 bR3
        go_wp2
        have bF := (BR.out.set 0 (.string ⟨#[]⟩)).set 1 (.string ⟨#[]⟩)
        have g0 := bF.cell 0
        have g1 := bF.cell 1
        simp at g0 g1
        refine bodyPost_ret (v := .tuple #[ptrN q, agg0, .pointer none]) (by simp [results, Tryz.f21, go_sem, g0, g1]) rfl ?_
        exact HFIN.out _ _
      · have e9 : ps.length + 1 = 9 := by omega
        have h9 : PS.length = 9 := by omega
        have ho9 := HO5.out
        rw [e9] at ho9 ⊢
        obtain ⟨g, cap, hv, hg1, hg2⟩ := World.ownsRow.form (n := 9) (by rw [← h9]; exact ho9) (by omega)
        obtain ⟨rfl, rfl⟩ : v3a = some ⟨g, 0, none⟩ ∧ v3c = cap := by simpa using hv
        rw [← h9] at ho9
        obtain ⟨m, hm⟩ : ∃ m, PS[4]? = some m := ⟨_, List.getElem?_eq_getElem (by omega)⟩
        have y0 : W3.cell? ⟨g, 8, none⟩ = some (.string m.k) := by
          have := ho9.cells (g := g) rfl (4 * 2 + 0) _ (flatE_at encKV_len PS 4 m hm 0 _ rfl)
          rwa [Go.WideShapes.add_plain, Nat.zero_add] at this
        have y1 : W3.cell? ⟨g, 9, none⟩ = some (.string m.v) := by
          have := ho9.cells (g := g) rfl (4 * 2 + 1) _ (flatE_at encKV_len PS 4 m hm 1 _ rfl)
          rwa [Go.WideShapes.add_plain, Nat.zero_add] at this
        have hgF : offR F R g := HF.out g (by omega)
        have hm1 : ∀ W, Below W3.heap.size W3 W → Calls Tryz.prog 22 #[.slice (some ⟨g, 0, none⟩) 4 4, .slice none 0 0] W (MadePost (offR F R) (PS.take 4) [] W) := fun W hb =>
          made_any (PS.take 4) [] _ _ W ((row_head encKV_len ho9 (by omega) 4 4 (by omega)).below hb) (IsRow.nil _) (fun y hy => by cases hy) (by simp [kidsSum]; omega) (by simp) (fun b hb' => HFW.out b (Nat.le_trans hb.size hb')) (InF.at hgF _ _) (InF.nil _ _ _)
        have hm2 : ∀ W, Below W3.heap.size W3 W → Calls Tryz.prog 22 #[.slice (some ⟨g, 10, none⟩) 4 (v3c - 5), .slice none 0 0] W (MadePost (offR F R) (PS.drop 5) [] W) := fun W hb =>
          made_any (PS.drop 5) [] _ _ W ((row_tail encKV_len ho9 (by omega) 5 _ 10 4 (by omega) (by omega)).below hb) (IsRow.nil _) (fun y hy => by cases hy) (by simp [kidsSum]; omega) (by simp) (fun b hb' => HFW.out b (Nat.le_trans hb.size hb')) (InF.at hgF _ _) (InF.nil _ _ _)
        have hcut : weave (PS.take 4) (([] : List Kid).map Kid.l) ++ m :: weave (PS.drop 5) (([] : List Kid).map Kid.l) = putL x.l p := by
          have := weave_cut (fs := []) hm (.inl rfl)
          rw [← HPL.out]
          simpa [weave_nil] using this.symm
        have hcap : v3c ≤ 9223372036854775807 := by
          rcases ho9.2 with ⟨h1, _⟩ | ⟨g', c', cur', h1, _, _, _, h2, _⟩
          · cases h1
          · cases h1; unfold maxLen at h2; omega
        have hc9 : 9 ≤ v3c := by
          rcases ho9.2 with ⟨h1, _⟩ | ⟨g', c', cur', h1, _, _, h2, _⟩
          · cases h1
          · cases h1; omega
        have hcx : ¬ (v3c = 5) := by omega
        have hc4i : (4 : Int) ≤ (v3c : Int) := by omega
        have hc5i : (5 : Int) ≤ (v3c : Int) := by omega
        have hc9i : (9 : Int) ≤ (v3c : Int) := by omega
        have hw5 : IntKind.i64.wrap 5 = 5 := by decide
        have hw41 : IntKind.i64.wrap (4 + 1) = 5 := by decide
        have hcx2 : ¬ (v3c - 5 = 0) := by omega
        have HM1 := Lib.hid hm1; have HM2 := Lib.hid hm2; have HCUT := Lib.hid hcut; have BR3 := Lib.hid bR3; have HB3 := Lib.hid hB3
        have hRg : R ≠ g := by omega
        have hgR : g ≠ R := by omega
        have hgz3 : g < W3.heap.size := hg2
        clear hm1 hm2 hcut hm ho9 bR3 hB3 hv hgF hg1
        go_upto_region 17 with (fail)
        go_region_held3 (fun w' => w'.cell? ⟨g, 8, none⟩ = some (.string m.k) ∧ w'.cell? ⟨g, 9, none⟩ = some (.string m.v)) (first | go_keep | (go_split_ands; exact ⟨(hb5.cell (p := ⟨g, 8, none⟩) hgz4).trans (by assumption), (hb5.cell (p := ⟨g, 9, none⟩) hgz4).trans (by assumption)⟩) | (go_split_ands; exact ⟨(hb4.cell (p := ⟨g, 8, none⟩) hgz3).trans (by go_simp), (hb4.cell (p := ⟨g, 9, none⟩) hgz3).trans (by go_simp)⟩)) (first | ((with_reducible refine (HM1.out _ (bl_drew _)).mono ?_); rintro e W4 ⟨q, rfl, hq, hn, hb4⟩; have hgz4 : g < W4.heap.size := Nat.lt_of_lt_of_le hgz3 hb4.size; have bR4 := BR3.out.drew.below hb4 BR3.out.lt) | ((with_reducible refine (HM2.out _ (bl_trans (bl_drew _) hb4)).mono ?_); rintro e W5 ⟨q', rfl, hq', hn', hb5⟩; have bR5 := bR4.below hb5 bR4.lt; have r0 := bR5.cell 0; have r1 := bR5.cell 1; have fr0 := bR5.frozen 0; have fr1 := bR5.frozen 1; simp at r0 r1))
        all_goals
          try clear h
          have hB5 : Below w.heap.size w W5 := bl_trans (bl_trans HB3.out ((bl_drew W3).trans (hb4.mono (Nat.le_refl _)))) hb5
          have hwq : w.heap.size ≤ q := Nat.le_trans HB3.out.size hq
          have hwq' : w.heap.size ≤ q' := by have := hb4.size; have : W3.heap.size ≤ W4.heap.size := this; have := HB3.out.size; omega
          have hfin : ∀ u0 u1, PutPost F h x p w (.returned (.tuple #[ptrN q, aggP m, ptrN q'])) ((W5.setCell ⟨R, 0, none⟩ u0).setCell ⟨R, 1, none⟩ u1) := fun u0 u1 => put_fin2 (ps := PS.take 4) (ks := []) (ps' := PS.drop 5) (ks' := []) hwR hB5 hwq hwq' (hn.below hb5) hn' (fun _ => ⟨rfl, rfl⟩) (fun h' e => by rw [h00] at e; cases e) HCUT.out (by rw [List.length_take]; omega) (by rw [List.length_take]; omega) (by rw [List.length_drop]; omega) (by rw [List.length_drop]; omega) ((Frm.old (fun q hq => by simp [allN] at hq) (fun q hq => by simp [allN] at hq)).mono (Nat.zero_le _))
          have HFIN := Lib.hid hfin
          have bF := (bR5.set 0 (.string m.k)).set 1 (.string m.v)
          have g0 := bF.cell 0
          have g1 := bF.cell 1
          simp at g0 g1
          clear hfin
          go_wp2
          refine bodyPost_ret (v := .tuple #[ptrN q, aggP m, ptrN q']) (by simp [results, Tryz.f21, go_sem, g0, g1]) rfl ?_
          exact HFIN.out _ _
    · skip
      have hkl : ks.length = ps.length + 1 := by
        rcases HSH.out with e | e
        · exact absurd (by rw [e]; rfl) hk0
        · exact e
      obtain ⟨h', rfl⟩ : ∃ h', h = h' + 1 := by
        cases h with
        | zero => exact absurd (by rw [HND.out.leaf rfl]; rfl) hk0
        | succ h' => exact ⟨h', rfl⟩
      obtain ⟨y, hy⟩ : ∃ y, ks[i]? = some y := ⟨_, List.getElem?_eq_getElem (by omega)⟩
      have hym : y ∈ ks := List.mem_of_getElem? hy
      obtain ⟨g, cap, hv, hg1, hg2⟩ := ho2.form (by omega)
      obtain ⟨rfl, rfl⟩ : vb = some ⟨g, 0, none⟩ ∧ vbc = cap := by simpa using hv
      have k0 : W2.cell? ⟨g, i, none⟩ = some (ptrN y.p) := by
        have := ho2.cells (g := g) rfl (i * 1 + 0) _ (flatE_at encK_len ks i y hy 0 _ rfl)
        rwa [Go.WideShapes.add_plain, Nat.zero_add, Nat.mul_one] at this
      have hyn := (HN1.out.kids h' rfl).2 y hym
      have hfl : (ks.map Kid.l)[i]? = some y.l := by rw [List.getElem?_map, hy]; rfl
      have hfl2 : (ks.map Kid.l).length = ps.length + 1 := by rw [List.length_map]; exact hkl
      have hys : Srt y.l := srt_child hfl2 hfl HSW.out
      have hyl : y.l.length ≤ kidsSum ks := kidsSum_mem hym
      have hr1 : ∀ W, Below W2.heap.size W2 W → Calls Tryz.prog 21 #[ptrN y.p, aggP p] W (PutPost (midF F R W1.heap.size W2.heap.size) h' y p W) := fun W hb => HREC.out h' rfl (midF F R W1.heap.size W2.heap.size) y W ((hyn.1.in.mono (fun b hb' => ⟨hb'.1, .inl hb'.2⟩)).below (bl_trans hb2 hb)) hys (by omega) hyn.2.1 hyn.2.2 (fun b hb' => ⟨HF.out b (by have := hb.size; omega), .inr (Nat.le_trans hb.size hb')⟩)
      have hr2 : ∀ W, Below (W2.alloc (.cells #[.string ⟨#[]⟩, .string ⟨#[]⟩] 36)).heap.size (W2.alloc (.cells #[.string ⟨#[]⟩, .string ⟨#[]⟩] 36)) W → Calls Tryz.prog 21 #[ptrN y.p, aggP p] W (PutPost (offR (midF F R W1.heap.size W2.heap.size) W2.heap.size) h' y p W) := fun W hb => HREC.out h' rfl (offR (midF F R W1.heap.size W2.heap.size) W2.heap.size) y W ((hyn.1.in.mono (fun b hb' => ⟨⟨hb'.1, .inl hb'.2⟩, by have := hb'.2; have := hb2.size; omega⟩)).below (bl_trans (bl_trans hb2 (bl_alloc _ _)) hb)) hys (by omega) hyn.2.1 hyn.2.2 (fun b hb' => ⟨⟨HF.out b (by have := hb.size; simp at this; omega), .inr (by have := hb.size; simp at this; omega)⟩, by have := hb.size; simp at this; omega⟩)
      have HR1 := Lib.hid hr1; have HR2 := Lib.hid hr2; have HY := Lib.hid hy; have HYN := Lib.hid hyn.2; have HFL := Lib.hid hfl; have HB2 := Lib.hid hb2; have HO1 := Lib.hid ho1; have HO2 := Lib.hid ho2; have BR2 := Lib.hid bR2
      have hXW := bX2.lt
      have hyN : ∀ q ∈ y.N, q < w.heap.size := fun q hq => HOLD.out q (mem_allN.2 ⟨y, hym, hq⟩)
      have HYO := Lib.hid hyN
      have hXM : X ≠ W2.heap.size := by omega
      have hMX : W2.heap.size ≠ X := by omega
      have hgM : g ≠ W2.heap.size := by omega
      have hMg : W2.heap.size ≠ g := by omega
      have hi0i : (0 : Int) ≤ (i : Int) := by omega
      have hi1i : (i : Int) < (ks.length : Int) := by omega
      have hi2i : (i : Int) < (ps.length : Int) + 1 := by omega
      have hi3i : i < ps.length + 1 := by omega
      clear hr1 hr2 hyn hfl hys hyl hy hym hv ho1 ho2 bR2 bX2 hb2 hB2 hyN HREC
      go_upto_region 5 with (fail)
      apply share
      · intro tail
        go_region_held3 (fun w' => w'.cell? ⟨X, 0, none⟩ = some (.string p.k) ∧ w'.cell? ⟨X, 1, none⟩ = some (.string p.v) ∧ w'.cell? ⟨g, i, none⟩ = some (ptrN y.p)) (first | go_keep | (go_split_ands; exact ⟨((hb3.alloc hb3.size _).cell (p := ⟨X, 0, none⟩) hXW).trans (by go_simp), ((hb3.alloc hb3.size _).cell (p := ⟨X, 1, none⟩) hXW).trans (by go_simp), ((hb3.alloc hb3.size _).cell (p := ⟨g, i, none⟩) hg2).trans (by go_simp)⟩) | (go_split_ands; exact ⟨(hb3.cell (p := ⟨X, 0, none⟩) hXW).trans (by go_simp), (hb3.cell (p := ⟨X, 1, none⟩) hXW).trans (by go_simp), (hb3.cell (p := ⟨g, i, none⟩) hg2).trans (by go_simp)⟩) | (go_split_ands; exact ⟨(hb4.cell (p := ⟨X, 0, none⟩) hXW1).trans (by go_simp), (hb4.cell (p := ⟨X, 1, none⟩) hXW1).trans (by go_simp), (hb4.cell (p := ⟨g, i, none⟩) hg3).trans (by go_simp)⟩)) (first | ((with_reducible refine (HR1.out _ (bl_drew _)).mono ?_); rintro e W3 hpp; obtain ⟨y', m, vz, rfl, hb3, halt0⟩ := hpp.form; have halt := Lib.hid halt0; clear hpp halt0) | ((with_reducible refine (HR2.out _ (bl_drew _)).mono ?_); rintro e W3 hpp; obtain ⟨y', m, vz, rfl, hb4, halt0⟩ := hpp.form; have halt := Lib.hid halt0; clear hpp halt0; have bM := (Blk.new W2 36 #[.string ⟨#[]⟩, .string ⟨#[]⟩]).drew.below hb4 (by simp); have m0 := bM.cell 0; have m1 := bM.cell 1; have fm0 := bM.frozen 0; have fm1 := bM.frozen 1; simp at m0 m1; have hXW1 : X < (W2.alloc (.cells #[.string ⟨#[]⟩, .string ⟨#[]⟩] 36)).drew.heap.size := Nat.lt_of_lt_of_le hXW (by simp); have hg3 : g < (W2.alloc (.cells #[.string ⟨#[]⟩, .string ⟨#[]⟩] 36)).drew.heap.size := Nat.lt_of_lt_of_le hg2 (by simp)))
        all_goals
          rename_i hHeld
          clear hHeld
          first
          | (have hbA : Below W2.heap.size W2 (W3.alloc (.cells #[.string m.k, .string m.v] 36)) := ((bl_drew W2).trans hb3).alloc hb3.size _; have hal2 := Lib.hid (((halt.out.below (bl_alloc W3 (.cells #[.string m.k, .string m.v] 36))).weaken (B := w.heap.size) (G := midF F R W1.heap.size W2.heap.size) (by show w.heap.size ≤ W2.heap.size; omega) HYO.out (fun b h => h))); obtain ⟨M, hM⟩ : ∃ M, M = W3.heap.size := ⟨_, rfl⟩; have bM4 := Blk.at hM 36 #[.string m.k, .string m.v]; obtain ⟨W4, hW4⟩ : ∃ W4, W4 = W3.alloc (.cells #[.string m.k, .string m.v] 36) := ⟨_, rfl⟩; rw [← hW4] at hbA hal2 bM4 ⊢; rw [← hM]; clear hM hW4 halt hb3; revert hal2; revert bM4; revert hbA; revert vz; revert m; revert y'; revert M; revert W4; exact tail.out)
          | (have hb0 : Below W2.heap.size W2 W3 := bl_trans (bl_alloc W2 (.cells #[.string ⟨#[]⟩, .string ⟨#[]⟩] 36)) ((bl_drew _).trans hb4); have hbA : Below W2.heap.size W2 ((W3.setCell ⟨W2.heap.size, 0, none⟩ (.string m.k)).setCell ⟨W2.heap.size, 1, none⟩ (.string m.v)) := (hb0.setCell (p := ⟨W2.heap.size, 0, none⟩) (Nat.le_refl _) _).setCell (p := ⟨W2.heap.size, 1, none⟩) (Nat.le_refl _) _; have hal2 := Lib.hid ((((halt.out.set 0 (.string m.k)).set 1 (.string m.v)).weaken (B := w.heap.size) (G := midF F R W1.heap.size W2.heap.size) (by simp; omega) HYO.out (fun b h => h.1))); have bM4 := (bM.set 0 (.string m.k)).set 1 (.string m.v); simp only [List.setIfInBounds_toArray, List.set_cons_zero, List.set_cons_succ] at bM4; obtain ⟨M, hM⟩ : ∃ M, M = W2.heap.size := ⟨_, rfl⟩; obtain ⟨W4, hW4⟩ : ∃ W4, W4 = (W3.setCell ⟨W2.heap.size, 0, none⟩ (.string m.k)).setCell ⟨W2.heap.size, 1, none⟩ (.string m.v) := ⟨_, rfl⟩; rw [← hW4] at hbA hal2 bM4 ⊢; rw [← hM] at bM4 ⊢; clear hM hW4 halt hb4 hb0 bM m0 m1 fm0 fm1 hXW1 hg3; revert hal2; revert bM4; revert hbA; revert vz; revert m; revert y'; revert M; revert W4; exact tail.out)
      · intro W4 M y' m vz hbA bM hal
        have hva := fun k e => HO1.out.lt k e
        have HVA := Lib.hid hva
        clear hva
        have ho1 := row_below HO1.out hbA
        have ho2 := row_below HO2.out hbA
        have bR4 := BR2.out.below hbA BR2.out.lt
        have hy := HY.out
        have k4 : W4.cell? ⟨g, i, none⟩ = some (ptrN y.p) := by
          have := ho2.cells (g := g) rfl (i * 1 + 0) _ (flatE_at encK_len ks i y hy 0 _ rfl)
          rwa [Go.WideShapes.add_plain, Nat.zero_add, Nat.mul_one] at this
        have fk4 := ho2.frozenAt i
        have s1 := ho2.stored i (ptrN y'.p)
        have ho2b := s1.1
        rw [set_K] at ho2b
        have ho1b := ho1.kept s1.2 (by
          rcases hvo : (Value.slice va ps.length vac).ownBlock with _ | r
          · exact .inl rfl
          · exact .inr (fun e => by cases e; exact rows_apart ho1 ho2 g hvo rfl))
        have hRg : R ≠ g := by omega
        have hMg4 : M ≠ g := by
          rcases ho2.2 with ⟨h1, _⟩ | ⟨g', c', cur', h1, _, h2, _⟩
          · cases h1
          · cases h1
            exact Blk.ne bM (show Blk W4 g 59 cur' from h2) (by decide)
        have bR5 := bR4.far (p := ⟨g, i, none⟩) hRg (ptrN y'.p)
        have bM5 := bM.far (p := ⟨g, i, none⟩) hMg4 (ptrN y'.p)
        have hal5 := hal.out.grown s1.2 (fun r e => by cases e; exact fun hh => by rcases hh.2 with q | q <;> omega)
        have hb5 : Below W1.heap.size W1 (W4.setCell ⟨g, i, none⟩ (ptrN y'.p)) := (bl_trans HB2.out hbA).setCell (p := ⟨g, i, none⟩) hg1 _
        obtain ⟨W5, hW5⟩ : ∃ W5, W5 = W4.setCell ⟨g, i, none⟩ (ptrN y'.p) := ⟨_, rfl⟩
        rw [← hW5] at ho1b ho2b bR5 bM5 hal5 hb5
        have HW5 := Lib.hid hW5
        have m0 := bM5.cell 0
        have m1 := bM5.cell 1
        simp at m0 m1
        have HO1b := Lib.hid ho1b; have HO2b := Lib.hid ho2b; have BR5 := Lib.hid bR5; have HAL := Lib.hid hal5; have HB5 := Lib.hid hb5
        clear ho1 ho2 ho1b ho2b bR4 bR5 s1 hal hal5 hb5 bM bM5 hMg4 hW5 hy HO1 HO2 BR2 x0 x1 k0 HR1 HR2
        rcases HAL.out with ⟨rfl, hi1, hi2, hi3, hi4, hi5⟩ | ⟨z, rfl, hi1, hi2, hi3, hi4, hi5, hi6, hi7, hi8⟩
        · clear HAL
          have hy := HY.out
          have hkids : ∀ t ∈ ks.set i y', IsN (offR F R) h' W5 t ∧ 3 ≤ t.n ∧ t.n ≤ 8 := fun t ht => by
            rcases List.mem_or_eq_of_mem_set ht with e | rfl
            · exact ((HN1.out.below HB5.out).kids h' rfl).2 t e
            · exact ⟨hi1.mono (fun b h => h.1), by have := HYN.out.1; omega, hi4⟩
          have hfl2 : (ks.map Kid.l).length = ps.length + 1 := by rw [List.length_map]; exact hkl
          have hKL : weave ps ((ks.set i y').map Kid.l) = putL x.l p := by
            have h1 := put_child hfl2 hil HFL.out HSW.out hlo.out hno.out
            rw [List.map_set, (weave_child hfl2 hil HFL.out).1 y'.l, hi2, ← h1, ← HND.out.l]
          have hsum : ps.length + kidsSum (ks.set i y') ≤ 1000000 := by
            have h1 := kids_len (ps := ps) (ks := ks.set i y') (.inr (by rw [List.length_set]; exact hkl))
            have h2 := putL_len (l := x.l) (by rw [HND.out.l]; exact HSW.out) p
            rw [hKL] at h1
            omega
          have hfr : Frm w.heap.size x.N (allN (ks.set i y')) (2 * (h' + 1)) := by
            have h1 : Frm w.heap.size y.N (allN [y']) (2 * h' + 1) := by rw [allN_cons]; simpa [allN] using hi5
            have h2 := Frm.kids (ys := [y']) hy HOLD.out h1
            rw [set_parts hy]
            exact (h2.sub HSUB.out).mono (by omega)
          have HK := Lib.hid hkids; have HKL := Lib.hid hKL; have HFR := Lib.hid hfr; have HSUM := Lib.hid hsum
          clear hy hkids hfl2 hKL hsum hfr hi1 hi2 hi3 hi4 hi5
          go_wp2_with fail
          rw [← HW5.out]
          have ho1b := HO1b.out
          have ho2c : W5.ownsRow W1.heap.size 59 1 (.slice (some ⟨g, 0, none⟩) (ps.length + 1) vbc) (ks.set i y').length (flatE encK (ks.set i y')) := by rw [List.length_set, ← hkl]; exact HO2b.out
          have hFw : ∀ b, W1.heap.size ≤ b → offR F R b := fun b hb => HF.out b (by omega)
          have bR5 := BR5.out
          have hB5 : Below w.heap.size w W5 := bl_trans HB1.out HB5.out
          refine (made_any (F := offR F R) ps (ks.set i y') _ _ W5 (IsRow.of_row encKV_len ho1b (by unfold maxLen; omega)) (IsRow.of_row encK_len ho2c (by rw [List.length_set]; unfold maxLen; omega)) (SzOk.of (fun t ht => (HK.out t ht).1)) (by have := HSUM.out; omega) (by rw [List.length_set]; omega) (fun b hb => HF.out b (by have := HB5.out.size; omega)) (InF.of_row ho1b hFw) (InF.of_row ho2c hFw)).mono ?_
          rintro e W6 ⟨q, rfl, hq, hn, hb6⟩
          have bR6 := bR5.below hb6 bR5.lt
          have hB6 := bl_trans hB5 hb6
          have hwq : w.heap.size ≤ q := Nat.le_trans hB5.size hq
          have z0 := bR6.cell 0
          have z1 := bR6.cell 1
          have fz0 := bR6.frozen 0
          have fz1 := bR6.frozen 1
          simp at z0 z1
          have hfin : ∀ u0 u1, PutPost F (h' + 1) x p w (.returned (.tuple #[ptrN q, agg0, .pointer none])) ((W6.setCell ⟨R, 0, none⟩ u0).setCell ⟨R, 1, none⟩ u1) := fun u0 u1 => put_fin1 (ps := ps) (ks := ks.set i y') hwR hB6 hwq hn (fun e => by cases e) (fun h'' e => by cases e; exact ⟨by rw [List.length_set]; exact hkl, fun t ht => ⟨(HK.out t ht).1.below hb6, (HK.out t ht).2⟩⟩) (HKL.out) (hlp) (by rw [HND.out.n]; exact Nat.le_refl _) (HFR.out)
          have HFIN := Lib.hid hfin
          have BR := Lib.hid bR6
          clear hfin bR6 hB6 hb6 hq hn hB5 bR5
          go_wp2
          have bF := (BR.out.set 0 (.string ⟨#[]⟩)).set 1 (.string ⟨#[]⟩)
          have g0 := bF.cell 0
          have g1 := bF.cell 1
          simp at g0 g1
          refine bodyPost_ret (v := .tuple #[ptrN q, agg0, .pointer none]) (by simp [results, Tryz.f21, go_sem, g0, g1]) rfl ?_
          exact HFIN.out _ _
        · clear HAL
          have bV : Blk (W5.alloc (.cells #[.string m.k, .string m.v] 36)) W5.heap.size 36 (encKV m).toArray := Blk.new _ _ _
          have hins : Calls Tryz.prog 49 #[.slice va ps.length vac, .int .i64 i, .slice (some ⟨W5.heap.size, 0, none⟩) 1 1] (W5.alloc (.cells #[.string m.k, .string m.v] 36)) (InsPost 36 2 encKV W1.heap.size ps m i (.slice va ps.length vac) (W5.alloc (.cells #[.string m.k, .string m.v] 36))) := insP_any ps m W1.heap.size W5.heap.size i _ _ (HO1b.out.alloc _) bV (fun e => by have := (HO1b.out.lt _ e).2; omega) (by have := HB5.out.size; simp; omega) hil (by omega)
          have HINS := Lib.hid hins
          have HI := Lib.hid (And.intro hi3 (And.intro hi4 (And.intro hi5 (And.intro hi6 (And.intro hi7 hi8)))))
          have HY1 := Lib.hid hi1
          have HZ1 := Lib.hid hi2
          clear hins bV hi1 hi2 hi3 hi4 hi5 hi6 hi7 hi8
          go_upto_region 8 with (fail)
          rw [← HW5.out]
          go_wp2_with fail
          refine HINS.out.mono ?_
          rintro e W6 ⟨v3, rfl, ho3, hg3, _⟩
          have hown3 : ∀ r, (Value.slice va ps.length vac).ownBlock = some r → ¬ midF F R W1.heap.size W2.heap.size r := fun r e hh => by have := HVA.out r e; rcases hh.2 with q | q <;> omega
          have hy6 := (HY1.out.below (bl_alloc W5 (.cells #[.string m.k, .string m.v] 36))).grown hg3 hown3
          have hz6 := (HZ1.out.below (bl_alloc W5 (.cells #[.string m.k, .string m.v] 36))).grown hg3 hown3
          have ho2_6 : W6.ownsRow W1.heap.size 59 1 (.slice (some ⟨g, 0, none⟩) ks.length vbc) ks.length (flatE encK (ks.set i y')) := (HO2b.out.alloc (.cells #[.string m.k, .string m.v] 36)).kept hg3 (by
            rcases hvo : (Value.slice va ps.length vac).ownBlock with _ | r
            · exact .inr (fun e => by cases e)
            · exact .inr (fun e => by cases e; exact rows_apart HO1b.out HO2b.out g hvo rfl))
          have bR6 := (BR5.out.alloc (.cells #[.string m.k, .string m.v] 36)).kept hg3 (fun e => by have := (HVA.out R e.symm).1; omega)
          have hb6 : Below W1.heap.size W1 W6 := (HB5.out.alloc HB5.out.size (.cells #[.string m.k, .string m.v] 36)).grown hg3 (by have := HB5.out.size; simp; omega) (fun k e => (HVA.out k e).1)
          have bV : Blk (W6.alloc (.cells #[ptrN z.p] 59)) W6.heap.size 59 (encK z).toArray := Blk.new _ _ _
          have ho2_7 : (W6.alloc (.cells #[ptrN z.p] 59)).ownsRow W1.heap.size 59 1 (.slice (some ⟨g, 0, none⟩) (ps.length + 1) vbc) (ks.set i y').length (flatE encK (ks.set i y')) := by
            have := ho2_6.alloc (.cells #[ptrN z.p] 59)
            rw [List.length_set]
            rwa [← hkl]
          have hins : Calls Tryz.prog 50 #[.slice (some ⟨g, 0, none⟩) (ps.length + 1) vbc, .int .i64 ((i : Int) + 1), .slice (some ⟨W6.heap.size, 0, none⟩) 1 1] (W6.alloc (.cells #[ptrN z.p] 59)) (InsPost 59 1 encK W1.heap.size (ks.set i y') z (i + 1) (.slice (some ⟨g, 0, none⟩) (ps.length + 1) vbc) (W6.alloc (.cells #[ptrN z.p] 59))) := insK_any (ks.set i y') z W1.heap.size W6.heap.size (i + 1) _ _ ho2_7 bV (fun e => by have := (ho2_6.lt g rfl).2; have e' : g = W6.heap.size := Option.some.inj e; omega) (by have := hb6.size; have h2 := (bl_alloc W6 (.cells #[ptrN z.p] 59)).size; omega) (by rw [List.length_set]; omega) (by rw [List.length_set]; omega)
          have HINS2 := Lib.hid hins
          have HO3 := Lib.hid ho3; have HO26 := Lib.hid ho2_6; have BR6 := Lib.hid bR6; have HB6 := Lib.hid hb6; have HY6 := Lib.hid hy6; have HZ6 := Lib.hid hz6
          clear hins bV ho2_7 ho2_6 ho3 bR6 hb6 hy6 hz6 hg3 HINS HY1 HZ1 m0 m1
          go_wp2_with fail
          refine HINS2.out.mono ?_
          rintro e W7 ⟨v4, rfl, ho4, hg4, _⟩
          have hng : ∀ r, (Value.slice (some ⟨g, 0, none⟩) (ps.length + 1) vbc).ownBlock = some r → ¬ midF F R W1.heap.size W2.heap.size r := fun r e hh => by have e' : g = r := Option.some.inj e; subst e'; rcases hh.2 with q | q <;> omega
          have hy7 := ((HY6.out.below (bl_alloc W6 (.cells #[ptrN z.p] 59))).grown hg4 hng).mono (G := offR F R) (fun b h => h.1)
          have hz7 := ((HZ6.out.below (bl_alloc W6 (.cells #[ptrN z.p] 59))).grown hg4 hng).mono (G := offR F R) (fun b h => h.1)
          have ho3_7 := (HO3.out.alloc (.cells #[ptrN z.p] 59)).kept hg4 (by
            rcases hvo : v3.ownBlock with _ | r
            · exact .inl rfl
            · exact .inr (fun e => by cases e; exact rows_apart HO3.out HO26.out g hvo rfl))
          have bR7 := (BR6.out.alloc (.cells #[ptrN z.p] 59)).kept hg4 (fun e => by have e' : R = g := Option.some.inj e; omega)
          have hb7 : Below W1.heap.size W1 W7 := (HB6.out.alloc HB6.out.size (.cells #[ptrN z.p] 59)).grown hg4 (by have := HB6.out.size; simp; omega) (fun k e => by have e' : g = k := Option.some.inj e; rw [← e']; exact hg1)
          have hB7 := bl_trans HB1.out hb7
          have hy := HY.out
          obtain ⟨PS, hPS⟩ : ∃ PS, PS = ps.take i ++ m :: ps.drop i := ⟨_, rfl⟩
          obtain ⟨KS, hKS⟩ : ∃ KS, KS = (ks.set i y').take (i + 1) ++ z :: (ks.set i y').drop (i + 1) := ⟨_, rfl⟩
          have hKP : KS = ks.take i ++ ([y', z] ++ ks.drop (i + 1)) := hKS.trans (ins_parts hy)
          have hlP : PS.length = ps.length + 1 := by rw [hPS]; simp; omega
          have hlK : KS.length = PS.length + 1 := by rw [hKP]; simp; omega
          rw [← hPS] at ho3_7
          rw [← hKS] at ho4
          have hoP : W7.ownsRow W1.heap.size 36 2 v3 PS.length (flatE encKV PS) := by rw [hlP]; exact ho3_7
          have hoK : W7.ownsRow W1.heap.size 59 1 v4 KS.length (flatE encK KS) := by
            have : KS.length = (ks.set i y').length + 1 := by rw [hlK, hlP, List.length_set, hkl]
            rw [this]; exact ho4
          have hkids : ∀ t ∈ KS, IsN (offR F R) h' W7 t ∧ 3 ≤ t.n ∧ t.n ≤ 8 := fun t ht => by
            rw [hKP] at ht
            have hk := fun e : t ∈ ks => ((HN1.out.below hb7).kids h' rfl).2 t e
            rcases List.mem_append.1 ht with e | e
            · exact hk (List.mem_of_mem_take e)
            · rcases List.mem_append.1 e with e | e
              · simp only [List.mem_cons, List.not_mem_nil, or_false] at e
                rcases e with rfl | rfl
                · exact ⟨hy7, HI.out.2.1, HI.out.2.2.1⟩
                · exact ⟨hz7, HI.out.2.2.2.1, HI.out.2.2.2.2.1⟩
              · exact hk (List.mem_of_mem_drop e)
          have hfl2 : (ks.map Kid.l).length = ps.length + 1 := by rw [List.length_map]; exact hkl
          have hKL : weave PS (KS.map Kid.l) = putL x.l p := by
            have h1 := put_child hfl2 hil HFL.out HSW.out hlo.out hno.out
            have h2 := (weave_child hfl2 hil HFL.out).2.2 y'.l m z.l
            rw [← HI.out.1, ← h1, ← HND.out.l] at h2
            rw [← h2, hPS, hKP]
            simp [List.map_take, List.map_drop]
          have hsum : PS.length + kidsSum KS ≤ 1000000 := by
            have h1 := kids_len (ps := PS) (ks := KS) (.inr hlK)
            have h2 := putL_len (l := x.l) (by rw [HND.out.l]; exact HSW.out) p
            rw [hKL] at h1
            omega
          have hfr : Frm w.heap.size x.N (allN KS) (2 * (h' + 1)) := by
            have h1 : Frm w.heap.size y.N (allN [y', z]) (2 * h' + 2) := by rw [allN_cons, allN_cons]; simpa [allN] using HI.out.2.2.2.2.2
            have h2 := Frm.kids (ys := [y', z]) hy HOLD.out h1
            rw [hKP]
            exact (h2.sub HSUB.out).mono (by omega)
          have hFw : ∀ b, W1.heap.size ≤ b → offR F R b := fun b hb => HF.out b (by omega)
          have HIP := Lib.hid (InF.of_row hoP hFw)
          have HIK := Lib.hid (InF.of_row hoK hFw)
          have hFw7 : ∀ b, W7.heap.size ≤ b → offR F R b := fun b hb => HF.out b (by have := hb7.size; omega)
          have HFW := Lib.hid hFw7
          have HK := Lib.hid hkids; have HKL := Lib.hid hKL; have HFR := Lib.hid hfr; have HSUM := Lib.hid hsum; have HOP := Lib.hid hoP; have HOK := Lib.hid hoK
          clear hy hkids hfl2 hKL hsum hfr hPS hKS hKP ho3_7 ho4 hoP hoK hFw hFw7 hy7 hz7 hb7 hg4 hng hown3 HY6 HZ6 HO3 HO26 BR6 HB6 HINS2 HI HO1b HO2b BR5 HB5
          by_cases hc : ps.length + 1 ≤ 8
          · obtain ⟨v3a, v3c, rfl⟩ := row_slice HOP.out
            obtain ⟨v4a, v4c, rfl⟩ := row_slice HOK.out
            have hc' : PS.length ≤ 8 := by omega
            have hlK9 : KS.length ≤ 9 := by omega
            have HLP := Lib.hid hlP; have HLK := Lib.hid hlK
            clear hlP hlK hc
            go_wp2_with fail
            refine (made_any (F := offR F R) PS KS _ _ W7 (IsRow.of_row encKV_len HOP.out (by unfold maxLen; omega)) (IsRow.of_row encK_len HOK.out (by unfold maxLen; omega)) (SzOk.of (fun t ht => (HK.out t ht).1)) (by have := HSUM.out; omega) (by omega) HFW.out HIP.out HIK.out).mono ?_
            rintro e W8 ⟨q, rfl, hq, hn, hb8⟩
            have bR8 := bR7.below hb8 bR7.lt
            have hB8 := bl_trans hB7 hb8
            have hwq : w.heap.size ≤ q := Nat.le_trans hB7.size hq
            have z0 := bR8.cell 0
            have z1 := bR8.cell 1
            have fz0 := bR8.frozen 0
            have fz1 := bR8.frozen 1
            simp at z0 z1
            have hfin : ∀ u0 u1, PutPost F (h' + 1) x p w (.returned (.tuple #[ptrN q, agg0, .pointer none])) ((W8.setCell ⟨R, 0, none⟩ u0).setCell ⟨R, 1, none⟩ u1) := fun u0 u1 => put_fin1 (ps := PS) (ks := KS) hwR hB8 hwq hn (fun e => by cases e) (fun h'' e => by cases e; exact ⟨HLK.out, fun t ht => ⟨(HK.out t ht).1.below hb8, (HK.out t ht).2⟩⟩) (HKL.out) (hc') (by rw [HND.out.n, HLP.out]; omega) (HFR.out)
            have HFIN := Lib.hid hfin
            have BR := Lib.hid bR8
            clear hfin bR8 hB8 hb8 hq hn hB7 bR7
            go_wp2
            have bF := (BR.out.set 0 (.string ⟨#[]⟩)).set 1 (.string ⟨#[]⟩)
            have g0 := bF.cell 0
            have g1 := bF.cell 1
            simp at g0 g1
            refine bodyPost_ret (v := .tuple #[ptrN q, agg0, .pointer none]) (by simp [results, Tryz.f21, go_sem, g0, g1]) rfl ?_
            exact HFIN.out _ _
          · skip
            have e9 : PS.length = 9 := by omega
            have e10 : KS.length = 10 := by omega
            have hoP := HOP.out
            have hoK := HOK.out
            have hip := HIP.out
            have hik := HIK.out
            obtain ⟨g3, c3, rfl, hg31, hg32⟩ := World.ownsRow.form (n := 9) (by rw [← e9]; exact hoP) (by omega)
            obtain ⟨g4, c4, rfl, hg41, hg42⟩ := World.ownsRow.form (n := 10) (by rw [← e10]; exact hoK) (by omega)
            have hoP9 : W7.ownsRow W1.heap.size 36 2 (.slice (some ⟨g3, 0, none⟩) PS.length c3) PS.length (flatE encKV PS) := by
              rw [e9] at hoP ⊢; exact hoP
            have hoK9 : W7.ownsRow W1.heap.size 59 1 (.slice (some ⟨g4, 0, none⟩) KS.length c4) KS.length (flatE encK KS) := by
              rw [e10] at hoK ⊢; exact hoK
            obtain ⟨mm, hm⟩ : ∃ mm, PS[4]? = some mm := ⟨_, List.getElem?_eq_getElem (by omega)⟩
            have y0 : W7.cell? ⟨g3, 8, none⟩ = some (.string mm.k) := by
              have := hoP9.cells (g := g3) rfl (4 * 2 + 0) _ (flatE_at encKV_len PS 4 mm hm 0 _ rfl)
              rwa [Go.WideShapes.add_plain, Nat.zero_add] at this
            have y1 : W7.cell? ⟨g3, 9, none⟩ = some (.string mm.v) := by
              have := hoP9.cells (g := g3) rfl (4 * 2 + 1) _ (flatE_at encKV_len PS 4 mm hm 1 _ rfl)
              rwa [Go.WideShapes.add_plain, Nat.zero_add] at this
            have hgF3 : offR F R g3 := HF.out g3 (by omega)
            have hgF4 : offR F R g4 := HF.out g4 (by omega)
            have hsum := HSUM.out
            have hm1 : ∀ W, Below W7.heap.size W7 W → Calls Tryz.prog 22 #[.slice (some ⟨g3, 0, none⟩) 4 4, .slice (some ⟨g4, 0, none⟩) 5 5] W (MadePost (offR F R) (PS.take 4) (KS.take 5) W) := fun W hb =>
              made_any (PS.take 4) (KS.take 5) _ _ W ((row_head encKV_len hoP9 (by omega) 4 4 (by omega)).below hb) ((row_head encK_len hoK9 (by omega) 5 5 (by omega)).below hb) (SzOk.of (fun t ht => (HK.out t (List.mem_of_mem_take ht)).1.below hb)) (by have := kidsSum_le KS 5; rw [List.length_take]; omega) (by rw [List.length_take]; omega) (fun b hb' => HFW.out b (Nat.le_trans hb.size hb')) (InF.at hgF3 _ _) (InF.at hgF4 _ _)
            have hm2 : ∀ W, Below W7.heap.size W7 W → Calls Tryz.prog 22 #[.slice (some ⟨g3, 10, none⟩) 4 (c3 - 5), .slice (some ⟨g4, 5, none⟩) 5 (c4 - 5)] W (MadePost (offR F R) (PS.drop 5) (KS.drop 5) W) := fun W hb =>
              made_any (PS.drop 5) (KS.drop 5) _ _ W ((row_tail encKV_len hoP9 (by omega) 5 _ 10 4 (by omega) (by omega)).below hb) ((row_tail encK_len hoK9 (by omega) 5 _ 5 5 (by omega) (by omega)).below hb) (SzOk.of (fun t ht => (HK.out t (List.mem_of_mem_drop ht)).1.below hb)) (by have := kidsSum_drop KS 5; rw [List.length_drop]; omega) (by rw [List.length_drop]; omega) (fun b hb' => HFW.out b (Nat.le_trans hb.size hb')) (InF.at hgF3 _ _) (InF.at hgF4 _ _)
            have hcut : weave (PS.take 4) ((KS.take 5).map Kid.l) ++ mm :: weave (PS.drop 5) ((KS.drop 5).map Kid.l) = putL x.l p := by
              have := weave_cut (fs := KS.map Kid.l) hm (.inr (by rw [List.length_map]; exact hlK))
              rw [← HKL.out, this, List.map_take, List.map_drop]
            have hcap3 : 9 ≤ c3 ∧ c3 ≤ 9223372036854775807 := by
              have hq := hoP
              rw [e9] at hq
              rcases hq.2 with ⟨h1, _⟩ | ⟨g', c', cur', h1, _, _, h2, h3, _⟩
              · cases h1
              · cases h1; unfold maxLen at h3; omega
            have hcap4 : 10 ≤ c4 ∧ c4 ≤ 9223372036854775807 := by
              have hq := hoK
              rw [e10] at hq
              rcases hq.2 with ⟨h1, _⟩ | ⟨g', c', cur', h1, _, _, h2, h3, _⟩
              · cases h1
              · cases h1; unfold maxLen at h3; omega
            obtain ⟨hc31, hc32⟩ := hcap3
            obtain ⟨hc41, hc42⟩ := hcap4
            have hcx : ¬ (c3 = 5) := by omega
            have hcy : ¬ (c4 = 5) := by omega
            have hcz : (4 : Int) ≤ (c3 : Int) := by omega
            have hw5 : IntKind.i64.wrap 5 = 5 := IntWalk.i64_in _ (by omega)
            have hcz2 : (5 : Int) ≤ (c4 : Int) := by omega
            have hlens : (PS.take 4).length = 4 ∧ (PS.drop 5).length = 4 ∧ (KS.take 5).length = 5 ∧ (KS.drop 5).length = 5 := by
              rw [List.length_take, List.length_drop, List.length_take, List.length_drop]; omega
            have HM1 := Lib.hid hm1; have HM2 := Lib.hid hm2; have HCUT := Lib.hid hcut; have BR7 := Lib.hid bR7; have HB7 := Lib.hid hB7; have HLEN := Lib.hid hlens
            have hRg : R ≠ g3 := by omega
            have hgR : g3 ≠ R := by omega
            clear hm1 hm2 hcut hm hoP hoK hoP9 hoK9 bR7 hB7 hgF3 hgF4 hsum hlens hip hik hlP hlK e9 e10 hc HOP HOK HIP HIK hg31 hg41
            go_upto_region 18 with (fail)
            go_region_held3 (fun w' => w'.cell? ⟨g3, 8, none⟩ = some (.string mm.k) ∧ w'.cell? ⟨g3, 9, none⟩ = some (.string mm.v)) (first | go_keep | (go_split_ands; exact ⟨(hb9.cell (p := ⟨g3, 8, none⟩) hgz4).trans (by assumption), (hb9.cell (p := ⟨g3, 9, none⟩) hgz4).trans (by assumption)⟩) | (go_split_ands; exact ⟨(hb8.cell (p := ⟨g3, 8, none⟩) hg32).trans (by go_simp), (hb8.cell (p := ⟨g3, 9, none⟩) hg32).trans (by go_simp)⟩)) (first | ((with_reducible refine (HM1.out _ (bl_drew _)).mono ?_); rintro e W8 ⟨q, rfl, hq, hn, hb8⟩; have hgz4 : g3 < W8.heap.size := Nat.lt_of_lt_of_le hg32 hb8.size; have bR8 := BR7.out.drew.below hb8 BR7.out.lt) | ((with_reducible refine (HM2.out _ (bl_trans (bl_drew _) hb8)).mono ?_); rintro e W9 ⟨q', rfl, hq', hn', hb9⟩; have bR9 := bR8.below hb9 bR8.lt; have r0 := bR9.cell 0; have r1 := bR9.cell 1; have fr0 := bR9.frozen 0; have fr1 := bR9.frozen 1; simp at r0 r1))
            all_goals
              try clear h
              have hb79 : Below W7.heap.size W7 W9 := bl_trans ((bl_drew W7).trans (hb8.mono (Nat.le_refl _))) hb9
              have hB9 : Below w.heap.size w W9 := bl_trans HB7.out hb79
              have hwq : w.heap.size ≤ q := Nat.le_trans HB7.out.size hq
              have hwq' : w.heap.size ≤ q' := by have := hb8.size; have : W7.heap.size ≤ W8.heap.size := this; have := HB7.out.size; omega
              have hfin : ∀ u0 u1, PutPost F (h' + 1) x p w (.returned (.tuple #[ptrN q, aggP mm, ptrN q'])) ((W9.setCell ⟨R, 0, none⟩ u0).setCell ⟨R, 1, none⟩ u1) := fun u0 u1 => put_fin2 (ps := PS.take 4) (ks := KS.take 5) (ps' := PS.drop 5) (ks' := KS.drop 5) hwR hB9 hwq hwq' (hn.below hb9) hn' (fun e => by cases e) (fun h'' e => by
                cases e
                refine ⟨by rw [HLEN.out.1, HLEN.out.2.2.1], by rw [HLEN.out.2.1, HLEN.out.2.2.2], fun t ht => ?_⟩
                rw [List.take_append_drop] at ht
                exact ⟨(HK.out t ht).1.below hb79, (HK.out t ht).2⟩) HCUT.out (by rw [HLEN.out.1]; omega) (by rw [HLEN.out.1]; omega) (by rw [HLEN.out.2.1]; omega) (by rw [HLEN.out.2.1]; omega) (by rw [← allN_append, List.take_append_drop]; exact HFR.out)
              have HFIN := Lib.hid hfin
              have bF := (bR9.set 0 (.string mm.k)).set 1 (.string mm.v)
              have g0 := bF.cell 0
              have g1 := bF.cell 1
              simp at g0 g1
              clear hfin
              go_wp2
              refine bodyPost_ret (v := .tuple #[ptrN q, aggP mm, ptrN q']) (by simp [results, Tryz.f21, go_sem, g0, g1]) rfl ?_
              exact HFIN.out _ _
  · obtain ⟨q0, hq0, hq1⟩ := hok.yes rfl
    clear hok
    have hi : i < ps.length := (List.getElem?_eq_some_iff.1 hq0).1
    obtain ⟨g, cap, hv, hg1, hg2⟩ := ho1.form (by omega)
    obtain ⟨rfl, rfl⟩ : va = some ⟨g, 0, none⟩ ∧ vac = cap := by simpa using hv
    clear hv
    have y0 : W2.cell? ⟨g, i * 2, none⟩ = some (.string q0.k) := by
      have := ho1.cells (g := g) rfl (i * 2 + 0) _ (flatE_at encKV_len ps i q0 hq0 0 _ rfl)
      rwa [Go.WideShapes.add_plain, Nat.zero_add] at this
    have y1 : W2.cell? ⟨g, i * 2 + 1, none⟩ = some (.string q0.v) := by
      have := ho1.cells (g := g) rfl (i * 2 + 1) _ (flatE_at encKV_len ps i q0 hq0 1 _ rfl)
      rwa [Go.WideShapes.add_plain, Nat.zero_add] at this
    have fy0 := ho1.frozenAt (i * 2)
    have fy1 := ho1.frozenAt (i * 2 + 1)
    have s1 := ho1.stored (i * 2) (.string p.k)
    have s2 := s1.1.stored (i * 2 + 1) (.string p.v)
    have ho3 := s2.1
    rw [set_P] at ho3
    have hg3 := s1.2.trans s2.2
    have ho4 := ho2.kept hg3 (.inr (rows_apart ho1 ho2 g rfl))
    have hb3 : Below W1.heap.size W1 ((W2.setCell ⟨g, i * 2, none⟩ (.string p.k)).setCell ⟨g, i * 2 + 1, none⟩ (.string p.v)) := (hb2.setCell (p := ⟨g, i * 2, none⟩) hg1 _).setCell (p := ⟨g, i * 2 + 1, none⟩) hg1 _
    have hRg : R ≠ g := by omega
    have bR3 := (bR2.far (p := ⟨g, i * 2, none⟩) hRg (.string p.k)).far (p := ⟨g, i * 2 + 1, none⟩) hRg (.string p.v)
    have hB3 : Below w.heap.size w ((W2.setCell ⟨g, i * 2, none⟩ (.string p.k)).setCell ⟨g, i * 2 + 1, none⟩ (.string p.v)) := bl_trans HB1.out hb3
    have HO3 := Lib.hid ho3; have HO4 := Lib.hid ho4; have HG := Lib.hid hg1; have BR3 := Lib.hid bR3; have HB3 := Lib.hid hB3; have HBB := Lib.hid hb3; have HQ := Lib.hid (And.intro hq0 hq1)
    clear ho1 ho2 s1 s2 ho3 ho4 hg3 hb3 bR3 hB3 bR2 bX2 hb2 hB2 hq0 hq1 hRg
    go_wp2_with fail
    obtain ⟨W3, hW3⟩ : ∃ W3, W3 = (W2.setCell ⟨g, i * 2, none⟩ (.string p.k)).setCell ⟨g, i * 2 + 1, none⟩ (.string p.v) := ⟨_, rfl⟩
    have ho3 := HO3.out
    have ho4 := HO4.out
    have hB3 := HB3.out
    have hb3 := HBB.out
    have bR3 := BR3.out
    rw [← hW3] at ho3 ho4 hB3 hb3 bR3 ⊢
    have ho5 : W3.ownsRow W1.heap.size 36 2 (.slice (some ⟨g, 0, none⟩) ps.length vac) (ps.set i p).length (flatE encKV (ps.set i p)) := by rw [List.length_set]; exact ho3
    have hFw : ∀ b, W1.heap.size ≤ b → offR F R b := fun b hb => HF.out b (by omega)
    have hnd3 := HN1.out.below hb3
    refine (made_any (F := offR F R) (ps.set i p) ks _ _ W3 (IsRow.of_row encKV_len ho5 (by rw [List.length_set]; unfold maxLen; omega)) (IsRow.of_row encK_len ho4 (by unfold maxLen; omega)) hnd3.sz (by rw [List.length_set]; omega) (by omega) (fun b hb => HF.out b (by have := hb3.size; omega)) (InF.of_row ho5 hFw) (InF.of_row ho4 hFw)).mono ?_
    rintro e W4 ⟨q, rfl, hq, hn, hb4⟩
    have bR4 := bR3.below hb4 bR3.lt
    have hB4 := bl_trans hB3 hb4
    have hwq : w.heap.size ≤ q := Nat.le_trans hB3.size hq
    have z0 := bR4.cell 0
    have z1 := bR4.cell 1
    have fz0 := bR4.frozen 0
    have fz1 := bR4.frozen 1
    simp at z0 z1
    have hfin : ∀ u0 u1, PutPost F h x p w (.returned (.tuple #[ptrN q, agg0, .pointer none])) ((W4.setCell ⟨R, 0, none⟩ u0).setCell ⟨R, 1, none⟩ u1) := fun u0 u1 => put_fin1 (ps := ps.set i p) (ks := ks) hwR hB4 hwq hn (fun e => HND.out.leaf e) (fun h' e => ⟨by rw [List.length_set]; exact (HND.out.kids h' e).1, ((HND.out.below hB4).kids h' e).2⟩) ((put_found HQ.out.1 HQ.out.2 HSF.out HSW.out).trans (by rw [← HND.out.l])) (by rw [List.length_set]; exact hlp) (by rw [List.length_set, HND.out.n]; exact Nat.le_refl _) ((Frm.old HSUB.out HOLD.out).mono (Nat.zero_le _))
    have HFIN := Lib.hid hfin
    have BR := Lib.hid bR4
    clear hfin bR4 hB4 hb4 hq hn hB3 bR3
    go_wp2
    have bF := (BR.out.set 0 (.string ⟨#[]⟩)).set 1 (.string ⟨#[]⟩)
    have g0 := bF.cell 0
    have g1 := bF.cell 1
    simp at g0 g1
    refine bodyPost_ret (v := .tuple #[ptrN q, agg0, .pointer none]) (by simp [results, Tryz.f21, go_sem, g0, g1]) rfl ?_
    exact HFIN.out _ _
end Go.Proofs.YtaiiibbnjmjamaaGreatDoor
