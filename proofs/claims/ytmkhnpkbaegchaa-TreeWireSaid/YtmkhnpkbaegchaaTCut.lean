/- The walk of cut: a node without its last pair, and that pair. Conditions: the node and all below it lie in memory. -/
import Derived.Test.YtmkhnpkbaegchaaTFilZ
namespace Go.Proofs.Ytmkhnpkbaegchaa
open Go.RowKit

theorem Kep.cell {g1 g2 : Nat} {w W : World} (h : Kep g1 g2 w W) {p : Addr} (hlt : p.block < w.heap.size) (h1 : p.block ≠ g1) (h2 : p.block ≠ g2) : W.cell? p = w.cell? p := World.cell?_of_block (h.block _ hlt h1 h2)
theorem Kep.blk {g1 g2 b t : Nat} {w W : World} {cs : Array Value} (h : Kep g1 g2 w W) (hb : Blk w b t cs) (h1 : b ≠ g1) (h2 : b ≠ g2) : Blk W b t cs := (h.block _ hb.lt h1 h2).trans hb
theorem FIn.below {F : Nat → Prop} {h B g1 c1 n1 g2 c2 n2 i : Nat} {ps : List KV} {ks : List Kid} {w W : World} (hin : FIn F h B g1 c1 n1 g2 c2 n2 i ps ks w) (hb : Below w.heap.size w W) : FIn F h B g1 c1 n1 g2 c2 n2 i ps ks W :=
  ⟨⟨hin.st.lp, hin.st.lk, row_below hin.st.rp hb, row_below hin.st.rk hb, Kep.refl _ _ _⟩, Nat.le_trans hin.hB hb.size, hin.hF, hin.len, hin.n0, hin.n8, hin.hi, hin.sum, fun t y hy => ⟨(hin.kid t y hy).1.below hb, (hin.kid t y hy).2⟩⟩
def CutPost (F : Nat → Prop) (h : Nat) (x : Kid) (w : World) (e : Ending) (w' : World) : Prop :=
  ∃ y q, e = .returned (.tuple #[ptrN y.p, aggP q]) ∧ IsN F h w' y ∧ x.l = y.l ++ [q] ∧ x.n ≤ y.n + 1 ∧ y.n ≤ x.n ∧ Frm w.heap.size x.N y.N (3 * h + 1) ∧ w.heap.size ≤ y.p ∧ Below w.heap.size w w'
set_option maxRecDepth 100000 in
set_option maxHeartbeats 8000000 in
theorem cut_leaf {F : Nat → Prop} (x : Kid) (w : World) (hx : IsN F 0 w x) (hn1 : 1 ≤ x.n) (hn8 : x.n ≤ 8) (hF : ∀ b, w.heap.size ≤ b → F b) :
    Calls Try.prog 65 #[ptrN x.p] w (CutPost F 0 x w) := by
  obtain ⟨R, hR⟩ : ∃ R, R = w.heap.size := ⟨_, rfl⟩
  have hxo : IsN (offR F R) 0 w x := hx.in.mono (fun b hb => ⟨hb.1, by omega⟩)
  obtain ⟨ps, ks, hnd⟩ := hxo.node
  have hk0 := hnd.leaf rfl
  subst hk0
  have hlp8 : ps.length ≤ 8 := by rw [← hnd.n]; exact hn8
  obtain ⟨n, hn⟩ : ∃ n, ps.length = n + 1 := ⟨ps.length - 1, by rw [← hnd.n]; omega⟩
  obtain ⟨q, hq⟩ : ∃ q, ps[n]? = some q := ⟨_, List.getElem?_eq_getElem (by omega)⟩
  have hcp : ∀ W, Below w.heap.size w W → Calls Try.prog 63 #[ptrN x.p] W (CopPost ps [] W) := fun W hb => copies_any x.p ps [] _ W (hnd.at_.below hb) (by omega) (by simp)
  have HCP := Lib.hid hcp; have HND := Lib.hid hnd; have HF := Lib.hid hF; have HQ := Lib.hid hq
  clear hcp hnd hF hx hxo hq
  go_enter Try.func65, Try.ntmps65
  go_wp2_with fail
  have bR : Blk (w.alloc (.cells #[.string ⟨#[]⟩, .string ⟨#[]⟩] 63)) R 63 #[.string ⟨#[]⟩, .string ⟨#[]⟩] := Blk.at hR _ _
  refine (HCP.out _ (bl_alloc _ _)).mono ?_
  rintro e W2 ⟨v1, v2, rfl, ho1, ho2, hb2⟩
  have bR2 := bR.below hb2 bR.lt
  have hB2 := bl_trans (bl_alloc w (.cells #[.string ⟨#[]⟩, .string ⟨#[]⟩] 63)) hb2
  obtain ⟨g, cp, rfl, hg1, hg2⟩ := ho1.form (by omega)
  obtain ⟨kk, kc, rfl⟩ := row_slice ho2
  rw [← hR]
  have hg1' : R < g := by simp at hg1; omega
  obtain ⟨q0, q1⟩ := row_p0 ho1 HQ.out
  obtain ⟨hc1, hc2⟩ := row_cap ho1
  rw [hn] at hc1
  have hFw : ∀ b, R < b → offR F R b := fun b hb => ⟨HF.out b (by omega), by omega⟩
  have hm1 : ∀ W, Below W2.heap.size W2 W → Calls Try.prog 48 #[.slice (some ⟨g, 0, none⟩) n n, .slice none 0 0] W (MadePost (offR F R) (ps.take n) [] W) := fun W hb =>
    made_any (ps.take n) [] _ _ W ((row_head encKV_len ho1 (by omega) n n (by omega)).below hb) (IsRow.nil _) (fun y hy => by cases hy) (by simp [kidsSum]; omega) (by simp) (fun b hb' => hFw b (by have := hb.size; omega)) (InF.at (hFw g hg1') _ _) (InF.nil _ _ _)
  have HM1 := Lib.hid hm1; have HB2 := Lib.hid hB2; have BR2 := Lib.hid bR2
  have hnc : (n : Int) ≤ (cp : Int) := by omega
  have hnc2 : (n : Int) < (n : Int) + 1 := by omega
  have hnn : (n : Int) ≤ (n : Int) := Int.le_refl _
  have hRg : R ≠ g := by omega
  have hwR : w.heap.size ≤ R := by omega
  clear hm1 hB2 bR2 ho1 ho2 bR hb2 hFw hR
  go_upto_region 4 with (fail)
  go_region_held3 (fun w' => w'.cell? ⟨g, n * 2, none⟩ = some (.string q.k) ∧ w'.cell? ⟨g, n * 2 + 1, none⟩ = some (.string q.v)) (first | go_keep | (go_split_ands; exact ⟨(hb4.cell (p := ⟨g, n * 2, none⟩) hg2).trans (by go_simp), (hb4.cell (p := ⟨g, n * 2 + 1, none⟩) hg2).trans (by go_simp)⟩)) (first | ((with_reducible refine (HM1.out _ (bl_drew _)).mono ?_); rintro e W4 ⟨y, rfl, hy, hny, hb4⟩; have bR4 := BR2.out.drew.below hb4 BR2.out.lt; have r0 := bR4.cell 0; have r1 := bR4.cell 1; have fr0 := bR4.frozen 0; have fr1 := bR4.frozen 1; simp at r0 r1))
  all_goals
    rename_i hHeld
    clear hHeld q0 q1
    have hB4 : Below w.heap.size w W4 := bl_trans HB2.out ((bl_drew W2).trans hb4)
    have hfin : ∀ u0 u1, CutPost F 0 x w (.returned (.tuple #[ptrN y, aggP q])) ((W4.setCell ⟨R, 0, none⟩ u0).setCell ⟨R, 1, none⟩ u1) := fun u0 u1 => by
      have hx4 := IsN.leaf hny (by simp [kidsSum])
      have hxl : x.l = ps := by rw [HND.out.l]; simp [weave_nil]
      have hq' : ps[ps.length - 1]? = some q := by rw [hn, Nat.add_sub_cancel]; exact HQ.out
      have hll := last_leaf hq'
      rw [hn, Nat.add_sub_cancel] at hll
      have hy' : w.heap.size ≤ y := Nat.le_trans HB2.out.size hy
      refine ⟨⟨y, (ps.take n).length, ps.take n, [y]⟩, q, rfl, ?_, by rw [hxl]; exact hll, ?_, ?_, ?_, hy', (hB4.setCell (p := ⟨R, 0, none⟩) hwR _).setCell (p := ⟨R, 1, none⟩) hwR _⟩
      · exact ((hx4.set (R := R) (fun e => e.2 rfl) 0 _).set (R := R) (fun e => e.2 rfl) 1 _).mono (fun b e => e.1)
      · rw [HND.out.n]; show ps.length ≤ (ps.take n).length + 1; rw [List.length_take]; omega
      · rw [HND.out.n]; show (ps.take n).length ≤ ps.length; rw [List.length_take]; omega
      · exact ((Frm.old (B := w.heap.size) (N := x.N) (N' := []) (fun q hq => by cases hq) (fun q hq => by cases hq)).one hy').mono (by omega)
    have HFIN := Lib.hid hfin
    have bF := (bR4.set 0 (.string q.k)).set 1 (.string q.v)
    have g0 := bF.cell 0
    have g1 := bF.cell 1
    simp at g0 g1
    clear hfin bF hB4 hb4 hny hy
    go_wp2
    refine bodyPost_ret (v := .tuple #[ptrN y, aggP q]) (by simp [results, Try.f65, go_sem, g0, g1]) rfl ?_
    exact HFIN.out _ _
set_option maxRecDepth 100000 in
set_option maxHeartbeats 8000000 in
theorem cut_step {F : Nat → Prop} (h : Nat) (x : Kid) (w : World) (hx : IsN F (h + 1) w x) (hlen : x.l.length ≤ 100000) (hn1 : 1 ≤ x.n) (hn8 : x.n ≤ 8) (hF : ∀ b, w.heap.size ≤ b → F b)
    (hrec : ∀ (G : Nat → Prop) (y : Kid) (W : World), IsN G h W y → y.l.length ≤ 100000 → 3 ≤ y.n → y.n ≤ 8 → (∀ b, W.heap.size ≤ b → G b) → Calls Try.prog 65 #[ptrN y.p] W (CutPost G h y W)) :
    Calls Try.prog 65 #[ptrN x.p] w (CutPost F (h + 1) x w) := by
  obtain ⟨R, hR⟩ : ∃ R, R = w.heap.size := ⟨_, rfl⟩
  have hxo : IsN (offR F R) (h + 1) w x := hx.in.mono (fun b hb => ⟨hb.1, by omega⟩)
  have hxi : IsN (fun b => offR F R b ∧ b < w.heap.size) (h + 1) w x := hxo.in
  obtain ⟨ps, ks, hnd⟩ := hxi.node
  obtain ⟨hkl, hkk⟩ := hnd.kids h rfl
  have hlp8 : ps.length ≤ 8 := by rw [← hnd.n]; exact hn8
  obtain ⟨n, hn⟩ : ∃ n, ps.length = n + 1 := ⟨ps.length - 1, by rw [← hnd.n]; omega⟩
  have hkn : ks.length = n + 2 := by omega
  obtain ⟨z, hz⟩ : ∃ z, ks[n + 1]? = some z := ⟨_, List.getElem?_eq_getElem (by omega)⟩
  have hzm := hkk z (List.mem_of_getElem? hz)
  have hsum : ps.length + kidsSum ks ≤ 100000 := by rw [← hnd.len]; exact hlen
  have hzl : z.l.length ≤ kidsSum ks := kidsSum_mem (List.mem_of_getElem? hz)
  have hcp : ∀ W, Below w.heap.size w W → Calls Try.prog 63 #[ptrN x.p] W (CopPost ps ks W) := fun W hb => copies_any x.p ps ks _ W (hnd.at_.below hb) (by omega) (by omega)
  have HCP := Lib.hid hcp; have HND := Lib.hid hnd; have HF := Lib.hid hF; have HZ := Lib.hid hz; have HKK := Lib.hid hkk; have HREC := Lib.hid hrec; have HZM := Lib.hid hzm
  clear hcp hnd hF hx hxo hxi hz hkk hrec hzm
  go_enter Try.func65, Try.ntmps65
  go_wp2_with fail
  have bR : Blk (w.alloc (.cells #[.string ⟨#[]⟩, .string ⟨#[]⟩] 63)) R 63 #[.string ⟨#[]⟩, .string ⟨#[]⟩] := Blk.at hR _ _
  have hws1 : (w.alloc (.cells #[.string ⟨#[]⟩, .string ⟨#[]⟩] 63)).heap.size = w.heap.size + 1 := by simp
  refine (HCP.out _ (bl_alloc _ _)).mono ?_
  rintro e W2 ⟨v1, v2, rfl, ho1, ho2, hb2⟩
  have bR2 := bR.below hb2 bR.lt
  have hB2 := bl_trans (bl_alloc w (.cells #[.string ⟨#[]⟩, .string ⟨#[]⟩] 63)) hb2
  obtain ⟨g1, cp, rfl, hg11, hg12⟩ := ho1.form (by omega)
  obtain ⟨g2, ck, rfl, hg21, hg22⟩ := ho2.form (by omega)
  rw [← hR]
  have hRs : R + 1 = (w.alloc (.cells #[.string ⟨#[]⟩, .string ⟨#[]⟩] 63)).heap.size := by rw [hws1, hR]
  rw [← hRs] at ho1 ho2 hg11 hg21
  have z0 := row_k0 ho2 HZ.out
  have hwR : w.heap.size ≤ R := by omega
  have hRw : R < w.heap.size + 1 := by omega
  have hs2 : R < W2.heap.size := bR2.lt
  have hrc : ∀ W, Below W2.heap.size W2 W → Calls Try.prog 65 #[ptrN z.p] W (CutPost (offG (offR F R) g1 g2) h z W) := fun W hb =>
    HREC.out (offG (offR F R) g1 g2) z W ((HZM.out.1.mono (fun b hb' => ⟨hb'.1, by have := hb'.2; omega, by have := hb'.2; omega⟩)).below (bl_trans hB2 hb)) (by omega) HZM.out.2.1 HZM.out.2.2 (fun b hb' => by
      have := hb.size
      exact ⟨⟨HF.out b (by omega), by omega⟩, by omega, by omega⟩)
  have HRC := Lib.hid hrc; have HO1 := Lib.hid ho1; have HO2 := Lib.hid ho2; have BR2 := Lib.hid bR2; have HB2 := Lib.hid hB2
  clear hrc ho1 ho2 bR2 hB2 bR hb2 hws1 hRs hR
  go_wp2_with fail
  refine (HRC.out _ (bl_refl _)).mono ?_
  rintro e W3 ⟨y, q, rfl, hy, hyl, hyn, hyn2, hyf, hyp, hb3⟩
  have st2 : FSt (R + 1) g1 cp (n + 1) g2 ck (n + 1 + 1) W2 W2 ps ks := ⟨hn, hkn, hn ▸ HO1.out, hkn ▸ HO2.out, Kep.refl _ _ _⟩
  have st3 := (st2.below hb3).below (bl_alloc W3 (.cells #[.string q.k, .string q.v] 63))
  have z1 := st3.k0 HZ.out
  have fz1 := st3.f2 (n + 1)
  have bM : Blk (W3.alloc (.cells #[.string q.k, .string q.v] 63)) W3.heap.size 63 #[.string q.k, .string q.v] := Blk.new _ _ _
  have bR3 := (BR2.out.below hb3 BR2.out.lt).alloc (.cells #[.string q.k, .string q.v] 63)
  have HST3 := Lib.hid st3; have HY := Lib.hid hy; have HYL := Lib.hid hyl; have HYF := Lib.hid hyf; have HB3 := Lib.hid hb3; have BM := Lib.hid bM; have BR3 := Lib.hid bR3
  clear st2 st3 hy hyl hyf hb3 bM bR3 HRC HO1 HO2 BR2 z0
  go_upto_region 8 with (fail)
  obtain ⟨M, hM⟩ : ∃ M, M = W3.heap.size := ⟨_, rfl⟩
  have st4 := HST3.out.setK (n + 1) y
  have hkst : Kep g1 g2 (W3.alloc (.cells #[.string q.k, .string q.v] 63)) ((W3.alloc (.cells #[.string q.k, .string q.v] 63)).setCell ⟨g2, n + 1, none⟩ (ptrN y.p)) := Kep.set _ (.inr rfl) _ _
  have hs23 := HB3.out.size
  have hgM1 : g1 ≠ M := by omega
  have hgM2 : g2 ≠ M := by omega
  have hRM : R ≠ M := by omega
  have bM4 := hkst.blk BM.out (by omega) (by omega)
  have bR4 := hkst.blk BR3.out (by omega) (by omega)
  have hy4 := hkst.kid (HY.out.below (bl_alloc W3 (.cells #[.string q.k, .string q.v] 63)))
  have hs34 : ((W3.alloc (.cells #[.string q.k, .string q.v] 63)).setCell ⟨g2, n + 1, none⟩ (ptrN y.p)).heap.size = W3.heap.size + 1 := by simp
  obtain ⟨W4, hW4⟩ : ∃ W4, W4 = (W3.alloc (.cells #[.string q.k, .string q.v] 63)).setCell ⟨g2, n + 1, none⟩ (ptrN y.p) := ⟨_, rfl⟩
  rw [← hW4] at st4 hkst bM4 bR4 hy4 hs34
  have hk24 : Kep g1 g2 W2 W4 := st4.kep
  have hin : FIn (offR F R) h (R + 1) g1 cp (n + 1) g2 ck (n + 1 + 1) (n + 1) ps (ks.set (n + 1) y) W4 := by
    refine ⟨⟨st4.lp, st4.lk, st4.rp, st4.rk, Kep.refl _ _ _⟩, by omega, fun b hb => ⟨HF.out b (by omega), by omega⟩, rfl, by omega, by omega, Nat.le_refl _, ?_, fun t u hu => ?_⟩
    · have h1 : kidsSum (ks.set (n + 1) y) + z.l.length = kidsSum ks + y.l.length := by
        have e1 := set_parts (y := y) HZ.out
        have e2 := set_parts (y := z) HZ.out
        have e3 : ks.set (n + 1) z = ks := by
          obtain ⟨h5, h6⟩ := List.getElem?_eq_some_iff.1 HZ.out
          rw [← h6, List.set_getElem_self]
        rw [e3] at e2
        have e4 := congrArg kidsSum e1
        have e5 := congrArg kidsSum e2
        rw [kidsSum_app, kidsSum_app] at e4 e5
        have e6 : kidsSum [y] = y.l.length := by simp [kidsSum]
        have e7 : kidsSum [z] = z.l.length := by simp [kidsSum]
        omega
      have h2 := congrArg List.length HYL.out
      simp only [List.length_append, List.length_cons, List.length_nil] at h2
      omega
    · rw [List.getElem?_set] at hu
      split at hu
      · split at hu
        · cases hu
          exact ⟨hy4, by have := HZM.out.2; omega, by have := HZM.out.2; omega, fun e => by omega⟩
        · cases hu
      · obtain ⟨h1, h2, h3⟩ := HKK.out u (List.mem_of_getElem? hu)
        refine ⟨hk24.kid ((h1.below HB2.out).mono (fun b hb' => ⟨hb'.1, ?_, ?_⟩)), by omega, h3, fun _ => h2⟩
        · have := hb'.2; omega
        · have := hb'.2; omega
  have hfl : ∀ W, Below W4.heap.size W4 W → Calls Try.prog 66 #[.slice (some ⟨g1, 0, none⟩) (n + 1) cp, .slice (some ⟨g2, 0, none⟩) (n + 1 + 1) ck, .int .i64 ((n : Int) + 1)] W (FilPost (offR F R) h ps (ks.set (n + 1) y) g1 g2 W) := fun W hb => by
    have := filled_any h (R + 1) g1 cp (n + 1) g2 ck (n + 1 + 1) (n + 1) ps (ks.set (n + 1) y) W (hin.below hb)
    rwa [show ((n + 1 : Nat) : Int) = (n : Int) + 1 by omega] at this
  have m0 := bM4.cell 0
  have m1 := bM4.cell 1
  simp at m0 m1
  have HFL := Lib.hid hfl; have BR4 := Lib.hid bR4; have HK24 := Lib.hid hk24
  have hMs : M < W4.heap.size := by omega
  have hRs : R < W4.heap.size := by omega
  have hs2 : w.heap.size ≤ W4.heap.size := by omega
  have hg1R : g1 ≠ R := by omega
  have hg2R : g2 ≠ R := by omega
  rw [← hM] at m0 m1
  rw [show (Value.pointer (some ⟨y.p, 0, none⟩) : Value) = ptrN y.p from rfl, ← hW4, ← hM]
  clear hfl bR4 hk24 hin st4 hkst bM4 hy4 hW4 hM z1 fz1 HST3 BM BR3 HY hs34
  go_region_held3 (fun w' => w'.cell? ⟨M, 0, none⟩ = some (.string q.k) ∧ w'.cell? ⟨M, 1, none⟩ = some (.string q.v)) (first | go_keep | (go_split_ands; exact ⟨(hk5.cell (p := ⟨M, 0, none⟩) hMs hgM1.symm hgM2.symm).trans (by go_simp), (hk5.cell (p := ⟨M, 1, none⟩) hMs hgM1.symm hgM2.symm).trans (by go_simp)⟩)) (first | ((with_reducible refine (HFL.out _ (bl_drew _)).mono ?_); rintro e W5 ⟨u, rfl, hu, hul, hun, hun2, huf, hup, hk5⟩; have bR5 := hk5.blk BR4.out.drew hg1R.symm hg2R.symm; have r0 := bR5.cell 0; have r1 := bR5.cell 1; have fr0 := bR5.frozen 0; have fr1 := bR5.frozen 1; simp at r0 r1))
  all_goals
    rename_i hHeld
    clear hHeld m0 m1
    have hk05 : Below w.heap.size w W5 := HB2.out.trans (((HK24.out.trans (.of (bl_drew W4))).trans hk5).below (by omega) (by omega) (by have := HB2.out.size; omega))
    have hfin : ∀ u0 u1, CutPost F (h + 1) x w (.returned (.tuple #[ptrN u.p, aggP q])) ((W5.setCell ⟨R, 0, none⟩ u0).setCell ⟨R, 1, none⟩ u1) := fun u0 u1 => by
      have hfl2 : (ks.map Kid.l).length = ps.length + 1 := by rw [List.length_map]; exact hkl
      have hzz : (ks.map Kid.l)[n + 1]? = some z.l := by rw [List.getElem?_map, HZ.out]; rfl
      obtain ⟨e1, e2, _⟩ := weave_child hfl2 (by omega : n + 1 ≤ ps.length) hzz
      have hd : ps.drop (n + 1) = [] := List.drop_eq_nil_of_le (by omega)
      have e3 := e1 y.l
      rw [hd] at e2 e3
      have hxl : x.l = u.l ++ [q] := by
        rw [HND.out.l, hul, List.map_set, e2, e3, HYL.out]
        simp [wpost]
      have hold : ∀ q ∈ allN ks, q < w.heap.size := HND.out.kidsLt
      have hsub : ∀ q ∈ allN ks, q ∈ x.N := fun q hq => by rw [HND.out.N]; exact List.mem_cons_of_mem _ hq
      have hfr : Frm w.heap.size x.N (allN (ks.set (n + 1) y)) (3 * h + 1) := by
        have h0 : Frm w.heap.size z.N y.N (3 * h + 1) := HYF.out.weaken HB2.out.size (fun q hq => hold q (mem_allN.2 ⟨z, List.mem_of_getElem? HZ.out, hq⟩))
        have h1 : Frm w.heap.size z.N (allN [y]) (3 * h + 1) := by rw [allN_cons]; simpa [allN] using h0
        have h2 := Frm.kids (ys := [y]) HZ.out hold h1
        rw [set_parts HZ.out]
        exact h2.sub hsub
      have hup' : w.heap.size ≤ u.p := by have h9 : W4.heap.size ≤ u.p := hup; omega
      refine ⟨u, q, rfl, ?_, hxl, by rw [HND.out.n]; exact hun, by rw [HND.out.n]; exact hun2, (huf _ _ _ hs2 hfr).mono (by omega), hup', (hk05.setCell (p := ⟨R, 0, none⟩) hwR _).setCell (p := ⟨R, 1, none⟩) hwR _⟩
      exact ((hu.set (R := R) (fun e => e.2 rfl) 0 _).set (R := R) (fun e => e.2 rfl) 1 _).mono (fun b e => e.1)
    have HFIN := Lib.hid hfin
    have bF := (bR5.set 0 (.string q.k)).set 1 (.string q.v)
    have g0 := bF.cell 0
    have g1' := bF.cell 1
    simp at g0 g1'
    clear hfin bF hk05 hk5 hu hul huf hup
    go_wp2
    refine bodyPost_ret (v := .tuple #[ptrN u.p, aggP q]) (by simp [results, Try.f65, go_sem, g0, g1']) rfl ?_
    exact HFIN.out _ _
theorem cut_any : ∀ (h : Nat) (F : Nat → Prop) (x : Kid) (w : World), IsN F h w x → x.l.length ≤ 100000 → 1 ≤ x.n → x.n ≤ 8 → (∀ b, w.heap.size ≤ b → F b) → Calls Try.prog 65 #[ptrN x.p] w (CutPost F h x w)
  | 0, F, x, w, hx, _, h1, h8, hF => cut_leaf x w hx h1 h8 hF
  | h + 1, F, x, w, hx, hl, h1, h8, hF => cut_step h x w hx hl h1 h8 hF (fun G y W hy hyl hy3 hy8 hG => cut_any h G y W hy hyl (by omega) hy8 hG)
end Go.Proofs.Ytmkhnpkbaegchaa
