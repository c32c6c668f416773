/- The walk of Delete of a tree. Conditions: the tree lies in memory, its pairs are in order. -/
import Derived.Test.YtmkhnpkbaegchaaTRem
import Derived.Test.YtmkhnpkbaegchaaTTree
namespace Go.Proofs.Ytmkhnpkbaegchaa
open Go.RowKit

def FDelPost (F : Nat → Prop) (T : Tre) (k : ByteArray) (w : World) (e : Ending) (w' : World) : Prop :=
  ∃ T', e = .returned (ptrN T'.p) ∧ IsTF F w' T' ∧ T'.l = delL T.l k ∧ Frm w.heap.size T.N T'.N (3 * T.H + 2) ∧ T'.H ≤ T.H ∧ Below w.heap.size w w'
theorem Frm.tail {B c q : Nat} {N M : List Nat} (h : Frm B N (q :: M) c) : Frm B N M c := by
  refine ⟨fun r hr => h.1 r (List.mem_cons_of_mem _ hr), ?_⟩
  have h1 : newC B (q :: M) ≤ c := h.2
  rw [newC_cons] at h1
  show newC B M ≤ c
  omega
theorem IsTF.Nlt {F : Nat → Prop} {w : World} {T : Tre} (h : IsTF F w T) : ∀ q ∈ T.N, q < w.heap.size := fun q hq => by
  obtain ⟨_, _, ⟨_, _, h3, _⟩ | ⟨h', x, h1, h2, h3, h4, _⟩⟩ := h
  · rw [h3] at hq; cases hq
  · rw [h4] at hq; exact h2.Nlt q hq
set_option maxRecDepth 100000 in
set_option maxHeartbeats 4000000 in
theorem tdel_nil {F : Nat → Prop} (T : Tre) (k : ByteArray) (w : World) (h : IsTF F w T) (h0 : Blk w T.p 87 #[.pointer none]) (hl : T.l = []) : Calls Try.prog 23 #[ptrN T.p, .string k] w (FDelPost F T k w) := by
  have hfin : FDelPost F T k w (.returned (ptrN T.p)) w := ⟨T, rfl, h, by rw [hl]; rfl, (Frm.old (fun q hq => hq) h.Nlt).mono (by omega), Nat.le_refl _, bl_refl _⟩
  have c0 := h0.cell 0
  simp at c0
  have HFIN := Lib.hid hfin
  clear hfin h h0 hl
  go_enter Try.func23, Try.ntmps23
  go_wp2
  go_ret
  exact HFIN.out
set_option maxRecDepth 100000 in
set_option maxHeartbeats 4000000 in
theorem tdel_node {F : Nat → Prop} (T : Tre) (k : ByteArray) (w : World) (h : Nat) (x : Kid) (hT : IsTF F w T) (hF : ∀ b, w.heap.size ≤ b → F b) (h0 : Blk w T.p 87 #[ptrN x.p]) (hx : IsN F h w x) (hl : T.l = x.l) (hN : T.N = x.N) (hn1 : 1 ≤ x.n) (hn8 : x.n ≤ 8) (hH : T.H = h + 1) (hs : Srt T.l) (hlen : T.l.length ≤ 100000) :
    Calls Try.prog 23 #[ptrN T.p, .string k] w (FDelPost F T k w) := by
  have c0 := h0.cell 0
  simp at c0
  have hTlt := h0.lt
  have hm := rem_any k h F x w hx (hl ▸ hs) (hl ▸ hlen) hn1 hn8 hF
  have HM := Lib.hid hm; have HF := Lib.hid hF; have HX := Lib.hid hx; have HT := Lib.hid hT; have HL := Lib.hid (And.intro hl (And.intro hN hH)); have HS := Lib.hid (srt_delL (k := k) hs)
  clear hm hF hx hT h0 hl hN hs hlen
  go_enter Try.func23, Try.ntmps23
  go_wp2_with fail
  refine HM.out.mono ?_
  rintro e w1 ⟨y, rfl, hy, hyl, hyn, hyn2, hyf, hyp, hb1⟩
  have c1 := (hb1.cell (p := ⟨T.p, 0, none⟩) hTlt).trans c0
  rcases hyp with rfl | hyp
  · have hfin : FDelPost F T k w (.returned (ptrN T.p)) w1 := ⟨T, rfl, HT.out.below hb1, by rw [HL.out.1]; exact hyl, (Frm.old (fun q hq => hq) HT.out.Nlt).mono (by omega), Nat.le_refl _, hb1⟩
    have HFIN := Lib.hid hfin
    have hsame := ptr_same w1 y.p
    clear hfin hy hyl hyf hb1 c0
    go_wp2
    go_ret
    exact HFIN.out
  · have hne : y.p ≠ x.p := by have := HX.out.lt; omega
    obtain ⟨csy, hcy⟩ := hy.blk
    obtain ⟨csz, hcz⟩ := (HX.out.below hb1).blk
    have hoth := ptr_other hne hcy hcz
    obtain ⟨ps, ks, hnd⟩ := hy.node
    obtain ⟨pa, pc, ka, kc, d0, d1, hy0, hpp, hkk⟩ := hnd.at_.cells
    have hs1 := hb1.size
    have HY := Lib.hid hy; have HYL := Lib.hid hyl; have HYF := Lib.hid hyf; have HB1 := Lib.hid hb1; have HND := Lib.hid hnd; have HKK := Lib.hid hkk
    clear hcy hcz hpp hkk hy hyl hyf hb1 hnd c0
    have hps : y.n = ps.length := HND.out.n
    by_cases hp0 : ps.length = 0
    · by_cases hk0 : ks.length = 0
      · have hpe : ps = [] := List.length_eq_zero_iff.1 hp0
        have hke : ks = [] := List.length_eq_zero_iff.1 hk0
        have hle : delL T.l k = [] := by
          rw [HL.out.1, ← HYL.out, HND.out.l, hpe, hke]; rfl
        have HLE := Lib.hid hle
        clear hle hpe hke
        go_wp2_with fail
        refine (new_any _).mono ?_
        rintro e w2 ⟨p, rfl, hT2, hp2, hb2⟩
        have hfin : FDelPost F T k w (.returned (ptrN p)) w2 := by
          refine ⟨⟨p, [], 0, []⟩, rfl, ⟨HF.out p (by omega), hT2.1, ?_⟩, HLE.out.symm, (Frm.old (fun q hq => by cases hq) (fun q hq => by cases hq)).mono (by omega), Nat.zero_le _, bl_trans HB1.out hb2⟩
          rcases hT2.2 with h9 | ⟨h', x', _, h2, h3, h4, h5, _⟩
          · exact .inl h9
          · exfalso
            obtain ⟨ps', ks', hn'⟩ := h2.node
            have h10 := hn'.len
            rw [← h3] at h10
            simp at h10
            have := hn'.n
            omega
        have HFIN := Lib.hid hfin
        clear hfin hT2 hb2
        go_wp2
        go_ret
        exact HFIN.out
      · obtain ⟨h', rfl⟩ : ∃ h', h = h' + 1 := by
          cases h with
          | zero => exact absurd (by rw [HND.out.leaf rfl]; rfl) hk0
          | succ h' => exact ⟨h', rfl⟩
        obtain ⟨hkl, hkids⟩ := HND.out.kids h' rfl
        obtain ⟨z, hz⟩ : ∃ z, ks[0]? = some z := ⟨_, List.getElem?_eq_getElem (by omega)⟩
        have hzm := hkids z (List.mem_of_getElem? hz)
        obtain ⟨g, o, rfl, hg, hc⟩ := HKK.out 0 z hz
        rw [Nat.add_zero] at hc
        have hke : ks = [z] := by
          cases ks with
          | nil => cases hz
          | cons a l =>
            cases hz
            simp at hkl
            rw [List.length_eq_zero_iff.1 (by omega : l.length = 0)]
        have hpe : ps = [] := List.length_eq_zero_iff.1 hp0
        have hzl : z.l = delL T.l k := by rw [HL.out.1, ← HYL.out, HND.out.l, hpe, hke]; rfl
        have hyN : y.N = y.p :: z.N := by rw [HND.out.N, hke]; simp
        have hk1 : ks.length = 1 := by omega
        have hfin : ∀ W p, Below w1.heap.size w1 W → w1.heap.size ≤ p → Blk W p 87 #[ptrN z.p] → FDelPost F T k w (.returned (ptrN p)) W := fun W p hb hp hbk => by
          refine ⟨⟨p, z.l, h' + 1, z.N⟩, rfl, ⟨HF.out p (by omega), by show Srt z.l; rw [hzl]; exact HS.out, .inr ⟨h', z, hbk, hzm.1.below hb, rfl, rfl, by omega, hzm.2.2, rfl⟩⟩, hzl, ?_, by rw [HL.out.2.2]; show h' + 1 ≤ _; omega, bl_trans HB1.out hb⟩
          rw [HL.out.2.1, HL.out.2.2]
          have := HYF.out
          rw [hyN] at this
          exact this.tail.mono (by omega)
        have HFIN := Lib.hid hfin
        clear hfin hzm hkids hz hke hpe hzl hyN hkl hk0
        go_wp2
        go_ret
        exact HFIN.out _ _ (bl_alloc _ _) (Nat.le_refl _) (Blk.new _ _ _)
    · have hfin : ∀ W p, Below w1.heap.size w1 W → w1.heap.size ≤ p → Blk W p 87 #[ptrN y.p] → FDelPost F T k w (.returned (ptrN p)) W := fun W p hb hp hbk => by
        refine ⟨⟨p, y.l, h + 1, y.N⟩, rfl, ⟨HF.out p (by omega), by show Srt y.l; rw [HYL.out, ← HL.out.1]; exact HS.out, .inr ⟨h, y, hbk, HY.out.below hb, rfl, rfl, by omega, by omega, rfl⟩⟩, by show y.l = _; rw [HYL.out, HL.out.1], ?_, by rw [HL.out.2.2]; exact Nat.le_refl _, bl_trans HB1.out hb⟩
        rw [HL.out.2.1, HL.out.2.2]
        exact HYF.out.mono (by omega)
      have HFIN := Lib.hid hfin
      have hp1 : 0 < ps.length := by omega
      clear hfin
      go_wp2
      go_ret
      exact HFIN.out _ _ (bl_alloc _ _) (Nat.le_refl _) (Blk.new _ _ _)
theorem tdelF_any {F : Nat → Prop} (T : Tre) (k : ByteArray) (w : World) (h : IsTF F w T) (hF : ∀ b, w.heap.size ≤ b → F b) (hlen : T.l.length ≤ 100000) : Calls Try.prog 23 #[ptrN T.p, .string k] w (FDelPost F T k w) := by
  have h0 := h
  obtain ⟨_, hs, ⟨h1, h2, h3, h4⟩ | ⟨h', x, h1, h2, h3, h4, h5, h6, h7⟩⟩ := h
  · exact tdel_nil T k w h0 h4 h1
  · exact tdel_node T k w h' x h0 hF h1 h2 h3 h4 h5 h6 h7 hs hlen
end Go.Proofs.Ytmkhnpkbaegchaa
