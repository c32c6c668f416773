/- The walks of New and Put of a tree. Conditions: the tree lies in memory, its pairs are in order. -/
import Derived.Test.YtaiiibbnjmjamaaGreatDoorTPutA
namespace Go.Proofs.YtaiiibbnjmjamaaGreatDoor
open Go.RowKit

/-- a tree: its block, its pairs, its height, its nodes -/
structure Tre where
  p : Nat
  l : List KV
  H : Nat
  N : List Nat
abbrev Any (_ : Nat) : Prop := True
def IsT (w : World) (T : Tre) : Prop :=
  Srt T.l ∧ ((T.l = [] ∧ T.H = 0 ∧ T.N = [] ∧ Blk w T.p 61 #[.pointer none]) ∨
    ∃ h x, Blk w T.p 61 #[ptrN x.p] ∧ IsN Any h w x ∧ T.l = x.l ∧ T.N = x.N ∧ 1 ≤ x.n ∧ x.n ≤ 8 ∧ T.H = h + 1)
/-- a tree whose blocks are F -/
def IsTF (F : Nat → Prop) (w : World) (T : Tre) : Prop :=
  F T.p ∧ Srt T.l ∧ ((T.l = [] ∧ T.H = 0 ∧ T.N = [] ∧ Blk w T.p 61 #[.pointer none]) ∨
    ∃ h x, Blk w T.p 61 #[ptrN x.p] ∧ IsN F h w x ∧ T.l = x.l ∧ T.N = x.N ∧ 1 ≤ x.n ∧ x.n ≤ 8 ∧ T.H = h + 1)
theorem IsTF.isT {F : Nat → Prop} {w : World} {T : Tre} (h : IsTF F w T) : IsT w T := by
  obtain ⟨_, hs, h | ⟨h', x, h1, h2, h3⟩⟩ := h
  · exact ⟨hs, .inl h⟩
  · exact ⟨hs, .inr ⟨h', x, h1, h2.mono (fun _ _ => trivial), h3⟩⟩
theorem IsT.isTF {w : World} {T : Tre} (h : IsT w T) : IsTF Any w T := ⟨trivial, h⟩
theorem IsTF.mono {F G : Nat → Prop} {w : World} {T : Tre} (h : IsTF F w T) (hg : ∀ b, F b → G b) : IsTF G w T := by
  obtain ⟨hp, hs, h | ⟨h', x, h1, h2, h3⟩⟩ := h
  · exact ⟨hg _ hp, hs, .inl h⟩
  · exact ⟨hg _ hp, hs, .inr ⟨h', x, h1, h2.mono hg, h3⟩⟩
theorem IsTF.in {F : Nat → Prop} {w : World} {T : Tre} (h : IsTF F w T) : IsTF (fun b => F b ∧ b < w.heap.size) w T := by
  obtain ⟨hp, hs, ⟨h1, h2, h3, h4⟩ | ⟨h', x, h1, h2, h3⟩⟩ := h
  · exact ⟨⟨hp, h4.lt⟩, hs, .inl ⟨h1, h2, h3, h4⟩⟩
  · exact ⟨⟨hp, h1.lt⟩, hs, .inr ⟨h', x, h1, h2.in, h3⟩⟩
theorem IsTF.kept {F : Nat → Prop} {w w' : World} {T : Tre} (h : IsTF F w T) (hz : w.heap.size ≤ w'.heap.size) (hk : ∀ b, F b → b < w.heap.size → w'.heap[b]? = w.heap[b]?) : IsTF F w' T := by
  obtain ⟨hp, hs, ⟨h1, h2, h3, h4⟩ | ⟨h', x, h1, h2, h3⟩⟩ := h
  · exact ⟨hp, hs, .inl ⟨h1, h2, h3, (hk _ hp h4.lt).trans h4⟩⟩
  · exact ⟨hp, hs, .inr ⟨h', x, (hk _ hp h1.lt).trans h1, h2.kept hz hk, h3⟩⟩
theorem IsTF.grown {F : Nat → Prop} {w w' : World} {T : Tre} {row : Option Nat} (h : IsTF F w T) (hg : w.grownBy w' row) (hr : ∀ r, row = some r → ¬ F r) : IsTF F w' T :=
  h.kept hg.size (fun b hb hlt => hg.block b hlt (fun e => hr b e.symm hb))
theorem IsTF.below {F : Nat → Prop} {w w' : World} {T : Tre} (h : IsTF F w T) (hb : Below w.heap.size w w') : IsTF F w' T :=
  h.kept hb.size (fun b _ hlt => hb.block b hlt)
theorem IsT.below {w w' : World} {T : Tre} (h : IsT w T) (hb : Below w.heap.size w w') : IsT w' T := by
  obtain ⟨hs, ⟨h1, h2, h3, h4⟩ | ⟨h', x, h1, h2, h3⟩⟩ := h
  · exact ⟨hs, .inl ⟨h1, h2, h3, h4.below hb h4.lt⟩⟩
  · exact ⟨hs, .inr ⟨h', x, h1.below hb h1.lt, h2.below hb, h3⟩⟩
theorem IsT.lt {w : World} {T : Tre} (h : IsT w T) : T.p < w.heap.size := by
  obtain ⟨_, ⟨_, _, _, h⟩ | ⟨_, _, h, _⟩⟩ := h
  · exact h.lt
  · exact h.lt
set_option maxHeartbeats 1000000 in
theorem new_any (w : World) : Calls Tryz.prog 7 #[] w fun e w' => ∃ p, e = .returned (ptrN p) ∧ IsT w' ⟨p, [], 0, []⟩ ∧ w.heap.size ≤ p ∧ Below w.heap.size w w' := by
  go_enter Tryz.func7, Tryz.ntmps7
  go_wp2
  go_ret
  exact ⟨_, rfl, ⟨List.Pairwise.nil, .inl ⟨rfl, rfl, rfl, Blk.new _ _ _⟩⟩, Nat.le_refl _, bl_alloc _ _⟩
/-- what a key and a value may be -/
def permB (p : KV) : Bool := decide (p.k.size ≤ 60) && decide (p.v.size ≤ 1000)
def putT (l : List KV) (p : KV) : List KV := if permB p then putL l p else l
def TPutPost (T : Tre) (p : KV) (w : World) (e : Ending) (w' : World) : Prop :=
  ∃ T', e = .returned (ptrN T'.p) ∧ IsT w' T' ∧ T'.l = putT T.l p ∧ Frm w.heap.size T.N T'.N (3 * T.H + 2) ∧ T'.H ≤ T.H + 1 ∧ Below w.heap.size w w'
def FPutPost (F : Nat → Prop) (T : Tre) (p : KV) (w : World) (e : Ending) (w' : World) : Prop :=
  ∃ T', e = .returned (ptrN T'.p) ∧ IsTF F w' T' ∧ T'.l = putT T.l p ∧ Frm w.heap.size T.N T'.N (3 * T.H + 2) ∧ T'.H ≤ T.H + 1 ∧ Below w.heap.size w w'
set_option maxRecDepth 100000 in
set_option maxHeartbeats 4000000 in
theorem tput_no {F : Nat → Prop} (T : Tre) (p : KV) (w : World) (h : IsTF F w T) (hp : permB p = false) : Calls Tryz.prog 8 #[ptrN T.p, .string p.k, .string p.v] w (FPutPost F T p w) := by
  have hfin : FPutPost F T p w (.returned (ptrN T.p)) w := ⟨T, rfl, h, by unfold putT; rw [hp]; rfl, (Frm.old (fun q hq => hq) (fun q hq => by
    obtain ⟨_, _, ⟨_, _, h3, _⟩ | ⟨h', x, h1, h2, h3, h4, _⟩⟩ := h
    · rw [h3] at hq; cases hq
    · rw [h4] at hq; exact h2.Nlt q hq)).mono (by omega), by omega, bl_refl _⟩
  have HFIN := Lib.hid hfin
  clear hfin h
  have hc : 60 < p.k.size ∨ (p.k.size ≤ 60 ∧ 1000 < p.v.size) := by
    unfold permB at hp
    simp at hp
    by_cases e : p.k.size ≤ 60
    · exact .inr ⟨e, hp e⟩
    · exact .inl (by omega)
  rcases hc with hc | ⟨hc1, hc2⟩
  · go_enter Tryz.func8, Tryz.ntmps8
    go_wp2
    go_ret
    exact HFIN.out
  · go_enter Tryz.func8, Tryz.ntmps8
    go_wp2
    go_ret
    exact HFIN.out
theorem IsRow.twoK {w : World} {g t c : Nat} {y z : Kid} (b : Blk w g t #[ptrN y.p, ptrN z.p]) : IsRow 1 encK w (.slice (some ⟨g, 0, none⟩) 2 c) [y, z] :=
  .inr ⟨g, 0, c, rfl, b.lt, by show 2 ≤ maxLen; unfold maxLen; decide, fun j x hx i u hu => by
    match j, hx with
    | 0, hx =>
      cases hx
      rw [b.cell]
      match i, hu with
      | 0, hu => cases hu; rfl
    | 1, hx =>
      cases hx
      rw [b.cell]
      match i, hu with
      | 0, hu => cases hu; rfl⟩
set_option maxRecDepth 100000 in
set_option maxHeartbeats 4000000 in
theorem tput_nil {F : Nat → Prop} (T : Tre) (p : KV) (w : World) (hF : ∀ b, w.heap.size ≤ b → F b) (h0 : Blk w T.p 61 #[.pointer none]) (hl : T.l = []) (hp : permB p = true) : Calls Tryz.prog 8 #[ptrN T.p, .string p.k, .string p.v] w (FPutPost F T p w) := by
  have hc : p.k.size ≤ 60 ∧ p.v.size ≤ 1000 := by unfold permB at hp; simpa using hp
  obtain ⟨hc1, hc2⟩ := hc
  have c0 := h0.cell 0
  simp at c0
  have hpt : putT T.l p = [p] := by unfold putT; rw [hp, hl]; rfl
  have hm := put_nil (F := F) p w hF
  have HM := Lib.hid hm
  have HF := Lib.hid hF
  clear hm hp h0 hl hF
  go_enter Tryz.func8, Tryz.ntmps8
  go_wp2_with fail
  refine HM.out.mono ?_
  rintro e w1 ⟨hb, y, rfl, hy, hyl, hyn, hyN, hyp⟩
  go_wp2
  go_ret
  have hb1 := bl_alloc w1 (.cells #[.string ⟨#[]⟩, .string ⟨#[]⟩] 36)
  have hb2 := bl_alloc (w1.alloc (.cells #[.string ⟨#[]⟩, .string ⟨#[]⟩] 36)) (.cells #[ptrN y.p] 61)
  refine ⟨⟨_, [p], 1, [y.p]⟩, rfl, ⟨HF.out _ (by have := hb.size; simp; omega), List.pairwise_singleton _ _, .inr ⟨0, y, Blk.at (by simp) _ _, (hy.below hb1).below hb2, hyl.symm, hyN.symm, by omega, by omega, rfl⟩⟩, hpt.symm, ?_, by show 1 ≤ T.H + 1; omega, bl_trans (bl_trans hb hb1) hb2⟩
  have h1 := (Frm.old (B := w.heap.size) (N := T.N) (N' := []) (fun q hq => by cases hq) (fun q hq => by cases hq)).one hyp
  exact h1.mono (by omega)
set_option maxRecDepth 100000 in
set_option maxHeartbeats 4000000 in
theorem tput_node {F : Nat → Prop} (T : Tre) (p : KV) (w : World) (h : Nat) (x : Kid) (hF : ∀ b, w.heap.size ≤ b → F b) (h0 : Blk w T.p 61 #[ptrN x.p]) (hx : IsN F h w x) (hl : T.l = x.l) (hN : T.N = x.N) (hn1 : 1 ≤ x.n) (hn8 : x.n ≤ 8) (hH : T.H = h + 1) (hs : Srt T.l) (hlen : T.l.length ≤ 100000) (hp : permB p = true) :
    Calls Tryz.prog 8 #[ptrN T.p, .string p.k, .string p.v] w (FPutPost F T p w) := by
  have hc : p.k.size ≤ 60 ∧ p.v.size ≤ 1000 := by unfold permB at hp; simpa using hp
  obtain ⟨hc1, hc2⟩ := hc
  have c0 := h0.cell 0
  simp at c0
  have hpt : putT T.l p = putL x.l p := by unfold putT; rw [hp, hl]; rfl
  have hm := put_any h F x p w hx (hl ▸ hs) (hl ▸ hlen) hn1 hn8 hF
  have HM := Lib.hid hm
  have HF := Lib.hid hF
  have HS := Lib.hid (srt_putL (p := p) hs)
  have hlx : x.l.length ≤ 100000 := hl ▸ hlen
  have hsx : Srt x.l := hl ▸ hs
  have HSX := Lib.hid hsx
  clear hm hp h0 hx hs hsx hF
  go_enter Tryz.func8, Tryz.ntmps8
  go_wp2_with fail
  refine HM.out.mono ?_
  rintro e w1 hpp
  obtain ⟨y, m, vz, rfl, hb, halt⟩ := hpp.form
  clear hpp
  have hb1 := bl_alloc w1 (.cells #[.string m.k, .string m.v] 36)
  have hw1 := hb.size
  rcases halt with ⟨rfl, hi1, hi2, hi3, hi4, hi5⟩ | ⟨z, rfl, hi1, hi2, hi3, hi4, hi5, hi6, hi7, hi8⟩
  · have HI := Lib.hid (And.intro hi1 (And.intro hi2 hi5))
    clear hi1 hi2 hi5
    go_wp2
    go_ret
    have hb2 := bl_alloc (w1.alloc (.cells #[.string m.k, .string m.v] 36)) (.cells #[ptrN y.p] 61)
    refine ⟨⟨_, y.l, T.H, y.N⟩, rfl, ⟨HF.out _ (by simp; omega), by show Srt y.l; rw [HI.out.2.1]; exact srt_putL HSX.out, .inr ⟨h, y, Blk.at (by simp) _ _, (HI.out.1.below hb1).below hb2, rfl, rfl, by omega, hi4, hH⟩⟩, by rw [hpt]; exact HI.out.2.1, ?_, Nat.le_succ _, bl_trans (bl_trans hb hb1) hb2⟩
    rw [hN]
    exact HI.out.2.2.mono (by omega)
  · have bM : Blk (w1.alloc (.cells #[.string m.k, .string m.v] 36)) w1.heap.size 36 #[.string m.k, .string m.v] := Blk.new _ _ _
    have m0 := bM.cell 0
    have m1 := bM.cell 1
    simp at m0 m1
    have hll := congrArg List.length hi3
    have hl2 := putL_len HSX.out p
    simp only [List.length_append, List.length_cons] at hll
    have hmd : ∀ (W : World) (vp vk : Value), Below w1.heap.size w1 W → IsRow 2 encKV W vp [m] → IsRow 1 encK W vk [y, z] → InF F vp → InF F vk → Calls Tryz.prog 22 #[vp, vk] W (MadePost F [m] [y, z] W) := fun W vp vk hb h1 h2 h3 h4 =>
      made_any [m] [y, z] vp vk W h1 h2 (SzOk.of (fun t ht => by
        simp only [List.mem_cons, List.not_mem_nil, or_false] at ht
        rcases ht with rfl | rfl
        · exact hi1.below hb
        · exact hi2.below hb)) (by simp [kidsSum]; omega) (by simp) (fun b e => HF.out b (by have := hb.size; omega)) h3 h4
    have HMD := Lib.hid hmd
    have HI := Lib.hid (And.intro hi1 (And.intro hi2 (And.intro hi3 hi8)))
    clear hi1 hi2 hi3 hi8 hmd bM hll hl2
    go_wp2_with fail
    refine (HMD.out _ _ _ (bl_trans (bl_trans hb1 (bl_alloc _ _)) (bl_alloc _ _)) (IsRow.oneP ((Blk.at (by simp) _ _).alloc _)) (IsRow.twoK (Blk.at (by simp) _ _)) (InF.at (HF.out _ (by simp; omega)) _ _) (InF.at (HF.out _ (by simp; omega)) _ _)).mono ?_
    rintro e w2 ⟨q, rfl, hq, hn, hb2⟩
    have hb12 : Below w1.heap.size w1 w2 := bl_trans (bl_trans (bl_trans hb1 (bl_alloc _ _)) (bl_alloc _ _)) hb2
    clear m0 m1
    go_wp2
    go_ret
    have hb3 := bl_alloc w2 (.cells #[ptrN q] 61)
    have hk : ∀ t ∈ [y, z], IsN F h w2 t ∧ 3 ≤ t.n ∧ t.n ≤ 8 := fun t ht => by
      simp only [List.mem_cons, List.not_mem_nil, or_false] at ht
      rcases ht with rfl | rfl
      · exact ⟨HI.out.1.below hb12, hi4, hi5⟩
      · exact ⟨HI.out.2.1.below hb12, hi6, hi7⟩
    have hr := IsN.inner hn (kids_len (.inr rfl)).symm rfl hk
    have hwe : weave [m] ([y, z].map Kid.l) = putL x.l p := by rw [HI.out.2.2.1]; simp [weave]
    refine ⟨⟨_, weave [m] ([y, z].map Kid.l), h + 2, q :: [y, z].flatMap Kid.N⟩, rfl, ⟨HF.out _ (by have := hb12.size; show w.heap.size ≤ w2.heap.size; omega), by show Srt (weave _ _); rw [hwe]; exact srt_putL HSX.out, .inr ⟨h + 1, _, Blk.new _ _ _, hr.below hb3, rfl, rfl, by simp, by simp, rfl⟩⟩, by rw [hpt]; exact hwe, ?_, by rw [hH]; exact Nat.le_refl _, bl_trans (bl_trans hb hb12) hb3⟩
    rw [hN]
    have h1 : Frm w.heap.size x.N ([y, z].flatMap Kid.N) (2 * h + 2) := by simpa using HI.out.2.2.2
    exact (h1.one (by have := hb12.size; have : w1.heap.size ≤ q := Nat.le_trans (by simp; omega) hq; omega)).mono (by omega)
theorem tputF_any {F : Nat → Prop} (T : Tre) (p : KV) (w : World) (h : IsTF F w T) (hF : ∀ b, w.heap.size ≤ b → F b) (hlen : T.l.length ≤ 100000) : Calls Tryz.prog 8 #[ptrN T.p, .string p.k, .string p.v] w (FPutPost F T p w) := by
  cases hp : permB p
  · exact tput_no T p w h hp
  · obtain ⟨_, hs, ⟨h1, h2, h3, h4⟩ | ⟨h', x, h1, h2, h3, h4, h5, h6, h7⟩⟩ := h
    · exact tput_nil T p w hF h4 h1 hp
    · exact tput_node T p w h' x hF h1 h2 h3 h4 h5 h6 h7 hs hlen hp
theorem tput_any (T : Tre) (p : KV) (w : World) (h : IsT w T) (hlen : T.l.length ≤ 100000) : Calls Tryz.prog 8 #[ptrN T.p, .string p.k, .string p.v] w (TPutPost T p w) :=
  (tputF_any (F := Any) T p w h.isTF (fun _ _ => trivial) hlen).mono fun _ _ ⟨T', h1, h2, h3⟩ => ⟨T', h1, h2.isT, h3⟩
end Go.Proofs.YtaiiibbnjmjamaaGreatDoor
