/- The walk of put: a node with a further pair, or two nodes and the pair between them: what it leaves behind. Conditions: the tree below the node lies in memory, its pairs are in order. -/
import Derived.Test.YtaiiibbnjmjamaaGreatDoorTRow
import Derived.Test.YtaiiibbnjmjamaaGreatDoorTSearch
import Derived.Deep.RegionHeld3
namespace Go.Proofs.YtaiiibbnjmjamaaGreatDoor
open Go.RowKit

abbrev aggP (x : KV) : Value := .agg #[.string x.k, .string x.v]
abbrev agg0 : Value := .agg #[.string ⟨#[]⟩, .string ⟨#[]⟩]
def PutPost (F : Nat → Prop) (h : Nat) (x : Kid) (p : KV) (w : World) (e : Ending) (w' : World) : Prop :=
  Below w.heap.size w w' ∧
  ((∃ y, e = .returned (.tuple #[ptrN y.p, agg0, .pointer none]) ∧ IsN F h w' y ∧ y.l = putL x.l p ∧ x.n ≤ y.n ∧ y.n ≤ 8 ∧ Frm w.heap.size x.N y.N (2 * h + 1)) ∨
   (∃ y m z, e = .returned (.tuple #[ptrN y.p, aggP m, ptrN z.p]) ∧ IsN F h w' y ∧ IsN F h w' z ∧ putL x.l p = y.l ++ m :: z.l ∧ 3 ≤ y.n ∧ y.n ≤ 8 ∧ 3 ≤ z.n ∧ z.n ≤ 8 ∧ Frm w.heap.size x.N (y.N ++ z.N) (2 * h + 2)))
/-- not R -/
abbrev offR (F : Nat → Prop) (R : Nat) : Nat → Prop := fun b => F b ∧ b ≠ R
/-- not R, and not between a and b -/
abbrev midF (F : Nat → Prop) (R a b : Nat) : Nat → Prop := fun q => offR F R q ∧ (q < a ∨ b ≤ q)
structure Tail (P : Prop) : Prop where
  out : P
theorem share {P Q : Prop} (h : Tail P → Q) (p : P) : Q := h ⟨p⟩
/-- the same in one shape -/
def PutAlt (F : Nat → Prop) (h : Nat) (x : Kid) (p : KV) (B : Nat) (w' : World) (y : Kid) (m : KV) (vz : Value) : Prop :=
  (vz = .pointer none ∧ IsN F h w' y ∧ y.l = putL x.l p ∧ x.n ≤ y.n ∧ y.n ≤ 8 ∧ Frm B x.N y.N (2 * h + 1)) ∨
  (∃ z, vz = ptrN z.p ∧ IsN F h w' y ∧ IsN F h w' z ∧ putL x.l p = y.l ++ m :: z.l ∧ 3 ≤ y.n ∧ y.n ≤ 8 ∧ 3 ≤ z.n ∧ z.n ≤ 8 ∧ Frm B x.N (y.N ++ z.N) (2 * h + 2))
theorem PutPost.form {F : Nat → Prop} {h : Nat} {x : Kid} {p : KV} {w w' : World} {e : Ending} (hp : PutPost F h x p w e w') : ∃ y m vz, e = .returned (.tuple #[ptrN y.p, aggP m, vz]) ∧ Below w.heap.size w w' ∧ PutAlt F h x p w.heap.size w' y m vz := by
  obtain ⟨hb, ⟨y, rfl, h1⟩ | ⟨y, m, z, rfl, h1⟩⟩ := hp
  · exact ⟨y, ⟨⟨#[]⟩, ⟨#[]⟩⟩, .pointer none, rfl, hb, .inl ⟨rfl, h1⟩⟩
  · exact ⟨y, m, ptrN z.p, rfl, hb, .inr ⟨z, rfl, h1⟩⟩
theorem PutAlt.below {F : Nat → Prop} {h B : Nat} {x : Kid} {p : KV} {w' w'' : World} {y : Kid} {m : KV} {vz : Value} (hp : PutAlt F h x p B w' y m vz) (hb : Below w'.heap.size w' w'') : PutAlt F h x p B w'' y m vz := by
  rcases hp with ⟨e, h1, h2⟩ | ⟨z, e, h1, h2, h3⟩
  · exact .inl ⟨e, h1.below hb, h2⟩
  · exact .inr ⟨z, e, h1.below hb, h2.below hb, h3⟩
theorem PutAlt.set {F : Nat → Prop} {h B R : Nat} {x : Kid} {p : KV} {w' : World} {y : Kid} {m : KV} {vz : Value} (hp : PutAlt (offR F R) h x p B w' y m vz) (i : Nat) (u : Value) : PutAlt (offR F R) h x p B (w'.setCell ⟨R, i, none⟩ u) y m vz := by
  rcases hp with ⟨e, h1, h2⟩ | ⟨z, e, h1, h2, h3⟩
  · exact .inl ⟨e, h1.set (fun e => e.2 rfl) i u, h2⟩
  · exact .inr ⟨z, e, h1.set (fun e => e.2 rfl) i u, h2.set (fun e => e.2 rfl) i u, h3⟩
theorem PutAlt.grown {F : Nat → Prop} {h B : Nat} {x : Kid} {p : KV} {w' w'' : World} {y : Kid} {m : KV} {vz : Value} {row : Option Nat} (hp : PutAlt F h x p B w' y m vz) (hg : w'.grownBy w'' row) (hr : ∀ r, row = some r → ¬ F r) : PutAlt F h x p B w'' y m vz := by
  rcases hp with ⟨e, h1, h2⟩ | ⟨z, e, h1, h2, h3⟩
  · exact .inl ⟨e, h1.grown hg hr, h2⟩
  · exact .inr ⟨z, e, h1.grown hg hr, h2.grown hg hr, h3⟩
theorem PutAlt.weaken {F G : Nat → Prop} {h B B' : Nat} {x : Kid} {p : KV} {w' : World} {y : Kid} {m : KV} {vz : Value} (hp : PutAlt F h x p B' w' y m vz) (hB : B ≤ B') (hN : ∀ q ∈ x.N, q < B) (hg : ∀ b, F b → G b) : PutAlt G h x p B w' y m vz := by
  rcases hp with ⟨e, h1, h2, h3, h4, h5⟩ | ⟨z, e, h1, h2, h3, h4, h5, h6, h7, h8⟩
  · exact .inl ⟨e, h1.mono hg, h2, h3, h4, h5.weaken hB hN⟩
  · exact .inr ⟨z, e, h1.mono hg, h2.mono hg, h3, h4, h5, h6, h7, h8.weaken hB hN⟩
theorem kidsSum_mem {ks : List Kid} {y : Kid} (h : y ∈ ks) : y.l.length ≤ kidsSum ks := by
  induction ks with
  | nil => cases h
  | cons a l ih =>
    have e : kidsSum (a :: l) = a.l.length + kidsSum l := by unfold kidsSum; simp
    rcases List.mem_cons.1 h with rfl | h
    · omega
    · have := ih h; omega
theorem kidsSum_drop (ks : List Kid) (i : Nat) : kidsSum (ks.drop i) ≤ kidsSum ks := by
  have : kidsSum ks = kidsSum (ks.take i) + kidsSum (ks.drop i) := by
    unfold kidsSum
    rw [← List.sum_append, ← List.map_append, List.take_append_drop]
  omega
theorem putL_len {l : List KV} (hs : Srt l) (p : KV) : (putL l p).length ≤ l.length + 1 := by
  have h := congrArg List.length (srt_parts hs p.k)
  unfold putL
  simp only [List.length_append, List.length_cons] at h ⊢
  omega
theorem put_fin1 {F : Nat → Prop} {h : Nat} {x : Kid} {p : KV} {w W : World} {R q : Nat} {ps : List KV} {ks : List Kid} {u0 u1 : Value} (hwR : w.heap.size ≤ R) (hB : Below w.heap.size w W) (hq : w.heap.size ≤ q)
    (hn : NodeAt (offR F R) W q ps ks (ps.length + kidsSum ks)) (h0 : h = 0 → ks = []) (h1 : ∀ h', h = h' + 1 → ks.length = ps.length + 1 ∧ ∀ y ∈ ks, IsN (offR F R) h' W y ∧ 3 ≤ y.n ∧ y.n ≤ 8)
    (hl : weave ps (ks.map Kid.l) = putL x.l p) (h8 : ps.length ≤ 8) (hxn : x.n ≤ ps.length) (hf : Frm w.heap.size x.N (allN ks) (2 * h)) :
    PutPost F h x p w (.returned (.tuple #[ptrN q, agg0, .pointer none])) ((W.setCell ⟨R, 0, none⟩ u0).setCell ⟨R, 1, none⟩ u1) := by
  have hy := IsN.make hn h0 h1
  refine ⟨(hB.setCell (p := ⟨R, 0, none⟩) hwR _).setCell (p := ⟨R, 1, none⟩) hwR _, .inl ⟨⟨q, ps.length, weave ps (ks.map Kid.l), q :: allN ks⟩, rfl, ?_, hl, hxn, h8, hf.one hq⟩⟩
  exact ((hy.set (R := R) (fun e => e.2 rfl) 0 _).set (R := R) (fun e => e.2 rfl) 1 _).mono (fun b e => e.1)
theorem put_fin2 {F : Nat → Prop} {h : Nat} {x : Kid} {p m : KV} {w W : World} {R q q' : Nat} {ps ps' : List KV} {ks ks' : List Kid} {u0 u1 : Value} (hwR : w.heap.size ≤ R) (hB : Below w.heap.size w W) (hq : w.heap.size ≤ q) (hq' : w.heap.size ≤ q')
    (hn : NodeAt (offR F R) W q ps ks (ps.length + kidsSum ks)) (hn' : NodeAt (offR F R) W q' ps' ks' (ps'.length + kidsSum ks')) (h0 : h = 0 → ks = [] ∧ ks' = [])
    (h1 : ∀ h', h = h' + 1 → ks.length = ps.length + 1 ∧ ks'.length = ps'.length + 1 ∧ ∀ y ∈ ks ++ ks', IsN (offR F R) h' W y ∧ 3 ≤ y.n ∧ y.n ≤ 8)
    (hl : weave ps (ks.map Kid.l) ++ m :: weave ps' (ks'.map Kid.l) = putL x.l p) (h3 : 3 ≤ ps.length) (h8 : ps.length ≤ 8) (h3' : 3 ≤ ps'.length) (h8' : ps'.length ≤ 8) (hf : Frm w.heap.size x.N (allN ks ++ allN ks') (2 * h)) :
    PutPost F h x p w (.returned (.tuple #[ptrN q, aggP m, ptrN q'])) ((W.setCell ⟨R, 0, none⟩ u0).setCell ⟨R, 1, none⟩ u1) := by
  have hy := IsN.make hn (fun e => (h0 e).1) (fun h' e => ⟨(h1 h' e).1, fun y hy => (h1 h' e).2.2 y (List.mem_append_left _ hy)⟩)
  have hz := IsN.make hn' (fun e => (h0 e).2) (fun h' e => ⟨(h1 h' e).2.1, fun y hy => (h1 h' e).2.2 y (List.mem_append_right _ hy)⟩)
  refine ⟨(hB.setCell (p := ⟨R, 0, none⟩) hwR _).setCell (p := ⟨R, 1, none⟩) hwR _, .inr ⟨⟨q, ps.length, weave ps (ks.map Kid.l), q :: allN ks⟩, m, ⟨q', ps'.length, weave ps' (ks'.map Kid.l), q' :: allN ks'⟩, rfl, ?_, ?_, hl.symm, h3, h8, h3', h8', hf.two hq hq'⟩⟩
  · exact ((hy.set (R := R) (fun e => e.2 rfl) 0 _).set (R := R) (fun e => e.2 rfl) 1 _).mono (fun b e => e.1)
  · exact ((hz.set (R := R) (fun e => e.2 rfl) 0 _).set (R := R) (fun e => e.2 rfl) 1 _).mono (fun b e => e.1)
theorem IsRow.oneP {w : World} {g t c : Nat} {p : KV} (b : Blk w g t #[.string p.k, .string p.v]) : IsRow 2 encKV w (.slice (some ⟨g, 0, none⟩) 1 c) [p] :=
  .inr ⟨g, 0, c, rfl, b.lt, by show 1 ≤ maxLen; unfold maxLen; decide, fun j x hx i u hu => by
    cases j with
    | zero =>
      cases hx
      rw [b.cell]
      match i, hu with
      | 0, hu => cases hu; rfl
      | 1, hu => cases hu; rfl
    | succ j => simp at hx⟩
set_option maxRecDepth 100000 in
set_option maxHeartbeats 1000000 in
/-- where there is no node yet -/
theorem put_nil {F : Nat → Prop} (p : KV) (w : World) (hF : ∀ b, w.heap.size ≤ b → F b) : Calls Tryz.prog 21 #[.pointer none, aggP p] w
    fun e w' => Below w.heap.size w w' ∧ ∃ y, e = .returned (.tuple #[ptrN y.p, agg0, .pointer none]) ∧ IsN F 0 w' y ∧ y.l = [p] ∧ y.n = 1 ∧ y.N = [y.p] ∧ w.heap.size ≤ y.p := by
  have hm := fun (G : Nat → Prop) vp W h (hG : ∀ b, W.heap.size ≤ b → G b) hv => made_any (F := G) [p] [] vp (.slice none 0 0) W h (IsRow.nil W) (fun y hy => by cases hy) (by simp [kidsSum]) (by simp) hG hv (InF.nil _ _ _)
  have HM := Lib.hid hm
  have HF := Lib.hid hF
  clear hm hF
  go_enter Tryz.func21, Tryz.ntmps21
  go_wp2_with fail
  have bR : Blk (((w.alloc (.cells #[.string p.k, .string p.v] 36)).alloc (.cells #[.string ⟨#[]⟩, .string ⟨#[]⟩] 36)).alloc (.cells #[.string p.k, .string p.v] 36)) (w.heap.size + 1) 36 #[.string ⟨#[]⟩, .string ⟨#[]⟩] := (Blk.at (by simp) _ _).alloc _
  have hB := bl_trans (bl_trans (bl_alloc w (.cells #[.string p.k, .string p.v] 36)) (bl_alloc _ (.cells #[.string ⟨#[]⟩, .string ⟨#[]⟩] 36))) (bl_alloc _ (.cells #[.string p.k, .string p.v] 36))
  refine (HM.out (offR F (w.heap.size + 1)) _ _ (IsRow.oneP (Blk.at (by simp) _ _)) (fun b hb => ⟨HF.out b (by simp at hb; omega), by simp at hb; omega⟩) (InF.at ⟨HF.out _ (by simp; omega), by simp⟩ _ _)).mono ?_
  rintro e w1 ⟨q, rfl, hq, hn, hb⟩
  have bR1 := bR.below hb bR.lt
  have hB1 := bl_trans hB hb
  have hq2 : w.heap.size ≤ q := by simp at hq; omega
  obtain ⟨R, hR⟩ : ∃ R, R = w.heap.size + 1 := ⟨_, rfl⟩
  rw [← hR] at bR1 hn ⊢
  have hwR : w.heap.size ≤ R := by omega
  clear bR hB hb hq hR
  have z0 := bR1.cell 0
  have z1 := bR1.cell 1
  have f0 := bR1.frozen 0
  have f1 := bR1.frozen 1
  simp at z0 z1
  have HN := Lib.hid hn
  have BR := Lib.hid bR1
  clear hn bR1
  go_wp2
  have bF := (BR.out.set 0 (.string ⟨#[]⟩)).set 1 (.string ⟨#[]⟩)
  have g0 := bF.cell 0
  have g1 := bF.cell 1
  simp at g0 g1
  refine bodyPost_ret (v := .tuple #[ptrN q, agg0, .pointer none]) (by simp [results, Tryz.f21, go_sem, g0, g1]) rfl ?_
  have hy : IsN (offR F R) 0 w1 ⟨q, 1, [p], [q]⟩ := IsN.leaf HN.out (by simp [kidsSum])
  exact ⟨(hB1.setCell (p := ⟨R, 0, none⟩) hwR _).setCell (p := ⟨R, 1, none⟩) hwR _, ⟨q, 1, [p], [q]⟩, rfl, ((hy.set (R := R) (fun e => e.2 rfl) 0 _).set (R := R) (fun e => e.2 rfl) 1 _).mono (fun b e => e.1), rfl, rfl, rfl, hq2⟩
end Go.Proofs.YtaiiibbnjmjamaaGreatDoor
