/- Several texts in one, each with its own word at its head. Conditions: stated there. -/
import Derived.Test.YtmkhnpkbaegchaaTRfs
import Derived.Test.YtmkhnpkbaegchaaTLives
import Derived.Test.YtmkhnpkbaegchaaTRng
import Derived.OwnWalk
import Derived.Deep.RegionHeld3
/- The walk of change where the blocks of the tree are told. Conditions: the tree lies in memory. -/
namespace Go.Proofs.Ytmkhnpkbaegchaa
open Go.RowKit

def ChPostF (F : Nat → Prop) (T : Tre) (L : List KV) (w : World) (e : Ending) (w' : World) : Prop :=
  ∃ T', e = .returned (ptrN T'.p) ∧ IsTF F w' T' ∧ T'.l = L ∧ Frm w.heap.size T.N T'.N (3 * T.H + 2) ∧ Below w.heap.size w w'
set_option maxRecDepth 100000 in
set_option maxHeartbeats 4000000 in
theorem changeF_any {F : Nat → Prop} (T : Tre) (x : OpV) (most : Int) (w : World) (hT : IsTF F w T) (hF : ∀ b, w.heap.size ≤ b → F b) (hx : OpOk x) (hm1 : 1 ≤ most) (hm2 : most ≤ 4000) (hl : T.l.length ≤ 90000) :
    Calls Try.prog 14 #[ptrN T.p, .agg #[.int .u8 (x.a : Int), .int .i64 x.k, .int .u8 (x.v : Int)], .int .i64 most] w (ChPostF F T (chL T.l x most) w) := by
  have K1 : ∀ w, Calls Try.prog 25 #[.int .i64 x.k, .int .i64 most] w (Pur (.int .i64 (around x.k most)) w) := fun w => around02 x.k most w hx.1 hx.2.1 hm1 (by omega)
  have hbd := around_bd x.k (m := most) hm1
  have K2 : ∀ W, Calls Try.prog 26 #[.int .i64 (around x.k most)] W (Ret (.string (keyF (around x.k most))) W) := fun W => key_any _ W (by omega) (by omega)
  have K3 : ∀ W, Calls Try.prog 45 #[.agg #[.int .u8 (x.a : Int), .int .i64 x.k, .int .u8 (x.v : Int)]] W (Ret (.string (valF x.v)) W) := fun W => value_any x W hx
  have K4 : ∀ W, Below w.heap.size w W → Calls Try.prog 23 #[ptrN T.p, .string (keyF (around x.k most))] W (FDelPost F T (keyF (around x.k most)) W) := fun W hb => tdelF_any T _ W (hT.below hb) (fun b h => hF b (Nat.le_trans hb.size h)) (by omega)
  have K5 : ∀ W, Below w.heap.size w W → Calls Try.prog 24 #[ptrN T.p, .string (keyF (around x.k most)), .string (valF x.v)] W (FPutPost F T ⟨keyF (around x.k most), valF x.v⟩ W) := fun W hb => tputF_any T ⟨_, _⟩ W (hT.below hb) (fun b h => hF b (Nat.le_trans hb.size h)) (by omega)
  have hch : chL T.l x most = if x.a % 2 = 1 then delL T.l (keyF (around x.k most)) else putT T.l ⟨keyF (around x.k most), valF x.v⟩ := rfl
  obtain ⟨C, hC⟩ : ∃ C, C = chL T.l x most := ⟨_, rfl⟩
  rw [← hC] at hch ⊢
  obtain ⟨a, k, v⟩ := x
  obtain ⟨_, _, ha, hv⟩ := hx
  simp only at *
  generalize keyF (around k most) = KK at *
  generalize valF v = VV at *
  generalize around k most = z at *
  have HK1 := Lib.hid K1; have HK2 := Lib.hid K2; have HK3 := Lib.hid K3; have HK4 := Lib.hid K4; have HK5 := Lib.hid K5; have HCH := Lib.hid hch
  have hw : ((a : Nat) : Int).tmod 2 = ((a % 2 : Nat) : Int) := by rw [Int.tmod_eq_emod_of_nonneg (by omega)]; rfl
  have bX := Blk.new w 31 #[.int .u8 (a : Int), .int .i64 k, .int .u8 (v : Int)]
  clear K1 K2 K3 K4 K5 hch hC
  have hNl := hT.Nlt
  clear hT hF
  rcases Nat.mod_two_eq_zero_or_one a with h | h
  · rw [h] at hw
    have hcc : C = putT T.l ⟨KK, VV⟩ := by rw [HCH.out, h]; rfl
    have HCC := Lib.hid hcc
    clear h hcc
    go_enter Try.func14, Try.ntmps14
    go_wp2_with fail
    refine (HK1.out _).mono ?_
    rintro e w' ⟨rfl, rfl⟩
    go_wp2_with fail
    refine (HK2.out _).mono ?_
    rintro e w2 ⟨rfl, hb2⟩
    have hb12 := bl_trans (bl_alloc w _) hb2
    have bX2 := bX.below hb2 (by simp)
    have c0 := bX2.cell 0
    have c1 := bX2.cell 1
    have c2 := bX2.cell 2
    simp only [List.getElem?_toArray, List.getElem?_cons_zero, List.getElem?_cons_succ] at c0 c1 c2
    clear hb2 bX bX2
    go_wp2_with fail
    refine (HK3.out _).mono ?_
    rintro e w3 ⟨rfl, hb3⟩
    have hb13 := bl_trans hb12 hb3
    clear hb12 hb3 c0 c1 c2
    go_wp2_with fail
    refine (HK5.out _ hb13).mono ?_
    rintro e w4 ⟨T', rfl, hT', hl', hf, _, hb4⟩
    go_wp2
    go_ret
    exact ⟨T', rfl, hT', by rw [HCC.out]; exact hl', hf.weaken hb13.size hNl, bl_trans hb13 hb4⟩
  · rw [h] at hw
    have hcc : C = delL T.l KK := by rw [HCH.out, h]; rfl
    have HCC := Lib.hid hcc
    clear h hcc
    go_enter Try.func14, Try.ntmps14
    go_wp2_with fail
    refine (HK1.out _).mono ?_
    rintro e w' ⟨rfl, rfl⟩
    go_wp2_with fail
    refine (HK2.out _).mono ?_
    rintro e w2 ⟨rfl, hb2⟩
    have hb12 := bl_trans (bl_alloc w _) hb2
    have bX2 := bX.below hb2 (by simp)
    have c0 := bX2.cell 0
    have c1 := bX2.cell 1
    have c2 := bX2.cell 2
    simp only [List.getElem?_toArray, List.getElem?_cons_zero, List.getElem?_cons_succ] at c0 c1 c2
    clear hb2 bX bX2
    go_wp2_with fail
    refine (HK4.out _ hb12).mono ?_
    rintro e w4 ⟨T', rfl, hT', hl', hf, _, hb4⟩
    go_wp2
    go_ret
    exact ⟨T', rfl, hT', by rw [HCC.out]; exact hl', hf.weaken hb12.size hNl, bl_trans hb12 hb4⟩
end Go.Proofs.Ytmkhnpkbaegchaa
/- The walk of the law TreeKeeps (under way). Conditions: none. -/
namespace Go.Proofs.Ytmkhnpkbaegchaa
open Go.RowKit

/-- the blocks that are not one of two rows -/
def NotR (a b : Value) (r : Nat) : Prop := a.ownBlock ≠ some r ∧ b.ownBlock ≠ some r
/-- the trees on the way, and their pairs -/
def KpI (w : World) (F : Nat → Prop) (Ts : List Tre) (Vs : List Value) : Prop :=
  Ts.length = Vs.length ∧ ∀ (j : Nat) T V, Ts[j]? = some T → Vs[j]? = some V → IsTF F w T ∧ T.l.length ≤ 1000 ∧ RowA w V T.l ∧ ∀ r, V.ownBlock = some r → F r ∧ r < w.heap.size
theorem KpI.below {w w' : World} {F : Nat → Prop} {Ts : List Tre} {Vs : List Value} (h : KpI w F Ts Vs) (hb : Below w.heap.size w w') : KpI w' F Ts Vs :=
  ⟨h.1, fun j T V hT hV => by
    obtain ⟨h1, h2, h3, h4⟩ := h.2 j T V hT hV
    exact ⟨h1.below hb, h2, row_below h3 hb, fun r hr => ⟨(h4 r hr).1, Nat.lt_of_lt_of_le (h4 r hr).2 hb.size⟩⟩⟩
theorem KpI.grown {w w' : World} {F G : Nat → Prop} {Ts : List Tre} {Vs : List Value} {row : Option Nat} (h : KpI w F Ts Vs) (hg : w.grownBy w' row) (hr : ∀ r, row = some r → ¬ F r) (hG : ∀ b, F b → b < w.heap.size → G b) : KpI w' G Ts Vs :=
  ⟨h.1, fun j T V hT hV => by
    obtain ⟨h1, h2, h3, h4⟩ := h.2 j T V hT hV
    refine ⟨(h1.in.grown hg (fun r e hf => hr r e hf.1)).mono (fun b hb => hG b hb.1 hb.2), h2, ?_, fun r hr' => ⟨hG r (h4 r hr').1 (h4 r hr').2, Nat.lt_of_lt_of_le (h4 r hr').2 hg.size⟩⟩
    refine h3.kept hg ?_
    cases hv : V.ownBlock with
    | none => exact .inl rfl
    | some r => exact .inr (fun e => hr r e.symm (h4 r hv).1)⟩
theorem KpI.snoc {w : World} {F : Nat → Prop} {Ts : List Tre} {Vs : List Value} {T : Tre} {V : Value} (h : KpI w F Ts Vs) (h1 : IsTF F w T) (h2 : T.l.length ≤ 1000) (h3 : RowA w V T.l) (h4 : ∀ r, V.ownBlock = some r → F r ∧ r < w.heap.size) : KpI w F (Ts ++ [T]) (Vs ++ [V]) := by
  refine ⟨by rw [List.length_append, List.length_append, h.1]; rfl, fun j T' V' hT hV => ?_⟩
  rw [List.getElem?_append] at hT hV
  rw [h.1] at hT
  split at hT
  · rename_i hlt
    rw [if_pos hlt] at hV
    exact h.2 j T' V' hT hV
  · rename_i hlt
    rw [if_neg hlt] at hV
    have e : j - Vs.length = 0 := by have := (List.getElem?_eq_some_iff.1 hT).1; simp at this; omega
    rw [e] at hT hV
    cases hT
    cases hV
    exact ⟨h1, h2, h3, h4⟩
/-- behind the second append: what stands -/
structure KpS (w1 w : World) (T : Tre) (Ts : List Tre) (Vs : List Value) (s4 s5 : Value) (i : Nat) : Prop where
  t : IsTF (NotR s4 s5) w T
  k : KpI w (NotR s4 s5) Ts Vs
  o4 : w.ownsRow w1.heap.size 23 1 s4 i (Ts.map fun T => ptrN T.p)
  o5 : w.ownsRow w1.heap.size 27 1 s5 i Vs
  d : ∀ r, s4.ownBlock = some r → s5.ownBlock ≠ some r
  b : Below w1.heap.size w1 w
theorem KpS.first {w1 w w2 : World} {T : Tre} {Ts : List Tre} {Vs : List Value} {p4 : Option Addr} {c4 : Nat} {s5 : Value} {i g4 d4 : Nat} {xs : List Value} {o : Obj} (h : KpS w1 w T Ts Vs (.slice p4 i c4) s5 i)
    (_ho4 : w2.ownsRow w1.heap.size 23 1 (.slice (some ⟨g4, 0, none⟩) (i + 1) d4) (i + 1) xs) (hg4 : (w.alloc o).grownBy w2 (Value.slice p4 i c4).ownBlock) (hat : (Value.slice p4 i c4).ownBlock = some g4 ∨ g4 = (w.alloc o).heap.size) :
    IsTF (NotR (.slice (some ⟨g4, 0, none⟩) (i + 1) d4) s5) w2 T ∧ KpI w2 (NotR (.slice (some ⟨g4, 0, none⟩) (i + 1) d4) s5) Ts Vs ∧ w2.ownsRow w1.heap.size 27 1 s5 i Vs ∧ (∀ r, (Value.slice (some ⟨g4, 0, none⟩) (i + 1) d4).ownBlock = some r → s5.ownBlock ≠ some r) ∧ Below w1.heap.size w1 w2 := by
  have hG : ∀ b, NotR (.slice p4 i c4) s5 b → b < (w.alloc o).heap.size → NotR (.slice (some ⟨g4, 0, none⟩) (i + 1) d4) s5 b := fun b hb hlt => ⟨fun e => by
    have e1 : g4 = b := by simpa [Value.ownBlock] using e
    rcases hat with h | h
    · exact hb.1 (by rw [h, e1])
    · rw [← h, e1] at hlt; omega, hb.2⟩
  refine ⟨((h.t.below (bl_alloc w _)).in.grown hg4 (fun r e hf => hf.1.1 e)).mono (fun b hb => hG b hb.1 hb.2), (h.k.below (bl_alloc w _)).grown hg4 (fun r e hf => hf.1 e) hG, (h.o5.alloc _).kept hg4 ?_, fun r e h5 => ?_, (h.b.alloc h.b.size _).grown hg4 (by have := h.b.size; simp; omega) (fun k e => (h.o4.lt k e).1)⟩
  · cases hv : s5.ownBlock with
    | none => exact .inl rfl
    | some r => exact .inr (fun e => h.d r e.symm hv)
  · have e1 : g4 = r := by simpa [Value.ownBlock] using e
    rcases hat with q | q
    · exact h.d r (by rw [q, e1]) h5
    · have := (h.o5.lt r h5).2
      rw [← e1, q] at this
      simp at this
      omega
theorem KpS.second {w1 w2 w3 w4 : World} {T : Tre} {Ts : List Tre} {Vs : List Value} {p5 : Option Addr} {c5 : Nat} {s4 v3 : Value} {i g5 d5 : Nat} {o : Obj}
    (hT : IsTF (NotR s4 (.slice p5 i c5)) w2 T) (hK : KpI w2 (NotR s4 (.slice p5 i c5)) Ts Vs) (ho4 : w2.ownsRow w1.heap.size 23 1 s4 (i + 1) (Ts.map (fun T => ptrN T.p) ++ [ptrN T.p])) (ho5 : w2.ownsRow w1.heap.size 27 1 (.slice p5 i c5) i Vs)
    (hd : ∀ r, s4.ownBlock = some r → (Value.slice p5 i c5).ownBlock ≠ some r) (hb : Below w1.heap.size w1 w2) (hl : T.l.length ≤ 1000)
    (h3 : w3.ownsRow w2.heap.size 63 2 v3 T.l.length (flatE encKV T.l)) (hb3 : Below w2.heap.size w2 w3)
    (ho : w4.ownsRow w1.heap.size 27 1 (.slice (some ⟨g5, 0, none⟩) (i + 1) d5) (i + 1) (Vs ++ [v3])) (hg : (w3.alloc o).grownBy w4 (Value.slice p5 i c5).ownBlock) (hat : (Value.slice p5 i c5).ownBlock = some g5 ∨ g5 = (w3.alloc o).heap.size) :
    KpS w1 w4 T (Ts ++ [T]) (Vs ++ [v3]) s4 (.slice (some ⟨g5, 0, none⟩) (i + 1) d5) (i + 1) := by
  have hbs := hb3.size
  have hG : ∀ b, NotR s4 (.slice p5 i c5) b → b < (w3.alloc o).heap.size → NotR s4 (.slice (some ⟨g5, 0, none⟩) (i + 1) d5) b := fun b hb hlt => ⟨hb.1, fun e => by
    have e1 : g5 = b := by simpa [Value.ownBlock] using e
    rcases hat with h | h
    · exact hb.2 (by rw [h, e1])
    · rw [← h, e1] at hlt; omega⟩
  have hb3' := bl_trans hb3 (bl_alloc w3 o)
  have t4 : IsTF (NotR s4 (.slice (some ⟨g5, 0, none⟩) (i + 1) d5)) w4 T := ((hT.below hb3').in.grown hg (fun r e hf => hf.1.2 e)).mono (fun b hb => hG b hb.1 hb.2)
  have hv3 : ∀ r, v3.ownBlock = some r → NotR s4 (.slice p5 i c5) r ∧ r < (w3.alloc o).heap.size := fun r e => by
    have h := h3.lt r e
    refine ⟨⟨fun e4 => ?_, fun e5 => ?_⟩, by simp; omega⟩
    · have := (ho4.lt r e4).2; omega
    · have := (ho5.lt r e5).2; omega
  have hrow : w4.ownsRow 0 63 2 v3 T.l.length (flatE encKV T.l) := row_base ((h3.alloc o).kept hg (by
    cases hv : v3.ownBlock with
    | none => exact .inl rfl
    | some r => exact .inr (fun e => (hv3 r hv).1.2 e.symm))) (Nat.zero_le _)
  refine ⟨t4, ((hK.below hb3').grown hg (fun r e hf => hf.2 e) hG).snoc t4 hl hrow (fun r e => ⟨hG r (hv3 r e).1 (hv3 r e).2, Nat.lt_of_lt_of_le (hv3 r e).2 hg.size⟩), ?_, ho, fun r e h5 => ?_, ?_⟩
  · rw [List.map_append]
    refine (row_below ho4 hb3').kept hg ?_
    cases hv : s4.ownBlock with
    | none => exact .inl rfl
    | some r => exact .inr (fun e => hd r hv e.symm)
  · have e1 : g5 = r := by simpa [Value.ownBlock] using h5
    rcases hat with q | q
    · exact hd r e (by rw [q, e1])
    · have := (ho4.lt r e).2
      rw [← e1, q] at this
      simp at this
      omega
  · have hb4 := bl_trans hb (show Below w2.heap.size w2 (w3.alloc o) from hb3')
    exact hb4.grown hg (by have := hb4.size; have := hb.size; omega) (fun k e => (ho5.lt k e).1)
theorem KpS.below {w1 w w' : World} {T T' : Tre} {Ts : List Tre} {Vs : List Value} {s4 s5 : Value} {i : Nat} (h : KpS w1 w T Ts Vs s4 s5 i) (hb : Below w.heap.size w w') (ht : IsTF (NotR s4 s5) w' T') : KpS w1 w' T' Ts Vs s4 s5 i :=
  ⟨ht, h.k.below hb, row_below h.o4 hb, row_below h.o5 hb, h.d, bl_trans h.b hb⟩
theorem KpS.fresh {w1 w : World} {T : Tre} {Ts : List Tre} {Vs : List Value} {s4 s5 : Value} {i : Nat} (h : KpS w1 w T Ts Vs s4 s5 i) : ∀ b, w.heap.size ≤ b → NotR s4 s5 b := fun b hb => ⟨fun e => by have := (h.o4.lt b e).2; omega, fun e => by have := (h.o5.lt b e).2; omega⟩
end Go.Proofs.Ytmkhnpkbaegchaa
/- The law TreeKeeps returns true at every input. Conditions: the list lies in memory, its elements are ops. -/
namespace Go.Proofs.Ytmkhnpkbaegchaa
open Go.RowKit

theorem infoT : (Try.prog.info? 23).map (fun i => (i.zero, i.size, i.bytes)) = some (some (.pointer none), 1, 8) := by kernel_rfl
theorem infoS : (Try.prog.info? 27).map (fun i => (i.zero, i.size, i.bytes)) = some (some (.slice none 0 0), 1, 24) := by kernel_rfl
set_option maxRecDepth 100000 in
set_option maxHeartbeats 8000000 in
theorem law_keeps (vl : Value) (ls : List OpV) (w : World) (hI : IsRow 3 encO w vl ls) (hok : ∀ x ∈ ls, OpOk x) :
    Calls Try.prog 3 #[vl] w (Ret (.bool true) w) := by
  obtain ⟨i0, hi0, hz0, hz1, hz2⟩ := info_parts infoT
  obtain ⟨i1, hi1, hy0, hy1, hy2⟩ := info_parts infoS
  obtain ⟨pa, cap, rfl, _, hop⟩ := hI.open
  have HOP := Lib.hid hop; have HOK := Lib.hid hok
  clear hop hok hI
  go_enter Try.func3, Try.ntmps3
  go_wp2_with fail
  refine (new_any _).mono ?_
  rintro e w1 ⟨p, rfl, hT1, hp, hb1⟩
  clear hp
  have hms : maxLen = 9223372036854775807 := rfl
  have HMS := Lib.hid hms
  clear hms
  go_wp2
  go_loopg [3, 4, 5, 6] 40 (fun kx s3 s4 s5 s6 wr => ∃ (i : Nat) (T : Tre) (Ts : List Tre) (Vs : List Value), s6 = .int .i64 i ∧ s3 = ptrN T.p ∧ i ≤ 40 ∧ 40 - i ≤ kx ∧ Hid (Ts.length = i) ∧ Hid (T.l.length ≤ i) ∧ Hid (KpS w1 wr T Ts Vs s4 s5 i))
  case atStart =>
    refine ⟨0, ⟨p, [], 0, []⟩, [], [], rfl, rfl, by omega, by omega, Lib.hid rfl, Lib.hid (Nat.le_refl _), Lib.hid ⟨hT1.isTF.mono (fun b _ => ⟨fun h => (by cases h), fun h => (by cases h)⟩), ⟨rfl, fun j T V h => by simp at h⟩, World.ownsRow_nil _ _ _ _, World.ownsRow_nil _ _ _ _, fun r h => (by cases h), bl_refl _⟩⟩
  case round =>
    clear hT1
    obtain ⟨i, T, Ts, Vs, rfl, rfl, hi, hm, HTS, HL, HK⟩ := hrel
    obtain ⟨p4, c4, rfl⟩ := row_slice HK.out.o4
    obtain ⟨p5, c5, rfl⟩ := row_slice HK.out.o5
    rcases (show (i < ls.length ∧ i < 40) ∨ (i < ls.length ∧ ¬ i < 40) ∨ ¬ i < ls.length by omega) with ⟨hlt, hlt2⟩ | hlt
    · skip
      · obtain ⟨x, hx⟩ : ∃ x, ls[i]? = some x := ⟨_, List.getElem?_eq_getElem hlt⟩
        have hxo := HOK.out x (List.mem_of_getElem? hx)
        obtain ⟨gb, off, rfl, hg, hcell⟩ := HOP.out (by omega)
        have d0 := hcell i x hx 0 _ rfl
        have d1 := hcell i x hx 1 _ rfl
        have d2 := hcell i x hx 2 _ rfl
        rw [Nat.add_zero] at d0
        have HC0 := Lib.hid (fun W (hW : Below w1.heap.size w1 W) => And.intro (((bl_trans hb1 hW).cell (p := ⟨gb, off + i * 3, none⟩) hg).trans d0) (And.intro (((bl_trans hb1 hW).cell (p := ⟨gb, off + i * 3 + 1, none⟩) hg).trans d1) (((bl_trans hb1 hW).cell (p := ⟨gb, off + i * 3 + 2, none⟩) hg).trans d2)))
        have HXO := Lib.hid hxo
        clear hx hcell d0 d1 d2 hxo
        go_upto_region 10 with (at_builtin; refine wpList_append_lies _ rfl _ _ 25 rfl w1.heap.size 23 i0 _ 1 8 Try.underlying25 hi0 hz0 hz1 hz2 (by rfl) (by decide) (.slice p4 i c4) i _ rfl (HK.out.o4.alloc _) ⟨wr.heap.size, 0, none⟩ 1 1 [ptrN T.p] rfl rfl (World.news_of_block (cs := #[ptrN T.p]) (t := 23) (fr := (0, 0)) (heap_alloc_new wr _)) (by simp [Value.oneCell']) (by omega) (by have := HMS.out; omega) (by omega) (by have := HK.out.b.size; simp; omega) _ rfl ?_; intro g4 d4 w2 ho4 hg4 hat4 hlt4)
        have hS := KpS.first HK.out ho4 hg4 hat4
        obtain ⟨hT2, hK2, hO5, hD2, hB2⟩ := hS
        have hrg : Calls Try.prog 13 #[ptrN T.p, .string ⟨#[]⟩, .string ⟨#[]⟩] w2 (OwnPost 63 2 (flatE encKV T.l) T.l.length w2) := by
          have := range_any T ⟨#[]⟩ ⟨#[]⟩ w2 hT2.isT (by have := HL.out; omega)
          rw [rangeL_all] at this
          exact this
        have HO4 := Lib.hid ho4; have HO5 := Lib.hid hO5; have HD2 := Lib.hid hD2; have HT2 := Lib.hid hT2; have HK2 := Lib.hid hK2; have HB2 := Lib.hid hB2; have HRG := Lib.hid hrg
        clear ho4 hO5 hD2 hT2 hK2 hB2 hrg hg4 hat4 hlt4
        go_wp2_with fail
        refine HRG.out.mono ?_
        rintro e w3 ⟨v3, rfl, ho3, hb3⟩
        obtain ⟨p3, c3, rfl⟩ := row_slice ho3
        have hB3 := bl_trans HB2.out hb3
        have HO3 := Lib.hid ho3; have HB3 := Lib.hid hb3; have HBB := Lib.hid hB3
        clear ho3 hb3 hB3 HRG
        go_upto_region 11 with (at_builtin; refine wpList_append_lies _ rfl _ _ 26 rfl w1.heap.size 27 i1 _ 1 24 Try.underlying26 hi1 hy0 hy1 hy2 (by rfl) (by decide) (.slice p5 i c5) i _ rfl ((row_below HO5.out HB3.out).alloc _) ⟨w3.heap.size, 0, none⟩ 1 1 [.slice p3 T.l.length c3] rfl rfl (World.news_of_block (cs := #[.slice p3 T.l.length c3]) (t := 27) (fr := (0, 0)) (heap_alloc_new w3 _)) (by simp [Value.oneCell']) (by omega) (by have := HMS.out; omega) (by omega) (by have := HBB.out.size; simp; omega) _ rfl ?_; intro g5 d5 w4 ho5 hg5 hat5 hlt5)
        have hKS := KpS.second HT2.out HK2.out HO4.out HO5.out HD2.out HB2.out (by have := HL.out; omega) HO3.out HB3.out ho5 hg5 hat5
        have hch := changeF_any T x 25 w4 hKS.t hKS.fresh HXO.out (by omega) (by omega) (by have := HL.out; omega)
        have hln := chL_len hKS.t.isT.1 x 25
        obtain ⟨c0, c1, c2⟩ := HC0.out w4 hKS.b
        have HKS := Lib.hid hKS; have HCH := Lib.hid hch; have HLN := Lib.hid hln
        clear ho5 hg5 hat5 hlt5 hKS hch hln HO4 HO5 HD2 HT2 HK2 HB2 HO3 HB3 HBB
        go_wp2_with fail
        refine HCH.out.mono ?_
        rintro e w5 ⟨T', rfl, hT', hl', _, hb5⟩
        have hKN := HKS.out.below hb5 hT'
        have HKN := Lib.hid hKN; have HL' := Lib.hid hl'
        clear hT' hl' hb5 hKN c0 c1 c2 HCH
        go_wp2
        go_roundg (40 - (i + 1))
        case measure => omega
        case rel => exact ⟨i + 1, T', Ts ++ [T], Vs ++ [.slice p3 T.l.length c3], by go_num, rfl, by omega, Nat.le_refl _, Lib.hid (by rw [List.length_append, HTS.out]; rfl), Lib.hid (by rw [HL'.out]; have := HLN.out; have := HL.out; omega), HKN⟩
    · rcases hlt with ⟨hlt, hlt2⟩ | hlt
      all_goals
        obtain ⟨wa, rfl⟩ : ∃ wa, wa = wr := ⟨_, rfl⟩
        have HTSE := HTS.out
        have HVSE : Vs.length = i := by rw [← HK.out.k.1, HTS.out]
        go_wp2
        go_loopg [7] i (fun kx s7 wr => ∃ (j : Nat), s7 = .int .i64 j ∧ j ≤ i ∧ i - j ≤ kx ∧ Hid (Below wa.heap.size wa wr))
        case atStart => exact ⟨0, rfl, by omega, by omega, Lib.hid (bl_refl _)⟩
        case round =>
          obtain ⟨j, rfl, hj, hm2, HBj⟩ := hrel
          by_cases hji : j < i
          · obtain ⟨Tj, hTj⟩ : ∃ x, Ts[j]? = some x := ⟨_, List.getElem?_eq_getElem (by omega)⟩
            obtain ⟨Vj, hVj⟩ : ∃ x, Vs[j]? = some x := ⟨_, List.getElem?_eq_getElem (by omega)⟩
            obtain ⟨k1, k2, k3, k4⟩ := HK.out.k.2 j Tj Vj hTj hVj
            obtain ⟨g4, c4', e4, _⟩ := HK.out.o4.form (by omega)
            obtain ⟨g5, c5', e5, _⟩ := HK.out.o5.form (by omega)
            obtain ⟨rfl, rfl⟩ : p4 = some ⟨g4, 0, none⟩ ∧ c4 = c4' := by simpa using e4
            obtain ⟨rfl, rfl⟩ : p5 = some ⟨g5, 0, none⟩ ∧ c5 = c5' := by simpa using e5
            have q4 := HK.out.o4.cells rfl j (ptrN Tj.p) (by rw [List.getElem?_map, hTj]; rfl)
            have q5 := HK.out.o5.cells rfl j Vj hVj
            rw [Go.WideShapes.add_plain, Nat.zero_add] at q4 q5
            have l4 := (HK.out.o4.lt g4 rfl).2
            have l5 := (HK.out.o5.lt g5 rfl).2
            obtain ⟨pv, cv, rfl⟩ := row_slice k3
            have HCJ := Lib.hid (fun W (hW : Below wr.heap.size wr W) => And.intro (((bl_trans HBj.out hW).cell (p := ⟨g4, j, none⟩) l4).trans q4) (((bl_trans HBj.out hW).cell (p := ⟨g5, j, none⟩) l5).trans q5))
            have hTw : ∀ W, Below wr.heap.size wr W → IsT W Tj := fun W hW => (k1.isT).below (bl_trans HBj.out hW)
            have hrg : ∀ W, Below wr.heap.size wr W → Calls Try.prog 13 #[ptrN Tj.p, .string ⟨#[]⟩, .string ⟨#[]⟩] W (OwnPost 63 2 (flatE encKV Tj.l) Tj.l.length W) := fun W hW => by
              have := range_any Tj ⟨#[]⟩ ⟨#[]⟩ W (hTw W hW) (by omega)
              rw [rangeL_all] at this
              exact this
            have hsm : ∀ W v B, Below wr.heap.size wr W → W.ownsRow B 63 2 v Tj.l.length (flatE encKV Tj.l) → Calls Try.prog 15 #[v, .slice pv Tj.l.length cv] W (Ret (.bool true) W) := fun W v B hW hv => by
              have := same_any Tj.l Tj.l v (.slice pv Tj.l.length cv) W (IsRow.of_row encKV_len hv (by show Tj.l.length ≤ maxLen; unfold maxLen; omega)) (IsRow.of_row encKV_len (row_below k3 (bl_trans HBj.out hW)) (by show Tj.l.length ≤ maxLen; unfold maxLen; omega)) (by omega) (by omega)
              rwa [decide_eq_true rfl] at this
            have hle : ∀ W, Below wr.heap.size wr W → Calls Try.prog 16 #[ptrN Tj.p] W (Pur (.int .i64 Tj.l.length) W) := fun W hW => len_any Tj W (hTw W hW)
            have HRG := Lib.hid hrg; have HSM := Lib.hid hsm; have HLE := Lib.hid hle
            obtain ⟨q6, q7⟩ := HCJ.out wr (bl_refl _)
            clear hTj hVj k1 k3 k4 e4 e5 q4 q5 hTw hrg hsm hle
            go_upto_region 15 with (fail)
            go_region_held3 (fun w' => w'.cell? ⟨g4, j, none⟩ = some (ptrN Tj.p) ∧ w'.cell? ⟨g5, j, none⟩ = some (.slice pv Tj.l.length cv)) (first | go_keep | exact HCJ.out _ (bl_drew _) | exact HCJ.out _ (bl_trans (bl_drew _) hb6) | exact HCJ.out _ (bl_trans (bl_trans (bl_drew _) hb6) hb7)) (first | ((with_reducible refine (HRG.out _ (bl_drew _)).mono ?_); rintro e w6 ⟨v6, rfl, ho6, hb6⟩) | ((with_reducible refine (HSM.out _ _ _ (bl_trans (bl_drew _) hb6) ho6).mono ?_); rintro e w7 ⟨rfl, hb7⟩) | ((with_reducible refine (HLE.out _ (bl_trans (bl_trans (bl_drew _) hb6) hb7)).mono ?_); rintro e w8 ⟨rfl, rfl⟩))
            all_goals
              have hB7 := bl_trans HBj.out (bl_trans (bl_trans (bl_drew wr) hb6) hb7)
              go_wp2
              go_roundg (i - (j + 1))
              case measure => omega
              case rel => exact ⟨j + 1, by go_num, by omega, Nat.le_refl _, Lib.hid hB7⟩
          · go_wp2_with fail
            refine (lives_any _).mono ?_
            rintro e w9 ⟨rfl, hb9⟩
            go_wp2
            go_ret
            exact ⟨rfl, bl_trans hb1 (bl_trans HK.out.b (bl_trans HBj.out hb9))⟩
end Go.Proofs.Ytmkhnpkbaegchaa
