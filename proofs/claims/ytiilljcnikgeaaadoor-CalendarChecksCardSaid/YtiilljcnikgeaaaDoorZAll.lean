/- Several texts in one, each with its own word at its head. Conditions: stated there. -/
import Derived.Test.YtiilljcnikgeaaaDoorKK
import Derived.Test.YtiilljcnikgeaaaDoorZPlain
import Derived.IntWalk
/- The walks of the number helpers of a reference package. Conditions: stated at each. -/
namespace Go.Proofs.YtiilljcnikgeaaaDoor
open Go.RowKit

set_option maxHeartbeats 400000 in
theorem around03 (n m : Int) (w : World) (h1 : -9223372036854775808 ≤ n) (h2 : n ≤ 9223372036854775807) (hm : 1 ≤ m) (hm2 : m ≤ 9223372036854775807) :
    Calls Tryd.prog 46 #[.int .i64 n, .int .i64 m] w (Pur (.int .i64 (around n m)) w) := by
  have hmm : (m == 0) = false := by rw [beq_eq_false_iff_ne]; omega
  by_cases h : n < 0
  · have ht : -((n + 1).tmod m) = (-(n + 1)) % m := by rw [← Int.neg_tmod]; exact Int.tmod_eq_emod_of_nonneg (by omega)
    have H := Lib.hid ht; clear ht
    go_enter Tryd.func46, Tryd.ntmps46
    go_wp2
    go_ret
    exact ⟨ret_int (by unfold around; rw [if_pos h, H.out]), rfl⟩
  · go_enter Tryd.func46, Tryd.ntmps46
    go_wp2
    go_ret
    exact ⟨ret_int (by unfold around; rw [if_neg (by omega)]), rfl⟩
/-- Pick: the element i modulo m; 0 where there is none -/
def pick (zs : List Int) (i : Nat) (m : Int) : Int := if i < zs.length then around (zs[i]?.getD 0) m else 0
set_option maxHeartbeats 400000 in
theorem pick03 (v : Value) (zs : List Int) (i : Nat) (m : Int) (w : World) (hv : IsInts w v zs) (hz : InR zs) (_hi : i ≤ 9223372036854775807) (hm : 1 ≤ m) (hm2 : m ≤ 9223372036854775807) :
    Calls Tryd.prog 45 #[v, .int .i64 i, .int .i64 m] w (Pur (.int .i64 (pick zs i m)) w) := by
  unfold pick
  have hneg : decide ((i : Int) < 0) = false := by simp
  rcases hv with ⟨a, cap, rfl, rfl⟩ | ⟨b, off, cap, rfl, hb, hl, hc⟩
  · go_enter Tryd.func45, Tryd.ntmps45
    go_wp2
    go_ret
    exact ⟨rfl, rfl⟩
  · by_cases h : i < zs.length
    · have hci := hc i h
      obtain ⟨z1, z2⟩ := hz.at i
      have HC := Lib.hid hc; clear hc
      unfold maxLen at hl
      rw [if_pos h]
      generalize zs[i]?.getD 0 = z at *
      go_enter Tryd.func45, Tryd.ntmps45
      go_wp2_with fail
      refine (around03 _ _ _ z1 z2 hm hm2).mono ?_
      rintro e w' ⟨rfl, rfl⟩
      go_wp2
      go_ret
      exact ⟨rfl, rfl⟩
    · have HC := Lib.hid hc; clear hc
      unfold maxLen at hl
      rw [if_neg h]
      go_enter Tryd.func45, Tryd.ntmps45
      go_wp2
      go_ret
      exact ⟨rfl, rfl⟩
end Go.Proofs.YtiilljcnikgeaaaDoor
/- Zones in memory: a slice of shifts. Conditions: none. -/
namespace Go.Proofs.YtiilljcnikgeaaaDoor
open Go.RowKit

/-- the slice v reads as the shifts l -/
def IsSh (w : World) (v : Value) (l : Sh) : Prop :=
  (∃ a cap, v = .slice a 0 cap ∧ l = []) ∨ ∃ b off cap, v = .slice (some ⟨b, off, none⟩) l.length cap ∧ b < w.heap.size ∧ l.length ≤ maxLen ∧
    ∀ j, j < l.length → w.cell? ⟨b, off + j * 2, none⟩ = some (.int .i64 (l[j]?.getD (0, 0)).1) ∧ w.cell? ⟨b, off + j * 2 + 1, none⟩ = some (.int .i64 (l[j]?.getD (0, 0)).2)
theorem IsSh.below {w w' : World} {v : Value} {l : Sh} (h : IsSh w v l) (hb : Below w.heap.size w w') : IsSh w' v l := by
  rcases h with h | ⟨b, off, cap, e, hlt, hm, hc⟩
  · exact .inl h
  · exact .inr ⟨b, off, cap, e, Nat.lt_of_lt_of_le hlt hb.size, hm, fun j hj => ⟨(hb.cell (p := ⟨b, off + j * 2, none⟩) hlt).trans (hc j hj).1, (hb.cell (p := ⟨b, off + j * 2 + 1, none⟩) hlt).trans (hc j hj).2⟩⟩
theorem IsSh.nil (w : World) : IsSh w (.slice none 0 0) [] := .inl ⟨none, 0, rfl, rfl⟩
theorem IsSh.slice {w : World} {v : Value} {l : Sh} (h : IsSh w v l) : ∃ a cap, v = .slice a l.length cap ∧ l.length ≤ maxLen := by
  rcases h with ⟨a, cap, rfl, rfl⟩ | ⟨b, off, cap, e, hlt, hm, hc⟩
  · exact ⟨a, cap, rfl, Nat.zero_le _⟩
  · exact ⟨_, cap, e, hm⟩
def encSeg (s : Seg) : Array Value := #[.agg #[.int .i64 s.f, .int .i64 s.u, .int .i64 s.o, .int .i64 s.b]]
/-- the types of the iterator's own cells -/
def segT (t : TypeId) : Bool := t == 89 || t == 57
theorem drop_next {l : Sh} {k : Nat} (h : k < l.length) : l.drop k = ((l[k]?.getD (0, 0)).1, (l[k]?.getD (0, 0)).2) :: l.drop (k + 1) := by
  rw [List.drop_eq_getElem_cons h, List.getElem?_eq_getElem h]; rfl

set_option maxHeartbeats 1000000 in
/-- segments(z): the zone is boxed; the function value captures the box -/
theorem segments_any (n : Nat) (o : Int) (v : Value) (w : World) :
    CallsIn Fence.wide n Tryd.prog 52 #[.agg #[.int .i64 o, v]] w fun e w' => e = .returned (.func (.func 74) #[] #[.pointer (some ⟨w.heap.size, 0, none⟩)]) ∧ w' = w.alloc (.cells #[.int .i64 o, v] 28) := by
  refine callsIn_of_wp Tryd.func52 rfl trivial ?_ rfl
  simp only [Tryd.ntmps52, List.size_toArray, List.length_cons, List.length_nil, Nat.reduceAdd, Nat.reduceSub, Array.replicate_succ, Array.replicate_zero, List.push_toArray, List.append_toArray, List.nil_append, List.cons_append]
  gi_wp2
  go_ret
  exact ⟨rfl, rfl⟩
end Go.Proofs.YtiilljcnikgeaaaDoor
/- The iterator over a zone's segments. Conditions: none but that the zone lies in memory. -/
namespace Go.Proofs.YtiilljcnikgeaaaDoor
open Go.RowKit
attribute [local go_sem] Oper.semAt_some

theorem AbidesT.set {β : Type} {T : TypeId → Bool} {B : Nat} {J : β → World → Prop} {s : β} {w : World} {g t cs} (hJ : AbidesT T B J) (hs : J s w) (h : Blk w g t cs) (ht : T t = true) (hB : B ≤ g) (i : Nat) (v : Value) : J s (w.setCell ⟨g, i, none⟩ v) :=
  hJ _ _ _ _ hs (grown_setAt w g i v) (h.mine ht hB)
set_option maxRecDepth 100000 in
set_option maxHeartbeats 4000000 in
theorem segs1_in (n : Nat) (hn : 1 ≤ n) (l Bz n₀ b off cap : Nat) (o : Int) (sh : Sh) (J Jx : List Seg → World → Prop) (hm : sh.length ≤ maxLen) (hbn : b < n₀) (p : Seg → Prop) (hp : ∀ s, s ∈ segsOf o sh → p s)
    (W : World) (hJ : AbidesT segT W.heap.size J) (hWn : n₀ ≤ W.heap.size) (hBz : Bz < W.heap.size)
    (hY : ∀ pre x W1, J pre W1 → p x → pre.length < sh.length + 1 → YieldAt Fence.wide (n - 1) Tryd.prog l (encSeg x) W1 fun e W' =>
      (e = .returned (.bool true) ∧ J (pre ++ [x]) W' ∧ KeepT segT n₀ W1 W') ∨ (e = .returned (.bool false) ∧ Jx (pre ++ [x]) W'))
    (h0c : W.cell? ⟨Bz, 0, none⟩ = some (.int .i64 o)) (h1c : W.cell? ⟨Bz, 1, none⟩ = some (.slice (some ⟨b, off, none⟩) sh.length cap))
    (hc : ∀ j, j < sh.length → W.cell? ⟨b, off + j * 2, none⟩ = some (.int .i64 (sh[j]?.getD (0, 0)).1) ∧ W.cell? ⟨b, off + j * 2 + 1, none⟩ = some (.int .i64 (sh[j]?.getD (0, 0)).2)) (h0 : J [] W) :
    CallsIn Fence.wide n Tryd.prog 74 #[.func (.yield l) #[] #[], .pointer (some ⟨Bz, 0, none⟩)] W fun e W' => (∃ v, e = .returned v) ∧
      ((∃ ys, ys = segsOf o sh ∧ J ys W') ∨ (∃ pre, pre <+: segsOf o sh ∧ Jx pre W')) := by
  have HC := Lib.hid hc; clear hc
  unfold maxLen at hm
  refine callsIn_of_wp Tryd.func74 rfl trivial ?_ rfl
  simp only [Tryd.ntmps74, List.size_toArray, List.length_cons, List.length_nil, Nat.reduceAdd, Nat.reduceSub, Array.replicate_succ, Array.replicate_zero, List.push_toArray, List.append_toArray, List.nil_append, List.cons_append]
  gi_wp2
  have bS : Blk ((W.alloc (.cells #[.int .i64 (-1125899906842624), .int .i64 0, .int .i64 o, .int .i64 o] 89))) W.heap.size 89 _ := Blk.new _ _ _
  gi_loopw [14] (fun i wr => ∃ (k : Nat) (pre : List Seg) (f u c d : Int), k ≤ sh.length ∧ i = .int .i64 k ∧ pre.length = k ∧ segsOf o sh = pre ++ segs f c d (sh.drop k) ∧ Blk wr W.heap.size 89 #[.int .i64 f, .int .i64 u, .int .i64 c, .int .i64 d] ∧ J pre wr ∧ Below n₀ W wr)
    (fun i _ => sh.length - (intOf i).toNat)
  case atStart => exact ⟨0, [], _, _, _, _, Nat.zero_le _, rfl, rfl, rfl, bS, hJ _ _ _ _ h0 (World.grownBy_alloc _ _ none) (fun _ e => by cases e), (Below.refl _ _).alloc hWn _⟩
  case round =>
    obtain ⟨k, pre, f, u, c, d, hk, rfl, hpre, hseg, bS', hJs, hnx⟩ := hrel
    by_cases hlt : k < sh.length
    · have hck := HC.out k hlt
      rw [drop_next hlt] at hseg
      generalize (sh[k]?.getD (0, 0)).1 = A at *
      generalize (sh[k]?.getD (0, 0)).2 = B at *
      have c1 : wr.cell? ⟨b, off + k * 2, none⟩ = some (.int .i64 A) := (hnx.cell (p := ⟨b, off + k * 2, none⟩) hbn).trans hck.1
      have c2 : wr.cell? ⟨b, off + k * 2 + 1, none⟩ = some (.int .i64 B) := (hnx.cell (p := ⟨b, off + k * 2 + 1, none⟩) hbn).trans hck.2
      have s0 := bS'.cell 0
      have s1 := bS'.cell 1
      have s2 := bS'.cell 2
      have s3 := bS'.cell 3
      have t0 := bS'.frozen 0
      have t1 := bS'.frozen 1
      have t2 := bS'.frozen 2
      have t3 := bS'.frozen 3
      simp at s0 s1 s2 s3
      have hbr : b < wr.heap.size := by have := hnx.size; omega
      have hSr := bS'.lt
      have bS1 : Blk (wr.setCell ⟨W.heap.size, 1, none⟩ (.int .i64 A)) W.heap.size 89 #[.int .i64 f, .int .i64 A, .int .i64 c, .int .i64 d] := bS'.set 1 _
      have bS2 := bS1.alloc (.cells #[.int .i64 A, .int .i64 B] 57)
      have bX := Blk.new (wr.setCell ⟨W.heap.size, 1, none⟩ (.int .i64 A)) 57 #[.int .i64 A, .int .i64 B]
      have hs1 : (wr.setCell ⟨W.heap.size, 1, none⟩ (.int .i64 A)).heap.size = wr.heap.size := by simp
      rw [hs1] at bX
      have hJ1 := hJ _ _ _ _ hJs (grown_setAt wr W.heap.size 1 (.int .i64 A)) (bS'.mine (T := segT) rfl (Nat.le_refl _))
      have hJ2 := hJ _ _ _ _ hJ1 (World.grownBy_alloc _ (.cells #[.int .i64 A, .int .i64 B] 57) none) (fun _ e => by cases e)
      have hB2 : Below n₀ W ((wr.setCell ⟨W.heap.size, 1, none⟩ (.int .i64 A)).alloc (.cells #[.int .i64 A, .int .i64 B] 57)) := (hnx.setCell (p := ⟨W.heap.size, 1, none⟩) hWn _).alloc (by rw [hs1]; omega) _
      obtain ⟨fn, tmps, assign, body, hy, hR⟩ := hY pre ⟨f, A, c, d⟩ _ hJ2 (hp _ (by rw [hseg]; simp [segs])) (by omega)
      dsimp only [encSeg] at hy
      clear hs1 hJ1 hJ2 hJs hnx bS1
      have HSEG := Lib.hid hseg; clear hseg bS
      have HPRE := Lib.hid hpre; clear hpre
      gi_wp2
      refine hR.mono ?_
      rintro e W3 (⟨rfl, hJ3, hk3⟩ | ⟨rfl, hJx3⟩)
      · have bS3 : Blk W3 W.heap.size 89 _ := hk3.mine _ _ _ _ rfl bS2
        have bX3 : Blk W3 wr.heap.size 57 _ := hk3.mine _ _ _ _ rfl bX
        clear s0 s1 s2 s3 t0 t1 t2 t3 c1 c2 hck hy hR h0c h1c
        have s0 := bS3.cell 0
        have s1 := bS3.cell 1
        have s2 := bS3.cell 2
        have s3 := bS3.cell 3
        have t0 := bS3.frozen 0
        have t1 := bS3.frozen 1
        have t2 := bS3.frozen 2
        have t3 := bS3.frozen 3
        have x0 := bX3.cell 0
        have x1 := bX3.cell 1
        simp at s0 s1 s2 s3 x0 x1
        gi_wp2
        go_roundw
        case rel =>
          have r1 := bS3.set 0 (.int .i64 A)
          have r2 := r1.set 1 (.int .i64 0)
          have r3 := r2.set 2 (.int .i64 B)
          have r4 := r3.set 3 (.int .i64 c)
          have j1 := hJ.set hJ3 bS3 rfl (Nat.le_refl _) 0 (.int .i64 A)
          have j2 := hJ.set j1 r1 rfl (Nat.le_refl _) 1 (.int .i64 0)
          have j3 := hJ.set j2 r2 rfl (Nat.le_refl _) 2 (.int .i64 B)
          have j4 := hJ.set j3 r3 rfl (Nat.le_refl _) 3 (.int .i64 c)
          exact ⟨k + 1, pre ++ [⟨f, A, c, d⟩], A, 0, B, c, by omega, by go_num, by simp [HPRE.out], by rw [HSEG.out]; simp [segs], r4, j4,
            ((((hB2.trans hk3.below).setCell (p := ⟨W.heap.size, 0, none⟩) hWn _).setCell (p := ⟨W.heap.size, 1, none⟩) hWn _).setCell (p := ⟨W.heap.size, 2, none⟩) hWn _).setCell (p := ⟨W.heap.size, 3, none⟩) hWn _⟩
        case measure => simp [intOf]; omega
      · gi_wp2
        refine bodyPost_ret (results_none rfl _ _ _) rfl ?_
        exact ⟨⟨_, rfl⟩, .inr ⟨pre ++ [⟨f, A, c, d⟩], by rw [HSEG.out]; exact ⟨segs A B c (sh.drop (k + 1)), by simp [segs]⟩, hJx3⟩⟩
    · obtain rfl : k = sh.length := by omega
      rw [List.drop_length] at hseg
      have s0 := bS'.cell 0
      have s1 := bS'.cell 1
      have s2 := bS'.cell 2
      have s3 := bS'.cell 3
      have t1 := bS'.frozen 1
      simp at s0 s1 s2 s3
      have hSr := bS'.lt
      have hJ1 := hJ.set hJs bS' rfl (Nat.le_refl _) 1 (.int .i64 1125899906842624)
      obtain ⟨fn, tmps, assign, body, hy, hR⟩ := hY pre ⟨f, 1125899906842624, c, d⟩ _ hJ1 (hp _ (by rw [hseg]; simp [segs])) (by omega)
      dsimp only [encSeg] at hy
      clear hJ1 hJs hnx bS
      have HSEG := Lib.hid hseg; clear hseg
      have HPRE := Lib.hid hpre; clear hpre
      gi_wp2
      refine hR.mono ?_
      rintro e W3 (⟨rfl, hJ3, hk3⟩ | ⟨rfl, hJx3⟩)
      · gi_wp2
        go_end0
        exact ⟨⟨_, rfl⟩, .inl ⟨pre ++ [⟨f, 1125899906842624, c, d⟩], by rw [HSEG.out]; rfl, hJ3⟩⟩
      · gi_wp2
        go_end0
        exact ⟨⟨_, rfl⟩, .inr ⟨pre ++ [⟨f, 1125899906842624, c, d⟩], by rw [HSEG.out]; exact ⟨[], by simp [segs]⟩, hJx3⟩⟩

set_option maxRecDepth 100000 in
set_option maxHeartbeats 2000000 in
theorem segs1_nil (n : Nat) (_hn : 1 ≤ n) (l Bz n₀ : Nat) (a : Option Addr) (cap : Nat) (o : Int) (J Jx : List Seg → World → Prop) (p : Seg → Prop) (hp : ∀ s, s ∈ segsOf o [] → p s)
    (W : World) (hJ : AbidesT segT W.heap.size J) (hBz : Bz < W.heap.size)
    (hY : ∀ pre x W1, J pre W1 → p x → pre.length < 0 + 1 → YieldAt Fence.wide (n - 1) Tryd.prog l (encSeg x) W1 fun e W' =>
      (e = .returned (.bool true) ∧ J (pre ++ [x]) W' ∧ KeepT segT n₀ W1 W') ∨ (e = .returned (.bool false) ∧ Jx (pre ++ [x]) W'))
    (h0c : W.cell? ⟨Bz, 0, none⟩ = some (.int .i64 o)) (h1c : W.cell? ⟨Bz, 1, none⟩ = some (.slice a 0 cap)) (h0 : J [] W) :
    CallsIn Fence.wide n Tryd.prog 74 #[.func (.yield l) #[] #[], .pointer (some ⟨Bz, 0, none⟩)] W fun e W' => (∃ v, e = .returned v) ∧
      ((∃ ys, ys = segsOf o [] ∧ J ys W') ∨ (∃ pre, pre <+: segsOf o [] ∧ Jx pre W')) := by
  refine callsIn_of_wp Tryd.func74 rfl trivial ?_ rfl
  simp only [Tryd.ntmps74, List.size_toArray, List.length_cons, List.length_nil, Nat.reduceAdd, Nat.reduceSub, Array.replicate_succ, Array.replicate_zero, List.push_toArray, List.append_toArray, List.nil_append, List.cons_append]
  have bS : Blk ((W.alloc (.cells #[.int .i64 (-1125899906842624), .int .i64 0, .int .i64 o, .int .i64 o] 89))) W.heap.size 89 _ := Blk.new _ _ _
  have hJ0 := hJ _ _ _ _ h0 (World.grownBy_alloc _ (.cells #[.int .i64 (-1125899906842624), .int .i64 0, .int .i64 o, .int .i64 o] 89) none) (fun _ e => by cases e)
  have hJ1 := hJ.set hJ0 bS rfl (Nat.le_refl _) 1 (.int .i64 1125899906842624)
  rw [show (W.alloc (.cells #[.int .i64 (-1125899906842624), .int .i64 0, .int .i64 o, .int .i64 o] 89)).setCell ⟨W.heap.size, 1, none⟩ (.int .i64 1125899906842624) = W.alloc (.cells #[.int .i64 (-1125899906842624), .int .i64 1125899906842624, .int .i64 o, .int .i64 o] 89) from by go_simp] at hJ1
  obtain ⟨fn, tmps, assign, body, hy, hR⟩ := hY [] ⟨-1125899906842624, 1125899906842624, o, o⟩ _ hJ1 (hp _ (by simp [segsOf, segs])) (by simp)
  dsimp only [encSeg] at hy
  clear hJ0 hJ1 bS
  gi_wp2
  gi_loopw [14] (fun i wr => i = .int .i64 0 ∧ wr = W.alloc (.cells #[.int .i64 (-1125899906842624), .int .i64 0, .int .i64 o, .int .i64 o] 89)) (fun _ _ => 0)
  case atStart => exact ⟨rfl, rfl⟩
  case round =>
    obtain ⟨rfl, rfl⟩ := hrel
    gi_wp2
    refine hR.mono ?_
    rintro e W3 (⟨rfl, hJ3, hk3⟩ | ⟨rfl, hJx3⟩)
    · gi_wp2
      go_end0
      exact ⟨⟨_, rfl⟩, .inl ⟨_, rfl, hJ3⟩⟩
    · gi_wp2
      go_end0
      exact ⟨⟨_, rfl⟩, .inr ⟨_, List.prefix_refl _, hJx3⟩⟩

/-- **segments(z) hands back a value that stops**: all of the zone's segments in order, or a prefix of them -/
theorem segs_stops (n : Nat) (hn : 1 ≤ n) (Bz n₀ : Nat) (o : Int) (v : Value) (sh : Sh) (w0 w : World) (h0n : w0.heap.size = n₀) (hI : IsSh w0 v sh) (hb : Below n₀ w0 w) (hBz : Bz < w.heap.size)
    (h0c : w.cell? ⟨Bz, 0, none⟩ = some (.int .i64 o)) (h1c : w.cell? ⟨Bz, 1, none⟩ = some v) (p : Seg → Prop) (hp : ∀ s, s ∈ segsOf o sh → p s) :
    SeqStopsT segT p Fence.wide n Tryd.prog 74 #[.pointer (some ⟨Bz, 0, none⟩)] encSeg (KeepT segT n₀) (fun ys => ys = segsOf o sh) (fun pre => pre <+: segsOf o sh) (sh.length + 1) w := fun l J Jx W hW hJ _ hY h0 => by
  have h0c' := (hW.cell (p := ⟨Bz, 0, none⟩) hBz).trans h0c
  have h1c' := (hW.cell (p := ⟨Bz, 1, none⟩) hBz).trans h1c
  have hb' : Below n₀ w0 W := hb.trans (hW.mono (by have := hb.size; omega))
  rcases hI with ⟨a, cap, rfl, rfl⟩ | ⟨b, off, cap, rfl, hlt, hm, hc⟩
  · exact segs1_nil n hn l Bz n₀ a cap o J Jx p hp W hJ (by have := hW.size; omega) hY h0c' h1c' h0
  · refine segs1_in n hn l Bz n₀ b off cap o sh J Jx hm (by omega) p hp W hJ (by have := hb'.size; omega) (by have := hW.size; omega) hY h0c' h1c' (fun j hj => ?_) h0
    exact ⟨(hb'.cell (p := ⟨b, off + j * 2, none⟩) (by show b < n₀; omega)).trans (hc j hj).1, (hb'.cell (p := ⟨b, off + j * 2 + 1, none⟩) (by show b < n₀; omega)).trans (hc j hj).2⟩
end Go.Proofs.YtiilljcnikgeaaaDoor
/- The walk of zone.Offset. Conditions: the zone lies in memory. -/
namespace Go.Proofs.YtiilljcnikgeaaaDoor
open Go.RowKit
attribute [local go_sem] Oper.semAt_some

theorem offS_all {t : Int} : ∀ {ss : List Seg}, (∀ s, s ∈ ss → s.u ≤ t) → offS ss t = 0
  | [], _ => rfl
  | s :: r, h => by
    show (if t < s.u then s.o else offS r t) = 0
    rw [if_neg (by have := h s (by simp); omega)]
    exact offS_all (fun x hx => h x (List.mem_cons_of_mem _ hx))
theorem offS_hit {t : Int} {q : Seg} {rest : List Seg} (hq : t < q.u) : ∀ {ini : List Seg}, (∀ s, s ∈ ini → s.u ≤ t) → offS (ini ++ [q] ++ rest) t = q.o
  | [], _ => by show (if t < q.u then q.o else _) = _; rw [if_pos hq]
  | s :: r, h => by
    show (if t < s.u then s.o else offS (r ++ [q] ++ rest) t) = _
    rw [if_neg (by have := h s (by simp); omega)]
    exact offS_hit hq (fun x hx => h x (List.mem_cons_of_mem _ hx))
theorem below3 (w : World) (a b c : Obj) : Below w.heap.size w (((w.alloc a).alloc b).alloc c) := bl_trans (bl_trans (bl_alloc _ _) (bl_alloc _ _)) (bl_alloc _ _)
theorem below4 (w : World) (a b c d : Obj) : Below w.heap.size w ((((w.alloc a).alloc b).alloc c).alloc d) := bl_trans (below3 w a b c) (bl_alloc _ _)

def OffI (t : Int) (w : World) (pre : List Seg) (W : World) : Prop := (∀ s, s ∈ pre → s.u ≤ t) ∧ Blk W (w.heap.size + 1) 3 #[.int .i64 t] ∧ Blk W (w.heap.size + 1 + 1) 3 #[.int .i64 0] ∧ Below w.heap.size w W
def OffX (t : Int) (w : World) (c : Code) (pre : List Seg) (W : World) : Prop := (c = .ret ∧ ∃ ini last, pre = ini ++ [last] ∧ (∀ s, s ∈ ini → s.u ≤ t) ∧ t < last.u ∧ Blk W (w.heap.size + 1 + 1) 3 #[.int .i64 last.o]) ∧ Below w.heap.size w W

set_option maxRecDepth 100000 in
set_option maxHeartbeats 4000000 in
theorem zoff_any (o t : Int) (v : Value) (sh : Sh) (w : World) (hI : IsSh w v sh) :
    Calls Tryd.prog 37 #[.agg #[.int .i64 o, v], .int .i64 t] w (Ret (.int .i64 (offS (segsOf o sh) t)) w) := by
  refine (callsIn_wide (n := 3)).1 ?_
  refine callsIn_of_wp_marks Tryd.func37 rfl trivial ?_ rfl
  simp only [Tryd.ntmps37, List.size_toArray, List.length_cons, List.length_nil, Nat.reduceAdd, Nat.reduceSub, Array.replicate_succ, Array.replicate_zero, List.push_toArray, List.append_toArray, List.nil_append, List.cons_append]
  gi_wp2_with (refine ⟨trivial, ?_⟩; gi_at_call 52; refine (segments_any _ _ _ _).mono ?_; rintro e w' ⟨rfl, rfl⟩)
  obtain ⟨W0, hW0⟩ : ∃ W0, ((((w.alloc (.cells #[.int .i64 o, v] 28)).alloc (.cells #[.int .i64 t] 3)).alloc (.cells #[.int .i64 0] 3)).alloc (.cells #[.int .i64 o, v] 28)) = W0 := ⟨_, rfl⟩
  have hB0 : Below w.heap.size w W0 := by rw [← hW0]; exact below4 w _ _ _ _
  have hs0 : w.heap.size + 4 ≤ W0.heap.size := by rw [← hW0]; simp
  have bT : Blk W0 (w.heap.size + 1) 3 #[.int .i64 t] := by rw [← hW0]; exact ((Blk.at (by simp) _ _).alloc _).alloc _
  have bR : Blk W0 (w.heap.size + 1 + 1) 3 #[.int .i64 0] := by rw [← hW0]; exact (Blk.at (by simp) _ _).alloc _
  have bZ : Blk W0 (w.heap.size + 1 + 1 + 1) 28 #[.int .i64 o, v] := by rw [← hW0]; exact Blk.at (by simp) _ _
  rw [hW0]
  clear hW0
  refine wpIn_rangeFunc_ownT segT rfl (by omega) (gf := 74) (lb := #[.pointer (some ⟨w.heap.size + 1 + 1 + 1, 0, none⟩)]) rfl trivial (enters_of Tryd.func74 (by kernel_rfl) rfl)
    (segs_stops (3 - 1) (by omega) (w.heap.size + 1 + 1 + 1) w.heap.size o v sh w W0 rfl hI hB0 (by omega) (bZ.cell 0) (bZ.cell 1) (fun _ => True) (fun _ _ => trivial)) keepT_t (keepT_b (by omega)) (Below.refl _ _) (fun _ => rfl)
    (OffI t w) (OffX t w) ?own ?ownx ?start
    (fun x a' W => ∃ Bx, w.heap.size ≤ Bx ∧ Blk W Bx 89 #[.int .i64 x.f, .int .i64 x.u, .int .i64 x.o, .int .i64 x.b] ∧ a' = { tmps := #[.agg #[.int .i64 o, v], .int .i64 t, .pointer (some ⟨w.heap.size, 0, none⟩), .pointer (some ⟨w.heap.size + 1, 0, none⟩), .pointer (some ⟨w.heap.size + 1 + 1, 0, none⟩), .pointer (some ⟨Bx, 0, none⟩), .agg #[.int .i64 o, v], .func (.func 74) #[] #[.pointer (some ⟨w.heap.size + 1 + 1 + 1, 0, none⟩)], .agg #[.int .i64 x.f, .int .i64 x.u, .int .i64 x.o, .int .i64 x.b], undef, undef, undef, undef, undef, undef], defers := [] })
    ?ax ?assign ?body ?done ?stop
  case own => exact (pureT _).and ((Blk.ownT _ _ _ rfl).and ((Blk.ownT _ _ _ rfl).and (belowT (Nat.le_refl _) (by omega))))
  case ownx =>
    intro c s A B row hs hg hr
    obtain ⟨⟨e1, ini, last, e2, e3, e4, e5⟩, hb⟩ := hs
    exact ⟨⟨e1, ini, last, e2, e3, e4, Blk.ownT _ _ (fun (_ : Unit) => #[.int .i64 last.o]) rfl () A B row e5 hg hr⟩, belowT (Nat.le_refl _) (by omega) () A B row hb hg hr⟩
  case start => exact ⟨(fun s hs => by cases hs), bT, bR, hB0⟩
  case ax =>
    intro x a' _ X Y row hs hg hr
    obtain ⟨Bx, h1, h2, h3⟩ := hs
    exact ⟨Bx, h1, h2.kept hg (fun e => by obtain ⟨_, ob, ho, hc⟩ := hr Bx e.symm; rw [show X.heap[Bx]? = _ from h2] at ho; cases ho; cases hc), h3⟩
  case assign =>
    rintro l pre x W K ⟨hp, bT1, bR1, hB1⟩ hK
    dsimp only [encSeg]
    gi_wp2
    exact hK _ _ ((KeepsOthers.alloc _ _).from _) (KeepT.alloc hB1.size _) ⟨hp, bT1.alloc _, bR1.alloc _, bl_trans hB1 (bl_alloc _ _)⟩ ⟨W.heap.size, hB1.size, Blk.new _ _ _, rfl⟩
  case body =>
    rintro l pre x a' W hl ⟨r, hr⟩ ⟨hp, bT1, bR1, hB1⟩ ⟨Bx, hBx, bX, rfl⟩ _ hlt
    have cT := bT1.cell 0
    have x1 := bX.cell 1
    have x2 := bX.cell 2
    have cR := bR1.cell 0
    have fR := bR1.frozen 0
    simp at cT x1 x2 cR
    have HP := Lib.hid hp; clear hp
    by_cases hu : t < x.u
    · gi_wp2
      exact ⟨keepsFrom_set _ _ _ _ _ bR1, ⟨rfl, pre, x, rfl, HP.out, hu, bR1.set 0 _⟩, hB1.setCell (p := ⟨w.heap.size + 1 + 1, 0, none⟩) (by simp; omega) _⟩
    · gi_wp2
      exact ⟨KeepsFrom.refl _ _, KeepT.refl _ _ _, fun s hs => (List.mem_append.1 hs).elim (HP.out s) (fun e => by simp at e; subst e; omega), bT1, bR1, hB1⟩
  case done =>
    rintro D ys W hD rfl ⟨hp, bT1, bR1, hB1⟩ hK
    have cR := bR1.cell 0
    have fR := bR1.frozen 0
    simp at cR
    have HP := Lib.hid hp; clear hp
    gi_wp2
    have hK' := (KeepsOthers.setCell W ⟨w.heap.size + 1 + 1, 0, none⟩ (.int .i64 0)).same D _ hK rfl
    refine ⟨by simp, .inl ⟨_, _, rfl, run_takeDeferred hK', ?_⟩⟩
    have hc5 := (((bR1.set 0 (.int .i64 0)).put hK' (.deferred none))).cell 0
    refine ⟨.int .i64 0, ?_, by rw [offS_all HP.out], (hB1.setCell (p := ⟨w.heap.size + 1 + 1, 0, none⟩) (by simp; omega) _).trans (belowK_b (w := w) (Nat.le_refl _) _ D _ _ (by omega) hK' rfl rfl)⟩
    simp at hc5
    simp [results, Tryd.f37, go_sem, hc5]
  case stop =>
    rintro D c pre W hD hpre ⟨⟨rfl, ini, last, e1, e2, e3, e4⟩, hB⟩ hK
    obtain ⟨rest, hrest⟩ := hpre
    have hoff : offS (segsOf o sh) t = last.o := by rw [← hrest, e1]; exact offS_hit e3 e2
    have HO := Lib.hid hoff; clear hoff hrest e1 e2
    gi_wp2
    refine ⟨by simp, .inl ⟨_, _, rfl, run_takeDeferred hK, ?_⟩⟩
    have hc5 := (e4.put hK (.deferred none)).cell 0
    refine ⟨.int .i64 last.o, ?_, by rw [HO.out], hB.trans (belowK_b (w := w) (Nat.le_refl _) W D _ _ (by omega) hK rfl rfl)⟩
    simp at hc5
    simp [results, Tryd.f37, go_sem, hc5]
end Go.Proofs.YtiilljcnikgeaaaDoor
/- The walks of zone.Local, zone.offset and of the reference's Offset, Local, in. Conditions: the zone lies in memory; bounds. -/
namespace Go.Proofs.YtiilljcnikgeaaaDoor
open Go.RowKit

set_option maxHeartbeats 2000000 in
theorem zlocal_any (o t : Int) (v : Value) (sh : Sh) (w : World) (hI : IsSh w v sh) (h1 : -4000000000000000 ≤ t + offS (segsOf o sh) t) (h2 : t + offS (segsOf o sh) t ≤ 4000000000000000) :
    Calls Tryd.prog 16 #[.agg #[.int .i64 o, v], .int .i64 t] w (Ret (.tuple #[.int .i64 ((t + offS (segsOf o sh) t) / 1440), .int .i64 ((t + offS (segsOf o sh) t) % 1440)]) w) := by
  have hc := fun w' hI' => zoff_any o t v sh w' hI'
  generalize offS (segsOf o sh) t = q at *
  have HC := Lib.hid hc; clear hc
  have fa := @floor_a (t + q) 1440 (by omega)
  have fb := @floor_b (t + q) 1440 (by omega)
  have ga : (t + q).tmod 1440 < 0 → (t + q).tmod 1440 + 1440 = (t + q) % 1440 := fun h => by
    have := fa h
    have h1 := Int.tmod_add_mul_tdiv (t + q) 1440
    have h2 := Int.emod_add_mul_ediv (t + q) 1440
    omega
  have gb : ¬ (t + q).tmod 1440 < 0 → (t + q).tmod 1440 = (t + q) % 1440 := fun h => by
    have := fb h
    have h1 := Int.tmod_add_mul_tdiv (t + q) 1440
    have h2 := Int.emod_add_mul_ediv (t + q) 1440
    omega
  have FA := Lib.hid fa; have FB := Lib.hid fb; have GA := Lib.hid ga; have GB := Lib.hid gb
  have nq := Int.natAbs_tdiv_le_natAbs (t + q) 1440
  have b1 : -4000000000000000 ≤ (t + q).tdiv 1440 := by omega
  have b2 : (t + q).tdiv 1440 ≤ 4000000000000000 := by omega
  have b3 := Int.lt_tmod_of_pos (t + q) (b := 1440) (by decide)
  have b4 := Int.tmod_lt_of_pos (t + q) (b := 1440) (by decide)
  have HI := Lib.hid (hI.below (bl_alloc w (.cells #[.int .i64 o, v] 28)))
  clear hI fa fb ga gb nq
  by_cases h : (t + q).tmod 1440 < 0
  · go_enter Tryd.func16, Tryd.ntmps16
    go_wp2_with fail
    refine (HC.out _ HI.out).mono ?_
    rintro e w1 ⟨rfl, hb1⟩
    go_wp2
    go_ret2
    exact ⟨ret_ie (FA.out h) (GA.out h), bl_trans (bl_alloc _ _) hb1⟩
  · go_enter Tryd.func16, Tryd.ntmps16
    go_wp2_with fail
    refine (HC.out _ HI.out).mono ?_
    rintro e w1 ⟨rfl, hb1⟩
    go_wp2
    go_ret2
    exact ⟨ret_ie (FB.out h) (GB.out h), bl_trans (bl_alloc _ _) hb1⟩

def rng (a n b : Int) : Bool := decide (a ≤ n ∧ n ≤ b)
theorem rng_yes {a n b : Int} (h : a ≤ n ∧ n ≤ b) : rng a n b = true := decide_eq_true h
theorem rng_no {a n b : Int} (h : ¬ (a ≤ n ∧ n ≤ b)) : rng a n b = false := decide_eq_false h
theorem in_any (n a b : Int) (w : World) : Calls Tryd.prog 51 #[.int .i64 n, .int .i64 a, .int .i64 b] w (Pur (.bool (rng a n b)) w) := by
  by_cases h1 : a ≤ n
  · by_cases h2 : n ≤ b
    · go_enter Tryd.func51, Tryd.ntmps51
      go_wp2
      go_ret
      exact ⟨ret_bool ((rng_yes ⟨by omega, by omega⟩).symm), rfl⟩
    · go_enter Tryd.func51, Tryd.ntmps51
      go_wp2
      go_ret
      exact ⟨ret_bool ((rng_no (by omega)).symm), rfl⟩
  · go_enter Tryd.func51, Tryd.ntmps51
    go_wp2
    go_ret
    exact ⟨ret_bool ((rng_no (by omega)).symm), rfl⟩
theorem zin_any (n : Int) (w : World) : Calls Tryd.prog 49 #[.int .i64 n] w (Pur (.bool (rng (-900) n 900)) w) := by
  by_cases h1 : -900 ≤ n
  · by_cases h2 : n ≤ 900
    · go_enter Tryd.func49, Tryd.ntmps49
      go_wp2
      go_ret
      exact ⟨ret_bool ((rng_yes ⟨by omega, by omega⟩).symm), rfl⟩
    · go_enter Tryd.func49, Tryd.ntmps49
      go_wp2
      go_ret
      exact ⟨ret_bool ((rng_no (by omega)).symm), rfl⟩
  · go_enter Tryd.func49, Tryd.ntmps49
    go_wp2
    go_ret
    exact ⟨ret_bool ((rng_no (by omega)).symm), rfl⟩
end Go.Proofs.YtiilljcnikgeaaaDoor
