/- The iterator over a zone's segments. Conditions: none but that the zone lies in memory. -/
import Derived.Test.YtioenakhkkejmaaDoorZSh
namespace Go.Proofs.YtioenakhkkejmaaDoor
open Go.RowKit
attribute [local go_sem] Oper.semAt_some

theorem AbidesT.set {β : Type} {T : TypeId → Bool} {B : Nat} {J : β → World → Prop} {s : β} {w : World} {g t cs} (hJ : AbidesT T B J) (hs : J s w) (h : Blk w g t cs) (ht : T t = true) (hB : B ≤ g) (i : Nat) (v : Value) : J s (w.setCell ⟨g, i, none⟩ v) :=
  hJ _ _ _ _ hs (grown_setAt w g i v) (h.mine ht hB)
set_option maxRecDepth 100000 in
set_option maxHeartbeats 4000000 in
theorem segs1_in (n : Nat) (hn : 1 ≤ n) (l Bz n₀ b off cap : Nat) (o : Int) (sh : Sh) (J Jx : List Seg → World → Prop) (hm : sh.length ≤ maxLen) (hbn : b < n₀) (p : Seg → Prop) (hp : ∀ s, s ∈ segsOf o sh → p s)
    (W : World) (hJ : AbidesT segT W.heap.size J) (hWn : n₀ ≤ W.heap.size) (hBz : Bz < W.heap.size)
    (hY : ∀ pre x W1, J pre W1 → p x → pre.length < sh.length + 1 → YieldAt Fence.wide (n - 1) Tryd.prog l (encSeg x) W1 fun e W' =>
      (e = .returned (.bool true) ∧ J (pre ++ [x]) W' ∧ KeepT segT n₀ W1 W') ∨ (e = .returned (.bool false) ∧ Jx (pre ++ [x]) W'))
    (h0c : W.cell? ⟨Bz, 0, none⟩ = some (.int .i64 o)) (h1c : W.cell? ⟨Bz, 1, none⟩ = some (.slice (some ⟨b, off, none⟩) sh.length cap))
    (hc : ∀ j, j < sh.length → W.cell? ⟨b, off + j * 2, none⟩ = some (.int .i64 (sh[j]?.getD (0, 0)).1) ∧ W.cell? ⟨b, off + j * 2 + 1, none⟩ = some (.int .i64 (sh[j]?.getD (0, 0)).2)) (h0 : J [] W) :
    CallsIn Fence.wide n Tryd.prog 35 #[.func (.yield l) #[] #[], .pointer (some ⟨Bz, 0, none⟩)] W fun e W' => (∃ v, e = .returned v) ∧
      ((∃ ys, ys = segsOf o sh ∧ J ys W') ∨ (∃ pre, pre <+: segsOf o sh ∧ Jx pre W')) := by
  have HC := Lib.hid hc; clear hc
  unfold maxLen at hm
  refine callsIn_of_wp Tryd.func35 rfl trivial ?_ rfl
  simp only [Tryd.ntmps35, List.size_toArray, List.length_cons, List.length_nil, Nat.reduceAdd, Nat.reduceSub, Array.replicate_succ, Array.replicate_zero, List.push_toArray, List.append_toArray, List.nil_append, List.cons_append]
  gi_wp2
  have bS : Blk ((W.alloc (.cells #[.int .i64 (-1125899906842624), .int .i64 0, .int .i64 o, .int .i64 o] 57))) W.heap.size 57 _ := Blk.new _ _ _
  gi_loopw [14] (fun i wr => ∃ (k : Nat) (pre : List Seg) (f u c d : Int), k ≤ sh.length ∧ i = .int .i64 k ∧ pre.length = k ∧ segsOf o sh = pre ++ segs f c d (sh.drop k) ∧ Blk wr W.heap.size 57 #[.int .i64 f, .int .i64 u, .int .i64 c, .int .i64 d] ∧ J pre wr ∧ Below n₀ W wr)
    (fun i _ => sh.length - (intOf i).toNat)
  case atStart => exact ⟨0, [], _, _, _, _, Nat.zero_le _, rfl, rfl, rfl, bS, hJ _ _ _ _ h0 (World.grownBy_alloc _ _ none) (fun _ e => by cases e), (Below.refl _ _).alloc hWn _⟩
  case round =>
    obtain ⟨k, pre, f, u, c, d, hk, rfl, hpre, hseg, bS', hJs, hnx⟩ := hrel
    by_cases hlt : k < sh.length
    · have hck := HC.out k hlt
      rw [drop_next hlt] at hseg
      generalize (sh[k]?.getD (0, 0)).1 = A at *
      generalize (sh[k]?.getD (0, 0)).2 = B at *
      have c1 : wr.cell? ⟨b, off + k * 2, none⟩ = some (.int .i64 A) := (hnx.cell (p := ⟨b, off + k * 2, none⟩) hbn).trans hck.1
      have c2 : wr.cell? ⟨b, off + k * 2 + 1, none⟩ = some (.int .i64 B) := (hnx.cell (p := ⟨b, off + k * 2 + 1, none⟩) hbn).trans hck.2
      have s0 := bS'.cell 0
      have s1 := bS'.cell 1
      have s2 := bS'.cell 2
      have s3 := bS'.cell 3
      have t0 := bS'.frozen 0
      have t1 := bS'.frozen 1
      have t2 := bS'.frozen 2
      have t3 := bS'.frozen 3
      simp at s0 s1 s2 s3
      have hbr : b < wr.heap.size := by have := hnx.size; omega
      have hSr := bS'.lt
      have bS1 : Blk (wr.setCell ⟨W.heap.size, 1, none⟩ (.int .i64 A)) W.heap.size 57 #[.int .i64 f, .int .i64 A, .int .i64 c, .int .i64 d] := bS'.set 1 _
      have bS2 := bS1.alloc (.cells #[.int .i64 A, .int .i64 B] 38)
      have bX := Blk.new (wr.setCell ⟨W.heap.size, 1, none⟩ (.int .i64 A)) 38 #[.int .i64 A, .int .i64 B]
      have hs1 : (wr.setCell ⟨W.heap.size, 1, none⟩ (.int .i64 A)).heap.size = wr.heap.size := by simp
      rw [hs1] at bX
      have hJ1 := hJ _ _ _ _ hJs (grown_setAt wr W.heap.size 1 (.int .i64 A)) (bS'.mine (T := segT) rfl (Nat.le_refl _))
      have hJ2 := hJ _ _ _ _ hJ1 (World.grownBy_alloc _ (.cells #[.int .i64 A, .int .i64 B] 38) none) (fun _ e => by cases e)
      have hB2 : Below n₀ W ((wr.setCell ⟨W.heap.size, 1, none⟩ (.int .i64 A)).alloc (.cells #[.int .i64 A, .int .i64 B] 38)) := (hnx.setCell (p := ⟨W.heap.size, 1, none⟩) hWn _).alloc (by rw [hs1]; omega) _
      obtain ⟨fn, tmps, assign, body, hy, hR⟩ := hY pre ⟨f, A, c, d⟩ _ hJ2 (hp _ (by rw [hseg]; simp [segs])) (by omega)
      dsimp only [encSeg] at hy
      clear hs1 hJ1 hJ2 hJs hnx bS1
      have HSEG := Lib.hid hseg; clear hseg bS
      have HPRE := Lib.hid hpre; clear hpre
      gi_wp2
      refine hR.mono ?_
      rintro e W3 (⟨rfl, hJ3, hk3⟩ | ⟨rfl, hJx3⟩)
      · have bS3 : Blk W3 W.heap.size 57 _ := hk3.mine _ _ _ _ rfl bS2
        have bX3 : Blk W3 wr.heap.size 38 _ := hk3.mine _ _ _ _ rfl bX
        clear s0 s1 s2 s3 t0 t1 t2 t3 c1 c2 hck hy hR h0c h1c
        have s0 := bS3.cell 0
        have s1 := bS3.cell 1
        have s2 := bS3.cell 2
        have s3 := bS3.cell 3
        have t0 := bS3.frozen 0
        have t1 := bS3.frozen 1
        have t2 := bS3.frozen 2
        have t3 := bS3.frozen 3
        have x0 := bX3.cell 0
        have x1 := bX3.cell 1
        simp at s0 s1 s2 s3 x0 x1
        gi_wp2
        go_roundw
        case rel =>
          have r1 := bS3.set 0 (.int .i64 A)
          have r2 := r1.set 1 (.int .i64 0)
          have r3 := r2.set 2 (.int .i64 B)
          have r4 := r3.set 3 (.int .i64 c)
          have j1 := hJ.set hJ3 bS3 rfl (Nat.le_refl _) 0 (.int .i64 A)
          have j2 := hJ.set j1 r1 rfl (Nat.le_refl _) 1 (.int .i64 0)
          have j3 := hJ.set j2 r2 rfl (Nat.le_refl _) 2 (.int .i64 B)
          have j4 := hJ.set j3 r3 rfl (Nat.le_refl _) 3 (.int .i64 c)
          exact ⟨k + 1, pre ++ [⟨f, A, c, d⟩], A, 0, B, c, by omega, by go_num, by simp [HPRE.out], by rw [HSEG.out]; simp [segs], r4, j4,
            ((((hB2.trans hk3.below).setCell (p := ⟨W.heap.size, 0, none⟩) hWn _).setCell (p := ⟨W.heap.size, 1, none⟩) hWn _).setCell (p := ⟨W.heap.size, 2, none⟩) hWn _).setCell (p := ⟨W.heap.size, 3, none⟩) hWn _⟩
        case measure => simp [intOf]; omega
      · gi_wp2
        refine bodyPost_ret (results_none rfl _ _ _) rfl ?_
        exact ⟨⟨_, rfl⟩, .inr ⟨pre ++ [⟨f, A, c, d⟩], by rw [HSEG.out]; exact ⟨segs A B c (sh.drop (k + 1)), by simp [segs]⟩, hJx3⟩⟩
    · obtain rfl : k = sh.length := by omega
      rw [List.drop_length] at hseg
      have s0 := bS'.cell 0
      have s1 := bS'.cell 1
      have s2 := bS'.cell 2
      have s3 := bS'.cell 3
      have t1 := bS'.frozen 1
      simp at s0 s1 s2 s3
      have hSr := bS'.lt
      have hJ1 := hJ.set hJs bS' rfl (Nat.le_refl _) 1 (.int .i64 1125899906842624)
      obtain ⟨fn, tmps, assign, body, hy, hR⟩ := hY pre ⟨f, 1125899906842624, c, d⟩ _ hJ1 (hp _ (by rw [hseg]; simp [segs])) (by omega)
      dsimp only [encSeg] at hy
      clear hJ1 hJs hnx bS
      have HSEG := Lib.hid hseg; clear hseg
      have HPRE := Lib.hid hpre; clear hpre
      gi_wp2
      refine hR.mono ?_
      rintro e W3 (⟨rfl, hJ3, hk3⟩ | ⟨rfl, hJx3⟩)
      · gi_wp2
        go_end0
        exact ⟨⟨_, rfl⟩, .inl ⟨pre ++ [⟨f, 1125899906842624, c, d⟩], by rw [HSEG.out]; rfl, hJ3⟩⟩
      · gi_wp2
        go_end0
        exact ⟨⟨_, rfl⟩, .inr ⟨pre ++ [⟨f, 1125899906842624, c, d⟩], by rw [HSEG.out]; exact ⟨[], by simp [segs]⟩, hJx3⟩⟩

set_option maxRecDepth 100000 in
set_option maxHeartbeats 2000000 in
theorem segs1_nil (n : Nat) (_hn : 1 ≤ n) (l Bz n₀ : Nat) (a : Option Addr) (cap : Nat) (o : Int) (J Jx : List Seg → World → Prop) (p : Seg → Prop) (hp : ∀ s, s ∈ segsOf o [] → p s)
    (W : World) (hJ : AbidesT segT W.heap.size J) (hBz : Bz < W.heap.size)
    (hY : ∀ pre x W1, J pre W1 → p x → pre.length < 0 + 1 → YieldAt Fence.wide (n - 1) Tryd.prog l (encSeg x) W1 fun e W' =>
      (e = .returned (.bool true) ∧ J (pre ++ [x]) W' ∧ KeepT segT n₀ W1 W') ∨ (e = .returned (.bool false) ∧ Jx (pre ++ [x]) W'))
    (h0c : W.cell? ⟨Bz, 0, none⟩ = some (.int .i64 o)) (h1c : W.cell? ⟨Bz, 1, none⟩ = some (.slice a 0 cap)) (h0 : J [] W) :
    CallsIn Fence.wide n Tryd.prog 35 #[.func (.yield l) #[] #[], .pointer (some ⟨Bz, 0, none⟩)] W fun e W' => (∃ v, e = .returned v) ∧
      ((∃ ys, ys = segsOf o [] ∧ J ys W') ∨ (∃ pre, pre <+: segsOf o [] ∧ Jx pre W')) := by
  refine callsIn_of_wp Tryd.func35 rfl trivial ?_ rfl
  simp only [Tryd.ntmps35, List.size_toArray, List.length_cons, List.length_nil, Nat.reduceAdd, Nat.reduceSub, Array.replicate_succ, Array.replicate_zero, List.push_toArray, List.append_toArray, List.nil_append, List.cons_append]
  have bS : Blk ((W.alloc (.cells #[.int .i64 (-1125899906842624), .int .i64 0, .int .i64 o, .int .i64 o] 57))) W.heap.size 57 _ := Blk.new _ _ _
  have hJ0 := hJ _ _ _ _ h0 (World.grownBy_alloc _ (.cells #[.int .i64 (-1125899906842624), .int .i64 0, .int .i64 o, .int .i64 o] 57) none) (fun _ e => by cases e)
  have hJ1 := hJ.set hJ0 bS rfl (Nat.le_refl _) 1 (.int .i64 1125899906842624)
  rw [show (W.alloc (.cells #[.int .i64 (-1125899906842624), .int .i64 0, .int .i64 o, .int .i64 o] 57)).setCell ⟨W.heap.size, 1, none⟩ (.int .i64 1125899906842624) = W.alloc (.cells #[.int .i64 (-1125899906842624), .int .i64 1125899906842624, .int .i64 o, .int .i64 o] 57) from by go_simp] at hJ1
  obtain ⟨fn, tmps, assign, body, hy, hR⟩ := hY [] ⟨-1125899906842624, 1125899906842624, o, o⟩ _ hJ1 (hp _ (by simp [segsOf, segs])) (by simp)
  dsimp only [encSeg] at hy
  clear hJ0 hJ1 bS
  gi_wp2
  gi_loopw [14] (fun i wr => i = .int .i64 0 ∧ wr = W.alloc (.cells #[.int .i64 (-1125899906842624), .int .i64 0, .int .i64 o, .int .i64 o] 57)) (fun _ _ => 0)
  case atStart => exact ⟨rfl, rfl⟩
  case round =>
    obtain ⟨rfl, rfl⟩ := hrel
    gi_wp2
    refine hR.mono ?_
    rintro e W3 (⟨rfl, hJ3, hk3⟩ | ⟨rfl, hJx3⟩)
    · gi_wp2
      go_end0
      exact ⟨⟨_, rfl⟩, .inl ⟨_, rfl, hJ3⟩⟩
    · gi_wp2
      go_end0
      exact ⟨⟨_, rfl⟩, .inr ⟨_, List.prefix_refl _, hJx3⟩⟩

/-- **segments(z) hands back a value that stops**: all of the zone's segments in order, or a prefix of them -/
theorem segs_stops (n : Nat) (hn : 1 ≤ n) (Bz n₀ : Nat) (o : Int) (v : Value) (sh : Sh) (w0 w : World) (h0n : w0.heap.size = n₀) (hI : IsSh w0 v sh) (hb : Below n₀ w0 w) (hBz : Bz < w.heap.size)
    (h0c : w.cell? ⟨Bz, 0, none⟩ = some (.int .i64 o)) (h1c : w.cell? ⟨Bz, 1, none⟩ = some v) (p : Seg → Prop) (hp : ∀ s, s ∈ segsOf o sh → p s) :
    SeqStopsT segT p Fence.wide n Tryd.prog 35 #[.pointer (some ⟨Bz, 0, none⟩)] encSeg (KeepT segT n₀) (fun ys => ys = segsOf o sh) (fun pre => pre <+: segsOf o sh) (sh.length + 1) w := fun l J Jx W hW hJ _ hY h0 => by
  have h0c' := (hW.cell (p := ⟨Bz, 0, none⟩) hBz).trans h0c
  have h1c' := (hW.cell (p := ⟨Bz, 1, none⟩) hBz).trans h1c
  have hb' : Below n₀ w0 W := hb.trans (hW.mono (by have := hb.size; omega))
  rcases hI with ⟨a, cap, rfl, rfl⟩ | ⟨b, off, cap, rfl, hlt, hm, hc⟩
  · exact segs1_nil n hn l Bz n₀ a cap o J Jx p hp W hJ (by have := hW.size; omega) hY h0c' h1c' h0
  · refine segs1_in n hn l Bz n₀ b off cap o sh J Jx hm (by omega) p hp W hJ (by have := hb'.size; omega) (by have := hW.size; omega) hY h0c' h1c' (fun j hj => ?_) h0
    exact ⟨(hb'.cell (p := ⟨b, off + j * 2, none⟩) (by show b < n₀; omega)).trans (hc j hj).1, (hb'.cell (p := ⟨b, off + j * 2 + 1, none⟩) (by show b < n₀; omega)).trans (hc j hj).2⟩
end Go.Proofs.YtioenakhkkejmaaDoor
