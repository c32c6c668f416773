/- The walk of the law ZoneMoves: it returns true at every slice of ints and two numbers. Conditions: the slice lies in memory. -/
import Derived.Test.YtioenakhkkejmaaZCh
import Derived.Deep.AppendLies
namespace Go.Proofs.Ytioenakhkkejmaa
open Go.RowKit

def movedSh (c : Int) (l : Sh) : Sh := l.map fun s => (s.1 + c, s.2)
theorem moved_next {l : Sh} {k : Nat} (c : Int) (h : k < l.length) : movedSh c (l.take (k + 1)) = movedSh c (l.take k) ++ [(shA l k + c, shO l k)] := by
  unfold movedSh shA shO
  rw [List.take_add_one, List.getElem?_eq_getElem h, List.map_append]; rfl
def MovRel (c o : Int) (sh : Sh) (B : Nat) (W : World) (i : Value) (wr : World) : Prop :=
  ∃ (k : Nat) (sv : Value), k ≤ sh.length ∧ i = .int .i64 k ∧ Blk wr B 24 #[.int .i64 o, sv] ∧ wr.ownsRow W.heap.size 42 2 sv (movedSh c (sh.take k)).length (encSh (movedSh c (sh.take k))) ∧ Below B W wr ∧ W.heap.size ≤ wr.heap.size

set_option maxHeartbeats 8000000 in
theorem law_zmoves (v : Value) (zs : List Int) (n by' : Int) (w : World) (hI : IsInts w v zs) (hz : InR zs) (h1 : -9223372036854775808 ≤ n) (h2 : n ≤ 9223372036854775807) (h3 : -9223372036854775808 ≤ by') (h4 : by' ≤ 9223372036854775807) :
    Calls Try.prog 9 #[v, .int .i64 n, .int .i64 by'] w (Ret (.bool true) w) := by
  have hok := zone_ok zs
  have hzl := zone_len zs
  have hzn := fun w h => zone_any v zs w h hz
  have ha := fun w => around03 by' 1001 w h3 h4 (by omega) (by omega)
  obtain ⟨a1, a2⟩ := around_bd by' (m := 1001) (by omega)
  have ht := fun w => zinstant_any n false w h1 h2
  obtain ⟨t1, t2⟩ := insK_bd n false
  generalize insK n false = t at *
  generalize around by' 1001 = K at *
  generalize zoneO zs = o at *
  generalize zoneSh zs = sh at *
  obtain ⟨c, hc⟩ : ∃ c, c = 1440 * K := ⟨_, rfl⟩
  have c1 : 0 ≤ c := by omega
  have c2 : c ≤ 1440000 := by omega
  obtain ⟨b1, b2⟩ := off_bd (t := t) hok.ch hok.1 hok.2.1
  have e1 : offS (segsOf o sh) t = off o sh t := offS_segs t (by omega) sh _ o o
  have e2 : offS (segsOf o (movedSh c sh)) (t + c) = off o sh t := (offS_segs (t + c) (by omega) _ _ o o).trans (off_moved sh)
  have l1 := fun sv w h => zlocal_any o t sv sh w h (by rw [e1]; omega) (by rw [e1]; omega)
  have l2 := fun sv w h => zlocal_any o (t + c) sv (movedSh c sh) w h (by rw [e2]; omega) (by rw [e2]; omega)
  rw [e1] at l1
  rw [e2] at l2
  generalize off o sh t = q at *
  rw [show (t + c + q) / 1440 = (t + q) / 1440 + K from by omega, show (t + c + q) % 1440 = (t + q) % 1440 from by omega] at l2
  have n1 : -2000000000 ≤ (t + q) / 1440 := by omega
  have n2 : (t + q) / 1440 ≤ 2000000000 := by omega
  generalize (t + q) / 1440 = X at *
  generalize (t + q) % 1440 = Y at *
  have hca := fun k hk => (chain_at (by omega) hok.2.2 k hk).1
  have HZ := Lib.hid hzn; have HA := Lib.hid ha; have HT := Lib.hid ht; have L1 := Lib.hid l1; have L2 := Lib.hid l2; have HC := Lib.hid hc; have HCA := Lib.hid hca; have HI := Lib.hid hI
  clear hzn ha ht l1 l2 e1 e2 hca hI hok hz hc
  obtain ⟨i0, hi, hz0, hz1, hz2⟩ := info_parts infoShift
  go_enter Try.func9, Try.ntmps9
  go_wp2_with fail
  refine (HZ.out _ HI.out).mono ?_
  rintro e w1 ⟨sv, rfl, hs, hb1⟩
  obtain ⟨sa, sc, rfl, _⟩ := hs.slice
  have hzb := ZBox.new (o := o) hs
  have hB := bl_trans hb1 (bl_alloc w1 (.cells #[.int .i64 o, .slice sa sh.length sc] 24))
  go_wp2_with fail
  refine (HA.out _).mono ?_
  rintro e w' ⟨rfl, rfl⟩
  obtain ⟨⟨c0, c1'⟩, hlt, hIs⟩ := hzb
  go_wp2_with fail
  obtain ⟨W, hW⟩ : ∃ W, W = ((w1.alloc (.cells #[.int .i64 o, .slice sa sh.length sc] 24)).alloc (.cells #[.int .i64 o, .slice none 0 0] 24)) := ⟨_, rfl⟩
  have bz : Blk W w1.heap.size 24 #[.int .i64 o, .slice sa sh.length sc] := by rw [hW]; exact (Blk.new _ _ _).alloc _
  have bm : Blk W (w1.heap.size + 1) 24 #[.int .i64 o, .slice none 0 0] := by rw [hW]; exact Blk.at (by simp) _ _
  have hBW : Below w1.heap.size w1 W := by rw [hW]; exact bl_trans (bl_alloc _ _) (bl_alloc _ _)
  have hsW : W.heap.size = w1.heap.size + 2 := by rw [hW]; simp
  rw [← hW]
  have HSW := Lib.hid hsW
  have hs1 : w1.heap.size + 2 ≤ W.heap.size := by omega
  have hB1 := hb1
  clear hW c0 c1' hlt hIs hsW hB hb1
  go_loopw [10] (fun i wr => MovRel c o sh (w1.heap.size + 1) W i wr) (fun i _ => sh.length - (intOf i).toNat)
  case atStart => exact ⟨0, _, Nat.zero_le _, rfl, bm, World.ownsRow_nil _ _ _ _, Below.refl _ _, Nat.le_refl _⟩
  case round =>
    obtain ⟨k, sv, hk, rfl, bm1, hrow, hBr, hsr⟩ := hrel
    have bz1 := bz.below hBr (by omega)
    have z1 := bz1.cell 1
    have y1 := bm1.cell 1
    have yf := bm1.frozen 1
    simp at z1 y1
    by_cases hlt2 : k < sh.length
    · obtain ⟨b, off', rfl, d1, d2⟩ := hs.at hlt2
      have hb : b < w1.heap.size := World.block_lt_of_cell? _ _ d1
      have e1 := (hBr.cell (p := ⟨b, off' + k * 2, none⟩) (by show b < _; omega)).trans ((hBW.cell (p := ⟨b, off' + k * 2, none⟩) hb).trans d1)
      have e2 := (hBr.cell (p := ⟨b, off' + k * 2 + 1, none⟩) (by show b < _; omega)).trans ((hBW.cell (p := ⟨b, off' + k * 2 + 1, none⟩) hb).trans d2)
      obtain ⟨q1, q2, q3, q4⟩ := HCA.out k hlt2
      have hmn := moved_next c hlt2
      have hml : (movedSh c (sh.take k)).length ≤ 20 := by unfold movedSh; simp; omega
      generalize shA sh k = A at *
      generalize shO sh k = Q at *
      have HMN := Lib.hid hmn; clear hmn d1 d2
      have hms : maxLen = 9223372036854775807 := rfl
      have HMS := Lib.hid hms; clear hms
      have kk0 : (0 : Int) ≤ k := by omega
      have kk1 : (k : Int) < sh.length := by omega
      have s1 : IntKind.i64.wrap (1440 * K) = 1440 * K := IntWalk.i64_in _ (by omega)
      have s2 : IntKind.i64.wrap (A + 1440 * K) = A + 1440 * K := IntWalk.i64_in _ (by have := HC.out; omega)
      have S1 := Lib.hid s1; have S2 := Lib.hid s2
      clear s1 s2
      go_wp2_with fail
      have s1 := S1.out; have s2 := S2.out
      have hwr : w1.heap.size + 1 < wr.heap.size := by omega
      have hbr : b < wr.heap.size := by omega
      go_region_law (first | (refine step_append_lies _ (by rfl) (.tmp 31) (.tmp 48) 22 (by rfl) W.heap.size 42 i0 _ 2 16 Try.underlying22 hi hz0 hz1 hz2 rfl (by omega) sv (movedSh c (sh.take k)).length (encSh (movedSh c (sh.take k))) (by rfl) ((hrow.drew).alloc _) ⟨wr.heap.size, 0, none⟩ 1 1 [.int .i64 (A + 1440 * K), .int .i64 Q] (by rfl) (by rfl) (World.news_of_block (cs := #[.int .i64 (A + 1440 * K), .int .i64 Q]) (t := 42) (fr := (0, 0)) (heap_alloc_new wr.drew _)) (by simp [Value.oneCell']) (by omega) (by have := HMS.out; omega) (by omega) (by simp; omega) (wr.heap.size + 1) (by simp) ?_; intro gg cap' w2 hown1 hgrow hat hlt1; have bz2 := (bm1.drew.alloc (.cells #[.int .i64 (A + 1440 * K), .int .i64 Q] 42)).kept hgrow (row_far hrow (by omega)); have zz1 := bz2.cell 1; have zf1 := bz2.frozen 1; simp at zz1))
      trace "region over"
      all_goals
        clear s1 s2
        go_wp2
        go_roundw
        case rel =>
          have hown2 := hown1.kept (grown_setAt w2 (w1.heap.size + 1) 1 (.slice (some ⟨gg, 0, none⟩) ((movedSh c (sh.take k)).length + 1) cap')) (.inr (row_far hown1 (by omega)).symm)
          have hBa : Below (w1.heap.size + 1) W (wr.drew.alloc (.cells #[.int .i64 (A + 1440 * K), .int .i64 Q] 42)) := (hBr.drew).alloc (by simp; omega) _
          have hB2 : Below (w1.heap.size + 1) W w2 := hBa.grown hgrow (by simp; omega) (fun r e => by have := (hrow.lt r e).1; omega)
          refine ⟨k + 1, _, by omega, by go_num, bz2.set 1 _, ?_, hB2.setCell (p := ⟨w1.heap.size + 1, 1, none⟩) (Nat.le_refl _) _, ?_⟩
          · rw [HMN.out, encSh_append, List.length_append, HC.out]
            rw [HC.out] at hown2
            exact hown2
          · have := hgrow.size
            simp at this ⊢
            omega
        case measure => simp [intOf]; omega
    · obtain rfl : k = sh.length := by omega
      rw [List.take_length] at hrow
      have hsv : ∃ a n c, sv = .slice a n c := by
        rcases hrow.2 with ⟨h1, _⟩ | ⟨g', cap', cur, h1, _⟩
        · exact ⟨_, _, _, h1⟩
        · exact ⟨_, _, _, h1⟩
      obtain ⟨ma, mn, mc, rfl⟩ := hsv
      have hml : (movedSh c sh).length = sh.length := by unfold movedSh; simp
      have hIm : IsSh wr (.slice ma mn mc) (movedSh c sh) := IsSh.of_row hrow (by have : maxLen = 9223372036854775807 := rfl; omega)
      have hBz : Below w.heap.size w wr := by
        have h1 := hB1.trans (hBW.mono (by have := hB1.size; omega))
        exact h1.trans (hBr.mono (by have := hB1.size; omega))
      have hIz : IsSh wr (.slice sa sh.length sc) sh := hs.below ((hBW).trans (hBr.mono (by omega)))
      have z0 := bz1.cell 0
      have m0 := bm1.cell 0
      simp at z0 m0
      have lt1 : w1.heap.size < wr.heap.size := by omega
      have lt2 : w1.heap.size + 1 < wr.heap.size := by omega
      have HIM := Lib.hid hIm; have HIZ := Lib.hid hIz
      clear hrow hIm hIz hml bz bm bz1 bm1 hBr hBW
      go_wp2_with fail
      refine (HT.out _).mono ?_
      rintro e w' ⟨rfl, rfl⟩
      go_wp2_with fail
      refine (L1.out _ _ HIZ.out).mono ?_
      rintro e w3 ⟨rfl, hb3⟩
      have m0' := (hb3.cell (p := ⟨w1.heap.size + 1, 0, none⟩) lt2).trans m0
      have m1' := (hb3.cell (p := ⟨w1.heap.size + 1, 1, none⟩) lt2).trans y1
      have hB3 := bl_trans hBz hb3
      have HIM3 := Lib.hid (HIM.out.below hb3)
      clear z0 z1 m0 y1 yf hb3
      go_wp2_with fail
      rw [← HC.out]
      refine (L2.out _ _ HIM3.out).mono ?_
      rintro e w4 ⟨rfl, hb4⟩
      have hB4 := bl_trans hB3 hb4
      clear m0' m1' hb4
      have g1 : (X + K == X + K) = true := beq_self_eq_true _
      have g2 : (Y == Y) = true := beq_self_eq_true _
      go_wp2_with fail
      refine (zlives_any _).mono ?_
      rintro e w5 ⟨rfl, hb5⟩
      go_wp2
      go_ret
      exact ⟨rfl, bl_trans hB4 hb5⟩
end Go.Proofs.Ytioenakhkkejmaa
