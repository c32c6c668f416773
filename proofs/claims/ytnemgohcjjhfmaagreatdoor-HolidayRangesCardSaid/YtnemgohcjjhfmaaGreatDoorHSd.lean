/- The walk of the reference's Sorted. Conditions: the ints lie in memory, at most 300000 of them. -/
import Derived.Test.YtnemgohcjjhfmaaGreatDoorHSdP
import Derived.Test.YtnemgohcjjhfmaaGreatDoorKApp
import Derived.Test.YtnemgohcjjhfmaaGreatDoorHNum
namespace Go.Proofs.YtnemgohcjjhfmaaGreatDoor
open Go.RowKit

theorem flatE_int : ∀ L : List Int, flatE (fun z : Int => [Value.int .i64 z]) L = L.map (Value.int .i64)
  | [] => rfl
  | a :: t => by
    have ih := flatE_int t
    unfold flatE at *
    rw [List.flatMap_cons, ih]; rfl
theorem src_takeI {w : World} {g c : Nat} {cur : Array Value} {e : TypeId} {L : List Int} {j n : Nat} (hb : Blk w g e cur) (ht : cur.toList.take n = L.map (Value.int .i64)) (hj : j ≤ L.length) : SrcIs w (.slice (some ⟨g, 0, none⟩) j c) 1 j ((L.take j).map (Value.int .i64)) := by
  have h := src_take (k := 1) (enc := fun z : Int => [Value.int .i64 z]) (fun _ => rfl) (c := c) hb (by rw [ht, flatE_int]) hj
  rwa [flatE_int] at h
theorem src_dropI {w : World} {g c : Nat} {cur : Array Value} {e : TypeId} {L : List Int} {j n : Nat} (hb : Blk w g e cur) (ht : cur.toList.take n = L.map (Value.int .i64)) : SrcIs w (.slice (some ⟨g, j, none⟩) (L.length - j) c) 1 (L.length - j) ((L.drop j).map (Value.int .i64)) := by
  have h := src_drop (k := 1) (enc := fun z : Int => [Value.int .i64 z]) (fun _ => rfl) (c := c) (j := j) hb (by rw [ht, flatE_int])
  rwa [flatE_int, Nat.mul_one] at h
theorem src_endI {w : World} {g c o : Nat} {L : List Int} : SrcIs w (.slice (some ⟨g, o, none⟩) 0 c) 1 0 ((L.drop L.length).map (Value.int .i64)) :=
  .inr ⟨_, _, rfl, by simp, fun i u hu => by simp at hu⟩
theorem src_nilI {w : World} : SrcIs w (.slice none 0 0) 1 0 ([] : List Value) := .inl ⟨rfl, rfl, rfl⟩
theorem one_int (L : List Int) : ∀ u ∈ L.map (Value.int .i64), u.oneCell' = true := by
  intro u hu
  obtain ⟨z, _, rfl⟩ := List.mem_map.1 hu
  rfl
theorem midI_len {L : List Int} {x : Int} {j : Nat} (hj : j ≤ L.length) : (L.take j ++ x :: L.drop j).length = j + 1 + (L.length - j) := by
  rw [List.length_append, List.length_cons, List.length_take, List.length_drop, Nat.min_eq_left hj]; omega
theorem midI_map (A B : List Int) (x : Int) : (A ++ x :: B).map (Value.int .i64) = A.map (Value.int .i64) ++ [.int .i64 x] ++ B.map (Value.int .i64) := by simp
set_option maxRecDepth 100000 in
set_option maxHeartbeats 8000000 in
theorem srt_some (b off cap : Nat) (zs : List Int) (w : World) (hb : b < w.heap.size) (hl : zs.length ≤ 300000)
    (hc : ∀ j, j < zs.length → w.cell? ⟨b, off + j, none⟩ = some (.int .i64 (zs[j]?.getD 0))) :
    Calls Tryz.prog 32 #[.slice (some ⟨b, off, none⟩) zs.length cap] w (BtwPost (srtI zs) w) := by
  have HC := Lib.hid hc; clear hc
  obtain ⟨i0, hi, hz0, hz1, hz2⟩ := info_parts infoInt
  have hms : maxLen = 9223372036854775807 := rfl
  have HMS := Lib.hid hms; clear hms
  go_enter Tryz.func32, Tryz.ntmps32
  go_wp2
  go_loopw [3, 4] (fun o i wr => ∃ k : Nat, k ≤ zs.length ∧ i = .int .i64 k ∧ IntRow wr w.heap.size o (srtI (zs.take k)) ∧ Below w.heap.size w wr) (fun _ i _ => zs.length - (intOf i).toNat)
  case atStart => exact ⟨0, Nat.zero_le _, rfl, World.ownsRow_nil _ _ _ _, bl_refl _⟩
  case round =>
    obtain ⟨k, hk, rfl, hrow, hbw⟩ := hrel
    by_cases hlt : k < zs.length
    · have hck := (hbw.cell (p := ⟨b, off + k, none⟩) hb).trans (HC.out k hlt)
      have ht := take_next hlt
      have htk : srtI (zs.take (k + 1)) = insI (srtI (zs.take k)) (zs[k]?.getD 0) := by rw [ht, srtI_snoc]
      have hl2 : (srtI (zs.take k)).length ≤ k := by rw [srtI_len]; exact List.length_take_le _ _
      have HCK := Lib.hid (HC.out k hlt)
      generalize hxk : zs[k]?.getD 0 = x at *
      clear hxk
      have HT := Lib.hid htk
      clear ht htk
      generalize srtI (zs.take k) = L at *
      obtain ⟨wo, rfl⟩ : ∃ wo : World, wo = wr := ⟨_, rfl⟩
      have hbr : b < wo.heap.size := Nat.lt_of_lt_of_le hb hbw.size
      rcases hrow.2 with ⟨n1, n2⟩ | ⟨g, cap', cur, n1, hg, hbk, hn, hcap, hsz, htake⟩
      · obtain rfl : L = [] := List.length_eq_zero_iff.1 n2
        subst n1
        have hins : insI [] x = [x] := rfl
        have HINS := Lib.hid hins; clear hins
        go_wp2
        go_loopw [5] (fun v w2 => v = .int .i64 0 ∧ Below wo.heap.size wo w2) (fun _ _ => 0)
        case atStart => exact ⟨rfl, bl_refl _⟩
        case round =>
          obtain ⟨rfl, hbx⟩ := hrel
          go_wp2
          go_big_quiet (fail)
          have hbw1 : Below w.heap.size w (wr.drewN nq) := bl_trans hbw (bl_drewN hbx nq)
          obtain ⟨w1, hw1⟩ : ∃ w1, w1 = wr.drewN nq := ⟨_, rfl⟩
          rw [← hw1] at hbw1 ⊢
          clear hw1
          go_upto_region 10 with (at_builtin; refine wpList_append_any_at (by rfl) (.tmp 30) (.tmp 33) 22 (by rfl) w.heap.size 3 i0 _ 1 8 Tryz.underlying22 hi hz0 hz1 hz2 rfl (by omega) (.slice none 0 0) 0 [] (by rfl) (World.ownsRow_nil w1 w.heap.size 3 1) (.slice none 0 0) 0 [] (by rfl) src_nilI (by simp) (by have := HMS.out; omega) (by omega) hbw1.size ?_; intro v1 w2 hown1 hgrow1 hat1)
          have hbw2 : Below w.heap.size w w2 := hbw1.grown hgrow1 hbw1.size (fun r e => by cases e)
          have hwz := hbw2.size
          simp only [Nat.zero_add, List.nil_append] at hown1
          have hcx := (hbw2.cell (p := ⟨b, off + k, none⟩) hb).trans HCK.out
          go_upto_region 11 with (at_builtin; refine wpList_append_any_at (by rfl) (.tmp 35) (.tmp 40) 22 (by rfl) w.heap.size 3 i0 _ 1 8 Tryz.underlying22 hi hz0 hz1 hz2 rfl (by omega) v1 0 _ (by rfl) (hown1.alloc _) (.slice (some ⟨w2.heap.size, 0, none⟩) 1 1) 1 [.int .i64 x] (by rfl) (.inr ⟨_, _, rfl, rfl, (World.news_of_block (cs := #[.int .i64 x]) (t := 3) (fr := (0, 0)) (heap_alloc_new w2 _))⟩) (by simp [Value.oneCell']) (by have := HMS.out; omega) (by omega) (by simp; omega) ?_; intro v2 w3 hown2 hgrow2 hat2)
          have hbw3 : Below w.heap.size w w3 := (bl_trans hbw2 (bl_alloc _ _)).grown hgrow2 (by simp; omega) (fun r e => (hown1.lt r e).1)
          have hwz3 := hbw3.size
          go_wp2_with (at_builtin; refine wpList_append_any_at (by rfl) (.tmp 42) (.tmp 45) 22 (by rfl) w.heap.size 3 i0 _ 1 8 Tryz.underlying22 hi hz0 hz1 hz2 rfl (by omega) v2 (0 + 1) _ (by rfl) hown2 (.slice none 0 0) 0 [] (by rfl) src_nilI (by simp) (by have := HMS.out; omega) (by omega) hbw3.size ?_; intro v3 w4 hown3 hgrow3 hat3)
          have hbw4 : Below w.heap.size w w4 := hbw3.grown hgrow3 hbw3.size (fun r e => (hown2.lt r e).1)
          go_roundw
          case rel =>
            refine ⟨k + 1, by omega, by go_num, ?_, hbw4⟩
            show w4.ownsRow _ _ _ _ _ _
            rw [HT.out, HINS.out]
            exact hown3
          case measure => simp [intOf]; omega
      · subst n1
        have hcell : ∀ (j : Nat) p, L[j]? = some p → wo.cell? ⟨g, j, none⟩ = some (.int .i64 p) := fun j p hp => by
          have c := hrow.cells (g := g) rfl j (.int .i64 p) (by rw [List.getElem?_map, hp]; rfl)
          rw [Go.WideShapes.add_plain] at c
          simpa using c
        have HCELL := Lib.hid hcell; clear hcell
        have hglt : g < wo.heap.size := (Array.getElem?_eq_some_iff.1 hbk).1
        go_wp2
        go_loopw [5] (fun v w2 => ∃ j : Nat, j ≤ L.length ∧ v = .int .i64 j ∧ Hid (∀ (i : Nat) p, i < j → L[i]? = some p → p < x) ∧ Below wo.heap.size wo w2) (fun v _ => L.length - (intOf v).toNat)
        case atStart => exact ⟨0, Nat.zero_le _, rfl, (fun i p hi => absurd hi (by omega)), bl_refl _⟩
        case round =>
          obtain ⟨j, hj, rfl, HJ, hbx⟩ := hrel
          have hcx0 := (hbx.cell (p := ⟨b, off + k, none⟩) hbr).trans hck
          by_cases hjl : j < L.length
          · obtain ⟨p, hp⟩ : ∃ p, L[j]? = some p := ⟨_, List.getElem?_eq_getElem hjl⟩
            have cj := (hbx.cell (p := ⟨g, j, none⟩) hglt).trans (HCELL.out j p hp)
            by_cases hpd : p < x
            · have HJ2 : Hid (∀ (i : Nat) p, i < j + 1 → L[i]? = some p → p < x) := fun i q hi hq => by
                by_cases e : i = j
                · subst e; rw [hp] at hq; cases hq; exact hpd
                · exact HJ.out i q (by omega) hq
              have dpx : decide (p < x) = true := decide_eq_true hpd
              clear hp
              go_wp2
              go_big_quiet (fail)
              go_wp2
              go_roundw
              case rel => exact ⟨j + 1, by omega, by go_num, HJ2, bl_drewN hbx _⟩
              case measure => simp [intOf]; omega
            · have hres := insI_of HJ.out hj (fun q hq => by rw [hp] at hq; cases hq; exact hpd)
              have HRES := Lib.hid hres
              have hjl2 : j ≤ L.length := by omega
              have dpx : decide (p < x) = false := decide_eq_false hpd
              clear hres hp
              go_wp2
              go_big_quiet (fail)
              have hbw1 : Below w.heap.size w (wr.drewN nq) := bl_trans hbw (bl_drewN hbx nq)
              have hbg : Blk (wr.drewN nq) g 3 cur := (Blk.below hbk (bl_drewN hbx nq) (Array.getElem?_eq_some_iff.1 hbk).1)
              obtain ⟨w1, hw1⟩ : ∃ w1, w1 = wr.drewN nq := ⟨_, rfl⟩
              rw [← hw1] at hbw1 hbg ⊢
              clear hw1
              go_upto_region 10 with (at_builtin; refine wpList_append_any_at (by rfl) (.tmp 30) (.tmp 33) 22 (by rfl) w.heap.size 3 i0 _ 1 8 Tryz.underlying22 hi hz0 hz1 hz2 rfl (by omega) (.slice none 0 0) 0 [] (by rfl) (World.ownsRow_nil w1 w.heap.size 3 1) (.slice (some ⟨g, 0, none⟩) j cap') j ((L.take j).map (Value.int .i64)) (by rfl) (src_takeI hbg htake hjl2) (one_int _) (by have := HMS.out; omega) (by omega) hbw1.size ?_; intro v1 w2 hown1 hgrow1 hat1)
              have hbw2 : Below w.heap.size w w2 := hbw1.grown hgrow1 hbw1.size (fun r e => by cases e)
              have hwz := hbw2.size
              have hgw := hbg.lt
              have hb2 := hbg.kept hgrow1 (by simp [Value.ownBlock])
              have hne1 : some g ≠ v1.ownBlock := by rcases hat1 with e | e <;> rw [e]; simp [Value.ownBlock]; intro q; cases q; omega
              simp only [Nat.zero_add, List.nil_append] at hown1
              have hcx := (hbw2.cell (p := ⟨b, off + k, none⟩) hb).trans HCK.out
              go_upto_region 11 with (at_builtin; refine wpList_append_any_at (by rfl) (.tmp 35) (.tmp 40) 22 (by rfl) w.heap.size 3 i0 _ 1 8 Tryz.underlying22 hi hz0 hz1 hz2 rfl (by omega) v1 j _ (by rfl) (hown1.alloc _) (.slice (some ⟨w2.heap.size, 0, none⟩) 1 1) 1 [.int .i64 x] (by rfl) (.inr ⟨_, _, rfl, rfl, (World.news_of_block (cs := #[.int .i64 x]) (t := 3) (fr := (0, 0)) (heap_alloc_new w2 _))⟩) (by simp [Value.oneCell']) (by have := HMS.out; omega) (by omega) (by simp; omega) ?_; intro v2 w3 hown2 hgrow2 hat2)
              have hbw3 : Below w.heap.size w w3 := (bl_trans hbw2 (bl_alloc _ _)).grown hgrow2 (by simp; omega) (fun r e => (hown1.lt r e).1)
              have hwz3 := hbw3.size
              have hb3 := (hb2.alloc (.cells #[.int .i64 x] 3)).kept hgrow2 hne1
              have hcj : ¬ cap' = j := by omega
              have hcj2 : j < cap' := by omega
              go_wp2_with (at_builtin; refine wpList_append_any_at (by rfl) (.tmp 42) (.tmp 45) 22 (by rfl) w.heap.size 3 i0 _ 1 8 Tryz.underlying22 hi hz0 hz1 hz2 rfl (by omega) v2 (j + 1) _ (by rfl) hown2 (.slice (some ⟨g, j, none⟩) (L.length - j) (cap' - j)) (L.length - j) ((L.drop j).map (Value.int .i64)) (by rfl) (src_dropI hb3 htake) (one_int _) (by have := HMS.out; omega) (by omega) hbw3.size ?_; intro v3 w4 hown3 hgrow3 hat3)
              have hbw4 : Below w.heap.size w w4 := hbw3.grown hgrow3 hbw3.size (fun r e => (hown2.lt r e).1)
              go_roundw
              case rel =>
                refine ⟨k + 1, by omega, by go_num, ?_, hbw4⟩
                show w4.ownsRow _ _ _ _ _ _
                rw [HT.out, HRES.out, midI_len hjl2, midI_map]
                exact hown3
              case measure => simp [intOf]; omega
          · obtain rfl : j = L.length := by omega
            have hres := insI_of HJ.out hj (fun q hq => by rw [List.getElem?_eq_none (Nat.le_refl _)] at hq; cases hq)
            have HRES := Lib.hid hres
            have hjl2 : L.length ≤ L.length := Nat.le_refl _
            have djl : decide ((L.length : Int) < L.length) = false := decide_eq_false (by omega)
            clear hres
            go_wp2
            go_big_quiet (fail)
            have hbw1 : Below w.heap.size w (wr.drewN nq) := bl_trans hbw (bl_drewN hbx nq)
            have hbg : Blk (wr.drewN nq) g 3 cur := (Blk.below hbk (bl_drewN hbx nq) (Array.getElem?_eq_some_iff.1 hbk).1)
            obtain ⟨w1, hw1⟩ : ∃ w1, w1 = wr.drewN nq := ⟨_, rfl⟩
            rw [← hw1] at hbw1 hbg ⊢
            clear hw1
            go_upto_region 10 with (at_builtin; refine wpList_append_any_at (by rfl) (.tmp 30) (.tmp 33) 22 (by rfl) w.heap.size 3 i0 _ 1 8 Tryz.underlying22 hi hz0 hz1 hz2 rfl (by omega) (.slice none 0 0) 0 [] (by rfl) (World.ownsRow_nil w1 w.heap.size 3 1) (.slice (some ⟨g, 0, none⟩) L.length cap') L.length ((L.take L.length).map (Value.int .i64)) (by rfl) (src_takeI hbg htake hjl2) (one_int _) (by have := HMS.out; omega) (by omega) hbw1.size ?_; intro v1 w2 hown1 hgrow1 hat1)
            have hbw2 : Below w.heap.size w w2 := hbw1.grown hgrow1 hbw1.size (fun r e => by cases e)
            have hwz := hbw2.size
            have hgw := hbg.lt
            have hb2 := hbg.kept hgrow1 (by simp [Value.ownBlock])
            have hne1 : some g ≠ v1.ownBlock := by rcases hat1 with e | e <;> rw [e]; simp [Value.ownBlock]; intro q; cases q; omega
            simp only [Nat.zero_add, List.nil_append] at hown1
            have hcx := (hbw2.cell (p := ⟨b, off + k, none⟩) hb).trans HCK.out
            go_upto_region 11 with (at_builtin; refine wpList_append_any_at (by rfl) (.tmp 35) (.tmp 40) 22 (by rfl) w.heap.size 3 i0 _ 1 8 Tryz.underlying22 hi hz0 hz1 hz2 rfl (by omega) v1 L.length _ (by rfl) (hown1.alloc _) (.slice (some ⟨w2.heap.size, 0, none⟩) 1 1) 1 [.int .i64 x] (by rfl) (.inr ⟨_, _, rfl, rfl, (World.news_of_block (cs := #[.int .i64 x]) (t := 3) (fr := (0, 0)) (heap_alloc_new w2 _))⟩) (by simp [Value.oneCell']) (by have := HMS.out; omega) (by omega) (by simp; omega) ?_; intro v2 w3 hown2 hgrow2 hat2)
            have hbw3 : Below w.heap.size w w3 := (bl_trans hbw2 (bl_alloc _ _)).grown hgrow2 (by simp; omega) (fun r e => (hown1.lt r e).1)
            have hwz3 := hbw3.size
            have hb3 := (hb2.alloc (.cells #[.int .i64 x] 3)).kept hgrow2 hne1
            by_cases hcj : cap' = L.length
            · have hcj2 : cap' - L.length = 0 := by omega
              go_wp2_with (at_builtin; refine wpList_append_any_at (by rfl) (.tmp 42) (.tmp 45) 22 (by rfl) w.heap.size 3 i0 _ 1 8 Tryz.underlying22 hi hz0 hz1 hz2 rfl (by omega) v2 (L.length + 1) _ (by rfl) hown2 (.slice (some ⟨g, 0, none⟩) 0 0) 0 ((L.drop L.length).map (Value.int .i64)) (by rfl) src_endI (one_int _) (by have := HMS.out; omega) (by omega) hbw3.size ?_; intro v3 w4 hown3 hgrow3 hat3)
              have hbw4 : Below w.heap.size w w4 := hbw3.grown hgrow3 hbw3.size (fun r e => (hown2.lt r e).1)
              go_roundw
              case rel =>
                refine ⟨k + 1, by omega, by go_num, ?_, hbw4⟩
                show w4.ownsRow _ _ _ _ _ _
                rw [HT.out, HRES.out, midI_len hjl2, midI_map, Nat.sub_self]
                exact hown3
              case measure => simp [intOf]; omega
            · have hcj2 : L.length < cap' := by omega
              go_wp2_with (at_builtin; refine wpList_append_any_at (by rfl) (.tmp 42) (.tmp 45) 22 (by rfl) w.heap.size 3 i0 _ 1 8 Tryz.underlying22 hi hz0 hz1 hz2 rfl (by omega) v2 (L.length + 1) _ (by rfl) hown2 (.slice (some ⟨g, L.length, none⟩) 0 (cap' - L.length)) 0 ((L.drop L.length).map (Value.int .i64)) (by rfl) src_endI (one_int _) (by have := HMS.out; omega) (by omega) hbw3.size ?_; intro v3 w4 hown3 hgrow3 hat3)
              have hbw4 : Below w.heap.size w w4 := hbw3.grown hgrow3 hbw3.size (fun r e => (hown2.lt r e).1)
              go_roundw
              case rel =>
                refine ⟨k + 1, by omega, by go_num, ?_, hbw4⟩
                show w4.ownsRow _ _ _ _ _ _
                rw [HT.out, HRES.out, midI_len hjl2, midI_map, Nat.sub_self]
                exact hown3
              case measure => simp [intOf]; omega
    · obtain rfl : k = zs.length := by omega
      rw [List.take_length] at hrow
      go_wp2
      go_ret
      exact ⟨_, rfl, hrow, hbw⟩
set_option maxHeartbeats 1000000 in
theorem srt_nil (a : Option Addr) (cap : Nat) (w : World) : Calls Tryz.prog 32 #[.slice a 0 cap] w (BtwPost (srtI []) w) := by
  have e0 : srtI [] = [] := rfl
  rw [e0]
  clear e0
  go_enter Tryz.func32, Tryz.ntmps32
  go_wp2
  go_loop [3, 4] (fun o i => i = .int .i64 0 ∧ o = .slice none 0 0) (fun _ _ => 0)
  case atStart => exact ⟨rfl, rfl⟩
  case round =>
    obtain ⟨rfl, rfl⟩ := hrel
    go_wp2
    go_ret
    exact ⟨_, rfl, World.ownsRow_nil _ _ _ _, bl_refl _⟩
theorem srt_any (v : Value) (zs : List Int) (w : World) (hv : IsInts w v zs) (hl : zs.length ≤ 300000) : Calls Tryz.prog 32 #[v] w (BtwPost (srtI zs) w) := by
  rcases hv with ⟨a, cap, rfl, rfl⟩ | ⟨b, off, cap, rfl, hb, hm, hc⟩
  · exact srt_nil a cap w
  · exact srt_some b off cap zs w hb hl hc
end Go.Proofs.YtnemgohcjjhfmaaGreatDoor
