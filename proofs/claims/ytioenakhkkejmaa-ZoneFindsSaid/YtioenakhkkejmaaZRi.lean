/- The walks of the reference's Instants and Resolve. Conditions: the zone lies in memory and is valid; bounds. -/
import Derived.Test.YtioenakhkkejmaaZSt
namespace Go.Proofs.Ytioenakhkkejmaa
open Go.RowKit

def qs (o : Int) (l : Sh) (k : Nat) : List Int := (o :: l.map (·.2)).take k
theorem qs_next {o : Int} {l : Sh} {k : Nat} (h : k < l.length) : qs o l (k + 1 + 1) = qs o l (k + 1) ++ [shO l k] := by
  unfold qs shO
  rw [List.take_succ_cons, List.take_succ_cons, List.take_add_one, List.getElem?_map, List.getElem?_eq_getElem h]
  rfl
theorem qs_one (o : Int) (l : Sh) : qs o l 1 = [o] := rfl
theorem qs_all (o : Int) (l : Sh) : qs o l (l.length + 1) = o :: l.map (·.2) := by unfold qs; rw [List.take_of_length_le (by simp)]
theorem insR_len (o : Int) (l : Sh) (n : Int) (qs : List Int) : (insR o l n qs).length ≤ qs.length := by
  suffices h : ∀ qs' : List Int, (insR o l n qs'.reverse).length ≤ qs'.length by have := h qs.reverse; rwa [List.reverse_reverse, List.length_reverse] at this
  intro qs'
  induction qs' with
  | nil => simp [insR]
  | cons q qs' ih =>
    rw [List.reverse_cons, insR_snoc]
    split
    · rw [List.length_append]; simp; omega
    · simp; omega
theorem row_below {w w' : World} {B : Nat} {e : TypeId} {size n : Nat} {v : Value} {xs : List Value} (h : w.ownsRow B e size v n xs) (hb : Below w.heap.size w w') : w'.ownsRow B e size v n xs := by
  refine ⟨h.1, ?_⟩
  rcases h.2 with h1 | ⟨g, cap', cur, h1, hg, hh, h2⟩
  · exact .inl h1
  · exact .inr ⟨g, cap', cur, h1, hg, (hb.block g (Array.getElem?_eq_some_iff.1 hh).1).trans hh, h2⟩
/-- how the reference's loop lies in memory -/
def RiRel (o : Int) (sv : Value) (l : Sh) (n : Int) (w W : World) (v i : Value) (wr : World) : Prop :=
  ∃ (k : Nat) (sv' : Value), sv' = v ∧ k ≤ l.length + 1 ∧ i = .int .i64 ((k : Int) - 1) ∧ wr.ownsRow W.heap.size 3 1 v (insR o l n (qs o l k)).length ((insR o l n (qs o l k)).map (Value.int .i64)) ∧ ZBox wr w.heap.size o sv l ∧ Below W.heap.size W wr

set_option maxHeartbeats 8000000 in
theorem zri_loop (o day m : Int) (a : Option Addr) (cap : Nat) (sh : Sh) (w : World) (hI : IsSh w (.slice a sh.length cap) sh) (hok : Ok o sh) (hd1 : -100000000000 ≤ day) (hd2 : day ≤ 100000000000) (hm1 : 0 ≤ m) (hm2 : m ≤ 1439) (hlen : sh.length ≤ 1000000000) :
    Calls Try.prog 23 #[.agg #[.int .i64 o, .slice a sh.length cap], .int .i64 day, .int .i64 m] w (InsPost (insRef o sh (1440 * day + m)) w) := by
  have hr : rng 0 m 1439 = true := rng_yes ⟨hm1, hm2⟩
  have HR := Lib.hid hr; clear hr
  obtain ⟨i0, hi, hz0, hz1, hz2⟩ := info_parts infoInt
  have hca := fun k hk => (chain_at (by omega) hok.2.2 k hk).1
  have HCA := Lib.hid hca; clear hca
  have ho1 := hok.1
  have ho2 := hok.2.1
  obtain ⟨N, hN⟩ : ∃ N, N = 1440 * day + m := ⟨_, rfl⟩
  have n1 : -150000000000000 ≤ N := by omega
  have n2 : N ≤ 150000000000000 := by omega
  rw [← hN]
  have HN := Lib.hid hN; clear hN
  have HOK := Lib.hid hok; clear hok
  have hzb := ZBox.new (o := o) hI
  obtain ⟨⟨c0, c1⟩, hlt, hIs⟩ := hzb
  have HI := Lib.hid hIs; clear hIs hI
  go_enter Try.func23, Try.ntmps23
  go_wp2_with fail
  refine (in_any _ _ _ _).mono ?_
  rintro e w1 ⟨rfl, rfl⟩
  rw [HR.out]
  go_wp2_with fail
  rw [← HN.out]
  obtain ⟨W, hW⟩ : ∃ W, W = w.alloc (.cells #[.int .i64 o, .slice a sh.length cap] 24) := ⟨_, rfl⟩
  rw [← hW] at c0 c1 hlt HI ⊢
  have hbw : Below w.heap.size w W := by rw [hW]; exact bl_alloc _ _
  clear hW
  go_loopw [8, 9] (fun v i wr => RiRel o (.slice a sh.length cap) sh N w W v i wr) (fun _ i _ => (sh.length - (intOf i)).toNat)
  case atStart => exact ⟨0, _, rfl, by omega, rfl, World.ownsRow_nil _ _ _ _, ⟨⟨c0, c1⟩, hlt, HI.out⟩, Below.refl _ _⟩
  case round =>
    obtain ⟨k, v, rfl, hk, rfl, hrow, hzb, hB⟩ := hrel
    have hLk := insR_len o sh N (qs o sh k)
    have hqk : (qs o sh k).length ≤ k := by unfold qs; exact List.length_take_le _ _
    have hsw := hB.size
    by_cases hlt2 : k ≤ sh.length
    · have hsn := insR_snoc o sh N (qs o sh k)
      have step : ∀ q, qs o sh (k + 1) = qs o sh k ++ [q] → insR o sh N (qs o sh (k + 1)) = if offR o sh (N - q) = q ∧ ¬ (N - q) ∈ insR o sh N (qs o sh k) then insR o sh N (qs o sh k) ++ [N - q] else insR o sh N (qs o sh k) := fun q hq => by rw [hq]; exact hsn q
      clear hsn
      by_cases hk0 : k = 0
      · subst hk0
        have hsn := step o rfl
        have hIL0 : IsInts wr v (insR o sh N (qs o sh 0)) := IsInts.of_row hrow (by have : maxLen = 9223372036854775807 := rfl; omega)
        have hoff := fun w' h => zroff_any o (N - o) (.slice a sh.length cap) sh w' h
        generalize offR o sh (N - o) = F at *
        generalize insR o sh N (qs o sh 0) = L at *
        obtain ⟨⟨z0, z1⟩, zlt, zI⟩ := hzb
        have HOFF := Lib.hid hoff; have HSN := Lib.hid hsn; have HIL := Lib.hid hIL0; have HZI := Lib.hid zI
        clear hoff hsn hIL0 zI step
        go_wp2_with fail
        refine (HOFF.out _ HZI.out).mono ?_
        rintro e w2 ⟨rfl, hb2⟩
        have hB2 := hB.trans (hb2.mono hB.size)
        have hzb2 : ZBox w2 w.heap.size o (.slice a sh.length cap) sh := ZBox.below ⟨⟨z0, z1⟩, zlt, HZI.out⟩ hb2
        have hrow2 := row_below hrow hb2
        have hsw2 := hB2.size
        have HIL2 := Lib.hid (HIL.out.below hb2)
        clear z0 z1 hrow hB hb2
        by_cases hF : F = o
        · have g1 : (F == o) = true := beq_iff_eq.2 hF
          go_wp2_with fail
          refine (has03 v L (N - o) w2 HIL2.out).mono ?_
          rintro e w' ⟨rfl, rfl⟩
          by_cases hm : N - o ∈ L
          · have hs2 : insR o sh N (qs o sh (0 + 1)) = L := by rw [HSN.out, if_neg (fun h => h.2 hm)]
            have HS2 := Lib.hid hs2; clear hs2 hF
            rw [decide_eq_true hm]
            clear hm
            go_wp2_with fail
            go_roundw
            case rel => exact ⟨0 + 1, _, rfl, by omega, rfl, by rw [HS2.out]; exact hrow2, hzb2, hB2⟩
            case measure => first | (simp [intOf]; done) | (simp [intOf]; omega)
          · have hs2 : insR o sh N (qs o sh (0 + 1)) = L ++ [N - o] := by rw [HSN.out, if_pos ⟨hF, hm⟩]
            have HS2 := Lib.hid hs2; clear hs2 hF
            rw [decide_eq_false hm]
            clear hm
            have hms : maxLen = 9223372036854775807 := rfl
            have HMS := Lib.hid hms; clear hms
            go_wp2_with (at_builtin; refine wpList_append_own _ rfl _ _ 25 rfl W.heap.size 3 i0 (.int .i64 0) 1 8 Try.underlying25 hi hz0 hz1 hz2 rfl (by decide) _ _ _ rfl (hrow2.alloc _) ⟨w2.heap.size, 0, none⟩ 1 1 [.int .i64 (N - o)] rfl rfl (cell_one_new _ _ _) (by simp [Value.oneCell']) (by have := HMS.out; omega) (by omega) (by simp; omega) ?_; intro v' w3 hown' hgrow _)
            go_roundw
            case rel =>
              have hBa : Below W.heap.size W (w2.alloc (.cells #[.int .i64 (N - o)] 3)) := hB2.alloc hB2.size _
              have hB3 : Below W.heap.size W w3 := hBa.grown hgrow (by simp; omega) (fun r e => by have := (hrow2.lt r e).1; omega)
              have hzb3 : ZBox w3 w.heap.size o (.slice a sh.length cap) sh := by
                have hg2 : Below W.heap.size w2 w3 := (((Below.refl W.heap.size w2).alloc hsw2 _)).grown hgrow (by simp; omega) (fun r e => by have := (hrow2.lt r e).1; omega)
                exact ⟨⟨(hg2.cell (p := ⟨w.heap.size, 0, none⟩) hlt).trans hzb2.1.1, (hg2.cell (p := ⟨w.heap.size, 1, none⟩) hlt).trans hzb2.1.2⟩, by have := hB3.size; omega, HI.out.below hB3⟩
              refine ⟨0 + 1, _, rfl, by omega, rfl, ?_, hzb3, hB3⟩
              rw [HS2.out, List.length_append, List.map_append]
              exact hown'
            case measure => first | (simp [intOf]; done) | (simp [intOf]; omega)
        · have g1 : (F == o) = false := beq_eq_false_iff_ne.2 hF
          have hs2 : insR o sh N (qs o sh (0 + 1)) = L := by rw [HSN.out, if_neg (fun h => hF h.1)]
          have HS2 := Lib.hid hs2; clear hs2 hF
          go_wp2_with fail
          go_roundw
          case rel => exact ⟨0 + 1, _, rfl, by omega, rfl, by rw [HS2.out]; exact hrow2, hzb2, hB2⟩
          case measure => first | (simp [intOf]; done) | (simp [intOf]; omega)
      · obtain ⟨k', rfl⟩ : ∃ k', k = k' + 1 := ⟨k - 1, by omega⟩
        have hlt3 : k' < sh.length := by omega
        rw [show ((k' + 1 : Nat) : Int) - 1 = k' from by omega]
        obtain ⟨q1, q2, q3, q4⟩ := HCA.out k' hlt3
        obtain ⟨b, off', rfl, d1, d2⟩ := hzb.2.2.at hlt3
        have hsn := step _ (qs_next hlt3)
        have hIL0 : IsInts wr v (insR o sh N (qs o sh (k' + 1))) := IsInts.of_row hrow (by have : maxLen = 9223372036854775807 := rfl; omega)
        have hoff := fun w' h => zroff_any o (N - (shO sh k')) (.slice (some ⟨b, off', none⟩) sh.length cap) sh w' h
        generalize offR o sh (N - (shO sh k')) = F at *
        generalize (shO sh k') = q at *
        generalize insR o sh N (qs o sh (k' + 1)) = L at *
        obtain ⟨⟨z0, z1⟩, zlt, zI⟩ := hzb
        have HOFF := Lib.hid hoff; have HSN := Lib.hid hsn; have HIL := Lib.hid hIL0; have HZI := Lib.hid zI
        clear hoff hsn hIL0 zI step
        go_wp2_with fail
        refine (HOFF.out _ HZI.out).mono ?_
        rintro e w2 ⟨rfl, hb2⟩
        have hB2 := hB.trans (hb2.mono hB.size)
        have hzb2 : ZBox w2 w.heap.size o (.slice (some ⟨b, off', none⟩) sh.length cap) sh := ZBox.below ⟨⟨z0, z1⟩, zlt, HZI.out⟩ hb2
        have hrow2 := row_below hrow hb2
        have hsw2 := hB2.size
        have HIL2 := Lib.hid (HIL.out.below hb2)
        clear z0 z1 hrow hB hb2
        by_cases hF : F = q
        · have g1 : (F == q) = true := beq_iff_eq.2 hF
          go_wp2_with fail
          refine (has03 v L (N - q) w2 HIL2.out).mono ?_
          rintro e w' ⟨rfl, rfl⟩
          by_cases hm : N - q ∈ L
          · have hs2 : insR o sh N (qs o sh ((k' + 1) + 1)) = L := by rw [HSN.out, if_neg (fun h => h.2 hm)]
            have HS2 := Lib.hid hs2; clear hs2 hF
            rw [decide_eq_true hm]
            clear hm
            go_wp2_with fail
            go_roundw
            case rel => exact ⟨(k' + 1) + 1, _, rfl, by omega, by rw [show ((k' : Int) + 1) = ((k' + 1 + 1 : Nat) : Int) - 1 from by omega], by rw [HS2.out]; exact hrow2, hzb2, hB2⟩
            case measure => first | (simp [intOf]; done) | (simp [intOf]; omega)
          · have hs2 : insR o sh N (qs o sh ((k' + 1) + 1)) = L ++ [N - q] := by rw [HSN.out, if_pos ⟨hF, hm⟩]
            have HS2 := Lib.hid hs2; clear hs2 hF
            rw [decide_eq_false hm]
            clear hm
            have hms : maxLen = 9223372036854775807 := rfl
            have HMS := Lib.hid hms; clear hms
            go_wp2_with (at_builtin; refine wpList_append_own _ rfl _ _ 25 rfl W.heap.size 3 i0 (.int .i64 0) 1 8 Try.underlying25 hi hz0 hz1 hz2 rfl (by decide) _ _ _ rfl (hrow2.alloc _) ⟨w2.heap.size, 0, none⟩ 1 1 [.int .i64 (N - q)] rfl rfl (cell_one_new _ _ _) (by simp [Value.oneCell']) (by have := HMS.out; omega) (by omega) (by simp; omega) ?_; intro v' w3 hown' hgrow _)
            go_roundw
            case rel =>
              have hBa : Below W.heap.size W (w2.alloc (.cells #[.int .i64 (N - q)] 3)) := hB2.alloc hB2.size _
              have hB3 : Below W.heap.size W w3 := hBa.grown hgrow (by simp; omega) (fun r e => by have := (hrow2.lt r e).1; omega)
              have hzb3 : ZBox w3 w.heap.size o (.slice (some ⟨b, off', none⟩) sh.length cap) sh := by
                have hg2 : Below W.heap.size w2 w3 := (((Below.refl W.heap.size w2).alloc hsw2 _)).grown hgrow (by simp; omega) (fun r e => by have := (hrow2.lt r e).1; omega)
                exact ⟨⟨(hg2.cell (p := ⟨w.heap.size, 0, none⟩) hlt).trans hzb2.1.1, (hg2.cell (p := ⟨w.heap.size, 1, none⟩) hlt).trans hzb2.1.2⟩, by have := hB3.size; omega, HI.out.below hB3⟩
              refine ⟨(k' + 1) + 1, _, rfl, by omega, by rw [show ((k' : Int) + 1) = ((k' + 1 + 1 : Nat) : Int) - 1 from by omega], ?_, hzb3, hB3⟩
              rw [HS2.out, List.length_append, List.map_append]
              exact hown'
            case measure => first | (simp [intOf]; done) | (simp [intOf]; omega)
        · have g1 : (F == q) = false := beq_eq_false_iff_ne.2 hF
          have hs2 : insR o sh N (qs o sh ((k' + 1) + 1)) = L := by rw [HSN.out, if_neg (fun h => hF h.1)]
          have HS2 := Lib.hid hs2; clear hs2 hF
          go_wp2_with fail
          go_roundw
          case rel => exact ⟨(k' + 1) + 1, _, rfl, by omega, by rw [show ((k' : Int) + 1) = ((k' + 1 + 1 : Nat) : Int) - 1 from by omega], by rw [HS2.out]; exact hrow2, hzb2, hB2⟩
          case measure => first | (simp [intOf]; done) | (simp [intOf]; omega)
    · obtain rfl : k = sh.length + 1 := by omega
      have hx : ((sh.length + 1 : Nat) : Int) - 1 = sh.length := by omega
      rw [hx]
      clear hx
      rw [qs_all] at hrow hLk
      have hdef : insRef o sh N = swap2 (insR o sh N (o :: sh.map (·.2))) := rfl
      generalize insR o sh N (o :: sh.map (·.2)) = L at *
      have HFIN := Lib.hid hdef
      clear hdef
      obtain ⟨⟨z0, z1⟩, zlt, zI⟩ := hzb
      clear zI hqk
      by_cases h2 : L.length = 2
      · match L, h2 with
        | [x, y], _ =>
          obtain ⟨g, cap', rfl⟩ := ownsRow_succ hrow
          have x0 : wr.cell? ⟨g, 0, none⟩ = some (.int .i64 x) := by have := hrow.cellAt 0 (by simp); simpa using this
          have y0 : wr.cell? ⟨g, 1, none⟩ = some (.int .i64 y) := by have := hrow.cellAt 1 (by simp); simpa using this
          by_cases hxy : y < x
          · have hsw2 : swap2 [x, y] = [y, x] := by show (if y < x then [y, x] else [x, y]) = _; rw [if_pos hxy]
            have HSW := Lib.hid hsw2; clear hsw2 hLk
            have g1 : decide (y < x) = true := decide_eq_true hxy
            go_wp2_with fail
            go_big_quiet (fail)
            go_wp2_with fail
            go_region
            all_goals
              go_wp2_with fail
              go_ret
              refine ⟨.slice (some ⟨wr.heap.size, 0, none⟩) 2 2, rfl, ?_, bl_trans (bl_drewN (bl_trans hbw hB) _) (bl_alloc _ _)⟩
              rw [HFIN.out, HSW.out]
              refine ⟨rfl, .inr ⟨wr.heap.size, 2, #[.int .i64 y, .int .i64 x], rfl, by have := hB.size; omega, World.alloc_heap_new _ _, Nat.le_refl _, by decide, rfl, rfl⟩⟩
          · have hsw2 : swap2 [x, y] = [x, y] := by show (if y < x then [y, x] else [x, y]) = _; rw [if_neg hxy]
            have HSW := Lib.hid hsw2; clear hsw2 hLk
            have g1 : decide (y < x) = false := decide_eq_false hxy
            go_wp2_with fail
            go_big_quiet (fail)
            go_wp2_with fail
            go_ret
            exact ⟨.slice (some ⟨g, 0, none⟩) 2 cap', rfl, by rw [HFIN.out, HSW.out]; exact row_base (row_below hrow (bl_drewN (bl_refl _) _)) hbw.size, bl_drewN (bl_trans hbw hB) _⟩
      · have hsw2 : swap2 L = L := by
          match L, h2 with
          | [], _ => rfl
          | [_], _ => rfl
          | _ :: _ :: _ :: _, _ => rfl
        have hv : ∃ a c, v = .slice a L.length c := by
          rcases hrow.2 with ⟨h1, h0⟩ | ⟨g', cap', cur, h1, _⟩
          · exact ⟨none, 0, by rw [h1, h0]⟩
          · exact ⟨_, _, h1⟩
        obtain ⟨va, vc, rfl⟩ := hv
        have g1 : ((L.length : Int) == 2) = false := by rw [beq_eq_false_iff_ne]; omega
        have g2 : (L.length == 2) = false := by rw [beq_eq_false_iff_ne]; omega
        have HSW := Lib.hid hsw2; clear hsw2 h2 hLk
        go_wp2_with fail
        go_big_quiet (fail)
        go_wp2_with fail
        go_ret
        exact ⟨.slice va L.length vc, rfl, by rw [HFIN.out, HSW.out]; exact row_base (row_below hrow (bl_drewN (bl_refl _) _)) hbw.size, bl_drewN (bl_trans hbw hB) _⟩
end Go.Proofs.Ytioenakhkkejmaa
