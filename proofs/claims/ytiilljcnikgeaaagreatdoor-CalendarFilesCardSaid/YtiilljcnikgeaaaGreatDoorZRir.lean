/- Several texts in one, each with its own word at its head. Conditions: stated there. -/
import Derived.Test.YtiilljcnikgeaaaGreatDoorZBx
/- The walks of the reference's Instants and Resolve. Conditions: the zone lies in memory and is valid; bounds. -/
namespace Go.Proofs.YtiilljcnikgeaaaGreatDoor
open Go.RowKit

def qs (o : Int) (l : Sh) (k : Nat) : List Int := (o :: l.map (·.2)).take k
theorem qs_next {o : Int} {l : Sh} {k : Nat} (h : k < l.length) : qs o l (k + 1 + 1) = qs o l (k + 1) ++ [shO l k] := by
  unfold qs shO
  rw [List.take_succ_cons, List.take_succ_cons, List.take_add_one, List.getElem?_map, List.getElem?_eq_getElem h]
  rfl
theorem qs_one (o : Int) (l : Sh) : qs o l 1 = [o] := rfl
theorem qs_all (o : Int) (l : Sh) : qs o l (l.length + 1) = o :: l.map (·.2) := by unfold qs; rw [List.take_of_length_le (by simp)]
theorem insR_len (o : Int) (l : Sh) (n : Int) (qs : List Int) : (insR o l n qs).length ≤ qs.length := by
  suffices h : ∀ qs' : List Int, (insR o l n qs'.reverse).length ≤ qs'.length by have := h qs.reverse; rwa [List.reverse_reverse, List.length_reverse] at this
  intro qs'
  induction qs' with
  | nil => simp [insR]
  | cons q qs' ih =>
    rw [List.reverse_cons, insR_snoc]
    split
    · rw [List.length_append]; simp; omega
    · simp; omega
/-- how the reference's loop lies in memory -/
def RiRel (o : Int) (sv : Value) (l : Sh) (n : Int) (w W : World) (v i : Value) (wr : World) : Prop :=
  ∃ (k : Nat) (sv' : Value), sv' = v ∧ k ≤ l.length + 1 ∧ i = .int .i64 ((k : Int) - 1) ∧ wr.ownsRow W.heap.size 3 1 v (insR o l n (qs o l k)).length ((insR o l n (qs o l k)).map (Value.int .i64)) ∧ ZBox wr w.heap.size o sv l ∧ Below W.heap.size W wr

set_option maxRecDepth 100000 in
set_option maxHeartbeats 8000000 in
theorem zri_loop (o day m : Int) (a : Option Addr) (cap : Nat) (sh : Sh) (w : World) (hI : IsSh w (.slice a sh.length cap) sh) (hok : Ok o sh) (hd1 : -100000000000 ≤ day) (hd2 : day ≤ 100000000000) (hm1 : 0 ≤ m) (hm2 : m ≤ 1439) (hlen : sh.length ≤ 1000000000) :
    Calls Tryz.prog 50 #[.agg #[.int .i64 o, .slice a sh.length cap], .int .i64 day, .int .i64 m] w (InsPost (insRef o sh (1440 * day + m)) w) := by
  have hr : rng 0 m 1439 = true := rng_yes ⟨hm1, hm2⟩
  have HR := Lib.hid hr; clear hr
  obtain ⟨i0, hi, hz0, hz1, hz2⟩ := info_parts infoInt
  have hca := fun k hk => (chain_at (by omega) hok.2.2 k hk).1
  have HCA := Lib.hid hca; clear hca
  have ho1 := hok.1
  have ho2 := hok.2.1
  obtain ⟨N, hN⟩ : ∃ N, N = 1440 * day + m := ⟨_, rfl⟩
  have n1 : -150000000000000 ≤ N := by omega
  have n2 : N ≤ 150000000000000 := by omega
  rw [← hN]
  have HN := Lib.hid hN; clear hN
  have HOK := Lib.hid hok; clear hok
  have hzb := ZBox.new (o := o) hI
  obtain ⟨⟨c0, c1⟩, hlt, hIs⟩ := hzb
  have HI := Lib.hid hIs; clear hIs hI
  go_enter Tryz.func50, Tryz.ntmps50
  go_wp2_with fail
  refine (in_any _ _ _ _).mono ?_
  rintro e w1 ⟨rfl, rfl⟩
  rw [HR.out]
  go_wp2_with fail
  rw [← HN.out]
  obtain ⟨W, hW⟩ : ∃ W, W = w.alloc (.cells #[.int .i64 o, .slice a sh.length cap] 28) := ⟨_, rfl⟩
  rw [← hW] at c0 c1 hlt HI ⊢
  have hbw : Below w.heap.size w W := by rw [hW]; exact bl_alloc _ _
  clear hW
  go_loopw [8, 9] (fun v i wr => RiRel o (.slice a sh.length cap) sh N w W v i wr) (fun _ i _ => (sh.length - (intOf i)).toNat)
  case atStart => exact ⟨0, _, rfl, by omega, rfl, World.ownsRow_nil _ _ _ _, ⟨⟨c0, c1⟩, hlt, HI.out⟩, Below.refl _ _⟩
  case round =>
    obtain ⟨k, v, rfl, hk, rfl, hrow, hzb, hB⟩ := hrel
    have hLk := insR_len o sh N (qs o sh k)
    have hqk : (qs o sh k).length ≤ k := by unfold qs; exact List.length_take_le _ _
    have hsw := hB.size
    by_cases hlt2 : k ≤ sh.length
    · have hsn := insR_snoc o sh N (qs o sh k)
      have step : ∀ q, qs o sh (k + 1) = qs o sh k ++ [q] → insR o sh N (qs o sh (k + 1)) = if offR o sh (N - q) = q ∧ ¬ (N - q) ∈ insR o sh N (qs o sh k) then insR o sh N (qs o sh k) ++ [N - q] else insR o sh N (qs o sh k) := fun q hq => by rw [hq]; exact hsn q
      clear hsn
      by_cases hk0 : k = 0
      · subst hk0
        have hsn := step o rfl
        have hIL0 : IsInts wr v (insR o sh N (qs o sh 0)) := IsInts.of_row hrow (by have : maxLen = 9223372036854775807 := rfl; omega)
        have hoff := fun w' h => zroff_any o (N - o) (.slice a sh.length cap) sh w' h
        generalize offR o sh (N - o) = F at *
        generalize insR o sh N (qs o sh 0) = L at *
        obtain ⟨⟨z0, z1⟩, zlt, zI⟩ := hzb
        have HOFF := Lib.hid hoff; have HSN := Lib.hid hsn; have HIL := Lib.hid hIL0; have HZI := Lib.hid zI
        clear hoff hsn hIL0 zI step
        go_wp2_with fail
        refine (HOFF.out _ HZI.out).mono ?_
        rintro e w2 ⟨rfl, hb2⟩
        have hB2 := hB.trans (hb2.mono hB.size)
        have hzb2 : ZBox w2 w.heap.size o (.slice a sh.length cap) sh := ZBox.below ⟨⟨z0, z1⟩, zlt, HZI.out⟩ hb2
        have hrow2 := row_below hrow hb2
        have hsw2 := hB2.size
        have HIL2 := Lib.hid (HIL.out.below hb2)
        clear z0 z1 hrow hB hb2
        by_cases hF : F = o
        · have g1 : (F == o) = true := beq_iff_eq.2 hF
          go_wp2_with fail
          refine (has03 v L (N - o) w2 HIL2.out).mono ?_
          rintro e w' ⟨rfl, rfl⟩
          by_cases hm : N - o ∈ L
          · have hs2 : insR o sh N (qs o sh (0 + 1)) = L := by rw [HSN.out, if_neg (fun h => h.2 hm)]
            have HS2 := Lib.hid hs2; clear hs2 hF
            rw [decide_eq_true hm]
            clear hm
            go_wp2_with fail
            go_roundw
            case rel => exact ⟨0 + 1, _, rfl, by omega, rfl, by rw [HS2.out]; exact hrow2, hzb2, hB2⟩
            case measure => first | (simp [intOf]; done) | (simp [intOf]; omega)
          · have hs2 : insR o sh N (qs o sh (0 + 1)) = L ++ [N - o] := by rw [HSN.out, if_pos ⟨hF, hm⟩]
            have HS2 := Lib.hid hs2; clear hs2 hF
            rw [decide_eq_false hm]
            clear hm
            have hms : maxLen = 9223372036854775807 := rfl
            have HMS := Lib.hid hms; clear hms
            go_wp2_with (at_builtin; refine wpList_append_own _ rfl _ _ 22 rfl W.heap.size 3 i0 (.int .i64 0) 1 8 Tryz.underlying22 hi hz0 hz1 hz2 rfl (by decide) _ _ _ rfl (hrow2.alloc _) ⟨w2.heap.size, 0, none⟩ 1 1 [.int .i64 (N - o)] rfl rfl (cell_one_new _ _ _) (by simp [Value.oneCell']) (by have := HMS.out; omega) (by omega) (by simp; omega) ?_; intro v' w3 hown' hgrow _)
            go_roundw
            case rel =>
              have hBa : Below W.heap.size W (w2.alloc (.cells #[.int .i64 (N - o)] 3)) := hB2.alloc hB2.size _
              have hB3 : Below W.heap.size W w3 := hBa.grown hgrow (by simp; omega) (fun r e => by have := (hrow2.lt r e).1; omega)
              have hzb3 : ZBox w3 w.heap.size o (.slice a sh.length cap) sh := by
                have hg2 : Below W.heap.size w2 w3 := (((Below.refl W.heap.size w2).alloc hsw2 _)).grown hgrow (by simp; omega) (fun r e => by have := (hrow2.lt r e).1; omega)
                exact ⟨⟨(hg2.cell (p := ⟨w.heap.size, 0, none⟩) hlt).trans hzb2.1.1, (hg2.cell (p := ⟨w.heap.size, 1, none⟩) hlt).trans hzb2.1.2⟩, by have := hB3.size; omega, HI.out.below hB3⟩
              refine ⟨0 + 1, _, rfl, by omega, rfl, ?_, hzb3, hB3⟩
              rw [HS2.out, List.length_append, List.map_append]
              exact hown'
            case measure => first | (simp [intOf]; done) | (simp [intOf]; omega)
        · have g1 : (F == o) = false := beq_eq_false_iff_ne.2 hF
          have hs2 : insR o sh N (qs o sh (0 + 1)) = L := by rw [HSN.out, if_neg (fun h => hF h.1)]
          have HS2 := Lib.hid hs2; clear hs2 hF
          go_wp2_with fail
          go_roundw
          case rel => exact ⟨0 + 1, _, rfl, by omega, rfl, by rw [HS2.out]; exact hrow2, hzb2, hB2⟩
          case measure => first | (simp [intOf]; done) | (simp [intOf]; omega)
      · obtain ⟨k', rfl⟩ : ∃ k', k = k' + 1 := ⟨k - 1, by omega⟩
        have hlt3 : k' < sh.length := by omega
        rw [show ((k' + 1 : Nat) : Int) - 1 = k' from by omega]
        obtain ⟨q1, q2, q3, q4⟩ := HCA.out k' hlt3
        obtain ⟨b, off', rfl, d1, d2⟩ := hzb.2.2.at hlt3
        have hsn := step _ (qs_next hlt3)
        have hIL0 : IsInts wr v (insR o sh N (qs o sh (k' + 1))) := IsInts.of_row hrow (by have : maxLen = 9223372036854775807 := rfl; omega)
        have hoff := fun w' h => zroff_any o (N - (shO sh k')) (.slice (some ⟨b, off', none⟩) sh.length cap) sh w' h
        generalize offR o sh (N - (shO sh k')) = F at *
        generalize (shO sh k') = q at *
        generalize insR o sh N (qs o sh (k' + 1)) = L at *
        obtain ⟨⟨z0, z1⟩, zlt, zI⟩ := hzb
        have HOFF := Lib.hid hoff; have HSN := Lib.hid hsn; have HIL := Lib.hid hIL0; have HZI := Lib.hid zI
        clear hoff hsn hIL0 zI step
        go_wp2_with fail
        refine (HOFF.out _ HZI.out).mono ?_
        rintro e w2 ⟨rfl, hb2⟩
        have hB2 := hB.trans (hb2.mono hB.size)
        have hzb2 : ZBox w2 w.heap.size o (.slice (some ⟨b, off', none⟩) sh.length cap) sh := ZBox.below ⟨⟨z0, z1⟩, zlt, HZI.out⟩ hb2
        have hrow2 := row_below hrow hb2
        have hsw2 := hB2.size
        have HIL2 := Lib.hid (HIL.out.below hb2)
        clear z0 z1 hrow hB hb2
        by_cases hF : F = q
        · have g1 : (F == q) = true := beq_iff_eq.2 hF
          go_wp2_with fail
          refine (has03 v L (N - q) w2 HIL2.out).mono ?_
          rintro e w' ⟨rfl, rfl⟩
          by_cases hm : N - q ∈ L
          · have hs2 : insR o sh N (qs o sh ((k' + 1) + 1)) = L := by rw [HSN.out, if_neg (fun h => h.2 hm)]
            have HS2 := Lib.hid hs2; clear hs2 hF
            rw [decide_eq_true hm]
            clear hm
            go_wp2_with fail
            go_roundw
            case rel => exact ⟨(k' + 1) + 1, _, rfl, by omega, by rw [show ((k' : Int) + 1) = ((k' + 1 + 1 : Nat) : Int) - 1 from by omega], by rw [HS2.out]; exact hrow2, hzb2, hB2⟩
            case measure => first | (simp [intOf]; done) | (simp [intOf]; omega)
          · have hs2 : insR o sh N (qs o sh ((k' + 1) + 1)) = L ++ [N - q] := by rw [HSN.out, if_pos ⟨hF, hm⟩]
            have HS2 := Lib.hid hs2; clear hs2 hF
            rw [decide_eq_false hm]
            clear hm
            have hms : maxLen = 9223372036854775807 := rfl
            have HMS := Lib.hid hms; clear hms
            go_wp2_with (at_builtin; refine wpList_append_own _ rfl _ _ 22 rfl W.heap.size 3 i0 (.int .i64 0) 1 8 Tryz.underlying22 hi hz0 hz1 hz2 rfl (by decide) _ _ _ rfl (hrow2.alloc _) ⟨w2.heap.size, 0, none⟩ 1 1 [.int .i64 (N - q)] rfl rfl (cell_one_new _ _ _) (by simp [Value.oneCell']) (by have := HMS.out; omega) (by omega) (by simp; omega) ?_; intro v' w3 hown' hgrow _)
            go_roundw
            case rel =>
              have hBa : Below W.heap.size W (w2.alloc (.cells #[.int .i64 (N - q)] 3)) := hB2.alloc hB2.size _
              have hB3 : Below W.heap.size W w3 := hBa.grown hgrow (by simp; omega) (fun r e => by have := (hrow2.lt r e).1; omega)
              have hzb3 : ZBox w3 w.heap.size o (.slice (some ⟨b, off', none⟩) sh.length cap) sh := by
                have hg2 : Below W.heap.size w2 w3 := (((Below.refl W.heap.size w2).alloc hsw2 _)).grown hgrow (by simp; omega) (fun r e => by have := (hrow2.lt r e).1; omega)
                exact ⟨⟨(hg2.cell (p := ⟨w.heap.size, 0, none⟩) hlt).trans hzb2.1.1, (hg2.cell (p := ⟨w.heap.size, 1, none⟩) hlt).trans hzb2.1.2⟩, by have := hB3.size; omega, HI.out.below hB3⟩
              refine ⟨(k' + 1) + 1, _, rfl, by omega, by rw [show ((k' : Int) + 1) = ((k' + 1 + 1 : Nat) : Int) - 1 from by omega], ?_, hzb3, hB3⟩
              rw [HS2.out, List.length_append, List.map_append]
              exact hown'
            case measure => first | (simp [intOf]; done) | (simp [intOf]; omega)
        · have g1 : (F == q) = false := beq_eq_false_iff_ne.2 hF
          have hs2 : insR o sh N (qs o sh ((k' + 1) + 1)) = L := by rw [HSN.out, if_neg (fun h => hF h.1)]
          have HS2 := Lib.hid hs2; clear hs2 hF
          go_wp2_with fail
          go_roundw
          case rel => exact ⟨(k' + 1) + 1, _, rfl, by omega, by rw [show ((k' : Int) + 1) = ((k' + 1 + 1 : Nat) : Int) - 1 from by omega], by rw [HS2.out]; exact hrow2, hzb2, hB2⟩
          case measure => first | (simp [intOf]; done) | (simp [intOf]; omega)
    · obtain rfl : k = sh.length + 1 := by omega
      have hx : ((sh.length + 1 : Nat) : Int) - 1 = sh.length := by omega
      rw [hx]
      clear hx
      rw [qs_all] at hrow hLk
      have hdef : insRef o sh N = swap2 (insR o sh N (o :: sh.map (·.2))) := rfl
      generalize insR o sh N (o :: sh.map (·.2)) = L at *
      have HFIN := Lib.hid hdef
      clear hdef
      obtain ⟨⟨z0, z1⟩, zlt, zI⟩ := hzb
      clear zI hqk
      by_cases h2 : L.length = 2
      · match L, h2 with
        | [x, y], _ =>
          obtain ⟨g, cap', rfl⟩ := ownsRow_succ hrow
          have x0 : wr.cell? ⟨g, 0, none⟩ = some (.int .i64 x) := by have := hrow.cellAt 0 (by simp); simpa using this
          have y0 : wr.cell? ⟨g, 1, none⟩ = some (.int .i64 y) := by have := hrow.cellAt 1 (by simp); simpa using this
          by_cases hxy : y < x
          · have hsw2 : swap2 [x, y] = [y, x] := by show (if y < x then [y, x] else [x, y]) = _; rw [if_pos hxy]
            have HSW := Lib.hid hsw2; clear hsw2 hLk
            have g1 : decide (y < x) = true := decide_eq_true hxy
            go_wp2_with fail
            go_big_quiet (fail)
            go_wp2_with fail
            go_region
            all_goals
              go_wp2_with fail
              go_ret
              refine ⟨.slice (some ⟨wr.heap.size, 0, none⟩) 2 2, rfl, ?_, bl_trans (bl_drewN (bl_trans hbw hB) _) (bl_alloc _ _)⟩
              rw [HFIN.out, HSW.out]
              refine ⟨rfl, .inr ⟨wr.heap.size, 2, #[.int .i64 y, .int .i64 x], rfl, by have := hB.size; omega, World.alloc_heap_new _ _, Nat.le_refl _, by decide, rfl, rfl⟩⟩
          · have hsw2 : swap2 [x, y] = [x, y] := by show (if y < x then [y, x] else [x, y]) = _; rw [if_neg hxy]
            have HSW := Lib.hid hsw2; clear hsw2 hLk
            have g1 : decide (y < x) = false := decide_eq_false hxy
            go_wp2_with fail
            go_big_quiet (fail)
            go_wp2_with fail
            go_ret
            exact ⟨.slice (some ⟨g, 0, none⟩) 2 cap', rfl, by rw [HFIN.out, HSW.out]; exact row_base (row_below hrow (bl_drewN (bl_refl _) _)) hbw.size, bl_drewN (bl_trans hbw hB) _⟩
      · have hsw2 : swap2 L = L := by
          match L, h2 with
          | [], _ => rfl
          | [_], _ => rfl
          | _ :: _ :: _ :: _, _ => rfl
        have hv : ∃ a c, v = .slice a L.length c := by
          rcases hrow.2 with ⟨h1, h0⟩ | ⟨g', cap', cur, h1, _⟩
          · exact ⟨none, 0, by rw [h1, h0]⟩
          · exact ⟨_, _, h1⟩
        obtain ⟨va, vc, rfl⟩ := hv
        have g1 : ((L.length : Int) == 2) = false := by rw [beq_eq_false_iff_ne]; omega
        have g2 : (L.length == 2) = false := by rw [beq_eq_false_iff_ne]; omega
        have HSW := Lib.hid hsw2; clear hsw2 h2 hLk
        go_wp2_with fail
        go_big_quiet (fail)
        go_wp2_with fail
        go_ret
        exact ⟨.slice va L.length vc, rfl, by rw [HFIN.out, HSW.out]; exact row_base (row_below hrow (bl_drewN (bl_refl _) _)) hbw.size, bl_drewN (bl_trans hbw hB) _⟩
end Go.Proofs.YtiilljcnikgeaaaGreatDoor
/- The walks of the reference's Resolve, and of Instants at minutes that no day has. Conditions: the zone lies in memory and is valid; bounds. -/
namespace Go.Proofs.YtiilljcnikgeaaaGreatDoor
open Go.RowKit

theorem InsPost.slice {l : List Int} {w : World} {e : Ending} {w' : World} (h : InsPost l w e w') (hl : l.length ≤ maxLen) : ∃ a cap, e = .returned (.slice a l.length cap) ∧ IsInts w' (.slice a l.length cap) l ∧ Below w.heap.size w w' := by
  obtain ⟨v, rfl, hrow, hb⟩ := h
  have hI := IsInts.of_row hrow hl
  have hv : ∃ a cap, v = .slice a l.length cap := by
    rcases hrow.2 with ⟨h1, h2⟩ | ⟨g', cap', cur, h1, _⟩
    · exact ⟨none, 0, by rw [h1, h2]⟩
    · exact ⟨_, _, h1⟩
  obtain ⟨a, cap, rfl⟩ := hv
  exact ⟨a, cap, rfl, hI, hb⟩
theorem zri_any (o day m : Int) (v : Value) (sh : Sh) (w : World) (hI : IsSh w v sh) (hok : Ok o sh) (hd1 : -700000000 ≤ day) (hd2 : day ≤ 700000000) (hm1 : 0 ≤ m) (hm2 : m ≤ 1439) (hlen : sh.length ≤ 1000000000) :
    Calls Tryz.prog 50 #[.agg #[.int .i64 o, v], .int .i64 day, .int .i64 m] w (InsPost (ins o sh (1440 * day + m)) w) := by
  obtain ⟨a, cap, rfl, _⟩ := hI.slice
  rw [← insRef_eq (n := 1440 * day + m) hok (by omega)]
  exact zri_loop o day m a cap sh w hI hok (by omega) (by omega) hm1 hm2 hlen
set_option maxRecDepth 100000 in
set_option maxHeartbeats 2000000 in
theorem zri_out (o day m : Int) (v : Value) (w : World) (hm : m < 0 ∨ 1439 < m) :
    Calls Tryz.prog 50 #[.agg #[.int .i64 o, v], .int .i64 day, .int .i64 m] w (InsPost [] w) := by
  have hr : rng 0 m 1439 = false := rng_no (by omega)
  have HR := Lib.hid hr; clear hr hm
  go_enter Tryz.func50, Tryz.ntmps50
  go_wp2_with fail
  refine (in_any _ _ _ _).mono ?_
  rintro e w1 ⟨rfl, rfl⟩
  rw [HR.out]
  go_wp2_with fail
  go_ret
  exact ⟨.slice none 0 0, rfl, World.ownsRow_nil _ _ _ _, bl_alloc _ _⟩
set_option maxRecDepth 100000 in
set_option maxHeartbeats 2000000 in
theorem zinst_out (o day m : Int) (v : Value) (w : World) (hm : m < 0 ∨ 1439 < m) :
    Calls Tryz.prog 32 #[.agg #[.int .i64 o, v], .int .i64 day, .int .i64 m] w (InsPost [] w) := by
  by_cases h1 : m < 0
  · have g1 : decide (m < 0) = true := decide_eq_true h1
    clear hm
    go_enter Tryz.func32, Tryz.ntmps32
    go_wp2_with fail
    go_ret
    exact ⟨.slice none 0 0, rfl, World.ownsRow_nil _ _ _ _, bl_trans (bl_trans (bl_alloc _ _) (bl_alloc _ _)) (bl_alloc _ _)⟩
  · have g1 : decide (m < 0) = false := decide_eq_false h1
    have g2 : decide (1440 ≤ m) = true := decide_eq_true (by omega)
    clear hm
    go_enter Tryz.func32, Tryz.ntmps32
    go_wp2_with fail
    go_ret
    exact ⟨.slice none 0 0, rfl, World.ownsRow_nil _ _ _ _, bl_trans (bl_trans (bl_alloc _ _) (bl_alloc _ _)) (bl_alloc _ _)⟩

set_option maxRecDepth 100000 in
set_option maxHeartbeats 4000000 in
theorem zrr_gap (o day m : Int) (late : Bool) (a : Option Addr) (cap : Nat) (sh : Sh) (w : World) (hI : IsSh w (.slice a sh.length cap) sh) (hok : Ok o sh) (hd1 : -700000000 ≤ day) (hd2 : day ≤ 700000000) (hm1 : 0 ≤ m) (hm2 : m ≤ 1439) (hlen : sh.length ≤ 1000000000) (he : ins o sh (1440 * day + m) = []) :
    Calls Tryz.prog 34 #[.agg #[.int .i64 o, .slice a sh.length cap], .int .i64 day, .int .i64 m, .bool late] w (Ret (.int .i64 (resR (1440 * day + m) o sh)) w) := by
  have hzb := ZBox.new (o := o) hI
  have hinst := zri_any o day m _ sh _ hzb.2.2 hok hd1 hd2 hm1 hm2 hlen
  rw [he] at hinst
  obtain ⟨N, hN⟩ : ∃ N, N = 1440 * day + m := ⟨_, rfl⟩
  have n1 : -150000000000000 ≤ N := by omega
  have n2 : N ≤ 150000000000000 := by omega
  rw [← hN] at he ⊢
  have HN := Lib.hid hN
  have hbd := gapK_bd N o sh hok
  have hca := fun k hk => (chain_at (by omega) hok.2.2 k hk).1
  obtain ⟨R, hR⟩ : ∃ R, R = resR N o sh := ⟨_, rfl⟩
  rw [← hR]
  have HINST := Lib.hid hinst; have HBD := Lib.hid hbd; have HCA := Lib.hid hca; have HR := Lib.hid hR
  clear hinst hN hbd hca he hok hR hI
  have HZB := Lib.hid hzb; clear hzb
  go_enter Tryz.func34, Tryz.ntmps34
  go_wp2_with fail
  refine HINST.out.mono ?_
  rintro e w1 hp
  obtain ⟨la, lc, rfl, _, hb1⟩ := hp.slice (by decide)
  clear hp
  have hzb := HZB.out.below hb1
  have hB := bl_trans (bl_alloc w (.cells #[.int .i64 o, .slice a sh.length cap] 28)) hb1
  obtain ⟨⟨z0, z1⟩, zlt, zI⟩ := hzb
  have HZI := Lib.hid zI; clear zI hb1
  have x1 : ¬ ((([] : List Int).length : Int) > 0) := by simp
  go_wp2_with fail
  rw [← HN.out]
  go_loopw [11, 12] (fun b i wr => ∃ k : Nat, k ≤ sh.length ∧ i = .int .i64 k ∧ b = .int .i64 (gapK N o sh k).2 ∧ R = resR N (gapK N o sh k).2 (sh.drop k) ∧ Below w1.heap.size w1 wr) (fun _ i _ => sh.length - (intOf i).toNat)
  case atStart => exact ⟨0, Nat.zero_le _, rfl, rfl, HR.out, bl_refl _⟩
  case round =>
    obtain ⟨k, hk, rfl, rfl, hRk, hBr⟩ := hrel
    have y0 := (hBr.cell (p := ⟨w.heap.size, 0, none⟩) zlt).trans z0
    have y1 := (hBr.cell (p := ⟨w.heap.size, 1, none⟩) zlt).trans z1
    have ylt : w.heap.size < wr.heap.size := by have := hBr.size; omega
    by_cases hlt2 : k < sh.length
    · obtain ⟨b, off', rfl, d1, d2⟩ := (HZI.out.below hBr).at hlt2
      obtain ⟨q1, q2, q3, q4⟩ := HCA.out k hlt2
      obtain ⟨q5, q6⟩ := HBD.out k hk
      have hbr : b < wr.heap.size := World.block_lt_of_cell? _ _ d1
      have hst2 : (gapK N o sh (k + 1)).2 = shO sh k := rfl
      rw [show sh.drop k = (shA sh k, shO sh k) :: sh.drop (k + 1) from drop_next hlt2] at hRk
      have hstep : ∀ P, resR N P ((shA sh k, shO sh k) :: sh.drop (k + 1)) = if shA sh k + P ≤ N ∧ N < shA sh k + shO sh k then shA sh k else resR N (shO sh k) (sh.drop (k + 1)) := fun _ => rfl
      rw [hstep] at hRk
      clear hstep
      generalize (gapK N o sh k).2 = P at *
      generalize shA sh k = A at *
      generalize shO sh k = Q at *
      have HS2 := Lib.hid hst2; have HRK := Lib.hid hRk; clear hst2 hRk
      by_cases g1 : A + P ≤ N
      · have b1 : decide (A + P ≤ N) = true := decide_eq_true g1
        by_cases g2 : N < A + Q
        · have b2 : decide (N < A + Q) = true := decide_eq_true g2
          go_wp2_with fail
          go_ret
          exact ⟨ret_int (by rw [HRK.out, if_pos ⟨g1, g2⟩]), bl_trans (bl_trans hB hBr) (bl_alloc _ _)⟩
        · have b2 : decide (N < A + Q) = false := decide_eq_false g2
          go_wp2_with fail
          go_roundw
          case rel => exact ⟨k + 1, by omega, by go_num, by rw [HS2.out], by rw [HS2.out, HRK.out, if_neg (by omega)], bl_trans hBr (bl_alloc _ _)⟩
          case measure => simp [intOf]; omega
      · have b1 : decide (A + P ≤ N) = false := decide_eq_false g1
        go_wp2_with fail
        go_roundw
        case rel => exact ⟨k + 1, by omega, by go_num, by rw [HS2.out], by rw [HS2.out, HRK.out, if_neg (by omega)], bl_trans hBr (bl_alloc _ _)⟩
        case measure => simp [intOf]; omega
    · obtain rfl : k = sh.length := by omega
      rw [List.drop_length] at hRk
      have HRK := Lib.hid hRk; clear hRk
      go_wp2_with fail
      go_ret
      exact ⟨ret_int (by rw [HRK.out]; rfl), bl_trans hB hBr⟩

set_option maxRecDepth 100000 in
set_option maxHeartbeats 4000000 in
theorem zrr_one (o day m x : Int) (late : Bool) (a : Option Addr) (cap : Nat) (sh : Sh) (w : World) (hI : IsSh w (.slice a sh.length cap) sh) (hok : Ok o sh) (hd1 : -700000000 ≤ day) (hd2 : day ≤ 700000000) (hm1 : 0 ≤ m) (hm2 : m ≤ 1439) (hlen : sh.length ≤ 1000000000) (he : ins o sh (1440 * day + m) = [x]) :
    Calls Tryz.prog 34 #[.agg #[.int .i64 o, .slice a sh.length cap], .int .i64 day, .int .i64 m, .bool late] w (Ret (.int .i64 x) w) := by
  have hzb := ZBox.new (o := o) hI
  have hinst := zri_any o day m _ sh _ hzb.2.2 hok hd1 hd2 hm1 hm2 hlen
  rw [he] at hinst
  have HINST := Lib.hid hinst
  clear hinst he hok hI hzb
  cases late
  all_goals
    go_enter Tryz.func34, Tryz.ntmps34
    go_wp2_with fail
    refine HINST.out.mono ?_
    rintro e w1 ⟨lv, rfl, hrow, hb1⟩
    obtain ⟨g, cap', rfl⟩ := ownsRow_succ hrow
    have h0 : w1.cell? ⟨g, 0, none⟩ = some (.int .i64 x) := by have := hrow.cellAt 0 (by simp); simpa using this
    have hB1 : Below w.heap.size w w1 := bl_trans (bl_alloc _ _) hb1
    clear hrow hb1
    go_wp2_with fail
    go_ret
    exact ⟨rfl, hB1⟩
set_option maxRecDepth 100000 in
set_option maxHeartbeats 4000000 in
theorem zrr_two (o day m x y : Int) (late : Bool) (a : Option Addr) (cap : Nat) (sh : Sh) (w : World) (hI : IsSh w (.slice a sh.length cap) sh) (hok : Ok o sh) (hd1 : -700000000 ≤ day) (hd2 : day ≤ 700000000) (hm1 : 0 ≤ m) (hm2 : m ≤ 1439) (hlen : sh.length ≤ 1000000000) (he : ins o sh (1440 * day + m) = [x, y]) :
    Calls Tryz.prog 34 #[.agg #[.int .i64 o, .slice a sh.length cap], .int .i64 day, .int .i64 m, .bool late] w (Ret (.int .i64 (bif late then y else x)) w) := by
  have hzb := ZBox.new (o := o) hI
  have hinst := zri_any o day m _ sh _ hzb.2.2 hok hd1 hd2 hm1 hm2 hlen
  rw [he] at hinst
  have HINST := Lib.hid hinst
  clear hinst he hok hI hzb
  cases late
  all_goals
    go_enter Tryz.func34, Tryz.ntmps34
    go_wp2_with fail
    refine HINST.out.mono ?_
    rintro e w1 ⟨lv, rfl, hrow, hb1⟩
    obtain ⟨g, cap', rfl⟩ := ownsRow_succ hrow
    have h0 : w1.cell? ⟨g, 0, none⟩ = some (.int .i64 x) := by have := hrow.cellAt 0 (by simp); simpa using this
    have h1 : w1.cell? ⟨g, 1, none⟩ = some (.int .i64 y) := by have := hrow.cellAt 1 (by simp); simpa using this
    have hB1 : Below w.heap.size w w1 := bl_trans (bl_alloc _ _) hb1
    clear hrow hb1
    go_wp2_with fail
    go_ret
    exact ⟨rfl, hB1⟩
theorem zrr_any (o day m : Int) (late : Bool) (v : Value) (sh : Sh) (w : World) (hI : IsSh w v sh) (hok : Ok o sh) (hd1 : -700000000 ≤ day) (hd2 : day ≤ 700000000) (hm1 : 0 ≤ m) (hm2 : m ≤ 1439) (hlen : sh.length ≤ 1000000000) :
    Calls Tryz.prog 34 #[.agg #[.int .i64 o, v], .int .i64 day, .int .i64 m, .bool late] w (Ret (.int .i64 (res late o sh (1440 * day + m))) w) := by
  obtain ⟨a, cap, rfl, _⟩ := hI.slice
  have hl : (ins o sh (1440 * day + m)).length ≤ 2 := ins_len hok.ch ⟨hok.1, hok.2.1⟩
  match e : ins o sh (1440 * day + m) with
  | [] =>
    have r : res late o sh (1440 * day + m) = resR (1440 * day + m) o sh := by unfold res; rw [e]
    rw [r]; exact zrr_gap o day m late a cap sh w hI hok hd1 hd2 hm1 hm2 hlen e
  | [x] =>
    have r : res late o sh (1440 * day + m) = x := by unfold res; rw [e]; cases late <;> rfl
    rw [r]; exact zrr_one o day m x late a cap sh w hI hok hd1 hd2 hm1 hm2 hlen e
  | [x, y] =>
    have r : res late o sh (1440 * day + m) = bif late then y else x := by unfold res; rw [e]; cases late <;> rfl
    rw [r]; exact zrr_two o day m x y late a cap sh w hI hok hd1 hd2 hm1 hm2 hlen e
  | _ :: _ :: _ :: _ => rw [e] at hl; simp at hl
end Go.Proofs.YtiilljcnikgeaaaGreatDoor
