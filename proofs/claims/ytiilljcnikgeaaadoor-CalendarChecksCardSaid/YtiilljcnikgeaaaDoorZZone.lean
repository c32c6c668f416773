/- The walk of the reference's Zone: a valid zone out of numbers. Conditions: the numbers are ints that lie in memory. -/
import Derived.Test.YtiilljcnikgeaaaDoorZInst
import Derived.Deep.RegionLaw
import Derived.Deep.AppendLies
namespace Go.Proofs.YtiilljcnikgeaaaDoor
open Go.RowKit

/-- the next instant at which a shift may be, after k shifts -/
def zat (zs : List Int) : Nat → Int
  | 0 => 0
  | k + 1 => zat zs k + around (zs[1 + 2 * k]?.getD 0) 20000 + 2880
def zshift (zs : List Int) (k : Nat) : Int × Int := (zat zs k + around (zs[1 + 2 * k]?.getD 0) 20000, around (zs[2 + 2 * k]?.getD 0) 1801 - 900)
def zpre (zs : List Int) (k : Nat) : Sh := (List.range k).map (zshift zs)
def zrounds (zs : List Int) : Nat := min 20 ((zs.length - 1) / 2)
def zoneSh (zs : List Int) : Sh := zpre zs (zrounds zs)
def zoneO (zs : List Int) : Int := pick zs 0 1801 - 900
theorem zpre_succ (zs : List Int) (k : Nat) : zpre zs (k + 1) = zpre zs k ++ [zshift zs k] := by unfold zpre; rw [List.range_succ, List.map_append]; rfl
theorem zpre_len (zs : List Int) (k : Nat) : (zpre zs k).length = k := by unfold zpre; simp
theorem zat_bd (zs : List Int) : ∀ k, 0 ≤ zat zs k ∧ zat zs k ≤ k * 22880
  | 0 => ⟨Int.le_refl _, Int.le_refl _⟩
  | k + 1 => by
    have h := zat_bd zs k
    have b := around_bd (zs[1 + 2 * k]?.getD 0) (m := 20000) (by omega)
    show 0 ≤ zat zs k + around (zs[1 + 2 * k]?.getD 0) 20000 + 2880 ∧ zat zs k + around (zs[1 + 2 * k]?.getD 0) 20000 + 2880 ≤ _
    omega
theorem zchain (zs : List Int) : ∀ (n k : Nat), k + n ≤ 1000 → chain (zat zs k - 2880) ((List.range' k n).map (zshift zs))
  | 0, _, _ => trivial
  | n + 1, k, h => by
    have b1 := around_bd (zs[1 + 2 * k]?.getD 0) (m := 20000) (by omega)
    have b2 := around_bd (zs[2 + 2 * k]?.getD 0) (m := 1801) (by omega)
    have b3 := zat_bd zs k
    have ih := zchain zs n (k + 1) (by omega)
    have e : zat zs (k + 1) - 2880 = zat zs k + around (zs[1 + 2 * k]?.getD 0) 20000 := by show zat zs k + around (zs[1 + 2 * k]?.getD 0) 20000 + 2880 - 2880 = _; omega
    rw [e] at ih
    rw [List.range'_succ, List.map_cons]
    exact ⟨by show _ ≤ zat zs k + around (zs[1 + 2 * k]?.getD 0) 20000; omega, by show zat zs k + around (zs[1 + 2 * k]?.getD 0) 20000 ≤ _; omega, by show _ ≤ around (zs[2 + 2 * k]?.getD 0) 1801 - 900; omega, by show around (zs[2 + 2 * k]?.getD 0) 1801 - 900 ≤ _; omega, ih⟩
theorem zone_ok (zs : List Int) : Ok (zoneO zs) (zoneSh zs) := by
  have h := zchain zs (zrounds zs) 0 (by unfold zrounds; omega)
  rw [← List.range_eq_range'] at h
  have hp : 0 ≤ pick zs 0 1801 ∧ pick zs 0 1801 < 1801 := by
    unfold pick
    by_cases h : 0 < zs.length
    · rw [if_pos h]; exact around_bd _ (by omega)
    · rw [if_neg h]; omega
  exact ⟨by unfold zoneO; omega, by unfold zoneO; omega, h⟩
theorem zone_len (zs : List Int) : (zoneSh zs).length ≤ 20 := by unfold zoneSh; rw [zpre_len]; unfold zrounds; omega
/-- a shift's cells -/
def encSh (l : Sh) : List Value := l.flatMap fun s => [.int .i64 s.1, .int .i64 s.2]
theorem encSh_len (l : Sh) : (encSh l).length = l.length * 2 := by
  unfold encSh; induction l with
  | nil => rfl
  | cons a l ih => rw [List.flatMap_cons, List.length_append, ih]; simp; omega
theorem encSh_at : ∀ (l : Sh) (j : Nat), j < l.length → (encSh l)[j * 2]? = some (.int .i64 (l[j]?.getD (0, 0)).1) ∧ (encSh l)[j * 2 + 1]? = some (.int .i64 (l[j]?.getD (0, 0)).2)
  | [], j, h => absurd h (by simp)
  | s :: l, 0, _ => ⟨rfl, rfl⟩
  | s :: l, j + 1, h => by
    have ih := encSh_at l j (by simpa using h)
    have e : encSh (s :: l) = .int .i64 s.1 :: .int .i64 s.2 :: encSh l := rfl
    rw [e, show (j + 1) * 2 = j * 2 + 1 + 1 from by omega]
    exact ⟨ih.1, ih.2⟩
theorem encSh_append (l r : Sh) : encSh (l ++ r) = encSh l ++ encSh r := by unfold encSh; rw [List.flatMap_append]
theorem IsSh.of_row {w : World} {B e : Nat} {v : Value} {l : Sh} (h : w.ownsRow B e 2 v l.length (encSh l)) (hm : l.length ≤ maxLen) : IsSh w v l := by
  have h0 := h
  rcases h.2 with ⟨e1, e2⟩ | ⟨g, cap', cur, e1, hg, hh, hn, hcap, hsz, htake⟩
  · exact .inl ⟨none, 0, e1, List.length_eq_zero_iff.1 (by simpa using e2)⟩
  · subst e1
    refine .inr ⟨g, 0, cap', rfl, (Array.getElem?_eq_some_iff.1 hh).1, hm, fun j hj => ?_⟩
    have c := h0.cells (g := g) rfl
    obtain ⟨a1, a2⟩ := encSh_at l j hj
    have c1 := c (j * 2) _ a1
    have c2 := c (j * 2 + 1) _ a2
    rw [Go.WideShapes.add_plain] at c1 c2
    exact ⟨c1, by rw [Nat.add_assoc]; exact c2⟩

theorem infoShift : (Tryd.prog.info? 57).map (fun i => (i.zero, i.size, i.bytes)) = some (some (.agg #[.int .i64 0, .int .i64 0]), 2, 16) := by kernel_rfl
def ZonePost (o : Int) (l : Sh) (w : World) (e : Ending) (w' : World) : Prop := ∃ v, e = .returned (.agg #[.int .i64 o, v]) ∧ (IsSh w' v l ∧ w'.ownsRow w.heap.size 57 2 v l.length (encSh l)) ∧ Below w.heap.size w w'
def ZoneRel (o : Int) (zs : List Int) (w : World) (a i : Value) (wr : World) : Prop :=
  ∃ (k : Nat) (sv : Value), k ≤ zrounds zs ∧ i = .int .i64 ((1 + 2 * k : Nat) : Int) ∧ a = .int .i64 (zat zs k) ∧ Blk wr (w.heap.size + 1) 28 #[.int .i64 o, sv] ∧ wr.ownsRow (w.heap.size + 2) 57 2 sv (zpre zs k).length (encSh (zpre zs k)) ∧
    (∃ c0 c1, Blk wr w.heap.size 28 #[c0, c1]) ∧ w.heap.size + 2 ≤ wr.heap.size ∧ Below w.heap.size w wr

set_option maxRecDepth 100000 in
set_option maxHeartbeats 8000000 in
theorem zone_some (b off cap : Nat) (zs : List Int) (w : World) (hb : b < w.heap.size) (hl : zs.length ≤ maxLen) (hz : InR zs)
    (hc : ∀ j, j < zs.length → w.cell? ⟨b, off + j, none⟩ = some (.int .i64 (zs[j]?.getD 0))) (hI : IsInts w (.slice (some ⟨b, off, none⟩) zs.length cap) zs) :
    Calls Tryd.prog 27 #[.slice (some ⟨b, off, none⟩) zs.length cap] w (ZonePost (zoneO zs) (zoneSh zs) w) := by
  have hp : 0 ≤ pick zs 0 1801 ∧ pick zs 0 1801 < 1801 := by
    unfold pick
    by_cases h : 0 < zs.length
    · rw [if_pos h]; exact around_bd _ (by omega)
    · rw [if_neg h]; omega
  obtain ⟨p1, p2⟩ := hp
  have hpk := fun w' h => pick03 (.slice (some ⟨b, off, none⟩) zs.length cap) zs 0 1801 w' h hz (by omega) (by omega) (by omega)
  have ho : zoneO zs = pick zs 0 1801 - 900 := rfl
  rw [ho]
  clear ho
  generalize pick zs 0 1801 = q at *
  have HPK := Lib.hid hpk
  have HI := Lib.hid (hI.below (bl_alloc w (.cells #[.int .i64 0, .slice none 0 0] 28)))
  have HC := Lib.hid hc
  clear hpk hI hc
  unfold maxLen at hl
  obtain ⟨i0, hi, hz0, hz1, hz2⟩ := info_parts infoShift
  go_enter Tryd.func27, Tryd.ntmps27
  go_wp2_with fail
  refine (HPK.out _ HI.out).mono ?_
  rintro e w1 ⟨rfl, rfl⟩
  go_wp2
  go_loopw [4, 5] (fun a i wr => ZoneRel (q - 900) zs w a i wr) (fun _ i _ => 100 - (intOf i).toNat)
  case atStart => exact ⟨0, _, by unfold zrounds; omega, rfl, rfl, Blk.at (by simp) _ _, World.ownsRow_nil _ _ _ _, ⟨_, _, (Blk.at rfl _ _).alloc _⟩, by simp, bl_trans (bl_alloc _ _) (bl_alloc _ _)⟩
  case round =>
    obtain ⟨k, sv, hk, rfl, rfl, bz, hrow, ⟨c0, c1, bR⟩, hs, hB⟩ := hrel
    obtain ⟨i, hi⟩ : ∃ i, i = 1 + 2 * k := ⟨_, rfl⟩
    have hik : 1 + 2 * k ≤ i := by omega
    have hik2 : i ≤ 1 + 2 * k := by omega
    have z0 := bz.cell 0
    have z1 := bz.cell 1
    have f1 := bz.frozen 1
    simp at z0 z1
    rw [← hi]
    have HI1 := Lib.hid hi; clear hi
    by_cases hlt : k < zrounds zs
    · have hlt' := hlt
      unfold zrounds at hlt'
      have n1 : i < zs.length := by omega
      have n2 : i + 1 < zs.length := by omega
      have d1 := (hB.cell (p := ⟨b, off + i, none⟩) hb).trans (HC.out i n1)
      have d2 := (hB.cell (p := ⟨b, off + (i + 1), none⟩) hb).trans (HC.out (i + 1) n2)
      obtain ⟨x1, x2⟩ := hz.at i
      obtain ⟨y1, y2⟩ := hz.at (i + 1)
      have e1 : zs[1 + 2 * k]?.getD 0 = zs[i]?.getD 0 := by rw [HI1.out]
      have e2 : zs[2 + 2 * k]?.getD 0 = zs[i + 1]?.getD 0 := by rw [HI1.out, show 1 + 2 * k + 1 = 2 + 2 * k from by omega]
      have hsh : zshift zs k = (zat zs k + around (zs[i]?.getD 0) 20000, around (zs[i + 1]?.getD 0) 1801 - 900) := by unfold zshift; rw [e1, e2]
      have hza : zat zs (k + 1) = zat zs k + around (zs[i]?.getD 0) 20000 + 2880 := by show zat zs k + around (zs[1 + 2 * k]?.getD 0) 20000 + 2880 = _; rw [e1]
      have hps := zpre_succ zs k
      rw [hsh] at hps
      obtain ⟨ab1, ab2⟩ := zat_bd zs k
      have hpl := zpre_len zs k
      generalize zs[i]?.getD 0 = x at *
      generalize zs[i + 1]?.getD 0 = y at *
      have hA := fun w => around03 x 20000 w x1 x2 (by omega) (by omega)
      have hQ := fun w => around03 y 1801 w y1 y2 (by omega) (by omega)
      obtain ⟨rA1, rA2⟩ := around_bd x (m := 20000) (by omega)
      obtain ⟨rQ1, rQ2⟩ := around_bd y (m := 1801) (by omega)
      generalize around x 20000 = A at *
      generalize around y 1801 = Q at *
      generalize zat zs k = T at *
      have HA := Lib.hid hA; have HQ := Lib.hid hQ; have HPS := Lib.hid hps; have HZA := Lib.hid hza; have HPL := Lib.hid hpl
      clear hA hQ hps hza hsh e1 e2 hpl
      go_wp2_with fail
      refine (HA.out _).mono ?_
      rintro e w1 ⟨rfl, rfl⟩
      go_wp2_with fail
      have hms : maxLen = 9223372036854775807 := rfl
      have HMS := Lib.hid hms; clear hms
      have hz20 : zrounds zs ≤ 20 := by unfold zrounds; omega
      have hlen3 : (zpre zs k).length ≤ 20 := by rw [HPL.out]; omega
      have s1 : IntKind.i64.wrap ((i : Int) + 1) = i + 1 := IntWalk.i64_in _ (by omega)
      have s2 : IntKind.i64.wrap (Q - 900) = Q - 900 := IntWalk.i64_in _ (by omega)
      have s3 : (0 : Int) ≤ (i : Int) + 1 := by omega
      have s4 : (i : Int) + 1 < zs.length := by omega
      have s5 : ((i : Int) + 1).toNat = i + 1 := by omega
      have hs2 : w.heap.size + 1 < wr.heap.size := by omega
      have hbr : b < wr.heap.size := by omega
      go_region_law (first | (go_simp; refine (HQ.out _).mono ?_; rintro e w1 ⟨rfl, rfl⟩) | (refine step_append_lies _ (by rfl) (.tmp 29) (.tmp 39) 26 (by rfl) (w.heap.size + 2) 57 i0 _ 2 16 Tryd.underlying26 hi hz0 hz1 hz2 rfl (by omega) sv (zpre zs k).length (encSh (zpre zs k)) (by rfl) ((hrow.drew).alloc _) ⟨wr.heap.size, 0, none⟩ 1 1 [.int .i64 (T + A), .int .i64 (Q - 900)] (by rfl) (by rfl) (World.news_of_block (cs := #[.int .i64 (T + A), .int .i64 (Q - 900)]) (t := 57) (fr := (0, 0)) (heap_alloc_new wr.drew _)) (by simp [Value.oneCell']) (by omega) (by have := HMS.out; omega) (by omega) (by simp; omega) (wr.heap.size + 1) (by simp) ?_; intro gg cap' w1 hown1 hgrow hat hlt1; have bz2 := (bz.drew.alloc (.cells #[.int .i64 (T + A), .int .i64 (Q - 900)] 57)).kept hgrow (row_far hrow (by omega)); have zz1 := bz2.cell 1; have zf1 := bz2.frozen 1; simp at zz1))
      all_goals
        clear s1 s2 s3 s4 s5
        go_wp2
        go_roundw
        case rel =>
          have hown2 := hown1.kept (grown_setAt w1 (w.heap.size + 1) 1 (.slice (some ⟨gg, 0, none⟩) ((zpre zs k).length + 1) cap')) (.inr (row_far hown1 (by omega)).symm)
          have hBa : Below w.heap.size w (wr.drew.alloc (.cells #[.int .i64 (T + A), .int .i64 (Q - 900)] 57)) := bl_trans (bl_trans hB (bl_drew wr)) (bl_alloc _ _)
          have hB2 : Below w.heap.size w w1 := hBa.grown hgrow hBa.size (fun r e => by have := (hrow.lt r e).1; omega)
          have bR2 := (bR.drew.alloc (.cells #[.int .i64 (T + A), .int .i64 (Q - 900)] 57)).kept hgrow (row_far hrow (by omega))
          refine ⟨k + 1, _, by omega, by rw [show (i : Int) + 2 = ((1 + 2 * (k + 1) : Nat) : Int) from by omega], by rw [HZA.out], bz2.set 1 _, ?_, ⟨c0, c1, bR2.far (by simp) _⟩, ?_, hB2.setCell (p := ⟨w.heap.size + 1, 1, none⟩) (by simp) _⟩
          · rw [HPS.out, encSh_append, List.length_append]
            exact hown2
          · have := hgrow.size
            simp at this ⊢
            omega
        case measure => simp [intOf]; omega
    · have hk2 : k = zrounds zs := by omega
      have hfin : zoneSh zs = zpre zs k := by unfold zoneSh; rw [hk2]
      have hoo : zrounds zs = min 20 ((zs.length - 1) / 2) := rfl
      have HF := Lib.hid hfin; clear hfin
      have HO := Lib.hid hoo
      have hlen3 : (zpre zs k).length ≤ 20 := by rw [zpre_len, hk2]; unfold zrounds; omega
      have r0 := bR.cell 0
      have r1 := bR.cell 1
      have q0 := bR.frozen 0
      have q1 := bR.frozen 1
      simp at r0 r1
      have hi41 : i ≤ 41 := by have := HO.out; omega
      have hsv : ∃ a n c, sv = .slice a n c := by
        rcases hrow.2 with ⟨h1, _⟩ | ⟨g', cap', cur, h1, _⟩
        · exact ⟨_, _, _, h1⟩
        · exact ⟨_, _, _, h1⟩
      obtain ⟨sa, sn, sc, rfl⟩ := hsv
      have hrow2 := (hrow.kept (grown_setAt wr w.heap.size 0 (.int .i64 (q - 900))) (.inr (row_far hrow (by omega)).symm)).kept (grown_setAt _ w.heap.size 1 (.slice sa sn sc)) (.inr (row_far hrow (by omega)).symm)
      have hIs : IsSh ((wr.setCell ⟨w.heap.size, 0, none⟩ (.int .i64 (q - 900))).setCell ⟨w.heap.size, 1, none⟩ (.slice sa sn sc)) (.slice sa sn sc) (zoneSh zs) ∧ ((wr.setCell ⟨w.heap.size, 0, none⟩ (.int .i64 (q - 900))).setCell ⟨w.heap.size, 1, none⟩ (.slice sa sn sc)).ownsRow w.heap.size 57 2 (.slice sa sn sc) (zoneSh zs).length (encSh (zoneSh zs)) := by
        rw [HF.out]
        exact ⟨IsSh.of_row hrow2 (by have : maxLen = 9223372036854775807 := rfl; omega), row_base hrow2 (by omega)⟩
      have bR2 := (bR.set 0 (.int .i64 (q - 900))).set 1 (.slice sa sn sc)
      have HIS := Lib.hid hIs
      clear hrow hrow2 hIs
      by_cases g1 : (i : Int) + 1 < zs.length
      · have g2 : ¬ (i : Int) < 41 := by have := HO.out; omega
        clear hoo hk2
        go_wp2
        have hc0 := bR2.cell 0
        have hc1 := bR2.cell 1
        simp at hc0 hc1
        exact bodyPost_ret (v := .agg #[.int .i64 (q - 900), .slice sa sn sc]) (by simp [results, Tryd.f27, go_sem, hc0, hc1]) rfl ⟨_, rfl, HIS.out, (hB.setCell (p := ⟨w.heap.size, 0, none⟩) (by simp) _).setCell (p := ⟨w.heap.size, 1, none⟩) (by simp) _⟩
      · clear hoo hk2
        go_wp2
        have hc0 := bR2.cell 0
        have hc1 := bR2.cell 1
        simp at hc0 hc1
        exact bodyPost_ret (v := .agg #[.int .i64 (q - 900), .slice sa sn sc]) (by simp [results, Tryd.f27, go_sem, hc0, hc1]) rfl ⟨_, rfl, HIS.out, (hB.setCell (p := ⟨w.heap.size, 0, none⟩) (by simp) _).setCell (p := ⟨w.heap.size, 1, none⟩) (by simp) _⟩

set_option maxHeartbeats 2000000 in
theorem zone_nil (a : Option Addr) (cap : Nat) (w : World) : Calls Tryd.prog 27 #[.slice a 0 cap] w (ZonePost (zoneO []) (zoneSh []) w) := by
  have ho : zoneO [] = -900 := rfl
  have hs : zoneSh [] = [] := rfl
  rw [ho, hs]
  have hpk := fun w' => pick03 (.slice a 0 cap) [] 0 1801 w' (.inl ⟨a, cap, rfl, rfl⟩) (fun _ h => by cases h) (by omega) (by omega) (by omega)
  have hp0 : pick [] 0 1801 = 0 := rfl
  rw [hp0] at hpk
  have HPK := Lib.hid hpk
  clear hpk hp0 ho hs
  go_enter Tryd.func27, Tryd.ntmps27
  go_wp2_with fail
  refine (HPK.out _).mono ?_
  rintro e w1 ⟨rfl, rfl⟩
  go_wp2
  go_loop [4, 5] (fun a i => i = .int .i64 1 ∧ a = .int .i64 0) (fun _ _ => 0)
  case atStart => exact ⟨rfl, rfl⟩
  case round =>
    obtain ⟨rfl, rfl⟩ := hrel
    go_wp2
    exact bodyPost_ret (v := .agg #[.int .i64 (-900), .slice none 0 0]) (by simp [results, Tryd.f27, go_sem]) rfl ⟨_, rfl, ⟨IsSh.nil _, World.ownsRow_nil _ _ _ _⟩, bl_trans (bl_alloc _ _) (bl_alloc _ _)⟩
theorem zone_any (v : Value) (zs : List Int) (w : World) (hI : IsInts w v zs) (hz : InR zs) : Calls Tryd.prog 27 #[v] w (ZonePost (zoneO zs) (zoneSh zs) w) := by
  have hI0 := hI
  rcases hI with ⟨a, cap, rfl, rfl⟩ | ⟨b, off, cap, rfl, hb, hl, hc⟩
  · exact zone_nil a cap w
  · exact zone_some b off cap zs w hb hl hz hc hI0
end Go.Proofs.YtiilljcnikgeaaaDoor
