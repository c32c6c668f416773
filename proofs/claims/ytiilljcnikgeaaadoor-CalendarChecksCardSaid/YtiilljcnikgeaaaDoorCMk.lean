/- The walk of the reference's Calendar: a calendar out of numbers. Conditions: the numbers are ints that lie in memory. -/
import Derived.Test.YtiilljcnikgeaaaDoorCMkP
import Derived.Test.YtiilljcnikgeaaaDoorCMem
import Derived.Test.YtiilljcnikgeaaaDoorHNum
import Derived.Test.YtiilljcnikgeaaaDoorKApp
import Derived.StillTailTactics
namespace Go.Proofs.YtiilljcnikgeaaaDoor
open Go.RowKit

abbrev cells0 : Array Value := #[.bool false, .bool false, .bool false, .bool false, .bool false, .bool false, .bool false, .slice none 0 0, .slice none 0 0, .int .i64 0, .slice none 0 0, .int .i64 0]
theorem hour_cell {w : World} {g t : Nat} {p : Int} (h : Blk w g t #[.int .i64 1439, .int .i64 1020, .int .i64 0, .int .i64 720]) (h0 : 0 ≤ p) (h1 : p < 4) : w.cell? ⟨g, p.toNat, none⟩ = some (.int .i64 (hourT p)) := by
  rw [h.cell]
  have hc : p = 0 ∨ p = 1 ∨ p = 2 ∨ p = 3 := by omega
  rcases hc with rfl | rfl | rfl | rfl <;> rfl
theorem infoHolC : (Tryd.prog.info? 39).map (fun i => (i.zero, i.size, i.bytes)) = some (some (.agg #[.int .i64 0, .int .i64 0, .int .i64 0, .int .i64 0, .int .i64 0, .int .i64 0, .int .i64 0, .int .i64 0, .int .i64 0]), 9, 72) := by kernel_rfl
theorem infoClo : (Tryd.prog.info? 36).map (fun i => (i.zero, i.size, i.bytes)) = some (some (.agg #[.int .i64 0, .int .i64 0, .int .i64 0]), 3, 24) := by kernel_rfl
theorem encH_oneC : ∀ x, ∀ u ∈ encH x, u.oneCell' = true := by
  intro x u hu
  simp [encH] at hu
  rcases hu with rfl | rfl | rfl | rfl | rfl | rfl | rfl | rfl | rfl <;> rfl
theorem encC_one : ∀ x, ∀ u ∈ encC x, u.oneCell' = true := by
  intro x u hu
  simp [encC] at hu
  rcases hu with rfl | rfl | rfl <;> rfl
abbrev cellsK (q0 q5 q6 : Bool) (hv cv : Value) (o : Int) (sv : Value) (hr : Int) : Array Value := #[.bool q0, .bool false, .bool false, .bool false, .bool false, .bool q5, .bool q6, hv, cv, .int .i64 o, sv, .int .i64 hr]
theorem Blk.kal {w : World} {g t : Nat} {q0 q5 q6 : Bool} {hv cv sv : Value} {o hr : Int} (b : Blk w g t (cellsK q0 q5 q6 hv cv o sv hr)) : w.cell? ⟨g, 0, none⟩ = some (.bool q0) ∧ w.cell? ⟨g, 1, none⟩ = some (.bool false) ∧ w.cell? ⟨g, 2, none⟩ = some (.bool false) ∧ w.cell? ⟨g, 3, none⟩ = some (.bool false) ∧ w.cell? ⟨g, 4, none⟩ = some (.bool false) ∧ w.cell? ⟨g, 5, none⟩ = some (.bool q5) ∧ w.cell? ⟨g, 6, none⟩ = some (.bool q6) ∧ w.cell? ⟨g, 7, none⟩ = some hv ∧ w.cell? ⟨g, 8, none⟩ = some cv ∧ w.cell? ⟨g, 9, none⟩ = some (.int .i64 o) ∧ w.cell? ⟨g, 10, none⟩ = some sv ∧ w.cell? ⟨g, 11, none⟩ = some (.int .i64 hr) :=
  ⟨b.cell 0, b.cell 1, b.cell 2, b.cell 3, b.cell 4, b.cell 5, b.cell 6, b.cell 7, b.cell 8, b.cell 9, b.cell 10, b.cell 11⟩
theorem row_setAt {w : World} {base e size g n cap : Nat} {xs : List Value} (h : w.ownsRow base e size (.slice (some ⟨g, 0, none⟩) n cap) n xs) (idx : Nat) (u : Value) : (w.setCell ⟨g, idx, none⟩ u).ownsRow base e size (.slice (some ⟨g, 0, none⟩) n cap) n (xs.set idx u) := by
  rcases h.2 with ⟨h1, _⟩ | ⟨g', cap', cur, h1, hb, hh, r1, r2, r3, r4⟩
  · cases h1
  · cases h1
    refine ⟨by rw [List.length_set]; exact h.1, .inr ⟨g, cap, cur.setIfInBounds idx u, rfl, hb, Blk.set hh idx u, r1, r2, by simp [r3], ?_⟩⟩
    rw [Array.toList_setIfInBounds, List.take_set, r4]
def Rel1 (zs : List Int) (w : World) (B : Nat) (q0 q5 q6 : Bool) (hr : Int) (j : Nat) (wr : World) : Prop :=
  ∃ hv, Blk wr B 30 (cellsK q0 q5 q6 hv (.slice none 0 0) 0 (.slice none 0 0) hr) ∧ wr.ownsRow (B + 1) 39 9 hv (cHols zs j).length (flatE encH (cHols zs j)) ∧ Blk wr w.heap.size 30 cells0 ∧ B + 1 ≤ wr.heap.size ∧ Below w.heap.size w wr
def Rel2 (zs : List Int) (w W4 : World) (B : Nat) (q0 q5 q6 : Bool) (hr : Int) (hv : Value) (n : Nat) (j : Nat) (wr : World) : Prop :=
  ∃ cv, Blk wr B 30 (cellsK q0 q5 q6 hv cv 0 (.slice none 0 0) hr) ∧ wr.ownsRow W4.heap.size 36 3 cv (cClos zs j).length (flatE encC (cClos zs j)) ∧ wr.ownsRow (B + 1) 39 9 hv (cHols zs n).length (flatE encH (cHols zs n)) ∧ Blk wr w.heap.size 30 cells0 ∧ W4.heap.size ≤ wr.heap.size ∧ Below w.heap.size w wr
/-- the first k shifts moved -/
def mixS (l : Sh) (k : Nat) : Sh := mvSh (l.take k) ++ l.drop k
theorem mixS_len (l : Sh) (k : Nat) : (mixS l k).length = l.length := by unfold mixS; rw [List.length_append, mvSh_len, List.length_take, List.length_drop]; omega
theorem mixS_zero (l : Sh) : mixS l 0 = l := rfl
theorem mixS_all (l : Sh) : mixS l l.length = mvSh l := by unfold mixS; rw [List.take_length, List.drop_length, List.append_nil]
theorem mixS_at {l : Sh} {k : Nat} {s : Int × Int} (h : l[k]? = some s) : (mixS l k)[k]? = some s := by
  have hk : k < l.length := (List.getElem?_eq_some_iff.1 h).1
  unfold mixS
  rw [List.getElem?_append_right (by rw [mvSh_len, List.length_take]; omega), mvSh_len, List.length_take, Nat.min_eq_left (by omega), Nat.sub_self, List.getElem?_drop, Nat.add_zero]; exact h
theorem encSh_set (a : Sh) (x : Int × Int) (y : Int) (b : Sh) : (encSh (a ++ x :: b)).set (a.length * 2) (.int .i64 y) = encSh (a ++ (y, x.2) :: b) := by
  have e1 : ∀ z : Int × Int, encSh (a ++ z :: b) = encSh a ++ ([.int .i64 z.1, .int .i64 z.2] ++ encSh b) := fun z => by rw [encSh_append]; rfl
  rw [e1, e1, List.set_append_right _ _ (by rw [encSh_len]; omega), encSh_len, Nat.sub_self]; rfl
theorem mixS_step {l : Sh} {k : Nat} {s : Int × Int} (h : l[k]? = some s) : (encSh (mixS l k)).set (k * 2) (.int .i64 (s.1 + 1065047040)) = encSh (mixS l (k + 1)) := by
  obtain ⟨hk, he⟩ := List.getElem?_eq_some_iff.1 h
  have e1 : mixS l k = mvSh (l.take k) ++ s :: l.drop (k + 1) := by unfold mixS; rw [List.drop_eq_getElem_cons hk, he]
  have e2 : mixS l (k + 1) = mvSh (l.take k) ++ (s.1 + 1065047040, s.2) :: l.drop (k + 1) := by
    unfold mixS
    rw [List.take_add_one, h]
    show mvSh (l.take k ++ [s]) ++ _ = _
    unfold mvSh
    rw [List.map_append, List.append_assoc]; rfl
  have hl : (mvSh (l.take k)).length = k := by rw [mvSh_len, List.length_take]; omega
  rw [e1, e2]
  have := encSh_set (mvSh (l.take k)) s (s.1 + 1065047040) (l.drop (k + 1))
  rw [hl] at this
  exact this
theorem blk12 {w : World} {g : Nat} {t : TypeId} (h : Blk w g t cells0) (v0 v1 v2 v3 v4 v5 v6 v7 v8 v9 v10 v11 : Value) : Blk ((((((((((((w.setCell ⟨g, 0, none⟩ v0).setCell ⟨g, 1, none⟩ v1).setCell ⟨g, 2, none⟩ v2).setCell ⟨g, 3, none⟩ v3).setCell ⟨g, 4, none⟩ v4).setCell ⟨g, 5, none⟩ v5).setCell ⟨g, 6, none⟩ v6).setCell ⟨g, 7, none⟩ v7).setCell ⟨g, 8, none⟩ v8).setCell ⟨g, 9, none⟩ v9).setCell ⟨g, 10, none⟩ v10).setCell ⟨g, 11, none⟩ v11) g t #[v0, v1, v2, v3, v4, v5, v6, v7, v8, v9, v10, v11] := by
  have e : ((((((((((((cells0.setIfInBounds 0 v0).setIfInBounds 1 v1).setIfInBounds 2 v2).setIfInBounds 3 v3).setIfInBounds 4 v4).setIfInBounds 5 v5).setIfInBounds 6 v6).setIfInBounds 7 v7).setIfInBounds 8 v8).setIfInBounds 9 v9).setIfInBounds 10 v10).setIfInBounds 11 v11) = #[v0, v1, v2, v3, v4, v5, v6, v7, v8, v9, v10, v11] := by simp
  have h1 := ((((((((((((h.set 0 v0).set 1 v1).set 2 v2).set 3 v3).set 4 v4).set 5 v5).set 6 v6).set 7 v7).set 8 v8).set 9 v9).set 10 v10).set 11 v11)
  rw [e] at h1
  exact h1
def CalPost (c : Cal) (w : World) (e : Ending) (w' : World) : Prop := ∃ vh vc vs, e = .returned (aggC c vh vc vs) ∧ (w'.ownsRow w.heap.size 39 9 vh c.hs.length (flatE encH c.hs) ∧ w'.ownsRow w.heap.size 36 3 vc c.cl.length (flatE encC c.cl) ∧ w'.ownsRow w.heap.size 57 2 vs c.sh.length (encSh c.sh)) ∧ IsSh w' vs c.sh ∧ Below w.heap.size w w'
def Rel3 (zs : List Int) (w W4 W5 : World) (B : Nat) (q0 q5 q6 : Bool) (hr : Int) (hv cv sv : Value) (n m : Nat) (o : Int) (l : Sh) (k : Nat) (wr : World) : Prop :=
  Blk wr B 30 (cellsK q0 q5 q6 hv cv o sv hr) ∧ wr.ownsRow W5.heap.size 57 2 sv l.length (encSh (mixS l k)) ∧ wr.ownsRow W4.heap.size 36 3 cv (cClos zs m).length (flatE encC (cClos zs m)) ∧ wr.ownsRow (B + 1) 39 9 hv (cHols zs n).length (flatE encH (cHols zs n)) ∧ Blk wr w.heap.size 30 cells0 ∧ W5.heap.size ≤ wr.heap.size ∧ Below w.heap.size w wr
/-- a row that neither the write to B nor the growth of another row touches -/
theorem row_apart {w w' w'' : World} {base e size n : Nat} {v : Value} {xs : List Value} {row : Option Nat} {B i : Nat} {u : Value} (h : w.ownsRow base e size v n xs) (hg : w.grownBy w' row) (hne : ∀ g, v.ownBlock = some g → row ≠ some g) (hB : B < base) (hw : w'' = w'.setCell ⟨B, i, none⟩ u) : w''.ownsRow base e size v n xs := by
  subst hw
  have h1 : w'.ownsRow base e size v n xs := h.kept hg (by
    rcases hv : v.ownBlock with _ | g
    · exact .inl rfl
    · exact .inr (fun e => hne g hv e.symm))
  exact h1.kept (grown_setAt w' B i u) (.inr (row_far h1 hB).symm)
set_option maxRecDepth 100000 in
set_option maxHeartbeats 12000000 in
theorem cal_some (pa : Option Addr) (cap : Nat) (zs : List Int) (w : World) (hv : IsInts w (.slice pa zs.length cap) zs) (hz : InR zs) (hcp : zs.length ≤ cap) :
    Calls Tryd.prog 9 #[.slice pa zs.length cap] w (CalPost (mkCal zs) w) := by
  have hzl : zs.length ≤ 9223372036854775807 := by
    rcases hv with ⟨_, _, _, rfl⟩ | ⟨_, _, _, _, _, h, _⟩
    · simp
    · exact h
  have hp := fun i m w h hi hm hm2 => pick01 (.slice pa zs.length cap) zs i m w h hz hi hm hm2
  have h0 := fun w h => hp 0 4 w h (by omega) (by omega) (by omega)
  have h1 := fun w h => hp 1 8 w h (by omega) (by omega) (by omega)
  have h2 := fun w h => hp 2 4 w h (by omega) (by omega) (by omega)
  obtain ⟨b1, b2⟩ := pick_bd zs 0 (m := 4) (by omega)
  obtain ⟨p2a, p2b⟩ := pick_bd zs 2 (m := 4) (by omega)
  have hn2 : cN zs 2 = (pick zs 2 4).toNat := rfl
  have hmk : mkCal zs = ⟨cWe (pick zs 1 8), cHols zs (cN zs 2), cClos zs (cN zs 9), zoneO (cZs zs), mvSh (zoneSh (cZs zs)), hourT (pick zs 0 4)⟩ := rfl
  have HMK := Lib.hid hmk
  clear hmk
  generalize pick zs 0 4 = p0 at *
  generalize pick zs 1 8 = p1 at *
  generalize pick zs 2 4 = p2 at *
  have HP := Lib.hid hp; have H0 := Lib.hid h0; have H1 := Lib.hid h1; have H2 := Lib.hid h2; have HI := Lib.hid hv; have HN2 := Lib.hid hn2
  clear hp h0 h1 h2 hv hn2
  go_enter Tryd.func9, Tryd.ntmps9
  go_wp2_with fail
  refine (H0.out _ (HI.out.below (bl_trans (bl_alloc _ _) (bl_alloc _ _)))).mono ?_
  rintro e w1 ⟨rfl, rfl⟩
  obtain ⟨W1, hW1⟩ : ∃ W1, (w.alloc (.cells cells0 30)).alloc (.cells #[.int .i64 1439, .int .i64 1020, .int .i64 0, .int .i64 720] 3) = W1 := ⟨_, rfl⟩
  have bR : Blk W1 w.heap.size 30 cells0 := by rw [← hW1]; exact (Blk.new _ _ _).alloc _
  have bH : Blk W1 (w.heap.size + 1) 3 #[.int .i64 1439, .int .i64 1020, .int .i64 0, .int .i64 720] := by rw [← hW1]; exact Blk.at (by simp) _ _
  have hB1 : Below w.heap.size w W1 := by rw [← hW1]; exact bl_trans (bl_alloc _ _) (bl_alloc _ _)
  have hsz : W1.heap.size = w.heap.size + 2 := by rw [← hW1]; simp
  rw [hW1]
  have hh := hour_cell bH b1 b2
  have HSZ := Lib.hid hsz
  have hbl : w.heap.size + 1 < W1.heap.size := by omega
  clear hW1 hsz
  generalize hourT p0 = hr at *
  go_wp2_with fail
  refine (H1.out _ (HI.out.below (bl_trans hB1 (bl_alloc _ _)))).mono ?_
  rintro e w1 ⟨rfl, rfl⟩
  go_wp2_with fail
  obtain ⟨q0, hq0⟩ : ∃ q, (p1 == 3) = q := ⟨_, rfl⟩
  obtain ⟨q5, hq5⟩ : ∃ q, (p1 != 1) = q := ⟨_, rfl⟩
  obtain ⟨q6, hq6⟩ : ∃ q, (p1 != 2) = q := ⟨_, rfl⟩
  rw [hq0, hq5, hq6]
  have HQ0 := Lib.hid hq0; have HQ5 := Lib.hid hq5; have HQ6 := Lib.hid hq6
  clear hq0 hq5 hq6
  have bB : Blk (W1.alloc (.cells (cellsK q0 q5 q6 (.slice none 0 0) (.slice none 0 0) 0 (.slice none 0 0) hr) 30)) W1.heap.size 30 _ := Blk.new _ _ _
  obtain ⟨B, hB⟩ : ∃ B, B = W1.heap.size := ⟨_, rfl⟩
  have hwB : w.heap.size < B := by have := HSZ.out; omega
  have hsB : B + 1 ≤ (W1.alloc (.cells (cellsK q0 q5 q6 (.slice none 0 0) (.slice none 0 0) 0 (.slice none 0 0) hr) 30)).heap.size := by rw [hB]; simp
  rw [← hB] at bB ⊢
  have bR2 := bR.alloc (.cells (cellsK q0 q5 q6 (.slice none 0 0) (.slice none 0 0) 0 (.slice none 0 0) hr) 30)
  have hB2 := bl_trans hB1 (bl_alloc W1 (.cells (cellsK q0 q5 q6 (.slice none 0 0) (.slice none 0 0) 0 (.slice none 0 0) hr) 30))
  obtain ⟨W2, hW2⟩ : ∃ W2, W1.alloc (.cells (cellsK q0 q5 q6 (.slice none 0 0) (.slice none 0 0) 0 (.slice none 0 0) hr) 30) = W2 := ⟨_, rfl⟩
  rw [hW2] at bB hsB bR2 hB2 ⊢
  clear hW2 hB hB1 bR bH hh hbl HSZ W1
  have hms : maxLen = 9223372036854775807 := rfl
  have HMS := Lib.hid hms; clear hms
  obtain ⟨i0, hi, hz0, hz1, hz2⟩ := info_parts infoHolC
  go_loopw [5, 6, 7, 8] (fun i _ _ _ wr => ∃ j : Nat, (j : Int) ≤ p2 ∧ i = .int .i64 j ∧ Rel1 zs w B q0 q5 q6 hr j wr) (fun i _ _ _ _ => 10 - (intOf i).toNat)
  case atStart => exact ⟨0, p2a, rfl, _, bB, World.ownsRow_nil _ _ _ _, bR2, hsB, hB2⟩
  case round =>
    obtain ⟨j, hj, rfl, hv, bB1, hrow, bR1, hsB1, hB1⟩ := hrel
    have hI1 := HI.out.below hB1
    have hj4 : j ≤ 3 := by omega
    by_cases hlt : (j : Int) < p2
    · have ha : ∀ w, IsInts w (.slice pa zs.length cap) zs → Calls Tryd.prog 26 #[.slice pa zs.length cap, .int .i64 (3 + 2 * (j : Int)), .int .i64 1000000] w (Pur (.int .i64 (pick zs (3 + 2 * j) 1000000)) w) := fun w h => by
        have := HP.out (3 + 2 * j) 1000000 w h (by omega) (by omega) (by omega)
        rw [show ((3 + 2 * j : Nat) : Int) = 3 + 2 * (j : Int) by omega] at this; exact this
      have hb : ∀ w, IsInts w (.slice pa zs.length cap) zs → Calls Tryd.prog 26 #[.slice pa zs.length cap, .int .i64 (4 + 2 * (j : Int)), .int .i64 1000000] w (Pur (.int .i64 (pick zs (4 + 2 * j) 1000000)) w) := fun w h => by
        have := HP.out (4 + 2 * j) 1000000 w h (by omega) (by omega) (by omega)
        rw [show ((4 + 2 * j : Nat) : Int) = 4 + 2 * (j : Int) by omega] at this; exact this
      obtain ⟨a1, a2⟩ := pick_bd zs (3 + 2 * j) (m := 1000000) (by omega)
      obtain ⟨d1, d2⟩ := pick_bd zs (4 + 2 * j) (m := 1000000) (by omega)
      have hsu := cHols_succ zs j
      have hat : cHolAt zs j = cHol (pick zs (3 + 2 * j) 1000000) (pick zs (4 + 2 * j) 1000000) := rfl
      rw [hat] at hsu
      have hcl := cHols_len zs j
      rw [hcl] at hrow
      generalize pick zs (3 + 2 * j) 1000000 = a at *
      generalize pick zs (4 + 2 * j) 1000000 = b at *
      have HA := Lib.hid ha; have HBB := Lib.hid hb; have HSU := Lib.hid hsu; have HCL := Lib.hid hcl
      clear ha hb hsu hat hcl
      have hch : cHol a b = if a % 4 = 0 then ⟨1, 1 + a / 4 % 4, 1 + b / 3 % 31, 0, 0, 0, b % 3, 1, 9999⟩ else if a % 4 = 1 then ⟨2, 1 + a / 4 % 4, 0, b / 3 % 7, 1 + b / 21 % 5, 0, 0, 1, 9999⟩ else if a % 4 = 2 then ⟨3, 1 + a / 4 % 4, 0, b / 3 % 7, 0, 0, 0, 1, 9999⟩ else ⟨4, 0, 0, 0, 0, b / 3 % 61 - 10, b % 3, 1, 9999⟩ := rfl
      generalize cHol a b = h at *
      have HH := Lib.hid hch; clear hch
      have r1 : 0 ≤ a % 4 := by omega
      have r2 : a % 4 < 4 := by omega
      go_wp2_with fail
      refine (H2.out _ hI1).mono ?_
      rintro e w3 ⟨rfl, rfl⟩
      go_wp2_with fail
      refine (HA.out _ hI1).mono ?_
      rintro e w3 ⟨rfl, rfl⟩
      go_wp2_with fail
      refine (HBB.out _ hI1).mono ?_
      rintro e w3 ⟨rfl, rfl⟩
      have hcase : a % 4 = 0 ∨ a % 4 = 1 ∨ a % 4 = 2 ∨ a % 4 = 3 := by omega
      have HCA := Lib.hid hcase; clear hcase
      have hz1' := hsB1
      rcases HCA.out with e | e | e | e
      all_goals
        clear HCA
        first
        | (have hh : Hid (h = ⟨1, 1 + a / 4 % 4, 1 + b / 3 % 31, 0, 0, 0, b % 3, 1, 9999⟩) := by show _ = _; rw [HH.out, if_pos e]
           clear HH
           go_upto_region 24 with (fail)
           have hcc : (#[.int .i64 1, .int .i64 (1 + a / 4 % 4), .int .i64 (1 + b / 3 % 31), .int .i64 0, .int .i64 0, .int .i64 0, .int .i64 (b % 3), .int .i64 1, .int .i64 9999] : Array Value) = cellsH h := by rw [hh.out]
           rw [hcc]
           clear hh hcc e)
        | (have hh : Hid (h = ⟨2, 1 + a / 4 % 4, 0, b / 3 % 7, 1 + b / 21 % 5, 0, 0, 1, 9999⟩) := by show _ = _; rw [HH.out, if_neg (by omega), if_pos e]
           clear HH
           go_upto_region 24 with (fail)
           have hcc : (#[.int .i64 2, .int .i64 (1 + a / 4 % 4), .int .i64 0, .int .i64 (b / 3 % 7), .int .i64 (1 + b / 21 % 5), .int .i64 0, .int .i64 0, .int .i64 1, .int .i64 9999] : Array Value) = cellsH h := by rw [hh.out]
           rw [hcc]
           clear hh hcc e)
        | (have hh : Hid (h = ⟨3, 1 + a / 4 % 4, 0, b / 3 % 7, 0, 0, 0, 1, 9999⟩) := by show _ = _; rw [HH.out, if_neg (by omega), if_neg (by omega), if_pos e]
           clear HH
           go_upto_region 24 with (fail)
           have hcc : (#[.int .i64 3, .int .i64 (1 + a / 4 % 4), .int .i64 0, .int .i64 (b / 3 % 7), .int .i64 0, .int .i64 0, .int .i64 0, .int .i64 1, .int .i64 9999] : Array Value) = cellsH h := by rw [hh.out]
           rw [hcc]
           clear hh hcc e)
        | (have hh : Hid (h = ⟨4, 0, 0, 0, 0, b / 3 % 61 - 10, b % 3, 1, 9999⟩) := by show _ = _; rw [HH.out, if_neg (by omega), if_neg (by omega), if_neg (by omega)]
           clear HH
           go_upto_region 24 with (fail)
           have hcc : (#[.int .i64 4, .int .i64 0, .int .i64 0, .int .i64 0, .int .i64 0, .int .i64 (b / 3 % 61 - 10), .int .i64 (b % 3), .int .i64 1, .int .i64 9999] : Array Value) = cellsH h := by rw [hh.out]
           rw [hcc]
           clear hh hcc e)
        have bX := Blk.new wr 39 (cellsH h)
        have bB2 := bB1.alloc (.cells (cellsH h) 39)
        have bR2 := bR1.alloc (.cells (cellsH h) 39)
        have hr2 := hrow.alloc (.cells (cellsH h) 39)
        have hB2 := bl_trans hB1 (bl_alloc wr (.cells (cellsH h) 39))
        have hs2 : B + 2 ≤ (wr.alloc (.cells (cellsH h) 39)).heap.size := by simp; omega
        obtain ⟨W3, hW3⟩ : ∃ W3, wr.alloc (.cells (cellsH h) 39) = W3 := ⟨_, rfl⟩
        obtain ⟨X, hX⟩ : ∃ X, wr.heap.size = X := ⟨_, rfl⟩
        rw [hW3] at bX bB2 bR2 hr2 hB2 hs2 ⊢
        rw [hX] at bX ⊢
        have hXB : B < X := by omega
        clear hW3 hX bB1 bR1 hrow hB1 hI1 hsB1 hz1'
        have x0 := bX.cell 0
        have x1 := bX.cell 1
        have x2 := bX.cell 2
        have x3 := bX.cell 3
        have x4 := bX.cell 4
        have x5 := bX.cell 5
        have x6 := bX.cell 6
        have x7 := bX.cell 7
        have x8 := bX.cell 8
        simp at x0 x1 x2 x3 x4 x5 x6 x7 x8
        have y7 := bB2.cell 7
        simp at y7
        obtain ⟨oa, oc, rfl⟩ := row_slice hr2
        go_wp2_with (at_builtin; refine wpList_append_any (by rfl) (.tmp 95) (.tmp 97) 24 (by rfl) (B + 1) 39 i0 _ 9 72 Tryd.underlying24 hi hz0 hz1 hz2 rfl (by omega) _ j _ (by rfl) (hr2.alloc _) (.slice (some ⟨W3.heap.size, 0, none⟩) 1 1) 1 (encH h) (by rfl) (.inr ⟨_, _, rfl, rfl, (World.news_of_block (cs := cellsH h) (t := 39) (fr := (0, 0)) (heap_alloc_new W3 _))⟩) (encH_oneC h) (by have := HMS.out; omega) (by omega) (by simp; omega) ?_; intro v1 w2 hown1 hgrow1; obtain ⟨oa2, oc2, rfl⟩ := row_slice hown1; have bB3 := (bB2.alloc (.cells (cellsH h) 39)).kept hgrow1 (row_far hr2 (by omega)); have y7' := bB3.cell 7; have z7 := bB3.frozen 7; simp at y7')
        go_roundw
        case rel =>
          refine ⟨j + 1, by omega, by go_num, _, bB3.set 7 _, ?_, ((bR2.alloc _).kept hgrow1 (row_far hr2 (by omega))).far (by simp; omega) _, ?_, ((bl_trans hB2 (bl_alloc _ _)).grown hgrow1 (by have := hB2.size; simp; omega) (fun r e => by have := (hr2.lt r e).1; omega)).setCell (p := ⟨B, 7, none⟩) (by simp; omega) _⟩
          · rw [HSU.out, flatE_snoc, List.length_append, HCL.out]
            exact hown1.kept (grown_setAt w2 B 7 _) (.inr (row_far hown1 (by omega)).symm)
          · have := hgrow1.size; simp at this ⊢; omega
        case measure => simp [intOf]; omega
    · obtain ⟨n2, hn2⟩ : ∃ n2, n2 = cN zs 2 := ⟨_, rfl⟩
      have hjn : j = n2 := by have := HN2.out; omega
      obtain rfl := hjn
      have HN2' := Lib.hid hn2
      clear hn2 HN2
      obtain ⟨i1, hi', hy0, hy1, hy2⟩ := info_parts infoClo
      obtain ⟨ha, hcp, rfl⟩ := row_slice hrow
      have hout : ∀ g, (Value.slice ha (cHols zs j).length hcp).ownBlock = some g → g < wr.heap.size := fun g e => (hrow.lt g e).2
      have HOUT := Lib.hid hout; clear hout
      have hBlt : B < wr.heap.size := by omega
      obtain ⟨W4, hW4⟩ : ∃ W4, W4 = wr := ⟨_, rfl⟩
      rw [← hW4] at bB1 hrow bR1 hsB1 hB1 hI1 HOUT hBlt ⊢
      clear hW4 wr
      have h9 := fun w h => HP.out 9 4 w h (by omega) (by omega) (by omega)
      obtain ⟨p9a, p9b⟩ := pick_bd zs 9 (m := 4) (by omega)
      have hn9 : cN zs 9 = (pick zs 9 4).toNat := rfl
      generalize pick zs 9 4 = p9 at *
      have HN9 := Lib.hid hn9; have H9 := Lib.hid h9
      clear hn9 h9
      go_wp2_with fail
      refine (H2.out _ hI1).mono ?_
      rintro e w3 ⟨rfl, rfl⟩
      go_wp2_with fail
      go_loopw [9, 10, 11] (fun i _ _ wr => ∃ m : Nat, (m : Int) ≤ p9 ∧ i = .int .i64 m ∧ Rel2 zs w W4 B q0 q5 q6 hr (.slice ha (cHols zs j).length hcp) j m wr) (fun i _ _ _ => 10 - (intOf i).toNat)
      case atStart => exact ⟨0, p9a, rfl, _, bB1, World.ownsRow_nil _ _ _ _, hrow, bR1, Nat.le_refl _, hB1⟩
      case round =>
        obtain ⟨m, hm, rfl, cv, bB2, hrc, hrh, bR2, hs2, hB2⟩ := hrel
        have hI2 := HI.out.below hB2
        have hm4 : m ≤ 3 := by omega
        by_cases hlt2 : (m : Int) < p9
        · have ha' : ∀ w, IsInts w (.slice pa zs.length cap) zs → Calls Tryd.prog 26 #[.slice pa zs.length cap, .int .i64 (10 + (m : Int)), .int .i64 1000000] w (Pur (.int .i64 (pick zs (10 + m) 1000000)) w) := fun w h => by
            have := HP.out (10 + m) 1000000 w h (by omega) (by omega) (by omega)
            rw [show ((10 + m : Nat) : Int) = 10 + (m : Int) by omega] at this; exact this
          obtain ⟨a1, a2⟩ := pick_bd zs (10 + m) (m := 1000000) (by omega)
          have hsu := cClos_succ zs m
          have hat : cCloAt zs m = cClo (pick zs (10 + m) 1000000) := rfl
          rw [hat] at hsu
          have hcl := cClos_len zs m
          rw [hcl] at hrc
          generalize pick zs (10 + m) 1000000 = a at *
          have hch : cClo a = ⟨739616 + a % 120, 739616 + a % 120 + a / 120 % 6, 739616 + a / 720 % 130⟩ := rfl
          generalize cClo a = x at *
          have hxc : (#[.int .i64 (739616 + a % 120), .int .i64 (739616 + a % 120 + a / 120 % 6), .int .i64 (739616 + a / 720 % 130)] : Array Value) = #[.int .i64 x.fr, .int .i64 x.un, .int .i64 x.kn] := by rw [hch]
          have hxe : ([.int .i64 (739616 + a % 120), .int .i64 (739616 + a % 120 + a / 120 % 6), .int .i64 (739616 + a / 720 % 130)] : List Value) = encC x := by rw [hch]; rfl
          have HA := Lib.hid ha'; have HSU := Lib.hid hsu; have HCL := Lib.hid hcl; have HXE := Lib.hid hxe
          clear ha' hsu hat hcl hch hxc hxe
          go_wp2_with fail
          refine (H9.out _ hI2).mono ?_
          rintro e w3 ⟨rfl, rfl⟩
          go_wp2_with fail
          refine (HA.out _ hI2).mono ?_
          rintro e w3 ⟨rfl, rfl⟩
          have y8 := bB2.cell 8
          simp at y8
          have hBr : B < wr.heap.size := bB2.lt
          obtain ⟨oa, oc, rfl⟩ := row_slice hrc
          go_wp2_with (at_builtin; refine wpList_append_any (by rfl) (.tmp 114) (.tmp 126) 25 (by rfl) W4.heap.size 36 i1 _ 3 24 Tryd.underlying25 hi' hy0 hy1 hy2 rfl (by omega) _ m _ (by rfl) (hrc.alloc _) (.slice (some ⟨wr.heap.size, 0, none⟩) 1 1) 1 [.int .i64 (739616 + a % 120), .int .i64 (739616 + a % 120 + a / 120 % 6), .int .i64 (739616 + a / 720 % 130)] (by rfl) (.inr ⟨_, _, rfl, rfl, (World.news_of_block (cs := #[.int .i64 (739616 + a % 120), .int .i64 (739616 + a % 120 + a / 120 % 6), .int .i64 (739616 + a / 720 % 130)]) (t := 36) (fr := (0, 0)) (heap_alloc_new wr _))⟩) (by simp [Value.oneCell']) (by have := HMS.out; omega) (by omega) (by simp; omega) ?_; intro v1 w2 hown1 hgrow1; obtain ⟨oa2, oc2, rfl⟩ := row_slice hown1; have bB3 := (bB2.alloc (.cells #[.int .i64 (739616 + a % 120), .int .i64 (739616 + a % 120 + a / 120 % 6), .int .i64 (739616 + a / 720 % 130)] 36)).kept hgrow1 (row_far hrc (by omega)); have y8' := bB3.cell 8; have z8 := bB3.frozen 8; simp at y8')
          go_roundw
          case rel =>
            refine ⟨m + 1, by omega, by go_num, _, bB3.set 8 _, ?_, ?_, ((bR2.alloc _).kept hgrow1 (row_far hrc (by omega))).far (by simp; omega) _, ?_, ((bl_trans hB2 (bl_alloc _ _)).grown hgrow1 (by have := hB2.size; simp; omega) (fun r e => by have := (hrc.lt r e).1; omega)).setCell (p := ⟨B, 8, none⟩) (by simp; omega) _⟩
            · rw [HSU.out, flatE_snoc, List.length_append, HCL.out, ← HXE.out]
              exact hown1.kept (grown_setAt w2 B 8 _) (.inr (row_far hown1 (by omega)).symm)
            · exact row_apart (hrh.alloc _) hgrow1 (fun g hg e => by have h1 := HOUT.out g hg; have h2 := (hrc.lt g e).1; omega) (by omega) rfl
            · have := hgrow1.size; simp at this ⊢; omega
          case measure => simp [intOf]; omega
        · obtain ⟨n9, hn9⟩ : ∃ n9, n9 = cN zs 9 := ⟨_, rfl⟩
          have hmn : m = n9 := by have := HN9.out; omega
          obtain rfl := hmn
          have HN9' := Lib.hid hn9
          clear hn9 HN9
          go_wp2_with fail
          refine (H9.out _ hI2).mono ?_
          rintro e w3 ⟨rfl, rfl⟩
          have hcz : cZs zs = if 13 < zs.length then zs.drop 13 else [] := rfl
          have HCZ := Lib.hid hcz; clear hcz
          have hza : ∀ (sl : Value) (l : List Int), IsInts wr sl l → InR l → cZs zs = l → Calls Tryd.prog 27 #[sl] wr (ZonePost (zoneO (cZs zs)) (zoneSh (cZs zs)) wr) := fun sl l h1 h2 h3 => by rw [h3]; exact zone_any sl l wr h1 h2
          have hzl2 := zone_len (cZs zs)
          have hzb := zoneSh_bd (cZs zs)
          have hzk := zone_ok (cZs zs)
          generalize zoneO (cZs zs) = zo at *
          generalize zoneSh (cZs zs) = L at *
          have HZA := Lib.hid hza; have HZB := Lib.hid hzb; have HZK := Lib.hid hzk
          clear hza hzb hzk
          by_cases h13 : 13 < zs.length
          all_goals
            first
            | (have hz13 : cZs zs = zs.drop 13 := by rw [HCZ.out, if_pos h13]
               obtain ⟨b, off, rfl, hb, hcc⟩ : ∃ b off, pa = some ⟨b, off, none⟩ ∧ b < w.heap.size ∧ ∀ j, j < zs.length → w.cell? ⟨b, off + j, none⟩ = some (.int .i64 (zs[j]?.getD 0)) := by
                 rcases HI.out with ⟨_, _, e, rfl⟩ | ⟨b, off, c, e, hb, _, hcc⟩
                 · simp at h13
                 · cases e; exact ⟨b, off, rfl, hb, hcc⟩
               have hid : IsInts wr (.slice (some ⟨b, off + 13, none⟩) (zs.length - 13) (cap - 13)) (zs.drop 13) := by
                 refine .inr ⟨b, off + 13, cap - 13, by rw [List.length_drop], Nat.lt_of_lt_of_le hb hB2.size, by rw [List.length_drop]; have := HMS.out; omega, fun j hj => ?_⟩
                 rw [List.length_drop] at hj
                 have h1 := (hB2.cell (p := ⟨b, off + (13 + j), none⟩) hb).trans (hcc (13 + j) (by omega))
                 rw [List.getElem?_drop, show off + 13 + j = off + (13 + j) by omega]; exact h1
               have hzc := HZA.out _ _ hid (fun z hz' => hz z (List.mem_of_mem_drop hz')) hz13
               have HZC := Lib.hid hzc
               clear hzc hid hz13 hcc
               go_wp2_with fail
               refine HZC.out.mono ?_)
            | (have hz13 : cZs zs = [] := by rw [HCZ.out, if_neg h13]
               have hzc := HZA.out _ _ (IsInts.nil wr) (fun z hz' => by cases hz') hz13
               have HZC := Lib.hid hzc
               clear hzc hz13
               go_wp2_with fail
               refine HZC.out.mono ?_)
            rintro e w5 ⟨sv, rfl, ⟨hIs, hrs⟩, hb5⟩
            clear HZC
            have bB3 := bB2.below hb5 bB2.lt
            have bR3 := bR2.below hb5 bR2.lt
            have hrc3 := row_below hrc hb5
            have hrh3 := row_below hrh hb5
            have hB3 := bl_trans hB2 hb5
            have hcout : ∀ g, cv.ownBlock = some g → g < wr.heap.size := fun g e => (hrc.lt g e).2
            have HCOUT := Lib.hid hcout; clear hcout
            have hs5 := hb5.size
            have hBw : B < wr.heap.size := bB2.lt
            obtain ⟨W5, hW5⟩ : ∃ W5, W5 = wr := ⟨_, rfl⟩
            rw [← hW5] at hrs HCOUT hs5 hs2 hBw
            clear hIs hrc hrh bB2 bR2 hI2 hB2 hW5 hb5
            obtain ⟨sa, sc, rfl⟩ := row_slice hrs
            have k9 := bB3.cell 9
            have k10 := bB3.cell 10
            have f9 := bB3.frozen 9
            have f10 := bB3.frozen 10
            simp at k9 k10
            have hsa : 0 < L.length → ∃ g, sa = some ⟨g, 0, none⟩ ∧ W5.heap.size ≤ g := fun h => by
              rcases hrs.2 with ⟨h1, h2⟩ | ⟨g, cap', cur, h1, hg, _⟩
              · omega
              · cases h1; exact ⟨g, rfl, hg⟩
            have HSA := Lib.hid hsa; clear hsa
            go_wp2_with fail
            have bB6 : Blk ((w5.setCell ⟨B, 9, none⟩ (.int .i64 zo)).setCell ⟨B, 10, none⟩ (.slice sa L.length sc)) B 30 (cellsK q0 q5 q6 (.slice ha (cHols zs j).length hcp) cv zo (.slice sa L.length sc) hr) := (bB3.set 9 _).set 10 _
            have bR6 := (bR3.far (p := ⟨B, 9, none⟩) (by simp; omega) (.int .i64 zo)).far (p := ⟨B, 10, none⟩) (by simp; omega) (.slice sa L.length sc)
            have hrs6 := (hrs.kept (grown_setAt w5 B 9 (.int .i64 zo)) (.inr (row_far hrs (by omega)).symm)).kept (grown_setAt _ B 10 (.slice sa L.length sc)) (.inr (row_far hrs (by omega)).symm)
            have hrc6 := (hrc3.kept (grown_setAt w5 B 9 (.int .i64 zo)) (.inr (row_far hrc3 (by omega)).symm)).kept (grown_setAt _ B 10 (.slice sa L.length sc)) (.inr (row_far hrc3 (by omega)).symm)
            have hrh6 := (hrh3.kept (grown_setAt w5 B 9 (.int .i64 zo)) (.inr (row_far hrh3 (by omega)).symm)).kept (grown_setAt _ B 10 (.slice sa L.length sc)) (.inr (row_far hrh3 (by omega)).symm)
            have hB6 := (hB3.setCell (p := ⟨B, 9, none⟩) (by simp; omega) (.int .i64 zo)).setCell (p := ⟨B, 10, none⟩) (by simp; omega) (.slice sa L.length sc)
            have hs6 : W5.heap.size ≤ ((w5.setCell ⟨B, 9, none⟩ (.int .i64 zo)).setCell ⟨B, 10, none⟩ (.slice sa L.length sc)).heap.size := by simp; omega
            obtain ⟨W6, hW6⟩ : ∃ W6, (w5.setCell ⟨B, 9, none⟩ (.int .i64 zo)).setCell ⟨B, 10, none⟩ (.slice sa L.length sc) = W6 := ⟨_, rfl⟩
            rw [hW6] at bB6 bR6 hrs6 hrc6 hrh6 hB6 hs6 ⊢
            clear hW6 k9 k10 f9 f10 hrs hrc3 hrh3 bB3 bR3 hB3
            go_loopw [13] (fun i wr => ∃ k : Nat, k ≤ L.length ∧ i = .int .i64 k ∧ Rel3 zs w W4 W5 B q0 q5 q6 hr (.slice ha (cHols zs j).length hcp) cv (.slice sa L.length sc) j m zo L k wr) (fun i _ => 100 - (intOf i).toNat)
            case atStart => exact ⟨0, Nat.zero_le _, rfl, bB6, hrs6, hrc6, hrh6, bR6, hs6, hB6⟩
            case round =>
              obtain ⟨k, hk, rfl, bB7, hrs7, hrc7, hrh7, bR7, hs7, hB7⟩ := hrel
              have k10 := bB7.cell 10
              simp at k10
              by_cases hlt3 : k < L.length
              · obtain ⟨x, hx⟩ : ∃ x, L[k]? = some x := ⟨_, List.getElem?_eq_getElem hlt3⟩
                obtain ⟨g, rfl, hg⟩ := HSA.out (by omega)
                have hc0 : wr.cell? ⟨g, k * 2, none⟩ = some (.int .i64 x.1) := by
                  have h1 := (encSh_at (mixS L k) k (by rw [mixS_len]; exact hlt3)).1
                  rw [mixS_at hx] at h1
                  have h2 := hrs7.cells (g := g) rfl (k * 2) _ h1
                  rw [Go.WideShapes.add_plain, Nat.zero_add] at h2
                  exact h2
                have hf0 : wr.frozen? ⟨g, k * 2, none⟩ = false := by
                  rcases hrs7.2 with ⟨h1, h2⟩ | ⟨g', cap', cur, h1, hg, hh, _⟩
                  · cases h1
                  · cases h1; exact Blk.frozen hh _
                have hxb := HZB.out x (List.mem_of_getElem? hx)
                have hxl : 0 ≤ x.1 := by
                  have h1 := (chain_at (by omega) HZK.out.2.2 k hlt3).1.1
                  unfold shA at h1
                  rw [hx] at h1; exact h1
                have hst := mixS_step hx
                have HST := Lib.hid hst
                have hgl : g < wr.heap.size := (hrs7.lt g rfl).2
                obtain ⟨x1, x2⟩ := x
                have hxb : x1 ≤ 1000000000 := hxb
                have hxl : 0 ≤ x1 := hxl
                have hc0 : wr.cell? ⟨g, k * 2, none⟩ = some (.int .i64 x1) := hc0
                have s1 : IntKind.i64.wrap (x1 + 1065047040) = x1 + 1065047040 := IntWalk.i64_in _ (by omega)
                clear hx hst
                go_wp2
                refine wp_region_still_tail 14 (by kernel_rfl) (by kernel_rfl) ?_
                simp only [List.take_succ_cons, List.take_zero, List.drop_succ_cons, List.drop_zero]
                change wpStill _ _ (wr.drew) (fun a' => wpList _ _ _ _ a' (wr.drew)) _ _
                iterate 14 still_step
                refine wpStill_nil ?_
                go_wp2
                go_roundw
                case rel =>
                  have e1 := row_setAt hrs7 (k * 2) (.int .i64 (x1 + 1065047040))
                  have e1' : (encSh (mixS L k)).set (k * 2) (.int .i64 (x1 + 1065047040)) = encSh (mixS L (k + 1)) := HST.out
                  rw [e1'] at e1
                  have hgr := grown_setAt wr g (k * 2) (.int .i64 (x1 + 1065047040))
                  have e2 := hrc7.kept hgr (by
                    rcases hv : cv.ownBlock with _ | q
                    · exact .inl rfl
                    · exact .inr (fun e => by cases e; have := HCOUT.out g hv; omega))
                  have e3 := hrh7.kept hgr (by
                    rcases hv : (Value.slice ha (cHols zs j).length hcp).ownBlock with _ | q
                    · exact .inl rfl
                    · exact .inr (fun e => by cases e; have := HOUT.out g hv; omega))
                  exact ⟨k + 1, by omega, by go_num, (bB7.far (by simp; omega) _).drew, e1.drew, e2.drew, e3.drew, (bR7.far (by simp; omega) _).drew, (by simp; omega), (hB7.setCell (p := ⟨g, k * 2, none⟩) (by simp; omega) _).drew⟩
                case measure => simp [intOf]; omega
              · obtain rfl : k = L.length := by omega
                rw [mixS_all] at hrs7
                have hIs : IsSh wr (.slice sa L.length sc) (mvSh L) := IsSh.of_row (e := 57) (B := W5.heap.size) (by rw [mvSh_len]; exact hrs7) (by rw [mvSh_len]; have := HMS.out; omega)
                have HIS := Lib.hid hIs
                obtain ⟨k0, k1, k2, k3, k4, k5, k6, k7, k8, k9, k10', k11⟩ := bB7.kal
                have r0 := bR7.frozen 0
                have r1 := bR7.frozen 1
                have r2 := bR7.frozen 2
                have r3 := bR7.frozen 3
                have r4 := bR7.frozen 4
                have r5 := bR7.frozen 5
                have r6 := bR7.frozen 6
                have r7 := bR7.frozen 7
                have r8 := bR7.frozen 8
                have r9 := bR7.frozen 9
                have r10 := bR7.frozen 10
                have r11 := bR7.frozen 11
                have t0 := bR7.cell 0
                have t1 := bR7.cell 1
                have t2 := bR7.cell 2
                have t3 := bR7.cell 3
                have t4 := bR7.cell 4
                have t5 := bR7.cell 5
                have t6 := bR7.cell 6
                have t7 := bR7.cell 7
                have t8 := bR7.cell 8
                have t9 := bR7.cell 9
                have t10 := bR7.cell 10
                have t11 := bR7.cell 11
                simp at t0 t1 t2 t3 t4 t5 t6 t7 t8 t9 t10 t11
                clear hIs k10
                have hcv := row_slice hrc7
                obtain ⟨va, vc, rfl⟩ := hcv
                go_wp2
                have hset : ∀ P : World → Prop, (∀ W (i : Nat) u, P W → P (W.setCell ⟨w.heap.size, i, none⟩ u)) → P wr → P ((((((((((((wr.setCell ⟨w.heap.size, 0, none⟩ (.bool q0)).setCell ⟨w.heap.size, 1, none⟩ (.bool false)).setCell ⟨w.heap.size, 2, none⟩ (.bool false)).setCell ⟨w.heap.size, 3, none⟩ (.bool false)).setCell ⟨w.heap.size, 4, none⟩ (.bool false)).setCell ⟨w.heap.size, 5, none⟩ (.bool q5)).setCell ⟨w.heap.size, 6, none⟩ (.bool q6)).setCell ⟨w.heap.size, 7, none⟩ (.slice ha (cHols zs j).length hcp)).setCell ⟨w.heap.size, 8, none⟩ (.slice va (cClos zs m).length vc)).setCell ⟨w.heap.size, 9, none⟩ (.int .i64 zo)).setCell ⟨w.heap.size, 10, none⟩ (.slice sa L.length sc)).setCell ⟨w.heap.size, 11, none⟩ (.int .i64 hr)) := fun P hP h => (hP _ _ _ (hP _ _ _ (hP _ _ _ (hP _ _ _ (hP _ _ _ (hP _ _ _ (hP _ _ _ (hP _ _ _ (hP _ _ _ (hP _ _ _ (hP _ _ _ (hP _ _ _ h))))))))))))
                have bF : Blk ((((((((((((wr.setCell ⟨w.heap.size, 0, none⟩ (.bool q0)).setCell ⟨w.heap.size, 1, none⟩ (.bool false)).setCell ⟨w.heap.size, 2, none⟩ (.bool false)).setCell ⟨w.heap.size, 3, none⟩ (.bool false)).setCell ⟨w.heap.size, 4, none⟩ (.bool false)).setCell ⟨w.heap.size, 5, none⟩ (.bool q5)).setCell ⟨w.heap.size, 6, none⟩ (.bool q6)).setCell ⟨w.heap.size, 7, none⟩ (.slice ha (cHols zs j).length hcp)).setCell ⟨w.heap.size, 8, none⟩ (.slice va (cClos zs m).length vc)).setCell ⟨w.heap.size, 9, none⟩ (.int .i64 zo)).setCell ⟨w.heap.size, 10, none⟩ (.slice sa L.length sc)).setCell ⟨w.heap.size, 11, none⟩ (.int .i64 hr)) w.heap.size 30 (cellsK q0 q5 q6 (.slice ha (cHols zs j).length hcp) (.slice va (cClos zs m).length vc) zo (.slice sa L.length sc) hr) := blk12 bR7 _ _ _ _ _ _ _ _ _ _ _ _
                have e1 := hset (fun W => W.ownsRow W5.heap.size 57 2 (.slice sa L.length sc) L.length (encSh (mvSh L))) (fun W i u h => h.kept (grown_setAt W _ i u) (.inr (row_far h (by omega)).symm)) hrs7
                have e2 := hset (fun W => W.ownsRow W4.heap.size 36 3 (.slice va (cClos zs m).length vc) (cClos zs m).length (flatE encC (cClos zs m))) (fun W i u h => h.kept (grown_setAt W _ i u) (.inr (row_far h (by omega)).symm)) hrc7
                have e3 := hset (fun W => W.ownsRow (B + 1) 39 9 (.slice ha (cHols zs j).length hcp) (cHols zs j).length (flatE encH (cHols zs j))) (fun W i u h => h.kept (grown_setAt W _ i u) (.inr (row_far h (by omega)).symm)) hrh7
                have e4 := hset (fun W => Below w.heap.size w W) (fun W i u h => h.setCell (p := ⟨w.heap.size, i, none⟩) (Nat.le_refl _) u) hB7
                have e5 : IsSh ((((((((((((wr.setCell ⟨w.heap.size, 0, none⟩ (.bool q0)).setCell ⟨w.heap.size, 1, none⟩ (.bool false)).setCell ⟨w.heap.size, 2, none⟩ (.bool false)).setCell ⟨w.heap.size, 3, none⟩ (.bool false)).setCell ⟨w.heap.size, 4, none⟩ (.bool false)).setCell ⟨w.heap.size, 5, none⟩ (.bool q5)).setCell ⟨w.heap.size, 6, none⟩ (.bool q6)).setCell ⟨w.heap.size, 7, none⟩ (.slice ha (cHols zs j).length hcp)).setCell ⟨w.heap.size, 8, none⟩ (.slice va (cClos zs m).length vc)).setCell ⟨w.heap.size, 9, none⟩ (.int .i64 zo)).setCell ⟨w.heap.size, 10, none⟩ (.slice sa L.length sc)).setCell ⟨w.heap.size, 11, none⟩ (.int .i64 hr)) (.slice sa L.length sc) (mvSh L) := IsSh.of_row (e := 57) (B := W5.heap.size) (by rw [mvSh_len]; exact e1) (by rw [mvSh_len]; have := HMS.out; omega)
                obtain ⟨Wf, hWf⟩ : ∃ Wf, ((((((((((((wr.setCell ⟨w.heap.size, 0, none⟩ (.bool q0)).setCell ⟨w.heap.size, 1, none⟩ (.bool false)).setCell ⟨w.heap.size, 2, none⟩ (.bool false)).setCell ⟨w.heap.size, 3, none⟩ (.bool false)).setCell ⟨w.heap.size, 4, none⟩ (.bool false)).setCell ⟨w.heap.size, 5, none⟩ (.bool q5)).setCell ⟨w.heap.size, 6, none⟩ (.bool q6)).setCell ⟨w.heap.size, 7, none⟩ (.slice ha (cHols zs j).length hcp)).setCell ⟨w.heap.size, 8, none⟩ (.slice va (cClos zs m).length vc)).setCell ⟨w.heap.size, 9, none⟩ (.int .i64 zo)).setCell ⟨w.heap.size, 10, none⟩ (.slice sa L.length sc)).setCell ⟨w.heap.size, 11, none⟩ (.int .i64 hr)) = Wf := ⟨_, rfl⟩
                rw [hWf] at bF e1 e2 e3 e4 e5 ⊢
                obtain ⟨g0, g1, g2, g3, g4, g5, g6, g7, g8, g9, g10, g11⟩ := bF.kal
                have hfin : (Value.agg #[.bool q0, .bool false, .bool false, .bool false, .bool false, .bool q5, .bool q6, .slice ha (cHols zs j).length hcp, .slice va (cClos zs m).length vc, .int .i64 zo, .slice sa L.length sc, .int .i64 hr]) = aggC (mkCal zs) (.slice ha (cHols zs j).length hcp) (.slice va (cClos zs m).length vc) (.slice sa L.length sc) := by
                  rw [HMK.out, ← HQ0.out, ← HQ5.out, ← HQ6.out]; rfl
                refine bodyPost_ret (v := .agg #[.bool q0, .bool false, .bool false, .bool false, .bool false, .bool q5, .bool q6, .slice ha (cHols zs j).length hcp, .slice va (cClos zs m).length vc, .int .i64 zo, .slice sa L.length sc, .int .i64 hr]) (by simp [results, Tryd.f9, go_sem, g0, g1, g2, g3, g4, g5, g6, g7, g8, g9, g10, g11]) rfl ?_
                refine ⟨_, _, _, by rw [hfin], ⟨?_, ?_, ?_⟩, ?_, e4⟩
                · rw [HMK.out, ← HN2'.out]; exact row_base e3 (by omega)
                · rw [HMK.out, ← HN9'.out]; exact row_base e2 (by omega)
                · have e6 : Wf.ownsRow W5.heap.size 57 2 (.slice sa L.length sc) (mvSh L).length (encSh (mvSh L)) := by rw [mvSh_len]; exact e1
                  rw [HMK.out]
                  exact row_base e6 (by omega)
                · rw [HMK.out]; exact e5
/-- a slice of ints whose room is known -/
def IsIntsC (w : World) (v : Value) (zs : List Int) : Prop := IsInts w v zs ∧ ∃ a cap, v = .slice a zs.length cap ∧ zs.length ≤ cap
theorem IsIntsC.below {w w' : World} {v : Value} {zs : List Int} (h : IsIntsC w v zs) (hb : Below w.heap.size w w') : IsIntsC w' v zs := ⟨h.1.below hb, h.2⟩
theorem cal_any (v : Value) (zs : List Int) (w : World) (hv : IsIntsC w v zs) (hz : InR zs) : Calls Tryd.prog 9 #[v] w (CalPost (mkCal zs) w) := by
  obtain ⟨h, a, cap, rfl, hc⟩ := hv
  exact cal_some a cap zs w h hz hc
theorem CalPost.in {zs : List Int} {w : World} {e : Ending} {w' : World} (h : CalPost (mkCal zs) w e w') : ∃ vh vc vs, e = .returned (aggC (mkCal zs) vh vc vs) ∧ CalIn w' vh vc vs (mkCal zs) ∧ (w'.ownsRow w.heap.size 39 9 vh (mkCal zs).hs.length (flatE encH (mkCal zs).hs) ∧ w'.ownsRow w.heap.size 36 3 vc (mkCal zs).cl.length (flatE encC (mkCal zs).cl)) ∧ Below w.heap.size w w' := by
  obtain ⟨vh, vc, vs, rfl, ⟨h1, h2, _⟩, h3, h4⟩ := h
  have hl := (mkCal_reg zs).hl
  have hl2 : (mkCal zs).cl.length ≤ 3 := by show (cClos _ _).length ≤ 3; rw [cClos_len]; exact cN_le _ _
  have hm : maxLen = 9223372036854775807 := rfl
  exact ⟨vh, vc, vs, rfl, ⟨IsRow.of_row encH_len h1 (by omega), IsRow.of_row encC_len h2 (by omega), h3, (mkCal_reg zs).hv, by omega⟩, ⟨h1, h2⟩, h4⟩
theorem CalPost.in3 {zs : List Int} {w : World} {e : Ending} {w' : World} (h : CalPost (mkCal zs) w e w') : ∃ vh vc vs, e = .returned (aggC (mkCal zs) vh vc vs) ∧ CalIn w' vh vc vs (mkCal zs) ∧ (w'.ownsRow w.heap.size 39 9 vh (mkCal zs).hs.length (flatE encH (mkCal zs).hs) ∧ w'.ownsRow w.heap.size 36 3 vc (mkCal zs).cl.length (flatE encC (mkCal zs).cl) ∧ w'.ownsRow w.heap.size 57 2 vs (mkCal zs).sh.length (encSh (mkCal zs).sh)) ∧ Below w.heap.size w w' := by
  obtain ⟨vh', vc', vs', e1, h1, _, h4⟩ := h.in
  obtain ⟨vh, vc, vs, rfl, hr, h3, _⟩ := h
  injection e1 with e1
  injection e1 with e1
  obtain ⟨rfl, rfl, rfl⟩ : vh = vh' ∧ vc = vc' ∧ vs = vs' := by
    injection e1 with e1
    simp at e1
    exact ⟨e1.1, e1.2.1, e1.2.2⟩
  exact ⟨vh, vc, vs, rfl, h1, hr, h4⟩
end Go.Proofs.YtiilljcnikgeaaaDoor
