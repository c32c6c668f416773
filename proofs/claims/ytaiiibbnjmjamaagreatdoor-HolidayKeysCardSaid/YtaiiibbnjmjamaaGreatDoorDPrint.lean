/- The walk of date.Print and of its closure. -/
import Derived.Test.YtaiiibbnjmjamaaGreatDoorDAll
import Derived.Deep.RegionHeld3
namespace Go.Proofs.YtaiiibbnjmjamaaGreatDoor
open Go.RowKit

/-- a number with at least so many digits -/
def padL (k w : Nat) : List UInt8 := Lib.repeatL [48] (w - (Lib.decDigits k).length) ++ Lib.decDigits k
theorem bl_grow (w : World) (k : Nat) (os : Array Obj) : Below w.heap.size w (Sort.grow (w.drewN k) os) :=
  ⟨rfl, rfl, rfl, by simp [Sort.grow], fun i hi => by simp [Sort.grow, Array.getElem?_append, hi]⟩

set_option maxHeartbeats 400000 in
theorem pad_any (k wd : Nat) (w : World) (hG : Good w) (hk : k ≤ 9999) (hw : wd ≤ 4) (hl : (Lib.decDigits k).length ≤ wd) :
    Calls Tryz.prog 24 #[.int .i64 k, .int .i64 wd] w (Ret (.string ⟨(padL k wd).toArray⟩) w) := by
  have hit : Lib.itoa (k : Int) = Lib.decDigits k := Lib.itoa_nonneg k
  have HI := Lib.hid hit; clear hit
  go_enter Tryz.func24, Tryz.ntmps24
  go_wp2_with fail
  refine (Tryz.strconv_Itoa _ (by omega) (by omega) _ hG.1.2).mono ?_
  rintro e w1 ⟨rfl, q, os, hw1⟩
  rw [HI.out]
  have hb1 : Below w.heap.size w w1 := by rw [hw1]; exact bl_grow _ _ _
  clear hw1
  go_wp2_with fail
  rw [show ((wd : Int) - ((Lib.decDigits k).length : Int)) = ((wd - (Lib.decDigits k).length : Nat) : Int) from by omega]
  refine (Tryz.strings_Repeat _ _ _ (by omega) (by simp [ByteArray.size]; omega)).mono ?_
  rintro e w2 ⟨rfl, hb2⟩
  have hA : (Lib.repeatL [48] (wd - (Lib.decDigits k).length)).length ≤ 4 := by
    have e : ∀ (l : List UInt8) n, (Lib.repeatL l n).length = l.length * n := by
      intro l n
      induction n with
      | zero => simp [Lib.repeatL]
      | succ n ih => simp [Lib.repeatL, ih, Nat.mul_add]; omega
    rw [e]; simp; omega
  have hP : padL k wd = Lib.repeatL [48] (wd - (Lib.decDigits k).length) ++ Lib.decDigits k := rfl
  have HP := Lib.hid hP; clear hP
  generalize Lib.repeatL [48] (wd - (Lib.decDigits k).length) = A at *
  generalize Lib.decDigits k = B at *
  go_wp2
  go_ret
  refine ⟨?_, bl_trans hb1 hb2⟩
  rw [HP.out, ← ByteArray.mk_append_mk]
  rfl

theorem dec1 {k : Nat} (h : k < 10) : Lib.decDigits k = [UInt8.ofNat (48 + k)] := Lib.decDigits_one h
theorem decS {k : Nat} (h : ¬ k < 10) : Lib.decDigits k = Lib.decDigits (k / 10) ++ [UInt8.ofNat (48 + k % 10)] := by rw [Lib.decDigits, dif_neg h]
theorem dec_len2 {k : Nat} (h : k < 100) : (Lib.decDigits k).length ≤ 2 := by
  by_cases h1 : k < 10
  · rw [dec1 h1]; simp
  · rw [decS h1, dec1 (by omega)]; simp
theorem dec_len3 {k : Nat} (h : k < 1000) : (Lib.decDigits k).length ≤ 3 := by
  by_cases h1 : k < 10
  · rw [dec1 h1]; simp
  · rw [decS h1]; have := dec_len2 (k := k / 10) (by omega); simp; omega
theorem dec_len4 {k : Nat} (h : k < 10000) : (Lib.decDigits k).length ≤ 4 := by
  by_cases h1 : k < 10
  · rw [dec1 h1]; simp
  · rw [decS h1]; have := dec_len3 (k := k / 10) (by omega); simp; omega

theorem pad4_any (k : Nat) (w : World) (hG : Good w) (hk : k ≤ 9999) : Calls Tryz.prog 24 #[.int .i64 k, .int .i64 4] w (Ret (.string ⟨(padL k 4).toArray⟩) w) :=
  pad_any k 4 w hG hk (by omega) (dec_len4 (by omega))
theorem pad2_any (k : Nat) (w : World) (hG : Good w) (hk : k ≤ 31) : Calls Tryz.prog 24 #[.int .i64 k, .int .i64 2] w (Ret (.string ⟨(padL k 2).toArray⟩) w) :=
  pad_any k 2 w hG (by omega) (by omega) (dec_len2 (by omega))
/-- the printed date of a day: year, month, day -/
def prL (y m d : Nat) : List UInt8 := padL y 4 ++ [45] ++ padL m 2 ++ [45] ++ padL d 2
theorem rep_len (l : List UInt8) (n : Nat) : (Lib.repeatL l n).length = l.length * n := by
  induction n with
  | zero => simp [Lib.repeatL]
  | succ n ih => simp [Lib.repeatL, ih, Nat.mul_add]; omega
theorem pad_len {k w : Nat} (h : (Lib.decDigits k).length ≤ w) : (padL k w).length = w := by unfold padL; rw [List.length_append, rep_len]; simp; omega
theorem str_app (a b : List UInt8) (c : ByteArray) (h : c = ⟨a.toArray⟩) : c ++ ⟨b.toArray⟩ = ⟨(a ++ b).toArray⟩ := by rw [h, ByteArray.mk_append_mk]
theorem keep3 {w w' : World} (hb : Below w.heap.size w w') {b : Nat} {x y z : Value} (h : b < w.heap.size) (hc : w.cell? ⟨b, 0, none⟩ = some x ∧ w.cell? ⟨b, 1, none⟩ = some y ∧ w.cell? ⟨b, 2, none⟩ = some z) :
    w'.cell? ⟨b, 0, none⟩ = some x ∧ w'.cell? ⟨b, 1, none⟩ = some y ∧ w'.cell? ⟨b, 2, none⟩ = some z :=
  ⟨(hb.cell (p := ⟨b, 0, none⟩) h).trans hc.1, (hb.cell (p := ⟨b, 1, none⟩) h).trans hc.2.1, (hb.cell (p := ⟨b, 2, none⟩) h).trans hc.2.2⟩

set_option maxHeartbeats 1000000 in
theorem print_yes (n : Int) (w : World) (hG : Good w) (h0 : 0 ≤ n) (h1 : n ≤ 3652058) :
    Calls Tryz.prog 9 #[.int .i64 n] w (Ret (.string ⟨(prL (ofY n).toNat (ofM n).toNat (ofD n).toNat).toArray⟩) w) := by
  obtain ⟨v1, v2, v3, v4, v5, v6⟩ := valid_of h0 h1
  have v7 := len_le (ofY n) (ofM n)
  obtain ⟨Y, hY⟩ := Int.eq_ofNat_of_zero_le (a := ofY n) (by omega)
  obtain ⟨M, hM⟩ := Int.eq_ofNat_of_zero_le (a := ofM n) (by omega)
  obtain ⟨D, hD⟩ := Int.eq_ofNat_of_zero_le (a := ofD n) (by omega)
  have d1 : ofD n ≤ 31 := by omega
  clear v6 v7
  rw [hY, hM, hD]
  rw [hY] at v2
  rw [hM] at v4
  rw [hD] at d1
  simp only [Int.toNat_natCast]
  have HY := Lib.hid hY; have HM := Lib.hid hM; have HD := Lib.hid hD; clear hY hM hD
  have y1 : Y ≤ 9999 := by omega
  have m1 : M ≤ 12 := by omega
  have lY := dec_len4 (k := Y) (by omega)
  have lM := dec_len2 (k := M) (by omega)
  have lD := dec_len2 (k := D) (by omega)
  have pY := pad_len lY
  have pM := pad_len lM
  have pD := pad_len lD
  have hP : prL Y M D = padL Y 4 ++ [45] ++ padL M 2 ++ [45] ++ padL D 2 := rfl
  have HP := Lib.hid hP; clear hP
  clear v1 v2 v3 v4 v5
  go_enter Tryz.func9, Tryz.ntmps9
  go_wp2_with fail
  refine (of_yes _ _ h0 h1).mono ?_
  rintro e w1 ⟨rfl, hb1⟩
  rw [HY.out, HM.out, HD.out]
  have hG2 := ((hG.below hb1).alloc (.cells #[.int .i64 Y, .int .i64 M, .int .i64 D] 67))
  have hPY : (padL Y 4).length ≤ 4 := by omega
  have hPM : (padL M 2).length ≤ 2 := by omega
  have hPD : (padL D 2).length ≤ 2 := by omega
  go_wp2_with fail
  obtain ⟨W, hW⟩ : ∃ W, W = w1.alloc (.cells #[.int .i64 Y, .int .i64 M, .int .i64 D] 67) := ⟨_, rfl⟩
  have hs : W.heap.size = w1.heap.size + 1 := by rw [hW]; simp
  have hbW : Below w1.heap.size w1 W := by rw [hW]; exact bl_alloc _ _
  have c0 : ∀ u : UpW W, u.w.cell? ⟨w1.heap.size, 0, none⟩ = some (.int .i64 Y) := fun u => (u.h.cell (p := ⟨w1.heap.size, 0, none⟩) (by rw [hs]; simp)).trans (by rw [hW]; simp)
  have c1 : ∀ u : UpW W, u.w.cell? ⟨w1.heap.size, 1, none⟩ = some (.int .i64 M) := fun u => (u.h.cell (p := ⟨w1.heap.size, 1, none⟩) (by rw [hs]; simp)).trans (by rw [hW]; simp)
  have c2 : ∀ u : UpW W, u.w.cell? ⟨w1.heap.size, 2, none⟩ = some (.int .i64 D) := fun u => (u.h.cell (p := ⟨w1.heap.size, 2, none⟩) (by rw [hs]; simp)).trans (by rw [hW]; simp)
  rw [← hW] at hG2 ⊢
  have HW := Lib.hid hW; clear hW
  have HS := Lib.hid hs; clear hs
  refine wp_region_up (by kernel_rfl) (by kernel_rfl) ?_
  have d2 : D ≤ 31 := by omega
  have m2 : M ≤ 31 := by omega
  repeat (go_big_quiet_step (fail))
  go_big_quiet_step (exact Ret.up (pad4_any Y _ (hG2.below (UpW.h _)) y1))
  repeat (go_big_quiet_step (fail))
  go_big_quiet_step (exact Ret.up (pad2_any M _ (hG2.below (UpW.h _)) m2))
  repeat (go_big_quiet_step (fail))
  go_big_quiet_step (exact Ret.up (pad2_any D _ (hG2.below (UpW.h _)) d2))
  repeat (go_big_quiet_step (fail))
  refine wpQuiet_nil ?_
  rintro _ ⟨⟨w2, hb2⟩, rfl⟩
  go_wp2
  go_ret
  refine ⟨?_, bl_trans (bl_trans hb1 hbW) hb2⟩
  rw [HP.out]
  show Ending.returned (.string (ByteArray.mk (padL Y 4).toArray ++ ByteArray.mk [45].toArray ++ ByteArray.mk (padL M 2).toArray ++ ByteArray.mk [45].toArray ++ ByteArray.mk (padL D 2).toArray)) = _
  simp only [ByteArray.mk_append_mk]

set_option maxHeartbeats 400000 in
theorem print_no (n : Int) (w : World) (h : n < 0 ∨ 3652058 < n) : Calls Tryz.prog 9 #[.int .i64 n] w (Ret (.string ⟨#[]⟩) w) := by
  go_enter Tryz.func9, Tryz.ntmps9
  go_wp2_with fail
  refine (of_no _ _ h).mono ?_
  rintro e w1 ⟨rfl, hb1⟩
  go_wp2
  go_ret
  exact ⟨rfl, bl_trans hb1 (bl_alloc _ _)⟩

/-- the printed date of a day; nothing for other numbers -/
def prS (n : Int) : List UInt8 := if okB n then prL (ofY n).toNat (ofM n).toNat (ofD n).toNat else []
theorem print_any (n : Int) (w : World) (hG : Good w) : Calls Tryz.prog 9 #[.int .i64 n] w (Ret (.string ⟨(prS n).toArray⟩) w) := by
  by_cases h : 0 ≤ n ∧ n ≤ 3652058
  · have e : okB n = true := decide_eq_true h
    unfold prS
    rw [e]
    exact print_yes n w hG h.1 h.2
  · have e : okB n = false := decide_eq_false h
    unfold prS
    rw [e]
    exact print_no n w (by omega)
end Go.Proofs.YtaiiibbnjmjamaaGreatDoor
