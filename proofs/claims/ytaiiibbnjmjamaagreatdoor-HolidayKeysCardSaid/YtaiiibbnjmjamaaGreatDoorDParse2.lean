/- The walk of date.Parse, at every string. -/
import Derived.Test.YtaiiibbnjmjamaaGreatDoorDParse
namespace Go.Proofs.YtaiiibbnjmjamaaGreatDoor
open Go.RowKit

set_option maxHeartbeats 1000000 in
theorem parse_len (s : ByteArray) (w : World) (hs : ¬ s.size = 10) : Calls Tryz.prog 12 #[.string s] w (Ret (.tuple #[.int .i64 0, .int .i64 7]) w) := by
  have hn : ¬ ((s.size : Int) = 10) := by omega
  go_enter Tryz.func12, Tryz.ntmps12
  go_wp2
  go_ret2
  exact ⟨rfl, bl_alloc _ _⟩

set_option maxHeartbeats 1000000 in
theorem parse_dash (s : ByteArray) (w : World) (hs : s.size = 10) (h : ¬ (((s[4]'(by omega)).toNat = 45) ∧ ((s[7]'(by omega)).toNat = 45))) : Calls Tryz.prog 12 #[.string s] w (Ret (.tuple #[.int .i64 0, .int .i64 7]) w) := by
  by_cases h4 : (((s[4]'(by omega)).toNat : Int) = 45)
  · have h7 : ¬ (((s[7]'(by omega)).toNat : Int) = 45) := fun e => h ⟨by omega, by omega⟩
    clear h
    go_enter Tryz.func12, Tryz.ntmps12
    go_wp2
    go_ret2
    exact ⟨rfl, bl_alloc _ _⟩
  · clear h
    go_enter Tryz.func12, Tryz.ntmps12
    go_wp2
    go_ret2
    exact ⟨rfl, bl_alloc _ _⟩

theorem part04 (s : ByteArray) (bs be : Nat) (e0 : Int) (w : World) (hs : s.size = 10)
    (hcs : w.cell? ⟨bs, 0, none⟩ = some (.string s)) (hce : w.cell? ⟨be, 0, none⟩ = some (.int .i64 e0)) (hfe : w.frozen? ⟨be, 0, none⟩ = false) :
    Calls Tryz.prog 28 #[.int .i64 0, .int .i64 4, .pointer (some ⟨bs, 0, none⟩), .pointer (some ⟨be, 0, none⟩)] w (Part (pv (s.extract 0 4).data.toList) (pE e0 (s.extract 0 4).data.toList) be w) :=
  part_any s 0 4 bs be e0 w hs (by omega) (by omega) (by omega) hcs hce hfe
theorem part57 (s : ByteArray) (bs be : Nat) (e0 : Int) (w : World) (hs : s.size = 10)
    (hcs : w.cell? ⟨bs, 0, none⟩ = some (.string s)) (hce : w.cell? ⟨be, 0, none⟩ = some (.int .i64 e0)) (hfe : w.frozen? ⟨be, 0, none⟩ = false) :
    Calls Tryz.prog 28 #[.int .i64 5, .int .i64 7, .pointer (some ⟨bs, 0, none⟩), .pointer (some ⟨be, 0, none⟩)] w (Part (pv (s.extract 5 7).data.toList) (pE e0 (s.extract 5 7).data.toList) be w) :=
  part_any s 5 7 bs be e0 w hs (by omega) (by omega) (by omega) hcs hce hfe
theorem part810 (s : ByteArray) (bs be : Nat) (e0 : Int) (w : World) (hs : s.size = 10)
    (hcs : w.cell? ⟨bs, 0, none⟩ = some (.string s)) (hce : w.cell? ⟨be, 0, none⟩ = some (.int .i64 e0)) (hfe : w.frozen? ⟨be, 0, none⟩ = false) :
    Calls Tryz.prog 28 #[.int .i64 8, .int .i64 10, .pointer (some ⟨bs, 0, none⟩), .pointer (some ⟨be, 0, none⟩)] w (Part (pv (s.extract 8 10).data.toList) (pE e0 (s.extract 8 10).data.toList) be w) :=
  part_any s 8 10 bs be e0 w hs (by omega) (by omega) (by omega) hcs hce hfe

/-- the three parts -/
def sY (s : ByteArray) : List UInt8 := (s.extract 0 4).data.toList
def sM (s : ByteArray) : List UInt8 := (s.extract 5 7).data.toList
def sD (s : ByteArray) : List UInt8 := (s.extract 8 10).data.toList
/-- they are digits -/
def digB (s : ByteArray) : Bool := (sY s).all isDig && (sM s).all isDig && (sD s).all isDig
theorem pE_three (a b c : List UInt8) : pE (pE (pE 0 a) b) c = if (a.all isDig && b.all isDig && c.all isDig) = true then 0 else 7 := by
  unfold pE
  cases a.all isDig <;> cases b.all isDig <;> cases c.all isDig <;> rfl
theorem ext_len (s : ByteArray) (hs : s.size = 10) : (sY s).length = 4 ∧ (sM s).length = 2 ∧ (sD s).length = 2 := by
  have h (a b : Nat) (hb : b ≤ 10) : (s.extract a b).data.toList.length = b - a := by
    have : (s.extract a b).data.toList.length = (s.extract a b).size := Array.length_toList
    rw [this, ByteArray.size_extract, hs]; omega
  exact ⟨h 0 4 (by omega), h 5 7 (by omega), h 8 10 (by omega)⟩

def ppN (s : ByteArray) : Int := if digB s then dayN (pv (sY s)) (pv (sM s)) (pv (sD s)) else 0
def ppE (s : ByteArray) : Int := if digB s then chk (pv (sY s)) (pv (sM s)) (pv (sD s)) else 7
set_option maxHeartbeats 2000000 in
theorem parse_parts (s : ByteArray) (w : World) (hG : Good w) (hs : s.size = 10) (h4 : ((s[4]'(by omega)).toNat = 45)) (h7 : ((s[7]'(by omega)).toNat = 45)) :
    Calls Tryz.prog 12 #[.string s] w (Ret (.tuple #[.int .i64 (ppN s), .int .i64 (ppE s)]) w) := by
  have h4' : ((s[4]'(by omega)).toNat : Int) = 45 := by omega
  have h7' : ((s[7]'(by omega)).toNat : Int) = 45 := by omega
  clear h4 h7
  have hE := pE_three (sY s) (sM s) (sD s)
  have hdB : digB s = ((sY s).all isDig && (sM s).all isDig && (sD s).all isDig) := rfl
  rw [← hdB] at hE
  have HE := Lib.hid hE; clear hE hdB
  have hp1 : pv (s.extract 0 4).data.toList = pv (sY s) := rfl
  have hp2 : pv (s.extract 5 7).data.toList = pv (sM s) := rfl
  have hp3 : pv (s.extract 8 10).data.toList = pv (sD s) := rfl
  have hq1 : pE 0 (s.extract 0 4).data.toList = pE 0 (sY s) := rfl
  have hq2 (e : Int) : pE e (s.extract 5 7).data.toList = pE e (sM s) := rfl
  have hq3 (e : Int) : pE e (s.extract 8 10).data.toList = pE e (sD s) := rfl
  have hr1 : ppN s = if digB s then dayN (pv (sY s)) (pv (sM s)) (pv (sD s)) else 0 := rfl
  have hr2 : ppE s = if digB s then chk (pv (sY s)) (pv (sM s)) (pv (sD s)) else 7 := rfl
  have HR1 := Lib.hid hr1; have HR2 := Lib.hid hr2; clear hr1 hr2
  have HP1 := Lib.hid hp1; have HP2 := Lib.hid hp2; have HP3 := Lib.hid hp3; have HQ1 := Lib.hid hq1; have HQ2 := Lib.hid hq2; have HQ3 := Lib.hid hq3
  clear hp1 hp2 hp3 hq1 hq2 hq3
  go_enter Tryz.func12, Tryz.ntmps12
  go_wp2_with fail
  obtain ⟨W, hW⟩ : ∃ W, W = (w.alloc (.cells #[.string s] 9)).alloc (.cells #[.int .i64 0] 38) := ⟨_, rfl⟩
  have hbW : Below w.heap.size w W := by rw [hW]; exact bl_trans (bl_alloc _ _) (bl_alloc _ _)
  have hGW : Good W := hG.below hbW
  have hsW : W.heap.size = w.heap.size + 2 := by rw [hW]; simp
  have hcs : W.cell? ⟨w.heap.size, 0, none⟩ = some (.string s) := by rw [hW]; rw [World.cell?_alloc_lt _ _ _ (by simp)]; simp
  have hce : W.cell? ⟨w.heap.size + 1, 0, none⟩ = some (.int .i64 0) := by rw [hW]; simp
  have hfe : W.frozen? ⟨w.heap.size + 1, 0, none⟩ = false := by rw [hW]; simp
  rw [← hW]
  clear hW
  refine (part04 s _ _ 0 W hs hcs hce hfe).mono ?_
  rintro e w1 ⟨rfl, hb1, hc1, hf1⟩
  rw [HP1.out]
  rw [HQ1.out] at hc1
  have hcs1 := (hb1.cell (p := ⟨w.heap.size, 0, none⟩) (by simp)).trans hcs
  go_wp2_with fail
  refine (part57 s _ _ _ w1 hs hcs1 hc1 hf1).mono ?_
  rintro e w2 ⟨rfl, hb2, hc2, hf2⟩
  rw [HP2.out]
  rw [HQ2.out] at hc2
  have hcs2 := (hb2.cell (p := ⟨w.heap.size, 0, none⟩) (by simp)).trans hcs1
  go_wp2_with fail
  refine (part810 s _ _ _ w2 hs hcs2 hc2 hf2).mono ?_
  rintro e w3 ⟨rfl, hb3, hc3, hf3⟩
  rw [HP3.out]
  rw [HQ3.out, HE.out] at hc3
  have hb : Below w.heap.size w w3 := hbW.trans (((hb1.trans hb2).trans hb3).mono (by omega))
  have hG3 : Good w3 := hG.below hb
  have hz : w.heap.size + 1 < w3.heap.size := by have := hb1.size; have := hb2.size; have := hb3.size; omega
  generalize pv (sY s) = Y at *
  generalize pv (sM s) = M at *
  generalize pv (sD s) = D at *
  cases hd : digB s
  · rw [hd] at hc3
    rw [if_neg (by decide)] at hc3
    have HD := Lib.hid hd; clear hd
    go_wp2
    go_big_quiet (fail)
    go_wp2
    go_ret2
    exact ⟨by rw [HR1.out, HR2.out, HD.out]; rfl, bl_drewN (bl_trans hb (bl_alloc _ _)) _⟩
  · rw [hd] at hc3
    rw [if_pos rfl] at hc3
    have HD := Lib.hid hd; clear hd
    have hG4 := hG3.alloc (.cells #[.int .i64 Y, .int .i64 M, .int .i64 D] 67)
    go_wp2_with fail
    refine (day_any _ _ _ _ hG4).mono ?_
    rintro e w4 ⟨rfl, hb4⟩
    go_wp2
    go_ret2
    exact ⟨by rw [HR1.out, HR2.out, HD.out]; rfl, bl_trans (bl_trans hb (bl_alloc _ _)) hb4⟩

/-- the form of a printed date -/
def fmtB (s : ByteArray) : Bool := decide (s.size = 10 ∧ s.data.toList.getD 4 0 = 45 ∧ s.data.toList.getD 7 0 = 45) && digB s
def paN (s : ByteArray) : Int := if fmtB s then dayN (pv (sY s)) (pv (sM s)) (pv (sD s)) else 0
def paE (s : ByteArray) : Int := if fmtB s then chk (pv (sY s)) (pv (sM s)) (pv (sD s)) else 7
theorem getD_at (s : ByteArray) (i : Nat) (h : i < s.size) : s.data.toList.getD i 0 = 45 ↔ (s[i]'h).toNat = 45 := by
  have e : s.data.toList.getD i 0 = s[i]'h := by
    rw [List.getD_eq_getElem?_getD, List.getElem?_eq_getElem (by simpa using h)]; rfl
  rw [e, ← UInt8.toNat_inj]; rfl
theorem parse_any (s : ByteArray) (w : World) (hG : Good w) : Calls Tryz.prog 12 #[.string s] w (Ret (.tuple #[.int .i64 (paN s), .int .i64 (paE s)]) w) := by
  by_cases hs : s.size = 10
  · have g4 := getD_at s 4 (by omega)
    have g7 := getD_at s 7 (by omega)
    by_cases h : (((s[4]'(by omega)).toNat = 45) ∧ ((s[7]'(by omega)).toNat = 45))
    · have e : fmtB s = digB s := by unfold fmtB; rw [decide_eq_true ⟨hs, g4.2 h.1, g7.2 h.2⟩]; rfl
      have p := parse_parts s w hG hs h.1 h.2
      have e1 : paN s = ppN s := by unfold paN ppN; rw [e]
      have e2 : paE s = ppE s := by unfold paE ppE; rw [e]
      rw [e1, e2]
      exact p
    · have e : fmtB s = false := by unfold fmtB; rw [decide_eq_false (fun k => h ⟨g4.1 k.2.1, g7.1 k.2.2⟩)]; rfl
      unfold paN paE
      rw [e]
      exact parse_dash s w hs h
  · have e : fmtB s = false := by unfold fmtB; rw [decide_eq_false (fun k => hs k.1)]; rfl
    unfold paN paE
    rw [e]
    exact parse_len s w hs
end Go.Proofs.YtaiiibbnjmjamaaGreatDoor
