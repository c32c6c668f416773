/- The walk of date.Parse and of its closure. -/
import Derived.Test.YtaiiibbnjmjamaaGreatDoorDAll
import Derived.Laws.IdiomStrings
namespace Go.Proofs.YtaiiibbnjmjamaaGreatDoor
open Go.RowKit

def isDig (c : UInt8) : Bool := decide (48 ≤ c.toNat ∧ c.toNat ≤ 57)
/-- the number that some bytes are, digits or not -/
def pv (l : List UInt8) : Int := l.foldl (fun n c => 10 * n + (c.toNat : Int) - 48) 0
theorem pv_snoc (l : List UInt8) (c : UInt8) : pv (l ++ [c]) = 10 * pv l + (c.toNat : Int) - 48 := by unfold pv; rw [List.foldl_append]; rfl
def pvB : Nat → Int → Int
  | 0, B => B
  | k + 1, B => pvB k (10 * B + 210)
theorem pv_bd' : ∀ (l : List UInt8) (n B : Int), -B ≤ n → n ≤ B → -(pvB l.length B) ≤ l.foldl (fun n c => 10 * n + (c.toNat : Int) - 48) n ∧ l.foldl (fun n c => 10 * n + (c.toNat : Int) - 48) n ≤ pvB l.length B := by
  intro l
  induction l with
  | nil => intro n B h1 h2; exact ⟨h1, h2⟩
  | cons c l ih =>
    intro n B h1 h2
    have hc := c.toNat_lt
    exact ih (10 * n + (c.toNat : Int) - 48) _ (by omega) (by omega)
theorem pv_bd (l : List UInt8) (h : l.length ≤ 4) : -233310 ≤ pv l ∧ pv l ≤ 233310 := by
  have b := pv_bd' l 0 0 (by omega) (by omega)
  have c : pvB l.length 0 ≤ 233310 := by
    have : l.length = 0 ∨ l.length = 1 ∨ l.length = 2 ∨ l.length = 3 ∨ l.length = 4 := by omega
    rcases this with e | e | e | e | e <;> rw [e] <;> decide
  unfold pv
  omega
theorem row_cell (w : World) (s : ByteArray) (cap : Nat) (e : TypeId) (fr : Nat × Nat) (i : Nat) (h : i < s.size) :
    (w.drew.alloc (.cells (bytesRow s cap) e fr)).cell? ⟨w.heap.size, i, none⟩ = some (.int .u8 (s[i].toNat : Int)) := by
  have : (w.drew.alloc (.cells (bytesRow s cap) e fr)).heap[w.heap.size]? = some (.cells (bytesRow s cap) e fr) := by
    show (w.heap.push (.cells (bytesRow s cap) e fr))[w.heap.size]? = _
    simp
  unfold World.cell?
  rw [this]
  have hi : i < s.data.size := h
  simp [bytesRow, Array.getElem?_append]
  rw [if_pos h, Array.getElem?_eq_getElem hi]
  rfl

/-- what a closure's call leaves: the error's box, and all that lies below it -/
def Part (v E : Int) (be : Nat) (w : World) (e : Ending) (w' : World) : Prop :=
  e = .returned (.int .i64 v) ∧ Below be w w' ∧ w'.cell? ⟨be, 0, none⟩ = some (.int .i64 E) ∧ w'.frozen? ⟨be, 0, none⟩ = false
/-- the error behind some bytes -/
def pE (e0 : Int) (l : List UInt8) : Int := if l.all isDig then e0 else 7
theorem pE_snoc (e0 : Int) (l : List UInt8) (c : UInt8) : pE e0 (l ++ [c]) = if isDig c then pE e0 l else 7 := by
  unfold pE
  rw [List.all_append]
  cases h1 : l.all isDig <;> cases h2 : isDig c <;> simp [h2]

set_option maxHeartbeats 1000000 in
theorem part_any (s : ByteArray) (a b : Nat) (bs be : Nat) (e0 : Int) (w : World) (hs : s.size = 10) (hab : a ≤ b) (hb : b ≤ 10) (h4 : b - a ≤ 4)
    (hcs : w.cell? ⟨bs, 0, none⟩ = some (.string s)) (hce : w.cell? ⟨be, 0, none⟩ = some (.int .i64 e0)) (hfe : w.frozen? ⟨be, 0, none⟩ = false) :
    Calls Tryz.prog 28 #[.int .i64 a, .int .i64 b, .pointer (some ⟨bs, 0, none⟩), .pointer (some ⟨be, 0, none⟩)] w (Part (pv (s.extract a b).data.toList) (pE e0 (s.extract a b).data.toList) be w) := by
  have hlt := World.block_lt_of_cell? w _ hce
  have hts : (s.extract a b).size = b - a := by simp [ByteArray.size_extract]; omega
  have hcv := fun (w : World) (s : ByteArray) => run_bytes_of_string (P := Tryz.prog) w 9 75 5 s Tryz.underlying9 Tryz.underlying75 Tryz.underlying5
  go_enter Tryz.func28, Tryz.ntmps28
  go_wp2_with fail
  generalize s.extract a b = t at *
  have hts4 : t.size ≤ 4 := by omega
  have hts5 : t.size ≤ b - a := by omega
  have hts6 : b - a ≤ t.size := by omega
  clear hts
  go_wp2_with fail
  go_loopw [7, 16] (fun n i wr => ∃ k : Nat, k ≤ t.size ∧ i = .int .i64 k ∧ n = .int .i64 (pv (t.data.toList.take k)) ∧ Below be w wr ∧ wr.cell? ⟨be, 0, none⟩ = some (.int .i64 (pE e0 (t.data.toList.take k))) ∧ wr.frozen? ⟨be, 0, none⟩ = false ∧ (∀ j, (h : j < t.size) → wr.cell? ⟨w.heap.size, j, none⟩ = some (.int .u8 ((t[j]'h).toNat : Int))))
    (fun _ i _ => t.size - (intOf i).toNat)
  case atStart =>
    refine ⟨0, Nat.zero_le _, rfl, rfl, (((Below.refl be w).alloc (by omega) _).drew), ?_, ?_, fun j h => row_cell w t _ _ _ j h⟩
    · show (w.alloc _).cell? _ = _
      rw [World.cell?_alloc_lt _ _ _ (by simpa using hlt), hce]; rfl
    · show (w.alloc _).frozen? _ = _
      rw [World.frozen?_alloc_old _ _ _ (by simp; omega), hfe]
  case round =>
    obtain ⟨k, hk, rfl, rfl, hbe, hc1, hf1, hcs1⟩ := hrel
    by_cases hk2 : k < t.size
    · have hx := hcs1 k hk2
      have hlen : (t.data.toList.take k).length ≤ 4 := by simp; omega
      have hpv := pv_bd _ hlen
      have htk : t.data.toList.take (k + 1) = t.data.toList.take k ++ [t[k]'hk2] := by
        rw [List.take_succ_eq_append_getElem (by simpa using hk2)]; rfl
      have hs1 := pv_snoc (t.data.toList.take k) (t[k]'hk2)
      have hs2 := pE_snoc e0 (t.data.toList.take k) (t[k]'hk2)
      have hdig : isDig (t[k]'hk2) = decide (48 ≤ (t[k]'hk2).toNat ∧ (t[k]'hk2).toNat ≤ 57) := rfl
      have hbx := (t[k]'hk2).toNat_lt
      rw [hdig] at hs2
      rw [← htk] at hs1 hs2
      clear hdig htk
      generalize (t[k]'hk2).toNat = x at *
      generalize pv (t.data.toList.take k) = n at *
      generalize pE e0 (t.data.toList.take k) = E at *
      obtain ⟨hp1, hp2⟩ := hpv
      have HS1 := Lib.hid hs1; have HS2 := Lib.hid hs2; have HCS := Lib.hid hcs1
      clear hs1 hs2 hcs1 hlen
      have hneb : be ≠ w.heap.size := by omega
      by_cases q1 : (x : Int) < 48
      · have hE : pE e0 (List.take (k + 1) t.data.toList) = 7 := by rw [HS2.out, if_neg (by simp; omega)]
        have HE := Lib.hid hE; clear hE
        go_wp2
        go_roundw
        case rel => exact ⟨k + 1, by omega, by go_num, by rw [HS1.out], hbe.setCell (Nat.le_refl _) _, by rw [HE.out]; exact World.cell?_setCell_same _ _ _ hc1, by rw [World.frozen?_setCell]; exact hf1, fun j h => by rw [World.cell?_setCell_other _ _ _ _ (by simp; try omega)]; exact HCS.out j h⟩
        case measure => simp [intOf]; omega
      · by_cases q2 : (57 : Int) < x
        · have hE : pE e0 (List.take (k + 1) t.data.toList) = 7 := by rw [HS2.out, if_neg (by simp; omega)]
          have HE := Lib.hid hE; clear hE
          go_wp2
          go_roundw
          case rel => exact ⟨k + 1, by omega, by go_num, by rw [HS1.out], hbe.setCell (Nat.le_refl _) _, by rw [HE.out]; exact World.cell?_setCell_same _ _ _ hc1, by rw [World.frozen?_setCell]; exact hf1, fun j h => by rw [World.cell?_setCell_other _ _ _ _ (by simp; try omega)]; exact HCS.out j h⟩
          case measure => simp [intOf]; omega
        · have hE : pE e0 (List.take (k + 1) t.data.toList) = E := by rw [HS2.out, if_pos (by simp; omega)]
          have HE := Lib.hid hE; clear hE
          go_wp2
          go_roundw
          case rel => exact ⟨k + 1, by omega, by go_num, by rw [HS1.out], hbe, by rw [HE.out]; exact hc1, hf1, HCS.out⟩
          case measure => simp [intOf]; omega
    · obtain rfl : k = t.size := by omega
      have ht : t.data.toList.take t.size = t.data.toList := List.take_of_length_le (Nat.le_of_eq Array.length_toList)
      rw [ht] at hc1 ⊢
      have HC := Lib.hid hcs1; clear hcs1 ht
      go_wp2
      go_ret
      exact ⟨rfl, hbe, hc1, hf1⟩
end Go.Proofs.YtaiiibbnjmjamaaGreatDoor
