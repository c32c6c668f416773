/- The walks of the law's always, on and lives: the examples of the chapter hold. Conditions: the listed tables lie in memory. -/
import Derived.Test.YtaiiibbnjmjamaaGreatDoorHOf
import Derived.Test.YtaiiibbnjmjamaaGreatDoorDPrPlain
namespace Go.Proofs.YtaiiibbnjmjamaaGreatDoor
open Go.RowKit

def alw (h : Hol) : Hol := ⟨h.k, h.mo, h.d, h.wd, h.nth, h.off, h.mv, 1, 9999⟩
set_option maxHeartbeats 1000000 in
theorem alw_any (h : Hol) (w : World) : Calls Tryz.prog 32 #[aggH h] w (Ret (aggH (alw h)) w) := by
  go_enter Tryz.func32, Tryz.ntmps32
  go_wp2
  exact bodyPost_ret (v := aggH (alw h)) (by simp [results, Tryz.results32, go_sem, alw]) rfl ⟨rfl, bl_trans (bl_alloc _ _) (bl_alloc _ _)⟩
theorem one_row (w : World) (h : Hol) (cap : Nat) : IsHols (w.alloc (.cells (cellsH h) 45)) (.slice (some ⟨w.heap.size, 0, none⟩) 1 cap) [h] := by
  refine .inr ⟨w.heap.size, 0, cap, rfl, by simp, by simp [maxLen], fun j x hx i u hu => ?_⟩
  match j, hx with
  | 0, hx =>
    simp at hx; subst hx
    have b := (Blk.new w 45 (cellsH h)).cell i
    simp only [Nat.zero_mul, Nat.zero_add]
    rw [b, ← Array.getElem?_toList]
    exact hu
/-- a rule is kept on one printed day of a year -/
def onB (h : Hol) (y : Int) (s : List UInt8) : Bool := kB h y && (prS (kV h y) == s)
theorem of_one (y : Int) (h : Hol) : ofP y [h] = if kB h y then [(kV h y, 0)] else [] := by
  show stab (fun p : Int × Int => p.1) (kepts eaE eaV y [h] 0) = _
  unfold kepts kepts
  cases e : kepB eaE eaV h y
  · simp [e]; rfl
  · simp [e]; rfl
set_option maxRecDepth 100000 in
set_option maxHeartbeats 2000000 in
theorem on_any (h : Hol) (y : Int) (s : ByteArray) (w : World) (hG : GoodH w) (hv : hvB (alw h) = true) : Calls Tryz.prog 31 #[aggH h, .int .i64 y, .string s] w (Ret (.bool (onB (alw h) y s.data.toList)) w) := by
  have ho := of_one y (alw h)
  have hvl : ∀ x, x ∈ [alw h] → hvB x = true := fun x hx => by rw [List.mem_singleton.1 hx]; exact hv
  have hE : onB (alw h) y s.data.toList = (kB (alw h) y && (prS (kV (alw h) y) == s.data.toList)) := rfl
  have hof := fun w1 hG1 => hof_any (.slice (some ⟨w1.heap.size, 0, none⟩) 1 1) [alw h] y (w1.alloc (.cells (cellsH (alw h)) 45)) hG1 (one_row w1 (alw h) 1) (by simp) hvl
  have hal := fun w => alw_any h w
  rw [ho] at hof
  generalize alw h = H at *
  generalize hR : onB H y s.data.toList = R at *
  have HOF := Lib.hid hof; have HAL := Lib.hid hal; have HE := Lib.hid hE; clear hof hal hE hR hvl ho hv
  go_enter Tryz.func31, Tryz.ntmps31
  go_wp2_with fail
  refine (HAL.out _).mono ?_
  rintro e w1 ⟨rfl, hb1⟩
  have hG1 : GoodH (w1.alloc (.cells (cellsH H) 45)) := (((hG.alloc _).below hb1).alloc _)
  have hB1 := bl_trans (bl_trans (bl_alloc _ _) hb1) (bl_alloc w1 (.cells (cellsH H) 45))
  go_wp2_with fail
  refine (HOF.out w1 hG1).mono ?_
  intro e w2 hp
  cases hk : kB H y
  · rw [hk] at hp
    obtain ⟨a, cap, rfl, hn, hb2⟩ := OfPost.ns hp (by simp)
    have hR : R = false := by rw [HE.out, hk]; rfl
    subst hR
    clear hk hp
    simp only [Bool.false_eq_true, if_false, List.length_nil]
    go_wp2
    go_ret
    exact ⟨rfl, bl_trans hB1 hb2⟩
  · rw [hk] at hp
    obtain ⟨a, cap, rfl, hn, hb2⟩ := OfPost.ns hp (by simp [maxLen])
    have hR : R = (prS (kV H y) == s.data.toList) := by rw [HE.out, hk]; rfl
    clear hk hp
    rcases hn with ⟨_, _, _, h0⟩ | ⟨b, off, cap', e1, hlt, _, hc⟩
    · simp at h0
    · cases e1
      have c0 := hc 0 _ rfl 0 _ rfl
      have c1 := hc 0 _ rfl 1 _ rfl
      simp at c0 c1
      have hpr := fun w hG => print_any (kV H y) w hG
      generalize kV H y = d at *
      have hsl : (prS d == s.data.toList) = R := hR.symm
      have hG2 := hG1.below hb2
      have HPR := Lib.hid hpr; have HSL := Lib.hid hsl; clear hpr hsl hR hc
      simp only [if_true, List.length_cons, List.length_nil]
      go_wp2_with fail
      refine (HPR.out _ hG2.1).mono ?_
      rintro e w3 ⟨rfl, hb3⟩
      go_wp2
      go_ret
      exact ⟨ret_bool (by rw [ByteArray.toList_eq]; exact HSL.out), bl_trans hB1 (bl_trans hb2 hb3)⟩
theorem con (h : Hol) (y : Int) (s : ByteArray) (l : List UInt8) (r : Bool) (hs : s.data.toList = l) (hv : hvB (alw h) = true) (he : onB (alw h) y l = r) (w : World) (hG : GoodH w) : Calls Tryz.prog 31 #[aggH h, .int .i64 y, .string s] w (Ret (.bool r) w) := by
  have := on_any h y s w hG hv
  rwa [hs, he] at this
theorem hchk_two (a b : Hol) (ha : hvB a = true) (hb : hvB b = true) : hchk [a, b] = 0 := by unfold hchk chkR; simp [ha, hb]
def hE (k mo d wd nth off mv : Int) : Hol := ⟨k, mo, d, wd, nth, off, mv, 0, 0⟩
theorem two_row (w : World) (g h : Hol) (cap : Nat) : IsHols (w.alloc (.cells (cellsH g ++ cellsH h) 45)) (.slice (some ⟨w.heap.size, 0, none⟩) 2 cap) [g, h] := by
  refine .inr ⟨w.heap.size, 0, cap, rfl, by simp, by simp [maxLen], fun j x hx i u hu => ?_⟩
  have b := (Blk.new w 45 (cellsH g ++ cellsH h)).cell (j * 9 + i)
  simp only [Nat.zero_add]
  rw [b, ← Array.getElem?_toList, Array.toList_append]
  match j, hx with
  | 0, hx =>
    simp at hx; subst hx
    have hi : i < 9 := by have := (List.getElem?_eq_some_iff.1 hu).1; rwa [encH_len] at this
    rw [List.getElem?_append_left (by simpa using hi), Nat.zero_mul, Nat.zero_add]
    exact hu
  | 1, hx =>
    simp at hx; subst hx
    rw [List.getElem?_append_right (by simp), show 1 * 9 + i - (cellsH g).toList.length = i by simp]
    exact hu
theorem Blk.nine {w : World} {g t : Nat} {h : Hol} (b : Blk w g t (cellsH h)) : w.cell? ⟨g, 0, none⟩ = some (.int .i64 h.k) ∧ w.cell? ⟨g, 1, none⟩ = some (.int .i64 h.mo) ∧ w.cell? ⟨g, 2, none⟩ = some (.int .i64 h.d) ∧ w.cell? ⟨g, 3, none⟩ = some (.int .i64 h.wd) ∧ w.cell? ⟨g, 4, none⟩ = some (.int .i64 h.nth) ∧ w.cell? ⟨g, 5, none⟩ = some (.int .i64 h.off) ∧ w.cell? ⟨g, 6, none⟩ = some (.int .i64 h.mv) ∧ w.cell? ⟨g, 7, none⟩ = some (.int .i64 h.f) ∧ w.cell? ⟨g, 8, none⟩ = some (.int .i64 h.l) :=
  ⟨b.cell 0, b.cell 1, b.cell 2, b.cell 3, b.cell 4, b.cell 5, b.cell 6, b.cell 7, b.cell 8⟩
theorem of_none : ofP 2026 [alw (hE 2 2 0 0 5 0 0), alw (hE 1 2 30 0 0 0 0)] = [] := by decide +kernel
set_option maxRecDepth 100000 in
set_option maxHeartbeats 8000000 in
theorem hlives_any (w : World) (hG : GoodH w) : Calls Tryz.prog 14 #[] w (Ret (.bool true) w) := by
  go_enter Tryz.func14, Tryz.ntmps14
  go_wp2_with fail
  have b1 := ((Blk.new w 45 (cellsH (hE 1 7 4 0 0 0 2))).alloc (.cells (cellsH (hE 1 7 4 0 0 0 1)) 45)).alloc (.cells (cellsH (hE 1 1 1 0 0 0 2)) 45)
  have b2 := (Blk.at (show w.heap.size + 1 = (w.alloc (.cells (cellsH (hE 1 7 4 0 0 0 2)) 45)).heap.size by simp) 45 (cellsH (hE 1 7 4 0 0 0 1))).alloc (.cells (cellsH (hE 1 1 1 0 0 0 2)) 45)
  have b3 := Blk.at (show w.heap.size + 1 + 1 = ((w.alloc (.cells (cellsH (hE 1 7 4 0 0 0 2)) 45)).alloc (.cells (cellsH (hE 1 7 4 0 0 0 1)) 45)).heap.size by simp) 45 (cellsH (hE 1 1 1 0 0 0 2))
  have hB := bl_trans (bl_trans (bl_alloc w (.cells (cellsH (hE 1 7 4 0 0 0 2)) 45)) (bl_alloc _ (.cells (cellsH (hE 1 7 4 0 0 0 1)) 45))) (bl_alloc _ (.cells (cellsH (hE 1 1 1 0 0 0 2)) 45))
  have hG := hG.below hB
  obtain ⟨w0, hw0⟩ : ∃ w0, w0 = ((w.alloc (.cells (cellsH (hE 1 7 4 0 0 0 2)) 45)).alloc (.cells (cellsH (hE 1 7 4 0 0 0 1)) 45)).alloc (.cells (cellsH (hE 1 1 1 0 0 0 2)) 45) := ⟨_, rfl⟩
  rw [← hw0] at b1 b2 b3 hB hG
  have hw0' := hw0.symm
  simp only [cellsH, hE] at hw0'
  rw [hw0']
  clear hw0 hw0'
  refine (con (hE 2 11 0 3 4 0 0) 2026 _ [50, 48, 50, 54, 45, 49, 49, 45, 50, 54] true (by rfl) (by decide) (by decide +kernel) _ hG).mono ?_
  rintro e w1 ⟨rfl, hb⟩
  have b1 := b1.below hb b1.lt
  have b2 := b2.below hb b2.lt
  have b3 := b3.below hb b3.lt
  have hG := hG.below hb
  have hB := bl_trans hB hb
  clear hb
  go_wp2_with fail
  refine (con (hE 3 5 0 0 0 0 0) 2026 _ [50, 48, 50, 54, 45, 48, 53, 45, 50, 53] true (by rfl) (by decide) (by decide +kernel) _ hG).mono ?_
  rintro e w2 ⟨rfl, hb⟩
  have b1 := b1.below hb b1.lt
  have b2 := b2.below hb b2.lt
  have b3 := b3.below hb b3.lt
  have hG := hG.below hb
  have hB := bl_trans hB hb
  clear hb
  obtain ⟨c0, c1, c2, c3, c4, c5, c6, c7, c8⟩ := Blk.nine b1
  simp only [hE] at c0 c1 c2 c3 c4 c5 c6 c7 c8
  go_wp2_with fail
  clear c0 c1 c2 c3 c4 c5 c6 c7 c8
  refine (con (hE 1 7 4 0 0 0 2) 2026 _ [50, 48, 50, 54, 45, 48, 55, 45, 48, 51] true (by rfl) (by decide) (by decide +kernel) _ hG).mono ?_
  rintro e w3 ⟨rfl, hb⟩
  have b1 := b1.below hb b1.lt
  have b2 := b2.below hb b2.lt
  have b3 := b3.below hb b3.lt
  have hG := hG.below hb
  have hB := bl_trans hB hb
  clear hb
  obtain ⟨c0, c1, c2, c3, c4, c5, c6, c7, c8⟩ := Blk.nine b2
  simp only [hE] at c0 c1 c2 c3 c4 c5 c6 c7 c8
  go_wp2_with fail
  clear c0 c1 c2 c3 c4 c5 c6 c7 c8
  refine (con (hE 1 7 4 0 0 0 1) 2026 _ [50, 48, 50, 54, 45, 48, 55, 45, 48, 54] true (by rfl) (by decide) (by decide +kernel) _ hG).mono ?_
  rintro e w4 ⟨rfl, hb⟩
  have b1 := b1.below hb b1.lt
  have b2 := b2.below hb b2.lt
  have b3 := b3.below hb b3.lt
  have hG := hG.below hb
  have hB := bl_trans hB hb
  clear hb
  obtain ⟨c0, c1, c2, c3, c4, c5, c6, c7, c8⟩ := Blk.nine b3
  simp only [hE] at c0 c1 c2 c3 c4 c5 c6 c7 c8
  go_wp2_with fail
  clear c0 c1 c2 c3 c4 c5 c6 c7 c8
  refine (con (hE 1 1 1 0 0 0 2) 2028 _ [50, 48, 50, 55, 45, 49, 50, 45, 51, 49] true (by rfl) (by decide) (by decide +kernel) _ hG).mono ?_
  rintro e w5 ⟨rfl, hb⟩
  have b1 := b1.below hb b1.lt
  have b2 := b2.below hb b2.lt
  have b3 := b3.below hb b3.lt
  have hG := hG.below hb
  have hB := bl_trans hB hb
  clear hb
  obtain ⟨c0, c1, c2, c3, c4, c5, c6, c7, c8⟩ := Blk.nine b3
  simp only [hE] at c0 c1 c2 c3 c4 c5 c6 c7 c8
  go_wp2_with fail
  clear c0 c1 c2 c3 c4 c5 c6 c7 c8
  refine (con (hE 1 1 1 0 0 0 2) 2027 _ [50, 48, 50, 55, 45, 49, 50, 45, 51, 49] false (by rfl) (by decide) (by decide +kernel) _ hG).mono ?_
  rintro e w6 ⟨rfl, hb⟩
  have b1 := b1.below hb b1.lt
  have b2 := b2.below hb b2.lt
  have b3 := b3.below hb b3.lt
  have hG := hG.below hb
  have hB := bl_trans hB hb
  clear hb
  go_wp2_with fail
  refine (alw_any (hE 2 2 0 0 5 0 0) _).mono ?_
  rintro e w7 ⟨rfl, hb⟩
  have hG := hG.below hb
  have hB := bl_trans hB hb
  clear hb b1 b2 b3
  go_wp2_with fail
  refine (alw_any (hE 1 2 30 0 0 0 0) _).mono ?_
  rintro e w8 ⟨rfl, hb⟩
  have hG := hG.below hb
  have hB := bl_trans hB hb
  clear hb
  go_wp2_with fail
  have hI : IsHols (w8.alloc (.cells #[.int .i64 (alw (hE 2 2 0 0 5 0 0)).k, .int .i64 (alw (hE 2 2 0 0 5 0 0)).mo, .int .i64 (alw (hE 2 2 0 0 5 0 0)).d, .int .i64 (alw (hE 2 2 0 0 5 0 0)).wd, .int .i64 (alw (hE 2 2 0 0 5 0 0)).nth, .int .i64 (alw (hE 2 2 0 0 5 0 0)).off, .int .i64 (alw (hE 2 2 0 0 5 0 0)).mv, .int .i64 (alw (hE 2 2 0 0 5 0 0)).f, .int .i64 (alw (hE 2 2 0 0 5 0 0)).l, .int .i64 (alw (hE 1 2 30 0 0 0 0)).k, .int .i64 (alw (hE 1 2 30 0 0 0 0)).mo, .int .i64 (alw (hE 1 2 30 0 0 0 0)).d, .int .i64 (alw (hE 1 2 30 0 0 0 0)).wd, .int .i64 (alw (hE 1 2 30 0 0 0 0)).nth, .int .i64 (alw (hE 1 2 30 0 0 0 0)).off, .int .i64 (alw (hE 1 2 30 0 0 0 0)).mv, .int .i64 (alw (hE 1 2 30 0 0 0 0)).f, .int .i64 (alw (hE 1 2 30 0 0 0 0)).l] 45)) (.slice (some ⟨w8.heap.size, 0, none⟩) 2 2) [alw (hE 2 2 0 0 5 0 0), alw (hE 1 2 30 0 0 0 0)] := two_row w8 (alw (hE 2 2 0 0 5 0 0)) (alw (hE 1 2 30 0 0 0 0)) 2
  have hB := bl_trans hB (bl_alloc w8 (.cells #[.int .i64 (alw (hE 2 2 0 0 5 0 0)).k, .int .i64 (alw (hE 2 2 0 0 5 0 0)).mo, .int .i64 (alw (hE 2 2 0 0 5 0 0)).d, .int .i64 (alw (hE 2 2 0 0 5 0 0)).wd, .int .i64 (alw (hE 2 2 0 0 5 0 0)).nth, .int .i64 (alw (hE 2 2 0 0 5 0 0)).off, .int .i64 (alw (hE 2 2 0 0 5 0 0)).mv, .int .i64 (alw (hE 2 2 0 0 5 0 0)).f, .int .i64 (alw (hE 2 2 0 0 5 0 0)).l, .int .i64 (alw (hE 1 2 30 0 0 0 0)).k, .int .i64 (alw (hE 1 2 30 0 0 0 0)).mo, .int .i64 (alw (hE 1 2 30 0 0 0 0)).d, .int .i64 (alw (hE 1 2 30 0 0 0 0)).wd, .int .i64 (alw (hE 1 2 30 0 0 0 0)).nth, .int .i64 (alw (hE 1 2 30 0 0 0 0)).off, .int .i64 (alw (hE 1 2 30 0 0 0 0)).mv, .int .i64 (alw (hE 1 2 30 0 0 0 0)).f, .int .i64 (alw (hE 1 2 30 0 0 0 0)).l] 45))
  have hG := hG.alloc (.cells #[.int .i64 (alw (hE 2 2 0 0 5 0 0)).k, .int .i64 (alw (hE 2 2 0 0 5 0 0)).mo, .int .i64 (alw (hE 2 2 0 0 5 0 0)).d, .int .i64 (alw (hE 2 2 0 0 5 0 0)).wd, .int .i64 (alw (hE 2 2 0 0 5 0 0)).nth, .int .i64 (alw (hE 2 2 0 0 5 0 0)).off, .int .i64 (alw (hE 2 2 0 0 5 0 0)).mv, .int .i64 (alw (hE 2 2 0 0 5 0 0)).f, .int .i64 (alw (hE 2 2 0 0 5 0 0)).l, .int .i64 (alw (hE 1 2 30 0 0 0 0)).k, .int .i64 (alw (hE 1 2 30 0 0 0 0)).mo, .int .i64 (alw (hE 1 2 30 0 0 0 0)).d, .int .i64 (alw (hE 1 2 30 0 0 0 0)).wd, .int .i64 (alw (hE 1 2 30 0 0 0 0)).nth, .int .i64 (alw (hE 1 2 30 0 0 0 0)).off, .int .i64 (alw (hE 1 2 30 0 0 0 0)).mv, .int .i64 (alw (hE 1 2 30 0 0 0 0)).f, .int .i64 (alw (hE 1 2 30 0 0 0 0)).l] 45)
  obtain ⟨w9, hw9⟩ : ∃ w9, w9 = w8.alloc (.cells #[.int .i64 (alw (hE 2 2 0 0 5 0 0)).k, .int .i64 (alw (hE 2 2 0 0 5 0 0)).mo, .int .i64 (alw (hE 2 2 0 0 5 0 0)).d, .int .i64 (alw (hE 2 2 0 0 5 0 0)).wd, .int .i64 (alw (hE 2 2 0 0 5 0 0)).nth, .int .i64 (alw (hE 2 2 0 0 5 0 0)).off, .int .i64 (alw (hE 2 2 0 0 5 0 0)).mv, .int .i64 (alw (hE 2 2 0 0 5 0 0)).f, .int .i64 (alw (hE 2 2 0 0 5 0 0)).l, .int .i64 (alw (hE 1 2 30 0 0 0 0)).k, .int .i64 (alw (hE 1 2 30 0 0 0 0)).mo, .int .i64 (alw (hE 1 2 30 0 0 0 0)).d, .int .i64 (alw (hE 1 2 30 0 0 0 0)).wd, .int .i64 (alw (hE 1 2 30 0 0 0 0)).nth, .int .i64 (alw (hE 1 2 30 0 0 0 0)).off, .int .i64 (alw (hE 1 2 30 0 0 0 0)).mv, .int .i64 (alw (hE 1 2 30 0 0 0 0)).f, .int .i64 (alw (hE 1 2 30 0 0 0 0)).l] 45) := ⟨_, rfl⟩
  rw [← hw9] at hI hB hG ⊢
  clear hw9
  refine (con (hE 4 0 0 0 0 1 0) 2026 _ [50, 48, 50, 54, 45, 48, 52, 45, 48, 54] true (by rfl) (by decide) (by decide +kernel) _ hG).mono ?_
  rintro e w10 ⟨rfl, hb⟩
  have hI := hI.below hb
  have hG := hG.below hb
  have hB := bl_trans hB hb
  clear hb
  have hck := fun w h => hcheck_any (.slice (some ⟨w8.heap.size, 0, none⟩) 2 2) [alw (hE 2 2 0 0 5 0 0), alw (hE 1 2 30 0 0 0 0)] w h
  have hof := fun w hG h => hof_any (.slice (some ⟨w8.heap.size, 0, none⟩) 2 2) [alw (hE 2 2 0 0 5 0 0), alw (hE 1 2 30 0 0 0 0)] 2026 w hG h (by simp) (by simp; decide)
  rw [hchk_two _ _ (by decide) (by decide)] at hck
  rw [of_none] at hof
  have HCK := Lib.hid hck; have HOF := Lib.hid hof; clear hck hof
  go_wp2_with fail
  refine (HCK.out _ hI).mono ?_
  rintro e w11 ⟨rfl, hb⟩
  have hI := hI.below hb
  have hG := hG.below hb
  have hB := bl_trans hB hb
  clear hb
  go_wp2_with fail
  refine (HOF.out _ hG hI).mono ?_
  intro e w12 hp
  obtain ⟨a, cap, rfl, _, hb⟩ := OfPost.ns hp (by simp)
  simp only [List.length_nil]
  have hG := hG.below hb
  have hB := bl_trans hB hb
  clear hb hp hI
  have hck := fun w => hcheck_any (.slice (some ⟨w.heap.size, 0, none⟩) 1 1) [hE 0 0 0 0 0 0 0] (w.alloc (.cells (cellsH (hE 0 0 0 0 0 0 0)) 45)) (one_row w (hE 0 0 0 0 0 0 0) 1)
  rw [show hchk [hE 0 0 0 0 0 0 0] = 5 by decide] at hck
  have HCL := Lib.hid hck; clear hck HCK HOF
  go_wp2_with fail
  refine (HCL.out _).mono ?_
  rintro e w13 ⟨rfl, hb⟩
  have hB := bl_trans hB (bl_trans (bl_alloc w12 _) hb)
  clear hb
  go_wp2
  go_ret
  exact ⟨rfl, hB⟩
end Go.Proofs.YtaiiibbnjmjamaaGreatDoor
