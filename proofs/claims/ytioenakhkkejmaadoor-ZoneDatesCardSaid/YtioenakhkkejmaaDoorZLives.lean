/- The examples' function of the zone's laws, and the laws' own helpers. Conditions: none. -/
import Derived.Test.YtioenakhkkejmaaDoorZZone
import Derived.Test.YtioenakhkkejmaaDoorZRes
import Derived.Test.YtioenakhkkejmaaDoorZChk
namespace Go.Proofs.YtioenakhkkejmaaDoor
open Go.RowKit

def twoSh : Sh := [(2000, 120), (6000, 60)]
theorem two_ok : Ok 60 twoSh := by
  refine ⟨by omega, by omega, ?_⟩
  show -2880 + 2880 ≤ 2000 ∧ 2000 ≤ 8589934592 ∧ -900 ≤ 120 ∧ 120 ≤ 900 ∧ 2000 + 2880 ≤ 6000 ∧ 6000 ≤ 8589934592 ∧ -900 ≤ 60 ∧ 60 ≤ 900 ∧ True
  decide
/-- a zone in a box -/
def ZBox (W : World) (B : Nat) (o : Int) (v : Value) (sh : Sh) : Prop := (W.cell? ⟨B, 0, none⟩ = some (.int .i64 o) ∧ W.cell? ⟨B, 1, none⟩ = some v) ∧ B < W.heap.size ∧ IsSh W v sh
theorem ZBox.below {W W' : World} {B o v sh} (h : ZBox W B o v sh) (hb : Below W.heap.size W W') : ZBox W' B o v sh :=
  ⟨⟨(hb.cell (p := ⟨B, 0, none⟩) h.2.1).trans h.1.1, (hb.cell (p := ⟨B, 1, none⟩) h.2.1).trans h.1.2⟩, Nat.lt_of_lt_of_le h.2.1 hb.size, h.2.2.below hb⟩
set_option maxHeartbeats 1000000 in
theorem two_any (w : World) : Calls Tryd.prog 18 #[] w (ZonePost 60 twoSh w) := by
  go_enter Tryd.func18, Tryd.ntmps18
  go_wp2
  refine bodyPost_ret (v := .agg #[.int .i64 60, .slice (some ⟨w.heap.size + 1, 0, none⟩) 2 2]) (by simp [results, Tryd.f18, go_sem]) rfl ⟨_, rfl, ?_, ?_⟩
  · refine .inr ⟨w.heap.size + 1, 0, 2, rfl, by simp, by decide, fun j hj => ?_⟩
    match j, hj with
    | 0, _ => exact ⟨by simp; rfl, by simp; rfl⟩
    | 1, _ => exact ⟨by simp; rfl, by simp; rfl⟩
  · exact bl_trans (bl_alloc _ _) (bl_alloc _ _)
theorem clocal (t a b : Int) (v : Value) (w : World) (hI : IsSh w v twoSh) (h1 : (t + offS (segsOf 60 twoSh) t) / 1440 = a) (h2 : (t + offS (segsOf 60 twoSh) t) % 1440 = b) (h3 : -4000000000000000 ≤ t + offS (segsOf 60 twoSh) t) (h4 : t + offS (segsOf 60 twoSh) t ≤ 4000000000000000) :
    Calls Tryd.prog 6 #[.agg #[.int .i64 60, v], .int .i64 t] w (Ret (.tuple #[.int .i64 a, .int .i64 b]) w) := by
  rw [← h1, ← h2]; exact zlocal_any 60 t v twoSh w hI h3 h4
theorem cres (d m r : Int) (late : Bool) (v : Value) (w : World) (hI : IsSh w v twoSh) (h : res late 60 twoSh (d * 1440 + m) = r) (h1 : -100000000000 ≤ d) (h2 : d ≤ 100000000000) (h3 : 0 ≤ m) (h4 : m < 1440) :
    Calls Tryd.prog 21 #[.agg #[.int .i64 60, v], .int .i64 d, .int .i64 m, .bool late] w (Ret (.int .i64 r) w) := by
  rw [← h]; exact zres_any 60 d m late v twoSh w hI two_ok h1 h2 h3 h4 (by decide)
theorem cins (d m : Int) (l : List Int) (v : Value) (w : World) (hI : IsSh w v twoSh) (h : ins 60 twoSh (d * 1440 + m) = l) (h1 : -100000000000 ≤ d) (h2 : d ≤ 100000000000) (h3 : 0 ≤ m) (h4 : m < 1440) :
    Calls Tryd.prog 20 #[.agg #[.int .i64 60, v], .int .i64 d, .int .i64 m] w (InsPost l w) := by
  rw [← h]; exact zinst_in 60 d m v twoSh w hI two_ok h1 h2 h3 h4 (by decide)
theorem ccheck (v : Value) (w : World) (hI : IsSh w v twoSh) : Calls Tryd.prog 19 #[.agg #[.int .i64 60, v]] w (Ret (.int .i64 0) w) := by
  have := zcheck_any 60 v twoSh w hI
  rwa [zchk_ok two_ok (by decide)] at this
theorem InsPost.slice {l : List Int} {w : World} {e : Ending} {w' : World} (h : InsPost l w e w') (hl : l.length ≤ maxLen) : ∃ a cap, e = .returned (.slice a l.length cap) ∧ IsInts w' (.slice a l.length cap) l ∧ Below w.heap.size w w' := by
  obtain ⟨v, rfl, hrow, hb⟩ := h
  have hI := IsInts.of_row hrow hl
  have hv : ∃ a cap, v = .slice a l.length cap := by
    rcases hrow.2 with ⟨h1, h2⟩ | ⟨g', cap', cur, h1, _⟩
    · exact ⟨none, 0, by rw [h1, h2]⟩
    · exact ⟨_, _, h1⟩
  obtain ⟨a, cap, rfl⟩ := hv
  exact ⟨a, cap, rfl, hI, hb⟩

set_option maxHeartbeats 4000000 in
theorem zlives_any (w : World) : Calls Tryd.prog 9 #[] w (Ret (.bool true) w) := by
  go_enter Tryd.func9, Tryd.ntmps9
  go_wp2_with fail
  refine (two_any _).mono ?_
  rintro e w1 ⟨v, rfl, hI1, hb1⟩
  obtain ⟨a, cap, rfl, _⟩ := hI1.slice
  have hz : ZBox (w1.alloc (.cells #[.int .i64 60, .slice a twoSh.length cap] 25)) w1.heap.size 60 (.slice a twoSh.length cap) twoSh := ⟨⟨(Blk.new _ _ _).cell 0, (Blk.new _ _ _).cell 1⟩, by simp, hI1.below (bl_alloc _ _)⟩
  have hB := bl_trans hb1 (bl_alloc w1 (.cells #[.int .i64 60, .slice a twoSh.length cap] 25))
  go_wp2_with fail
  obtain ⟨W, hW⟩ : ∃ W, W = w1.alloc (.cells #[.int .i64 60, .slice a twoSh.length cap] 25) := ⟨_, rfl⟩
  rw [← hW] at hz hB ⊢
  clear hW hI1 hb1
  obtain ⟨B, hBB⟩ : ∃ B, B = w1.heap.size := ⟨_, rfl⟩
  rw [← hBB] at hz ⊢
  clear hBB
  obtain ⟨⟨c0, c1⟩, hlt, hI⟩ := hz
  have hz : ZBox W B 60 (.slice a twoSh.length cap) twoSh := ⟨⟨c0, c1⟩, hlt, hI⟩
  refine (clocal (1999) (1) (619) _ _ hI (by decide) (by decide) (by decide) (by decide)).mono ?_
  rintro e v0 ⟨rfl, hb⟩
  have hz := hz.below hb
  have hB := bl_trans hB hb
  obtain ⟨⟨c0, c1⟩, hlt, hI⟩ := hz
  have hz : ZBox v0 B 60 (.slice a twoSh.length cap) twoSh := ⟨⟨c0, c1⟩, hlt, hI⟩
  clear hb
  go_wp2_with fail
  refine (clocal (2000) (1) (680) _ _ hI (by decide) (by decide) (by decide) (by decide)).mono ?_
  rintro e v1 ⟨rfl, hb⟩
  have hz := hz.below hb
  have hB := bl_trans hB hb
  obtain ⟨⟨c0, c1⟩, hlt, hI⟩ := hz
  have hz : ZBox v1 B 60 (.slice a twoSh.length cap) twoSh := ⟨⟨c0, c1⟩, hlt, hI⟩
  clear hb
  go_wp2_with fail
  refine (clocal (5999) (4) (359) _ _ hI (by decide) (by decide) (by decide) (by decide)).mono ?_
  rintro e v2 ⟨rfl, hb⟩
  have hz := hz.below hb
  have hB := bl_trans hB hb
  obtain ⟨⟨c0, c1⟩, hlt, hI⟩ := hz
  have hz : ZBox v2 B 60 (.slice a twoSh.length cap) twoSh := ⟨⟨c0, c1⟩, hlt, hI⟩
  clear hb
  go_wp2_with fail
  refine (clocal (6000) (4) (300) _ _ hI (by decide) (by decide) (by decide) (by decide)).mono ?_
  rintro e v3 ⟨rfl, hb⟩
  have hz := hz.below hb
  have hB := bl_trans hB hb
  obtain ⟨⟨c0, c1⟩, hlt, hI⟩ := hz
  have hz : ZBox v3 B 60 (.slice a twoSh.length cap) twoSh := ⟨⟨c0, c1⟩, hlt, hI⟩
  clear hb
  go_wp2_with fail
  refine (clocal (-100) (-1) (1400) _ _ hI (by decide) (by decide) (by decide) (by decide)).mono ?_
  rintro e v4 ⟨rfl, hb⟩
  have hz := hz.below hb
  have hB := bl_trans hB hb
  obtain ⟨⟨c0, c1⟩, hlt, hI⟩ := hz
  have hz : ZBox v4 B 60 (.slice a twoSh.length cap) twoSh := ⟨⟨c0, c1⟩, hlt, hI⟩
  clear hb
  go_wp2_with fail
  refine (ccheck _ _ hI).mono ?_
  rintro e v5 ⟨rfl, hb⟩
  have hz := hz.below hb
  have hB := bl_trans hB hb
  obtain ⟨⟨c0, c1⟩, hlt, hI⟩ := hz
  have hz : ZBox v5 B 60 (.slice a twoSh.length cap) twoSh := ⟨⟨c0, c1⟩, hlt, hI⟩
  clear hb
  go_wp2_with fail
  refine (cins 1 650 [] _ _ hI (by decide) (by decide) (by decide) (by decide) (by decide)).mono ?_
  rintro e v6 h
  obtain ⟨a2, cap2, rfl, _, hb⟩ := h.slice (by decide)
  have hz := hz.below hb
  have hB := bl_trans hB hb
  obtain ⟨⟨c0, c1⟩, hlt, hI⟩ := hz
  have hz : ZBox v6 B 60 (.slice a twoSh.length cap) twoSh := ⟨⟨c0, c1⟩, hlt, hI⟩
  clear hb
  go_wp2_with fail
  refine (cres 1 650 2000 true _ _ hI (by decide) (by decide) (by decide) (by decide) (by decide)).mono ?_
  rintro e v7 ⟨rfl, hb⟩
  have hz := hz.below hb
  have hB := bl_trans hB hb
  obtain ⟨⟨c0, c1⟩, hlt, hI⟩ := hz
  have hz : ZBox v7 B 60 (.slice a twoSh.length cap) twoSh := ⟨⟨c0, c1⟩, hlt, hI⟩
  clear hb
  go_wp2_with fail
  refine (cins 4 330 [5970, 6030] _ _ hI (by decide) (by decide) (by decide) (by decide) (by decide)).mono ?_
  rintro e v8 h
  obtain ⟨a3, cap3, rfl, hl3, hb⟩ := h.slice (by decide)
  have hz := hz.below hb
  have hB := bl_trans hB hb
  obtain ⟨⟨c0, c1⟩, hlt, hI⟩ := hz
  have hz : ZBox v8 B 60 (.slice a twoSh.length cap) twoSh := ⟨⟨c0, c1⟩, hlt, hI⟩
  clear hb
  go_wp2_with fail
  have hl4 : IsInts (v8.alloc (.cells #[.int .i64 5970, .int .i64 6030] 3)) (.slice (some ⟨v8.heap.size, 0, none⟩) 2 2) [5970, 6030] := by
    refine .inr ⟨v8.heap.size, 0, 2, rfl, by simp, by decide, fun j hj => ?_⟩
    match j, hj with
    | 0, _ => simp
    | 1, _ => simp
  have hl5 := hl3.below (bl_alloc v8 (.cells #[.int .i64 5970, .int .i64 6030] 3))
  have hz := hz.below (bl_alloc v8 (.cells #[.int .i64 5970, .int .i64 6030] 3))
  have hB := bl_trans hB (bl_alloc v8 (.cells #[.int .i64 5970, .int .i64 6030] 3))
  refine (same03 _ _ _ _ _ hl5 hl4).mono ?_
  rintro e v9 ⟨rfl, hb⟩
  have hz := hz.below hb
  have hB := bl_trans hB hb
  obtain ⟨⟨c0, c1⟩, hlt, hI⟩ := hz
  have hz : ZBox v9 B 60 (.slice a twoSh.length cap) twoSh := ⟨⟨c0, c1⟩, hlt, hI⟩
  clear hb
  go_wp2_with fail
  refine (cres 4 330 6030 true _ _ hI (by decide) (by decide) (by decide) (by decide) (by decide)).mono ?_
  rintro e v10 ⟨rfl, hb⟩
  have hz := hz.below hb
  have hB := bl_trans hB hb
  obtain ⟨⟨c0, c1⟩, hlt, hI⟩ := hz
  have hz : ZBox v10 B 60 (.slice a twoSh.length cap) twoSh := ⟨⟨c0, c1⟩, hlt, hI⟩
  clear hb
  go_wp2_with fail
  refine (cres 4 330 5970 false _ _ hI (by decide) (by decide) (by decide) (by decide) (by decide)).mono ?_
  rintro e v11 ⟨rfl, hb⟩
  have hz := hz.below hb
  have hB := bl_trans hB hb
  obtain ⟨⟨c0, c1⟩, hlt, hI⟩ := hz
  have hz : ZBox v11 B 60 (.slice a twoSh.length cap) twoSh := ⟨⟨c0, c1⟩, hlt, hI⟩
  clear hb
  go_wp2_with fail
  go_ret
  exact ⟨rfl, hB⟩

/-- a local time near those of zones made from numbers -/
def locK (n : Int) : Int := around n 1000001 - 500000
theorem locK_bd (n : Int) : -500000 ≤ locK n ∧ locK n ≤ 500000 := by
  have := around_bd n (m := 1000001) (by omega)
  unfold locK; omega
/-- an instant near those of zones made from numbers, or a distant one -/
def insK (n : Int) (far : Bool) : Int := bif far then around n 2199023255553 - 1099511627776 else around n 1000001 - 500000
theorem insK_bd (n : Int) (far : Bool) : -1099511627776 ≤ insK n far ∧ insK n far ≤ 1099511627776 := by
  have h1 := around_bd n (m := 1000001) (by omega)
  have h2 := around_bd n (m := 2199023255553) (by omega)
  cases far
  · show -1099511627776 ≤ around n 1000001 - 500000 ∧ around n 1000001 - 500000 ≤ 1099511627776; omega
  · show -1099511627776 ≤ around n 2199023255553 - 1099511627776 ∧ around n 2199023255553 - 1099511627776 ≤ 1099511627776; omega
end Go.Proofs.YtioenakhkkejmaaDoor
