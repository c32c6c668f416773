/- The walk of the law DateParses: it returns true at every string, three numbers and a byte. -/
import Derived.Test.YtefapmdgodfpeaaDoorDLives
import Derived.Test.YtefapmdgodfpeaaDoorDRef4
import Derived.Test.YtefapmdgodfpeaaDoorDRefP
import Derived.Test.YtefapmdgodfpeaaDoorDRefR
import Derived.Laws.IdiomStrings
import Derived.BigRegion
namespace Go.Proofs.YtefapmdgodfpeaaDoor
open Go.RowKit

theorem heap_new (w : World) (o : Obj) : (w.alloc o).heap[w.heap.size]? = some o := by
  show (w.heap.push o)[w.heap.size]? = _
  simp
theorem Blk0 (w : World) (t : TypeId) (cs : Array Value) : (w.alloc (.cells cs t)).cell? ⟨w.heap.size, 0, none⟩ = cs[0]? := by
  unfold World.cell?
  rw [show (w.alloc (.cells cs t)).heap[(⟨w.heap.size, 0, none⟩ : Addr).block]? = _ from heap_new w _]
  rfl
theorem three_cells (w : World) (t : TypeId) (a b c : ByteArray) (B : Nat) (hB : B = w.heap.size) : ∀ j, j < 3 → ∃ s, (w.alloc (.cells #[.string a, .string b, .string c] t)).cell? ⟨B, j, none⟩ = some (.string s) := by
  intro j hj
  subst hB
  unfold World.cell?
  rw [show (w.alloc (.cells #[.string a, .string b, .string c] t)).heap[(⟨w.heap.size, j, none⟩ : Addr).block]? = _ from heap_new w _]
  match j, hj with
  | 0, _ => exact ⟨a, rfl⟩
  | 1, _ => exact ⟨b, rfl⟩
  | 2, _ => exact ⟨c, rfl⟩
set_option maxHeartbeats 4000000 in
theorem law_parses (raw : ByteArray) (n at' how c : Int) (w : World) (hG : Good w) (_hr : raw.size ≤ maxLen) (n1 : -9223372036854775808 ≤ n) (n2 : n ≤ 9223372036854775807) (a1 : -9223372036854775808 ≤ at') (a2 : at' ≤ 9223372036854775807) (h1 : -9223372036854775808 ≤ how) (h2 : how ≤ 9223372036854775807) (c1 : 0 ≤ c) (c2 : c ≤ 255) :
    Calls Tryd.prog 8 #[.string raw, .int .i64 n, .int .i64 at', .int .i64 how, .int .u8 c] w (Ret (.bool true) w) := by
  obtain ⟨z1, z2⟩ := around_bd n (m := 3652059) (by omega)
  have hpr : ∃ S : ByteArray, S.size = 10 ∧ ∀ w, Calls Tryd.prog 24 #[.int .i64 (around n 3652059)] w (Ret (.string S) w) := by
    refine ⟨⟨(prS (around n 3652059)).toArray⟩, ?_, fun w => rprint_any _ w⟩
    have e : (prS (around n 3652059)).length = 10 := by rw [prS_eq z1 (by omega)]; rfl
    show (prS (around n 3652059)).toArray.size = 10
    simpa using e
  obtain ⟨S, hS, hcp⟩ := hpr
  have hd := fun w => dayOf_any n w n1 n2
  generalize around n 3652059 = d at *
  obtain ⟨k1, k2⟩ := around_bd at' (m := 11) (by omega)
  have hk := fun w => around_any at' 11 w a1 a2 (by omega) (by omega)
  generalize around at' 11 = kk at *
  obtain ⟨k, rfl⟩ := Int.eq_ofNat_of_zero_le k1
  obtain ⟨r1, r2⟩ := around_bd how (m := 3) (by omega)
  have hr := fun w => around_any how 3 w h1 h2 (by omega) (by omega)
  generalize around how 3 = r at *
  have HD := Lib.hid hd; have HCP := Lib.hid hcp; have HK := Lib.hid hk; have HR := Lib.hid hr
  clear hd hcp hk hr
  have hs1 : (S.size : Int) + 1 = 11 := by omega
  have HS1 := Lib.hid hs1
  have hs2 : S.size ≤ 10 := by omega
  have hs3 : 10 ≤ S.size := by omega
  clear hs1 hS
  have hkn : k ≤ 10 := by omega
  clear k1
  obtain ⟨u, rfl⟩ : ∃ u : UInt8, c = (u.toNat : Int) := ⟨UInt8.ofNat c.toNat, by rw [UInt8.toNat_ofNat']; omega⟩
  go_enter Tryd.func8, Tryd.ntmps8
  go_wp2_with fail
  refine (HD.out _).mono ?_
  rintro e w' ⟨rfl, rfl⟩
  go_wp2_with fail
  refine (HCP.out _).mono ?_
  rintro e w1 ⟨rfl, hb1⟩
  have hg1 := hG.below hb1
  go_wp2_with fail
  rw [HS1.out]
  refine (HK.out _).mono ?_
  rintro e w' ⟨rfl, rfl⟩
  go_wp2_with fail
  go_big_quiet (fail)
  go_wp2_with fail
  refine (HR.out _).mono ?_
  rintro e w' ⟨rfl, rfl⟩
  have hcv := fun m : Nat => run_convert_bytes_back (P := Tryd.prog) ((w1.drewN m).alloc (.cells #[.int .u8 (u.toNat : Int)] 5)) 41 9 5 ⟨w1.heap.size, 0, none⟩ 1 [u] Tryd.underlying41 Tryd.underlying5 Tryd.underlying9 (fun j hj => by
    obtain rfl : j = 0 := by simpa using hj
    have := Blk0 (w1.drewN m) 5 #[.int .u8 (u.toNat : Int)]
    simpa [Addr.add] using this)
  simp only [List.length_cons, List.length_nil, Nat.zero_add] at hcv
  have hr3 : r = 0 ∨ r = 1 ∨ r = 2 := by omega
  rcases hr3 with rfl | rfl | rfl
  · go_wp2_with fail
    go_region
    all_goals
      go_wp2_with fail
      obtain ⟨W, hW⟩ : ∃ W, W = ((w1.drewN (nq + 1)).alloc (.cells #[.int .u8 (u.toNat : Int)] 5)).alloc (.cells #[.string raw, .string S, .string (S.extract 0 k ++ ⟨#[u]⟩ ++ S.extract k S.size)] 9) := ⟨_, rfl⟩
      have hBx : Below w1.heap.size w1 ((w1.drewN (nq + 1)).alloc (.cells #[.int .u8 (u.toNat : Int)] 5)) := by first | exact bl_trans (bl_drewN (bl_refl _) _) (bl_alloc _ _) | exact bl_drewN (bl_refl _) _
      have hbW : Below w.heap.size w W := by rw [hW]; exact bl_trans (bl_trans hb1 hBx) (bl_alloc _ _)
      have hcx : ∀ j : Nat, j < 3 → ∃ s, W.cell? ⟨w1.heap.size + 1, j, none⟩ = some (.string s) := by rw [hW]; exact three_cells ((w1.drewN (nq + 1)).alloc (.cells #[.int .u8 (u.toNat : Int)] 5)) _ _ _ _ _ (by simp)
      have hsz : w1.heap.size + 1 < W.heap.size := by rw [hW]; simp
      have hGW := hG.below hbW
      rw [← hW]
      clear hW hBx
      have HX := Lib.hid hcx; clear hcx hcv
      go_loopw [15] (fun i wr => ∃ j : Nat, j ≤ 3 ∧ i = .int .i64 j ∧ Below W.heap.size W wr) (fun i _ => 3 - (intOf i).toNat)
      case atStart => exact ⟨0, by omega, rfl, bl_refl _⟩
      case round =>
        obtain ⟨j, hj, rfl, hbr⟩ := hrel
        have hGr := hGW.below hbr
        by_cases hj2 : j < 3
        · obtain ⟨s, hx⟩ := HX.out j hj2
          have kx0 : (0 : Int) ≤ j := by omega
          have kx1 : (j : Int) < 3 := by omega
          have e0 := (hbr.cell (p := ⟨w1.heap.size + 1, j, none⟩) hsz).trans hx
          go_wp2_with fail
          refine (parse_any _ _ hGr).mono ?_
          rintro e w2 ⟨rfl, hb2⟩
          have hbr2 := bl_trans hbr hb2
          have e1 := (hbr2.cell (p := ⟨w1.heap.size + 1, j, none⟩) hsz).trans hx
          clear e0
          go_wp2_with fail
          refine (rparse_any _ _).mono ?_
          rintro e w3 ⟨rfl, hb3⟩
          have hbr3 := bl_trans hbr2 hb3
          clear e1
          go_wp2_with fail
          go_roundw
          case rel => exact ⟨j + 1, by omega, by go_num, hbr3⟩
          case measure => simp [intOf]; omega
        · obtain rfl : j = 3 := by omega
          go_wp2_with fail
          refine (lives_any _ hGr).mono ?_
          rintro e w4 ⟨rfl, hb4⟩
          go_wp2
          go_ret
          exact ⟨rfl, bl_trans (bl_trans hbW hbr) hb4⟩
  · go_wp2_with fail
    go_region
    all_goals
      go_wp2_with fail
      obtain ⟨W, hW⟩ : ∃ W, W = ((w1.drewN (nq + 1)).alloc (.cells #[.int .u8 (u.toNat : Int)] 5)).alloc (.cells #[.string raw, .string S, .string (S.extract 0 k ++ ⟨#[u]⟩ ++ S.extract (min ((k : Int) + 1) (S.size : Int)).toNat S.size)] 9) := ⟨_, rfl⟩
      have hBx : Below w1.heap.size w1 ((w1.drewN (nq + 1)).alloc (.cells #[.int .u8 (u.toNat : Int)] 5)) := by first | exact bl_trans (bl_drewN (bl_refl _) _) (bl_alloc _ _) | exact bl_drewN (bl_refl _) _
      have hbW : Below w.heap.size w W := by rw [hW]; exact bl_trans (bl_trans hb1 hBx) (bl_alloc _ _)
      have hcx : ∀ j : Nat, j < 3 → ∃ s, W.cell? ⟨w1.heap.size + 1, j, none⟩ = some (.string s) := by rw [hW]; exact three_cells ((w1.drewN (nq + 1)).alloc (.cells #[.int .u8 (u.toNat : Int)] 5)) _ _ _ _ _ (by simp)
      have hsz : w1.heap.size + 1 < W.heap.size := by rw [hW]; simp
      have hGW := hG.below hbW
      rw [← hW]
      clear hW hBx
      have HX := Lib.hid hcx; clear hcx hcv
      go_loopw [15] (fun i wr => ∃ j : Nat, j ≤ 3 ∧ i = .int .i64 j ∧ Below W.heap.size W wr) (fun i _ => 3 - (intOf i).toNat)
      case atStart => exact ⟨0, by omega, rfl, bl_refl _⟩
      case round =>
        obtain ⟨j, hj, rfl, hbr⟩ := hrel
        have hGr := hGW.below hbr
        by_cases hj2 : j < 3
        · obtain ⟨s, hx⟩ := HX.out j hj2
          have kx0 : (0 : Int) ≤ j := by omega
          have kx1 : (j : Int) < 3 := by omega
          have e0 := (hbr.cell (p := ⟨w1.heap.size + 1, j, none⟩) hsz).trans hx
          go_wp2_with fail
          refine (parse_any _ _ hGr).mono ?_
          rintro e w2 ⟨rfl, hb2⟩
          have hbr2 := bl_trans hbr hb2
          have e1 := (hbr2.cell (p := ⟨w1.heap.size + 1, j, none⟩) hsz).trans hx
          clear e0
          go_wp2_with fail
          refine (rparse_any _ _).mono ?_
          rintro e w3 ⟨rfl, hb3⟩
          have hbr3 := bl_trans hbr2 hb3
          clear e1
          go_wp2_with fail
          go_roundw
          case rel => exact ⟨j + 1, by omega, by go_num, hbr3⟩
          case measure => simp [intOf]; omega
        · obtain rfl : j = 3 := by omega
          go_wp2_with fail
          refine (lives_any _ hGr).mono ?_
          rintro e w4 ⟨rfl, hb4⟩
          go_wp2
          go_ret
          exact ⟨rfl, bl_trans (bl_trans hbW hbr) hb4⟩
  · go_wp2_with fail
    obtain ⟨W, hW⟩ : ∃ W, W = (w1.drewN nq).alloc (.cells #[.string raw, .string S, .string (S.extract 0 k ++ S.extract (min ((k : Int) + 1) (S.size : Int)).toNat S.size)] 9) := ⟨_, rfl⟩
    have hBx : Below w1.heap.size w1 (w1.drewN nq) := by first | exact bl_trans (bl_drewN (bl_refl _) _) (bl_alloc _ _) | exact bl_drewN (bl_refl _) _
    have hbW : Below w.heap.size w W := by rw [hW]; exact bl_trans (bl_trans hb1 hBx) (bl_alloc _ _)
    have hcx : ∀ j : Nat, j < 3 → ∃ s, W.cell? ⟨w1.heap.size, j, none⟩ = some (.string s) := by rw [hW]; exact three_cells (w1.drewN nq) _ _ _ _ _ (by simp)
    have hsz : w1.heap.size < W.heap.size := by rw [hW]; simp
    have hGW := hG.below hbW
    rw [← hW]
    clear hW hBx
    have HX := Lib.hid hcx; clear hcx hcv
    go_loopw [15] (fun i wr => ∃ j : Nat, j ≤ 3 ∧ i = .int .i64 j ∧ Below W.heap.size W wr) (fun i _ => 3 - (intOf i).toNat)
    case atStart => exact ⟨0, by omega, rfl, bl_refl _⟩
    case round =>
      obtain ⟨j, hj, rfl, hbr⟩ := hrel
      have hGr := hGW.below hbr
      by_cases hj2 : j < 3
      · obtain ⟨s, hx⟩ := HX.out j hj2
        have kx0 : (0 : Int) ≤ j := by omega
        have kx1 : (j : Int) < 3 := by omega
        have e0 := (hbr.cell (p := ⟨w1.heap.size, j, none⟩) hsz).trans hx
        go_wp2_with fail
        refine (parse_any _ _ hGr).mono ?_
        rintro e w2 ⟨rfl, hb2⟩
        have hbr2 := bl_trans hbr hb2
        have e1 := (hbr2.cell (p := ⟨w1.heap.size, j, none⟩) hsz).trans hx
        clear e0
        go_wp2_with fail
        refine (rparse_any _ _).mono ?_
        rintro e w3 ⟨rfl, hb3⟩
        have hbr3 := bl_trans hbr2 hb3
        clear e1
        go_wp2_with fail
        go_roundw
        case rel => exact ⟨j + 1, by omega, by go_num, hbr3⟩
        case measure => simp [intOf]; omega
      · obtain rfl : j = 3 := by omega
        go_wp2_with fail
        refine (lives_any _ hGr).mono ?_
        rintro e w4 ⟨rfl, hb4⟩
        go_wp2
        go_ret
        exact ⟨rfl, bl_trans (bl_trans hbW hbr) hb4⟩
end Go.Proofs.YtefapmdgodfpeaaDoor
