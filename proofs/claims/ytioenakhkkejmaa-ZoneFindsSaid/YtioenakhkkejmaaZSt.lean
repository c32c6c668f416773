/- The walk of the law ZoneSteps: it returns true at every slice of ints, number and bool. Conditions: the slice lies in memory. -/
import Derived.Test.YtioenakhkkejmaaZOr
namespace Go.Proofs.Ytioenakhkkejmaa
open Go.RowKit

def hasAt (l : Sh) (t : Int) : Bool := l.any fun s => s.1 == t
theorem hasAt_step (l : Sh) (k : Nat) (t : Int) (h : k < l.length) : hasAt (l.take (k + 1)) t = (hasAt (l.take k) t || shA l k == t) := by
  unfold hasAt shA
  rw [List.take_add_one, List.getElem?_eq_getElem h, List.any_append]
  simp
theorem hasAt_of {l : Sh} {o t : Int} (h : off o l (t + 1) ≠ off o l t) : hasAt l (t + 1) = true := by
  obtain ⟨s, hs, e⟩ := off_step h
  unfold hasAt
  rw [List.any_eq_true]
  exact ⟨s, hs, by rw [beq_iff_eq]; exact e⟩
theorem IsSh.at {w : World} {a : Option Addr} {n cap : Nat} {l : Sh} (h : IsSh w (.slice a n cap) l) {k : Nat} (hk : k < l.length) : ∃ b off, a = some ⟨b, off, none⟩ ∧ w.cell? ⟨b, off + k * 2, none⟩ = some (.int .i64 (shA l k)) ∧ w.cell? ⟨b, off + k * 2 + 1, none⟩ = some (.int .i64 (shO l k)) := by
  rcases h with ⟨a', cap', e, rfl⟩ | ⟨b, off, cap', e, hlt, hm, hc⟩
  · cases hk
  · cases e
    exact ⟨b, off, rfl, hc k hk⟩

set_option maxHeartbeats 4000000 in
theorem law_zsteps (v : Value) (zs : List Int) (n : Int) (far : Bool) (w : World) (hI : IsInts w v zs) (hz : InR zs) (h1 : -9223372036854775808 ≤ n) (h2 : n ≤ 9223372036854775807) :
    Calls Try.prog 8 #[v, .int .i64 n, .bool far] w (Ret (.bool true) w) := by
  have hok := zone_ok zs
  have hzl := zone_len zs
  obtain ⟨t1, t2⟩ := insK_bd n far
  have ht := fun w => zinstant_any n far w h1 h2
  have hzn := fun w h => zone_any v zs w h hz
  generalize insK n far = t0 at *
  generalize zoneO zs = o at *
  generalize zoneSh zs = sh at *
  obtain ⟨t, htt⟩ : ∃ t, t = min t0 1099511627775 := ⟨_, rfl⟩
  have t3 : -1099511627776 ≤ t := by omega
  have t4 : t ≤ 1099511627775 := by omega
  have e1 : offS (segsOf o sh) t = off o sh t := offS_segs t (by omega) sh _ o o
  have e2 : offS (segsOf o sh) (t + 1) = off o sh (t + 1) := offS_segs (t + 1) (by omega) sh _ o o
  obtain ⟨b1, b2⟩ := off_bd (t := t) hok.ch hok.1 hok.2.1
  obtain ⟨b3, b4⟩ := off_bd (t := t + 1) hok.ch hok.1 hok.2.1
  have hst := @hasAt_of sh o t
  have c1 := fun sv w' h => zlocal_any o t sv sh w' h (by rw [e1]; omega) (by rw [e1]; omega)
  have c2 := fun sv w' h => zlocal_any o (t + 1) sv sh w' h (by rw [e2]; omega) (by rw [e2]; omega)
  have c3 := fun sv w' h => zoff_any o t sv sh w' h
  have c4 := fun sv w' h => zoff_any o (t + 1) sv sh w' h
  rw [e1] at c1 c3
  rw [e2] at c2 c4
  generalize off o sh t = q at *
  generalize off o sh (t + 1) = r at *
  have m1 : 1440 * ((t + q) / 1440) + (t + q) % 1440 = t + q := by omega
  have m2 : 1440 * ((t + 1 + r) / 1440) + (t + 1 + r) % 1440 = t + 1 + r := by omega
  have n1 : -2000000000 ≤ (t + q) / 1440 := by omega
  have n2 : (t + q) / 1440 ≤ 2000000000 := by omega
  have n3 : -2000000000 ≤ (t + 1 + r) / 1440 := by omega
  have n4 : (t + 1 + r) / 1440 ≤ 2000000000 := by omega
  have n5 : 0 ≤ (t + q) % 1440 := by omega
  have n6 : (t + q) % 1440 < 1440 := by omega
  have n7 : 0 ≤ (t + 1 + r) % 1440 := by omega
  have n8 : (t + 1 + r) % 1440 < 1440 := by omega
  generalize (t + q) / 1440 = A1 at *
  generalize (t + q) % 1440 = A2 at *
  generalize (t + 1 + r) / 1440 = A3 at *
  generalize (t + 1 + r) % 1440 = A4 at *
  have g1 : (1440 * A3 + A4 == 1440 * A1 + A2 + 1 + (r - q)) = true := by rw [beq_iff_eq]; omega
  have G1 := Lib.hid g1
  clear m1 m2 g1
  have HT := Lib.hid ht; have HZ := Lib.hid hzn; have C1 := Lib.hid c1; have C2 := Lib.hid c2; have C3 := Lib.hid c3; have C4 := Lib.hid c4
  have HI := Lib.hid hI; have HTT := Lib.hid htt; have HST := Lib.hid hst
  clear ht hzn c1 c2 c3 c4 e1 e2 hI htt hst
  go_enter Try.func8, Try.ntmps8
  go_wp2_with fail
  refine (HZ.out _ HI.out).mono ?_
  rintro e w1 ⟨sv, rfl, hs, hb1⟩
  obtain ⟨sa, sc, rfl, _⟩ := hs.slice
  have hzb := ZBox.new (o := o) hs
  have hB := bl_trans hb1 (bl_alloc w1 (.cells #[.int .i64 o, .slice sa sh.length sc] 24))
  go_wp2_with fail
  refine (HT.out _).mono ?_
  rintro e w' ⟨rfl, rfl⟩
  obtain ⟨⟨c0, c1⟩, hlt, hI⟩ := hzb
  have hzb : ZBox _ w1.heap.size o _ sh := ⟨⟨c0, c1⟩, hlt, hI⟩
  go_wp2_with fail
  rw [← HTT.out]
  refine (C1.out _ _ hI).mono ?_
  rintro e w2 ⟨rfl, hb⟩
  have hzb := hzb.below hb
  have hB := bl_trans hB hb
  obtain ⟨⟨c0, c1⟩, hlt, hI⟩ := hzb
  have hzb : ZBox _ w1.heap.size o _ sh := ⟨⟨c0, c1⟩, hlt, hI⟩
  go_wp2_with fail
  refine (C2.out _ _ hI).mono ?_
  rintro e w3 ⟨rfl, hb⟩
  have hzb := hzb.below hb
  have hB := bl_trans hB hb
  obtain ⟨u0, u1, u2⟩ := hzb.up
  have U2 := Lib.hid u2
  clear c0 c1 hlt hI hb u2
  go_wp2_with fail
  have s1 : IntKind.i64.wrap (t + 1) = t + 1 := IntWalk.i64_in _ (by omega)
  have s2 : IntKind.i64.wrap (r - q) = r - q := IntWalk.i64_in _ (by omega)
  refine wp_region_up (by kernel_rfl) (by kernel_rfl) ?_
  repeat (go_big_quiet_step (fail))
  go_big_quiet_step (exact Ret.up (C4.out _ _ (U2.out _)))
  repeat (go_big_quiet_step (fail))
  go_big_quiet_step (exact Ret.up (C3.out _ _ (U2.out _)))
  repeat (go_big_quiet_step (fail))
  refine wpQuiet_nil ?_
  rintro w4 ⟨u4, hu4⟩
  have hb4 := u4.h
  rw [← hu4] at hb4
  clear hu4 u4
  have hzb := hzb.below hb4
  have hB := bl_trans hB hb4
  clear u0 u1 s1 s2 hb4
  obtain ⟨⟨c0, c1⟩, hlt, hI⟩ := hzb
  have HIS := Lib.hid hI; clear hI
  go_wp2_with fail
  go_loop [14, 15] (fun s i => ∃ k : Nat, k ≤ sh.length ∧ i = .int .i64 k ∧ s = .bool (hasAt (sh.take k) (t + 1))) (fun _ i => sh.length - (intOf i).toNat)
  case atStart => exact ⟨0, Nat.zero_le _, rfl, rfl⟩
  case round =>
    obtain ⟨k, hk, rfl, rfl⟩ := hrel
    by_cases hlt2 : k < sh.length
    · obtain ⟨b, off', rfl, d1, d2⟩ := HIS.out.at hlt2
      have hh := hasAt_step sh k (t + 1) hlt2
      generalize shA sh k = A at *
      generalize hasAt (sh.take k) (t + 1) = S at *
      have HH := Lib.hid hh; clear hh d2
      cases S
      · cases hx : (A == t + 1)
        · rw [hx] at HH
          go_wp2
          go_round
          case rel => exact ⟨k + 1, by omega, by go_num, by rw [HH.out]; rfl⟩
          case measure => simp [intOf]; omega
        · rw [hx] at HH
          go_wp2
          go_round
          case rel => exact ⟨k + 1, by omega, by go_num, by rw [HH.out]; rfl⟩
          case measure => simp [intOf]; omega
      · go_wp2
        go_round
        case rel => exact ⟨k + 1, by omega, by go_num, by rw [HH.out]; rfl⟩
        case measure => simp [intOf]; omega
    · obtain rfl : k = sh.length := by omega
      rw [List.take_length]
      have g1 := G1.out
      cases hS : hasAt sh (t + 1)
      · have hq : (r - q == 0) = true := by
          rw [beq_iff_eq]
          apply Classical.byContradiction
          intro hne
          have := HST.out (by omega)
          rw [hS] at this; cases this
        go_wp2_with fail
        refine (zlives_any _).mono ?_
        rintro e w5 ⟨rfl, hb5⟩
        go_wp2
        go_ret
        exact ⟨rfl, bl_trans hB hb5⟩
      · go_wp2_with fail
        refine (zlives_any _).mono ?_
        rintro e w5 ⟨rfl, hb5⟩
        go_wp2
        go_ret
        exact ⟨rfl, bl_trans hB hb5⟩
end Go.Proofs.Ytioenakhkkejmaa
