/- The walk of the law DateKeys. Conditions: the listed variables as laid. -/
import Derived.Test.YtiefjnhnceipmaaDoorDKeL
import Derived.Test.YtiefjnhnceipmaaDoorDLives
import Derived.Test.YtiefjnhnceipmaaDoorTRng
import Derived.Test.YtiefjnhnceipmaaDoorTFloor
import Derived.Test.YtiefjnhnceipmaaDoorDNum02
namespace Go.Proofs.YtiefjnhnceipmaaDoor
open Go.RowKit

theorem dayOf02 (n : Int) (w : World) (h1 : -9223372036854775808 ≤ n) (h2 : n ≤ 9223372036854775807) :
    Calls Tryd.prog 5 #[.int .i64 n] w (Pur (.int .i64 (around n 3652059)) w) := by
  obtain ⟨a1, a2⟩ := around_bd n (m := 3652059) (by omega)
  go_enter Tryd.func5, Tryd.ntmps5
  go_wp2_with fail
  refine (around02 _ _ _ h1 h2 (by omega) (by omega)).mono ?_
  rintro e w' ⟨rfl, rfl⟩
  go_wp2
  go_ret
  exact ⟨rfl, rfl⟩
theorem infoInt : (Tryd.prog.info? 3).map (fun i => (i.zero, i.size, i.bytes)) = some (some (.int .i64 0), 1, 8) := by kernel_rfl
abbrev IntRow (w : World) (B : Nat) (v : Value) (zs : List Int) : Prop := w.ownsRow B 3 1 v zs.length (zs.map (Value.int .i64))
/-- what the first loop keeps -/
structure DkRel (w : World) (N k : Nat) (t o : Value) (wr : World) (D S : List Int) (T : Tre) : Prop where
  le : k ≤ N
  le2 : k ≤ 12
  t : t = ptrN T.p
  tree : IsTF (fun b => some b ≠ o.ownBlock) wr T
  l : T.l = S.map kvD
  row : IntRow wr w.heap.size o D
  ok : DaysOk D S
  len : D.length ≤ k
  bl : Below w.heap.size w wr
theorem IntRow.ints {w : World} {B : Nat} {v : Value} {zs : List Int} (h : IntRow w B v zs) (hl : zs.length ≤ 1000000) : IsInts w v zs := IsInts.of_row h (by unfold maxLen; omega)
/-- the row of the days, grown: the tree stays -/
theorem tree_app {w w' : World} {o o' : Value} {T : Tre} {m : Nat} (h : IsTF (fun b => some b ≠ o.ownBlock) w T) (hg : w.grownBy w' o.ownBlock) (ha : o'.ownBlock = o.ownBlock ∨ o'.ownBlock = some m) (hm : w.heap.size ≤ m) : IsTF (fun b => some b ≠ o'.ownBlock) w' T := by
  refine (h.in.grown hg (fun r e hr => hr.1 e.symm)).mono ?_
  rintro b ⟨h1, h2⟩
  rcases ha with e | e
  · rw [e]; exact h1
  · rw [e]; intro q; have : b = m := Option.some.inj q; omega
theorem IsInts.open {w : World} {v : Value} {zs : List Int} (h : IsInts w v zs) : ∃ pa cap, v = .slice pa zs.length cap ∧ zs.length ≤ 9223372036854775807 ∧ (0 < zs.length → ∃ b off, pa = some ⟨b, off, none⟩ ∧ b < w.heap.size ∧ ∀ j, j < zs.length → w.cell? ⟨b, off + j, none⟩ = some (.int .i64 (zs[j]?.getD 0))) := by
  rcases h with ⟨a, cap, rfl, rfl⟩ | ⟨b, off, cap, rfl, hlt, hm, hc⟩
  · exact ⟨a, cap, rfl, Nat.zero_le _, fun h => absurd h (by simp)⟩
  · exact ⟨_, cap, rfl, hm, fun _ => ⟨b, off, rfl, hlt, hc⟩⟩
set_option maxRecDepth 100000 in
set_option maxHeartbeats 8000000 in
theorem law_dkeys (v : Value) (zs : List Int) (n : Int) (w : World) (hI : IsInts w v zs) (hz : InR zs) (hG : Good w) (h1 : -9223372036854775808 ≤ n) (h2 : n ≤ 9223372036854775807) :
    Calls Tryd.prog 3 #[v, .int .i64 n] w (Ret (.bool true) w) := by
  obtain ⟨i0, hi, hz0, hz1, hz2⟩ := info_parts infoInt
  obtain ⟨pa, pc, rfl, hlm, hop⟩ := hI.open
  have HOP := Lib.hid hop; have HZ := Lib.hid hz
  clear hI hz hop
  go_enter Tryd.func3, Tryd.ntmps3
  go_wp2_with fail
  refine (new_any _).mono ?_
  rintro e w1 ⟨p, rfl, hT, hp, hb1⟩
  have HT := Lib.hid hT
  clear hT
  go_wp2
  go_loopw [5, 6, 7] (fun t o i wr => ∃ (k : Nat) (D S : List Int) (T : Tre), i = .int .i64 k ∧ DkRel w zs.length k t o wr D S T) (fun _ _ i _ => 12 - (intOf i).toNat)
  case atStart => exact ⟨0, [], [], ⟨p, [], 0, []⟩, rfl, ⟨Nat.zero_le _, by omega, rfl, HT.out.isTF.mono (fun b _ e => by cases e), rfl, World.ownsRow_nil .., DaysOk.nil, Nat.le_refl _, hb1⟩⟩
  case round =>
    obtain ⟨k, D, S, T, rfl, hr⟩ := hrel
    have hk1 := hr.le
    have hk2 := hr.le2
    obtain rfl := hr.t
    have hrow := hr.row
    obtain ⟨oa, oc, rfl⟩ := row_slice hrow
    by_cases hlt : k < zs.length
    · by_cases h12 : k < 12
      · obtain ⟨b, off, rfl, hb, hc⟩ := HOP.out (by omega)
        have c0 : wr.cell? ⟨b, off + k, none⟩ = some (.int .i64 (zs[k]?.getD 0)) := (hr.bl.cell (p := ⟨b, off + k, none⟩) hb).trans (hc k hlt)
        have hx := HZ.out.at k
        generalize zs[k]?.getD 0 = x at *
        have hd := around_bd x (m := 3652059) (by omega)
        have hin : inR (around x 3652059) := ⟨hd.1, by omega⟩
        have K1 : ∀ W, Calls Tryd.prog 5 #[.int .i64 x] W (Pur (.int .i64 (around x 3652059)) W) := fun W => dayOf02 x W hx.1 hx.2
        generalize around x 3652059 = d at *
        have HK1 := Lib.hid K1; have HR := Lib.hid hr; have HIN := Lib.hid hin
        have hDl : D.length ≤ 12 := Nat.le_trans hr.len hr.le2
        clear K1 hr hin hx hd hc hrow
        go_wp2_with fail
        refine (HK1.out _).mono ?_
        rintro e w2 ⟨rfl, rfl⟩
        go_wp2_with fail
        refine (print_any d _ (hG.below HR.out.bl)).mono ?_
        rintro e w2 ⟨rfl, hb2⟩
        clear c0
        go_wp2_with fail
        refine (tputF_any T (kvD d) _ (HR.out.tree.below hb2) (fun b hb' e => by have := ((row_below HR.out.row hb2).lt b e.symm).2; omega) (by rw [HR.out.l, List.length_map, ← HR.out.ok.len]; omega)).mono ?_
        rintro e w3 ⟨T', rfl, hT', hl', _, _, hb3⟩
        have hrow3 := row_below (row_below HR.out.row hb2) hb3
        have hbw3 : Below w.heap.size w w3 := bl_trans (bl_trans HR.out.bl hb2) hb3
        have hl3 : T'.l = (insD S d).map kvD := by rw [hl', HR.out.l, putT_map HR.out.ok.rng HIN.out]
        have HT3 := Lib.hid (And.intro hT' hl3)
        have HO3 := Lib.hid hrow3
        clear hT' hl' hl3 hrow3
        go_wp2_with fail
        refine (has02 _ D d _ (IntRow.ints HO3.out (by omega))).mono ?_
        rintro e w4 ⟨rfl, rfl⟩
        by_cases hm : d ∈ D
        · rw [decide_eq_true hm]
          have HM := Lib.hid hm
          clear hm
          go_wp2
          go_roundw
          case rel => exact ⟨k + 1, D, insD S d, T', by go_num, ⟨by omega, by omega, rfl, HT3.out.1, HT3.out.2, HO3.out, HR.out.ok.old HM.out, by have := HR.out.len; omega, hbw3⟩⟩
          case measure => simp [intOf]; omega
        · rw [decide_eq_false hm]
          have HM := Lib.hid hm
          clear hm
          go_wp2_with (at_builtin; refine wpList_append_any_at (by rfl) (.tmp 47) (.tmp 49) 22 (by rfl) w.heap.size 3 i0 _ 1 8 Tryd.underlying22 hi hz0 hz1 hz2 rfl (by omega) _ D.length _ (by rfl) (row_below HO3.out (bl_alloc w3 _)) (.slice (some ⟨w3.heap.size, 0, none⟩) 1 1) 1 [.int .i64 d] (by rfl) (.inr ⟨_, _, rfl, rfl, (World.news_of_block (cs := #[.int .i64 d]) (t := 3) (fr := (0, 0)) (heap_alloc_new w3 _))⟩) (by simp [Value.oneCell']) (by unfold maxLen; omega) (by omega) (by simp; have := hbw3.size; omega) ?_; intro v1 w5 hown1 hgrow1 hat1)
          have hrow5 : IntRow w5 w.heap.size v1 (D ++ [d]) := by
            show w5.ownsRow _ _ _ _ _ _
            rw [List.length_append, List.map_append]; exact hown1
          have hT5 := tree_app (HT3.out.1.below (bl_alloc w3 (.cells #[.int .i64 d] 3))) hgrow1 hat1 (Nat.le_refl _)
          have hbw5 : Below w.heap.size w w5 := (bl_trans hbw3 (bl_alloc w3 (.cells #[.int .i64 d] 3))).grown hgrow1 (by simp; have := hbw3.size; omega) (fun r e => (HO3.out.lt r e).1)
          go_roundw
          case rel => exact ⟨k + 1, D ++ [d], insD S d, T', by go_num, ⟨by omega, by omega, rfl, hT5, HT3.out.2, hrow5, HR.out.ok.new HIN.out HM.out, by have := HR.out.len; simp; omega, hbw5⟩⟩
          case measure => simp [intOf]; omega
      · skip
        have hDl : D.length ≤ 12 := Nat.le_trans hr.len hr.le2
        have HR := Lib.hid hr
        clear hr hrow
        go_wp2_with fail
        refine (range_any T ⟨#[]⟩ ⟨#[]⟩ _ HR.out.tree.isT (by rw [HR.out.l, List.length_map, ← HR.out.ok.len]; omega)).mono ?_
        rintro e w2 ⟨v2, rfl, hown2, hb2⟩
        rw [rangeL_all, HR.out.l, List.length_map] at hown2
        obtain ⟨qa, qc, rfl⟩ := row_slice hown2
        have hIR : IsRow 2 encKV w2 (.slice qa S.length qc) (S.map kvD) := IsRow.of_row encKV_len (by rw [List.length_map]; exact hown2) (by rw [List.length_map, ← HR.out.ok.len]; unfold maxLen; omega)
        obtain ⟨qa', qc', hv, hlq, hopq⟩ := hIR.open
        rw [List.length_map] at hv hopq
        obtain ⟨rfl, rfl⟩ : qa = qa' ∧ qc = qc' := by simpa using hv
        have HOQ := Lib.hid hopq
        have hSl : S.length ≤ 12 := by rw [← HR.out.ok.len]; exact hDl
        have hrow2 := row_below HR.out.row hb2
        have HRW := Lib.hid hrow2
        have hbw2 : Below w.heap.size w w2 := bl_trans HR.out.bl hb2
        have hda := around_bd n (m := 3652059) (by omega)
        have hina : inR (around n 3652059) := ⟨hda.1, by omega⟩
        have KA : ∀ W, Calls Tryd.prog 5 #[.int .i64 n] W (Pur (.int .i64 (around n 3652059)) W) := fun W => dayOf02 n W h1 h2
        generalize around n 3652059 = a at *
        have HKA := Lib.hid KA; have HINA := Lib.hid hina
        have HT2 := Lib.hid (And.intro (HR.out.tree.isT.below hb2) HR.out.l)
        have HOK := Lib.hid HR.out.ok
        have hlD := HR.out.ok.len
        clear KA hina hda hown2 hIR hv hlq hopq hrow2 HR
        have KH : ∀ W x, Below w2.heap.size w2 W → x ∈ S → Calls Tryd.prog 8 #[.slice oa D.length oc, .int .i64 x] W (Pur (.bool true) W) := fun W x hb hx => by
          have := has02 _ D x W (IntRow.ints (row_below HRW.out hb) (by omega))
          rwa [decide_eq_true ((HOK.out.mem x).2 hx)] at this
        have HKH := Lib.hid KH
        rw [hlD] at HKH
        clear KH
        rw [hlD]
        clear hlD HRW hDl
        go_wp2
        go_loopw [10, 11, 12] (fun la be i wr2 => ∃ k2 : Nat, k2 ≤ S.length ∧ i = .int .i64 k2 ∧ la = .int .i64 (lastI (S.take k2)) ∧ be = .int .i64 (bestI (S.take k2) a) ∧ Below w2.heap.size w2 wr2) (fun _ _ i _ => 100 - (intOf i).toNat)
        case atStart => exact ⟨0, Nat.zero_le _, rfl, rfl, rfl, bl_refl _⟩
        case round =>
          obtain ⟨k2, hk2', rfl, rfl, rfl, hbk⟩ := hrel
          by_cases hlt2 : k2 < S.length
          · obtain ⟨b2, off2, rfl, hb2', hc2⟩ := HOQ.out (by omega)
            obtain ⟨x, hx⟩ : ∃ x, S[k2]? = some x := ⟨_, List.getElem?_eq_getElem hlt2⟩
            have hxS : x ∈ S := List.mem_of_getElem? hx
            have hxr := HOK.out.rng x hxS
            have c0 : wr.cell? ⟨b2, off2 + k2 * 2, none⟩ = some (.string (pk x)) := (hbk.cell (p := ⟨b2, off2 + k2 * 2, none⟩) hb2').trans (hc2 k2 (kvD x) (by rw [List.getElem?_map, hx]; rfl) 0 _ rfl)
            have hll := last_lt HOK.out.srt HOK.out.rng hx
            have hle : lastI (S.take (k2 + 1)) = x := by rw [take_snoc hx, last_snoc]
            have hbe : bestI (S.take (k2 + 1)) a = if x ≤ a then x else bestI (S.take k2) a := by rw [take_snoc hx, best_snoc]
            have KP : ∀ W, Good W → Calls Tryd.prog 10 #[.string (pk x)] W (Ret (.tuple #[.int .i64 x, .int .i64 0]) W) := fun W hW => by
              have := parse_any (pk x) W hW
              obtain ⟨e1, e2⟩ := parse_print hxr.1 hxr.2
              rw [show paN (pk x) = x from e1, show paE (pk x) = 0 from e2] at this
              exact this
            generalize lastI (S.take k2) = la at *
            generalize bestI (S.take k2) a = be at *
            have HLE := Lib.hid hle; have HBE := Lib.hid hbe; have HXS := Lib.hid hxS; have HKP := Lib.hid KP
            have hnl : ¬ x ≤ la := by omega
            clear hle hbe hxS KP hx hc2 hxr
            go_wp2_with fail
            refine (HKP.out _ (hG.below (bl_trans hbw2 hbk))).mono ?_
            rintro e w3 ⟨rfl, hb3⟩
            have hbk3 := bl_trans hbk hb3
            clear c0
            go_wp2_with fail
            refine (HKH.out _ x hbk3 HXS.out).mono ?_
            rintro e w4 ⟨rfl, rfl⟩
            go_wp2_with fail
            refine (HKA.out _).mono ?_
            rintro e w4 ⟨rfl, rfl⟩
            by_cases hxa : x ≤ a
            · have hbe2 : bestI (S.take (k2 + 1)) a = x := by rw [HBE.out, if_pos hxa]
              have HB2 := Lib.hid hbe2
              clear hbe2
              go_wp2
              go_roundw
              case rel => exact ⟨k2 + 1, by omega, by go_num, by rw [HLE.out], by rw [HB2.out], hbk3⟩
              case measure => simp [intOf]; omega
            · have hbe2 : bestI (S.take (k2 + 1)) a = be := by rw [HBE.out, if_neg hxa]
              have HB2 := Lib.hid hbe2
              clear hbe2
              go_wp2
              go_roundw
              case rel => exact ⟨k2 + 1, by omega, by go_num, by rw [HLE.out], by rw [HB2.out], hbk3⟩
              case measure => simp [intOf]; omega
          · obtain rfl : k2 = S.length := by omega
            rw [List.take_length]
            have hfl := flr_best HOK.out.rng HINA.out
            have KF : ∀ W, Below w2.heap.size w2 W → Calls Tryd.prog 11 #[ptrN T.p, .string (pk a)] W (FlrPost (flrL (S.map kvD) (pk a)) W) := fun W hb => by
              have := floor_any T (pk a) W (HT2.out.1.below hb) (by rw [HT2.out.2, List.length_map]; omega)
              rwa [HT2.out.2] at this
            have KQ : ∀ W, Good W → Calls Tryd.prog 7 #[.int .i64 a] W (Ret (.string (pk a)) W) := fun W hW => print_any a W hW
            have HKQ := Lib.hid KQ
            rcases hfl with ⟨e1, e2⟩ | ⟨b, hbr, e1, e2⟩
            · rw [e1] at KF
              rw [e2]
              have HKF := Lib.hid KF
              clear KF KQ e1 e2
              go_wp2_with fail
              refine (HKA.out _).mono ?_
              rintro e w3 ⟨rfl, rfl⟩
              go_wp2_with fail
              refine (HKQ.out _ (hG.below (bl_trans hbw2 hbk))).mono ?_
              rintro e w3 ⟨rfl, hb3⟩
              go_wp2_with fail
              refine (HKF.out _ (bl_trans hbk hb3)).mono ?_
              rintro e w4 ⟨rfl, hb4⟩
              have hbw4 := bl_trans (bl_trans (bl_trans hbw2 hbk) hb3) hb4
              go_upto_region 29 with (fail)
              have hbw5 := bl_trans hbw4 (bl_alloc w4 (.cells #[.string ⟨#[]⟩, .string ⟨#[]⟩] 35))
              have hG5 := hG.below hbw5
              refine wp_region_up (by kernel_rfl) (by kernel_rfl) ?_
              repeat (go_big_quiet_step (fail))
              go_big_quiet_step (exact Ret.up (lives_any _ (hG5.below (UpW.h _))))
              repeat (go_big_quiet_step (fail))
              refine wpQuiet_nil ?_
              rintro w5 ⟨⟨_, hb5⟩, rfl⟩
              go_wp2_with fail
              go_ret
              exact ⟨rfl, bl_trans hbw5 hb5⟩
            · rw [e1] at KF
              rw [e2]
              have KB : ∀ W, Good W → Calls Tryd.prog 7 #[.int .i64 b] W (Ret (.string (pk b)) W) := fun W hW => print_any b W hW
              have KF2 : ∀ W, Below w2.heap.size w2 W → Calls Tryd.prog 11 #[ptrN T.p, .string (pk a)] W (Ret (.tuple #[.agg #[.string (pk b), .string ⟨#[]⟩], .bool true]) W) := KF
              have HKF := Lib.hid KF2; have HKB := Lib.hid KB; clear KF2
              have hb0 : 0 ≤ b := hbr.1
              clear KF KQ KB e1 e2
              go_wp2_with fail
              refine (HKA.out _).mono ?_
              rintro e w3 ⟨rfl, rfl⟩
              go_wp2_with fail
              refine (HKQ.out _ (hG.below (bl_trans hbw2 hbk))).mono ?_
              rintro e w3 ⟨rfl, hb3⟩
              go_wp2_with fail
              refine (HKF.out _ (bl_trans hbk hb3)).mono ?_
              rintro e w4 ⟨rfl, hb4⟩
              have hbw4 := bl_trans (bl_trans (bl_trans hbw2 hbk) hb3) hb4
              go_upto_region 29 with (fail)
              have hbw5 := bl_trans hbw4 (bl_alloc w4 (.cells #[.string (pk b), .string ⟨#[]⟩] 35))
              have hG5 := hG.below hbw5
              have bX : Blk (w4.alloc (.cells #[.string (pk b), .string ⟨#[]⟩] 35)) w4.heap.size 35 #[.string (pk b), .string ⟨#[]⟩] := Blk.new _ _ _
              have c1 : ∀ u : UpW (w4.alloc (.cells #[.string (pk b), .string ⟨#[]⟩] 35)), u.w.cell? ⟨w4.heap.size, 0, none⟩ = some (.string (pk b)) := fun u => (bX.below u.h bX.lt).cell 0
              refine wp_region_up (by kernel_rfl) (by kernel_rfl) ?_
              repeat (go_big_quiet_step (fail))
              go_big_quiet_step (exact Ret.up (HKB.out _ (hG5.below (UpW.h _))))
              repeat (go_big_quiet_step (fail))
              go_big_quiet_step (exact Ret.up (lives_any _ (hG5.below (UpW.h _))))
              repeat (go_big_quiet_step (fail))
              refine wpQuiet_nil ?_
              rintro w5 ⟨⟨_, hb5⟩, rfl⟩
              go_wp2_with fail
              go_ret
              exact ⟨rfl, bl_trans hbw5 hb5⟩
    · skip
      have hDl : D.length ≤ 12 := Nat.le_trans hr.len hr.le2
      have HR := Lib.hid hr
      clear hr hrow
      go_wp2_with fail
      refine (range_any T ⟨#[]⟩ ⟨#[]⟩ _ HR.out.tree.isT (by rw [HR.out.l, List.length_map, ← HR.out.ok.len]; omega)).mono ?_
      rintro e w2 ⟨v2, rfl, hown2, hb2⟩
      rw [rangeL_all, HR.out.l, List.length_map] at hown2
      obtain ⟨qa, qc, rfl⟩ := row_slice hown2
      have hIR : IsRow 2 encKV w2 (.slice qa S.length qc) (S.map kvD) := IsRow.of_row encKV_len (by rw [List.length_map]; exact hown2) (by rw [List.length_map, ← HR.out.ok.len]; unfold maxLen; omega)
      obtain ⟨qa', qc', hv, hlq, hopq⟩ := hIR.open
      rw [List.length_map] at hv hopq
      obtain ⟨rfl, rfl⟩ : qa = qa' ∧ qc = qc' := by simpa using hv
      have HOQ := Lib.hid hopq
      have hSl : S.length ≤ 12 := by rw [← HR.out.ok.len]; exact hDl
      have hrow2 := row_below HR.out.row hb2
      have HRW := Lib.hid hrow2
      have hbw2 : Below w.heap.size w w2 := bl_trans HR.out.bl hb2
      have hda := around_bd n (m := 3652059) (by omega)
      have hina : inR (around n 3652059) := ⟨hda.1, by omega⟩
      have KA : ∀ W, Calls Tryd.prog 5 #[.int .i64 n] W (Pur (.int .i64 (around n 3652059)) W) := fun W => dayOf02 n W h1 h2
      generalize around n 3652059 = a at *
      have HKA := Lib.hid KA; have HINA := Lib.hid hina
      have HT2 := Lib.hid (And.intro (HR.out.tree.isT.below hb2) HR.out.l)
      have HOK := Lib.hid HR.out.ok
      have hlD := HR.out.ok.len
      clear KA hina hda hown2 hIR hv hlq hopq hrow2 HR
      have KH : ∀ W x, Below w2.heap.size w2 W → x ∈ S → Calls Tryd.prog 8 #[.slice oa D.length oc, .int .i64 x] W (Pur (.bool true) W) := fun W x hb hx => by
        have := has02 _ D x W (IntRow.ints (row_below HRW.out hb) (by omega))
        rwa [decide_eq_true ((HOK.out.mem x).2 hx)] at this
      have HKH := Lib.hid KH
      rw [hlD] at HKH
      clear KH
      rw [hlD]
      clear hlD HRW hDl
      go_wp2
      go_loopw [10, 11, 12] (fun la be i wr2 => ∃ k2 : Nat, k2 ≤ S.length ∧ i = .int .i64 k2 ∧ la = .int .i64 (lastI (S.take k2)) ∧ be = .int .i64 (bestI (S.take k2) a) ∧ Below w2.heap.size w2 wr2) (fun _ _ i _ => 100 - (intOf i).toNat)
      case atStart => exact ⟨0, Nat.zero_le _, rfl, rfl, rfl, bl_refl _⟩
      case round =>
        obtain ⟨k2, hk2', rfl, rfl, rfl, hbk⟩ := hrel
        by_cases hlt2 : k2 < S.length
        · obtain ⟨b2, off2, rfl, hb2', hc2⟩ := HOQ.out (by omega)
          obtain ⟨x, hx⟩ : ∃ x, S[k2]? = some x := ⟨_, List.getElem?_eq_getElem hlt2⟩
          have hxS : x ∈ S := List.mem_of_getElem? hx
          have hxr := HOK.out.rng x hxS
          have c0 : wr.cell? ⟨b2, off2 + k2 * 2, none⟩ = some (.string (pk x)) := (hbk.cell (p := ⟨b2, off2 + k2 * 2, none⟩) hb2').trans (hc2 k2 (kvD x) (by rw [List.getElem?_map, hx]; rfl) 0 _ rfl)
          have hll := last_lt HOK.out.srt HOK.out.rng hx
          have hle : lastI (S.take (k2 + 1)) = x := by rw [take_snoc hx, last_snoc]
          have hbe : bestI (S.take (k2 + 1)) a = if x ≤ a then x else bestI (S.take k2) a := by rw [take_snoc hx, best_snoc]
          have KP : ∀ W, Good W → Calls Tryd.prog 10 #[.string (pk x)] W (Ret (.tuple #[.int .i64 x, .int .i64 0]) W) := fun W hW => by
            have := parse_any (pk x) W hW
            obtain ⟨e1, e2⟩ := parse_print hxr.1 hxr.2
            rw [show paN (pk x) = x from e1, show paE (pk x) = 0 from e2] at this
            exact this
          generalize lastI (S.take k2) = la at *
          generalize bestI (S.take k2) a = be at *
          have HLE := Lib.hid hle; have HBE := Lib.hid hbe; have HXS := Lib.hid hxS; have HKP := Lib.hid KP
          have hnl : ¬ x ≤ la := by omega
          clear hle hbe hxS KP hx hc2 hxr
          go_wp2_with fail
          refine (HKP.out _ (hG.below (bl_trans hbw2 hbk))).mono ?_
          rintro e w3 ⟨rfl, hb3⟩
          have hbk3 := bl_trans hbk hb3
          clear c0
          go_wp2_with fail
          refine (HKH.out _ x hbk3 HXS.out).mono ?_
          rintro e w4 ⟨rfl, rfl⟩
          go_wp2_with fail
          refine (HKA.out _).mono ?_
          rintro e w4 ⟨rfl, rfl⟩
          by_cases hxa : x ≤ a
          · have hbe2 : bestI (S.take (k2 + 1)) a = x := by rw [HBE.out, if_pos hxa]
            have HB2 := Lib.hid hbe2
            clear hbe2
            go_wp2
            go_roundw
            case rel => exact ⟨k2 + 1, by omega, by go_num, by rw [HLE.out], by rw [HB2.out], hbk3⟩
            case measure => simp [intOf]; omega
          · have hbe2 : bestI (S.take (k2 + 1)) a = be := by rw [HBE.out, if_neg hxa]
            have HB2 := Lib.hid hbe2
            clear hbe2
            go_wp2
            go_roundw
            case rel => exact ⟨k2 + 1, by omega, by go_num, by rw [HLE.out], by rw [HB2.out], hbk3⟩
            case measure => simp [intOf]; omega
        · obtain rfl : k2 = S.length := by omega
          rw [List.take_length]
          have hfl := flr_best HOK.out.rng HINA.out
          have KF : ∀ W, Below w2.heap.size w2 W → Calls Tryd.prog 11 #[ptrN T.p, .string (pk a)] W (FlrPost (flrL (S.map kvD) (pk a)) W) := fun W hb => by
            have := floor_any T (pk a) W (HT2.out.1.below hb) (by rw [HT2.out.2, List.length_map]; omega)
            rwa [HT2.out.2] at this
          have KQ : ∀ W, Good W → Calls Tryd.prog 7 #[.int .i64 a] W (Ret (.string (pk a)) W) := fun W hW => print_any a W hW
          have HKQ := Lib.hid KQ
          rcases hfl with ⟨e1, e2⟩ | ⟨b, hbr, e1, e2⟩
          · rw [e1] at KF
            rw [e2]
            have HKF := Lib.hid KF
            clear KF KQ e1 e2
            go_wp2_with fail
            refine (HKA.out _).mono ?_
            rintro e w3 ⟨rfl, rfl⟩
            go_wp2_with fail
            refine (HKQ.out _ (hG.below (bl_trans hbw2 hbk))).mono ?_
            rintro e w3 ⟨rfl, hb3⟩
            go_wp2_with fail
            refine (HKF.out _ (bl_trans hbk hb3)).mono ?_
            rintro e w4 ⟨rfl, hb4⟩
            have hbw4 := bl_trans (bl_trans (bl_trans hbw2 hbk) hb3) hb4
            go_upto_region 29 with (fail)
            have hbw5 := bl_trans hbw4 (bl_alloc w4 (.cells #[.string ⟨#[]⟩, .string ⟨#[]⟩] 35))
            have hG5 := hG.below hbw5
            refine wp_region_up (by kernel_rfl) (by kernel_rfl) ?_
            repeat (go_big_quiet_step (fail))
            go_big_quiet_step (exact Ret.up (lives_any _ (hG5.below (UpW.h _))))
            repeat (go_big_quiet_step (fail))
            refine wpQuiet_nil ?_
            rintro w5 ⟨⟨_, hb5⟩, rfl⟩
            go_wp2_with fail
            go_ret
            exact ⟨rfl, bl_trans hbw5 hb5⟩
          · rw [e1] at KF
            rw [e2]
            have KB : ∀ W, Good W → Calls Tryd.prog 7 #[.int .i64 b] W (Ret (.string (pk b)) W) := fun W hW => print_any b W hW
            have KF2 : ∀ W, Below w2.heap.size w2 W → Calls Tryd.prog 11 #[ptrN T.p, .string (pk a)] W (Ret (.tuple #[.agg #[.string (pk b), .string ⟨#[]⟩], .bool true]) W) := KF
            have HKF := Lib.hid KF2; have HKB := Lib.hid KB; clear KF2
            have hb0 : 0 ≤ b := hbr.1
            clear KF KQ KB e1 e2
            go_wp2_with fail
            refine (HKA.out _).mono ?_
            rintro e w3 ⟨rfl, rfl⟩
            go_wp2_with fail
            refine (HKQ.out _ (hG.below (bl_trans hbw2 hbk))).mono ?_
            rintro e w3 ⟨rfl, hb3⟩
            go_wp2_with fail
            refine (HKF.out _ (bl_trans hbk hb3)).mono ?_
            rintro e w4 ⟨rfl, hb4⟩
            have hbw4 := bl_trans (bl_trans (bl_trans hbw2 hbk) hb3) hb4
            go_upto_region 29 with (fail)
            have hbw5 := bl_trans hbw4 (bl_alloc w4 (.cells #[.string (pk b), .string ⟨#[]⟩] 35))
            have hG5 := hG.below hbw5
            have bX : Blk (w4.alloc (.cells #[.string (pk b), .string ⟨#[]⟩] 35)) w4.heap.size 35 #[.string (pk b), .string ⟨#[]⟩] := Blk.new _ _ _
            have c1 : ∀ u : UpW (w4.alloc (.cells #[.string (pk b), .string ⟨#[]⟩] 35)), u.w.cell? ⟨w4.heap.size, 0, none⟩ = some (.string (pk b)) := fun u => (bX.below u.h bX.lt).cell 0
            refine wp_region_up (by kernel_rfl) (by kernel_rfl) ?_
            repeat (go_big_quiet_step (fail))
            go_big_quiet_step (exact Ret.up (HKB.out _ (hG5.below (UpW.h _))))
            repeat (go_big_quiet_step (fail))
            go_big_quiet_step (exact Ret.up (lives_any _ (hG5.below (UpW.h _))))
            repeat (go_big_quiet_step (fail))
            refine wpQuiet_nil ?_
            rintro w5 ⟨⟨_, hb5⟩, rfl⟩
            go_wp2_with fail
            go_ret
            exact ⟨rfl, bl_trans hbw5 hb5⟩
end Go.Proofs.YtiefjnhnceipmaaDoor
