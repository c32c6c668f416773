/- The walk of the law TreeModel. Conditions: none. -/
import Derived.Test.YtmkhnpkbaegchaaTRfs
namespace Go.Proofs.Ytmkhnpkbaegchaa
open Go.RowKit

set_option maxRecDepth 100000 in
set_option maxHeartbeats 8000000 in
theorem law_model (vl : Value) (ls : List OpV) (vz : Value) (zs : List Int) (raw : ByteArray) (w : World) (hI : IsRow 3 encO w vl ls) (hok : ∀ x ∈ ls, OpOk x) (hZ : IsInts w vz zs) (hzr : InR zs) (_h2 : raw.size ≤ maxLen) :
    Calls Try.prog 6 #[vl, vz, .string raw] w (Ret (.bool true) w) := by
  have hky : ∀ (z : Int) W, Calls Try.prog 26 #[.int .i64 (around z 30)] W (Ret (.string (keyF (around z 30))) W) := fun z W => by
    have hbd := around_bd z (m := 30) (by omega)
    exact key_any _ W (by omega) (by omega)
  have hpk : ∀ (i : Nat) W, Below w.heap.size w W → i ≤ 100 → Calls Try.prog 28 #[vz, .int .i64 i, .int .i64 1000] W (Pur (.int .i64 (pick zs i 1000)) W) := fun i W hb hi => pick02 vz zs i 1000 W (hZ.below hb) hzr (by omega) (by omega) (by omega)
  have har : ∀ (i : Nat) W, Calls Try.prog 25 #[.int .i64 (pick zs i 1000), .int .i64 30] W (Pur (.int .i64 (around (pick zs i 1000) 30)) W) := fun i W => by
    have hbd : -9223372036854775808 ≤ pick zs i 1000 ∧ pick zs i 1000 ≤ 9223372036854775807 := by
      unfold pick
      split
      · have := around_bd (zs[i]?.getD 0) (m := 1000) (by omega); omega
      · omega
    exact around02 _ 30 W hbd.1 hbd.2 (by omega) (by omega)
  obtain ⟨pa, cap, rfl, _, hop⟩ := hI.open
  have HKY := Lib.hid hky; have HPK := Lib.hid hpk; have HAR := Lib.hid har; have HOP := Lib.hid hop; have HOK := Lib.hid hok
  clear hky hpk har hop hok hI hZ hzr
  go_enter Try.func6, Try.ntmps6
  go_wp2_with fail
  refine (new_any _).mono ?_
  rintro e w1 ⟨p, rfl, hT1, hp, hb1⟩
  clear hp
  have HT1 := Lib.hid hT1
  clear hT1
  go_wp2
  go_loopg [7, 8, 9, 10, 11] 60 (fun kx s7 s8 s9 s10 s11 wr => ∃ (i : Nat) (T : Tre), s9 = .int .i64 i ∧ s7 = ptrN T.p ∧ i ≤ 60 ∧ 60 - i ≤ kx ∧ Hid (IsT wr T) ∧ Hid (RowA wr s8 T.l) ∧ Hid (T.l.length ≤ i) ∧ Hid (Below w.heap.size w wr))
  case atStart => exact ⟨0, ⟨p, [], 0, []⟩, rfl, rfl, by omega, Nat.le_refl _, HT1, Lib.hid (World.ownsRow_nil _ _ _ _), Lib.hid (Nat.le_refl _), Lib.hid hb1⟩
  case round =>
    clear HT1 hb1
    obtain ⟨i, T, rfl, rfl, hi, hm, HT, HV, HL, HB⟩ := hrel
    obtain ⟨pv, cv, rfl⟩ := row_slice HV.out
    by_cases hlt : i < ls.length
    · by_cases hlt2 : i < 60
      · obtain ⟨x, hx⟩ : ∃ x, ls[i]? = some x := ⟨_, List.getElem?_eq_getElem hlt⟩
        have hxo := HOK.out x (List.mem_of_getElem? hx)
        obtain ⟨g, off, rfl, hg, hcell⟩ := HOP.out (by omega)
        have d0 := hcell i x hx 0 _ rfl
        have d1 := hcell i x hx 1 _ rfl
        have d2 := hcell i x hx 2 _ rfl
        rw [Nat.add_zero] at d0
        have c0 := (HB.out.cell (p := ⟨g, off + i * 3, none⟩) hg).trans d0
        have c1 := (HB.out.cell (p := ⟨g, off + i * 3 + 1, none⟩) hg).trans d1
        have c2 := (HB.out.cell (p := ⟨g, off + i * 3 + 2, none⟩) hg).trans d2
        have hch := change_any T x 30 wr HT.out hxo (by omega) (by omega) (by have := HL.out; omega)
        have hp1 : ∀ W, Below wr.heap.size wr W → Calls Try.prog 19 #[.slice pv T.l.length cv, .agg #[.int .u8 (x.a : Int), .int .i64 x.k, .int .u8 (x.v : Int)], .int .i64 30] W (RowPost (chL T.l x 30) W) := fun W hb => put1_any T.l _ x 30 W (row_below HV.out hb) HT.out.1 hxo (by omega) (by omega) (by have := HL.out; omega)
        have hln := chL_len HT.out.1 x 30
        have HCH := Lib.hid hch; have HP1 := Lib.hid hp1; have HD := Lib.hid (And.intro d0 (And.intro d1 d2)); have HLN := Lib.hid hln
        clear hch hp1 hcell hx d0 d1 d2 hln
        go_wp2_with fail
        refine HCH.out.mono ?_
        rintro e w2 ⟨T', rfl, hT', hl', _, hb2⟩
        have HT' := Lib.hid hT'; have HL' := Lib.hid hl'; have HB2 := Lib.hid hb2
        have hB2 := bl_trans HB.out hb2
        have e0 := (hB2.cell (p := ⟨g, off + i * 3, none⟩) hg).trans HD.out.1
        have e1 := (hB2.cell (p := ⟨g, off + i * 3 + 1, none⟩) hg).trans HD.out.2.1
        have e2 := (hB2.cell (p := ⟨g, off + i * 3 + 2, none⟩) hg).trans HD.out.2.2
        have HBW2 := Lib.hid hB2
        clear hT' hl' hb2 hB2 c0 c1 c2 HCH
        go_wp2_with fail
        refine (HP1.out _ HB2.out).mono ?_
        rintro e w3 ⟨v', rfl, hv', hb3⟩
        have hB3 := bl_trans HBW2.out hb3
        have hag : ∀ key u W, Below w3.heap.size w3 W → Calls Try.prog 29 #[ptrN T'.p, v', .string key, .string u] W (Ret (.bool true) W) := fun key u W hb => agrees_any T' v' key u W ((HT'.out.below hb3).below hb) (row_below (by rw [HL'.out]; exact hv') hb) (by rw [HL'.out]; have := HLN.out; have := HL.out; omega)
        have HAG := Lib.hid hag; have HV' := Lib.hid hv'; have HB3 := Lib.hid hB3; have HT3 := Lib.hid (HT'.out.below hb3)
        obtain ⟨pv3, cv3, rfl⟩ := row_slice hv'
        clear hag hv' hb3 hB3 e0 e1 e2 HP1 HT' HBW2 HB2
        have hi1 : IntKind.i64.wrap ((i : Int) + 1) = ((i + 1 : Nat) : Int) := by rw [IntWalk.i64_in _ (by omega)]; rfl
        have HPKi := Lib.hid (HPK.out i w3 HB3.out (by omega))
        go_wp2_with fail
        refine HPKi.out.mono ?_
        rintro e w' ⟨rfl, rfl⟩
        go_wp2_with fail
        refine (HAR.out _ _).mono ?_
        rintro e w' ⟨rfl, rfl⟩
        go_wp2_with fail
        refine (HKY.out _ _).mono ?_
        rintro e w4 ⟨rfl, hb4⟩
        generalize keyF (around (pick zs i 1000) 30) = KA at *
        have hPKj := HPK.out (i + 1) w4 (bl_trans HB3.out hb4) (by omega)
        have HPKj := Lib.hid hPKj
        clear hPKj
        go_wp2_with fail
        refine HPKj.out.mono ?_
        rintro e w' ⟨rfl, rfl⟩
        go_wp2_with fail
        refine (HAR.out _ _).mono ?_
        rintro e w' ⟨rfl, rfl⟩
        go_wp2_with fail
        refine (HKY.out _ _).mono ?_
        rintro e w5 ⟨rfl, hb5⟩
        have hb35 := bl_trans hb4 hb5
        clear hb4 hb5
        go_wp2_with fail
        refine (HAG.out _ _ _ hb35).mono ?_
        rintro e w6 ⟨rfl, hb6⟩
        have hb36 := bl_trans hb35 hb6
        clear hb35 hb6
        go_wp2_with fail
        refine (HAG.out _ _ _ hb36).mono ?_
        rintro e w7 ⟨rfl, hb7⟩
        have hb37 := bl_trans hb36 hb7
        clear hb36 hb7
        go_wp2_with fail
        refine (HAG.out _ _ _ hb37).mono ?_
        rintro e w8 ⟨rfl, hb8⟩
        have hb38 := bl_trans hb37 hb8
        have hb08 := bl_trans HB3.out hb38
        have hv8 : RowA w8 (.slice pv3 (chL T.l x 30).length cv3) T'.l := by rw [HL'.out]; exact row_below HV'.out hb38
        have HV8 := Lib.hid hv8
        clear hb37 hb8 hv8
        go_wp2
        go_roundg (60 - (i + 1))
        case measure => omega
        case rel => exact ⟨i + 1, T', by go_num, rfl, by omega, Nat.le_refl _, Lib.hid (HT3.out.below hb38), HV8, Lib.hid (by rw [HL'.out]; have := HLN.out; have := HL.out; omega), Lib.hid hb08⟩
      · go_wp2_with fail
        refine (lives_any _).mono ?_
        rintro e w9 ⟨rfl, hb9⟩
        go_wp2
        go_ret
        exact ⟨rfl, bl_trans HB.out hb9⟩
    · go_wp2_with fail
      refine (lives_any _).mono ?_
      rintro e w9 ⟨rfl, hb9⟩
      go_wp2
      go_ret
      exact ⟨rfl, bl_trans HB.out hb9⟩
end Go.Proofs.Ytmkhnpkbaegchaa
