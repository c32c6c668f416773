/- Several texts in one, each with its own word at its head. Conditions: stated there. -/
import Derived.Test.YtmkhnpkbaegchaaTRfs
import Derived.StillTailTactics
import Derived.Deep.RegionHeld3
/- The walk of built. Conditions: the list of changes lies in memory. -/
namespace Go.Proofs.Ytmkhnpkbaegchaa
open Go.RowKit

theorem IsRow.take {α : Type} {k : Nat} {enc : α → List Value} {w : World} {a : Option Addr} {c : Nat} {l : List α} (h : IsRow k enc w (.slice a l.length c) l) {j : Nat} (hj : j ≤ l.length) (hl : l.length ≤ maxLen) : IsRow k enc w (.slice a j c) (l.take j) := by
  rcases h with ⟨_, _, h1, h2⟩ | ⟨b, off, cap, h1, h2, h3, h4⟩
  · have : l = [] := by simpa using h2
    subst this
    obtain rfl : j = 0 := by simpa using hj
    exact .inl ⟨a, c, rfl, rfl⟩
  · cases h1
    have hjl : (l.take j).length = j := by rw [List.length_take]; omega
    refine .inr ⟨b, off, c, by rw [hjl], h2, by rw [hjl]; omega, fun i x hx u v hu => ?_⟩
    refine h4 i x ?_ u v hu
    rw [List.getElem?_take] at hx
    split at hx
    · exact hx
    · cases hx
theorem caps_of {α : Type} {k : Nat} {enc : α → List Value} {w : World} {s : Option Addr} {n c : Nat} {l : List α} (h : IsRow k enc w (.slice s n c) l) (hc : n ≤ c) : ∃ a c', Value.slice s n c = .slice a l.length c' ∧ l.length ≤ c' := by
  obtain ⟨a, cap, e, _⟩ := h.slice
  injection e with e1 e2 e3
  subst e2
  exact ⟨s, c, rfl, hc⟩
set_option maxRecDepth 100000 in
set_option maxHeartbeats 8000000 in
theorem built_any (vl : Value) (ls : List OpV) (most : Int) (w : World) (hI : IsRow 3 encO w vl ls) (hok : ∀ x ∈ ls, OpOk x) (hn : ls.length ≤ 1000) (hm1 : 1 ≤ most) (hm2 : most ≤ 4000) :
    Calls Try.prog 18 #[vl, .int .i64 most] w (ManyPost ls.length w) := by
  obtain ⟨pa, cap, rfl, _, hop⟩ := hI.open
  have HOP := Lib.hid hop; have HOK := Lib.hid hok
  clear hop hok hI
  go_enter Try.func18, Try.ntmps18
  go_wp2_with fail
  refine (new_any _).mono ?_
  rintro e w1 ⟨p, rfl, hT1, hp, hb1⟩
  clear hp
  have HT1 := Lib.hid hT1
  clear hT1
  go_wp2
  go_loopg [7, 8, 9] ls.length (fun kx s7 s8 s9 wr => ∃ (i : Nat) (T : Tre), s9 = .int .i64 i ∧ s7 = ptrN T.p ∧ i ≤ ls.length ∧ ls.length - i ≤ kx ∧ Hid (IsT wr T) ∧ Hid (RowA wr s8 T.l) ∧ Hid (T.l.length ≤ i) ∧ Hid (Below w.heap.size w wr))
  case atStart => exact ⟨0, ⟨p, [], 0, []⟩, rfl, rfl, by omega, Nat.le_refl _, HT1, Lib.hid (World.ownsRow_nil _ _ _ _), Lib.hid (Nat.le_refl _), Lib.hid hb1⟩
  case round =>
    clear HT1 hb1
    obtain ⟨i, T, rfl, rfl, hi, hm, HT, HV, HL, HB⟩ := hrel
    obtain ⟨pv, cv, rfl⟩ := row_slice HV.out
    by_cases hlt : i < ls.length
    · obtain ⟨x, hx⟩ : ∃ x, ls[i]? = some x := ⟨_, List.getElem?_eq_getElem hlt⟩
      have hxo := HOK.out x (List.mem_of_getElem? hx)
      obtain ⟨g, off, rfl, hg, hcell⟩ := HOP.out (by omega)
      have d0 := hcell i x hx 0 _ rfl
      have d1 := hcell i x hx 1 _ rfl
      have d2 := hcell i x hx 2 _ rfl
      rw [Nat.add_zero] at d0
      have c0 := (HB.out.cell (p := ⟨g, off + i * 3, none⟩) hg).trans d0
      have c1 := (HB.out.cell (p := ⟨g, off + i * 3 + 1, none⟩) hg).trans d1
      have c2 := (HB.out.cell (p := ⟨g, off + i * 3 + 2, none⟩) hg).trans d2
      have hch := change_any T x most wr HT.out hxo hm1 hm2 (by have := HL.out; omega)
      have hp1 : ∀ W, Below wr.heap.size wr W → Calls Try.prog 19 #[.slice pv T.l.length cv, .agg #[.int .u8 (x.a : Int), .int .i64 x.k, .int .u8 (x.v : Int)], .int .i64 most] W (RowPost (chL T.l x most) W) := fun W hb => put1_any T.l _ x most W (row_below HV.out hb) HT.out.1 hxo hm1 hm2 (by have := HL.out; omega)
      have hln := chL_len HT.out.1 x most
      have HCH := Lib.hid hch; have HP1 := Lib.hid hp1; have HD := Lib.hid (And.intro d0 (And.intro d1 d2)); have HLN := Lib.hid hln
      clear hch hp1 hcell hx d0 d1 d2 hln
      go_wp2_with fail
      refine HCH.out.mono ?_
      rintro e w2 ⟨T', rfl, hT', hl', _, hb2⟩
      have HT' := Lib.hid hT'; have HL' := Lib.hid hl'; have HB2 := Lib.hid hb2
      have hB2 := bl_trans HB.out hb2
      have e0 := (hB2.cell (p := ⟨g, off + i * 3, none⟩) hg).trans HD.out.1
      have e1 := (hB2.cell (p := ⟨g, off + i * 3 + 1, none⟩) hg).trans HD.out.2.1
      have e2 := (hB2.cell (p := ⟨g, off + i * 3 + 2, none⟩) hg).trans HD.out.2.2
      have HBW2 := Lib.hid hB2
      clear hT' hl' hb2 hB2 c0 c1 c2 HCH
      go_wp2_with fail
      refine (HP1.out _ HB2.out).mono ?_
      rintro e w3 ⟨v', rfl, hv', hb3⟩
      have HV' := Lib.hid hv'
      have hT3 := HT'.out.below hb3
      have HT3 := Lib.hid hT3
      have HB3 := Lib.hid (bl_trans HBW2.out hb3)
      clear hv' hb3 hT3 e0 e1 e2
      go_wp2
      go_roundg (ls.length - (i + 1))
      case measure => omega
      case rel => exact ⟨i + 1, T', by go_num, rfl, by omega, Nat.le_refl _, HT3, Lib.hid (by rw [HL'.out]; exact HV'.out), Lib.hid (by rw [HL'.out]; have := HLN.out; have := HL.out; omega), HB3⟩
    · obtain rfl : i = ls.length := by omega
      go_wp2
      go_ret3
      exact ⟨T, _, rfl, HT.out, HV.out, HL.out, HB.out⟩
end Go.Proofs.Ytmkhnpkbaegchaa
/- The walk of the law TreePermits. Conditions: none. -/
namespace Go.Proofs.Ytmkhnpkbaegchaa
open Go.RowKit

set_option maxRecDepth 100000 in
set_option maxHeartbeats 8000000 in
theorem law_permits (vl : Value) (ls : List OpV) (key value : ByteArray) (more : Int) (w : World) (hI : IsRow 3 encO w vl ls) (hok : ∀ x ∈ ls, OpOk x) (hcap : ∃ a c, vl = .slice a ls.length c ∧ ls.length ≤ c) (hk : key.size ≤ maxLen) (hv : value.size ≤ maxLen) (hn1 : -9223372036854775808 ≤ more) (hn2 : more ≤ 9223372036854775807) :
    Calls Try.prog 8 #[vl, .string key, .string value, .int .i64 more] w (Ret (.bool true) w) := by
  obtain ⟨pa, cap, rfl, hc⟩ := hcap
  have hlm : ls.length ≤ maxLen := hI.slice.choose_spec.choose_spec.2
  have hms : maxLen = 9223372036854775807 := rfl
  have hlm2 : ls.length ≤ 9223372036854775807 := by rw [← hms]; exact hlm
  obtain ⟨c, hcc⟩ : ∃ c : Nat, around more 20 = c := ⟨(around more 20).toNat, by have := around_bd more (m := 20) (by omega); omega⟩
  obtain ⟨d, hdd⟩ : ∃ d : Nat, around more 10 = d := ⟨(around more 10).toNat, by have := around_bd more (m := 10) (by omega); omega⟩
  have hc2 : c ≤ 19 := by have := around_bd more (m := 20) (by omega); omega
  have hd2 : d ≤ 9 := by have := around_bd more (m := 10) (by omega); omega
  have K1 : ∀ w, Calls Try.prog 25 #[.int .i64 more, .int .i64 20] w (Pur (.int .i64 (c : Int)) w) := fun w => by rw [← hcc]; exact around02 more 20 w hn1 hn2 (by omega) (by omega)
  have K2 : ∀ w, Calls Try.prog 25 #[.int .i64 more, .int .i64 10] w (Pur (.int .i64 (d : Int)) w) := fun w => by rw [← hdd]; exact around02 more 10 w hn1 hn2 (by omega) (by omega)
  obtain ⟨j, hj⟩ : ∃ j : Nat, j = min ls.length 20 := ⟨_, rfl⟩
  have hjl : j ≤ ls.length := by omega
  have hmin : min (ls.length : Int) 20 = (j : Int) := by omega
  have K3 : Calls Try.prog 18 #[.slice pa j cap, .int .i64 10] w (ManyPost (ls.take j).length w) := built_any _ (ls.take j) 10 w (hI.take hjl hlm) (fun x hx => hok x (List.mem_of_mem_take hx)) (by rw [List.length_take]; omega) (by omega) (by omega)
  have hjc : j ≤ cap := by omega
  have hj20 : (ls.take j).length ≤ 20 := by rw [List.length_take]; omega
  have HK1 := Lib.hid K1; have HK2 := Lib.hid K2; have HK3 := Lib.hid K3; have HMS := Lib.hid hms
  rw [hms] at hk hv
  clear K1 K2 K3 hcc hdd hn1 hn2 hI hok hj hms hlm
  go_enter Try.func8, Try.ntmps8
  go_wp2_with fail
  refine HK3.out.mono ?_
  rintro e w1 ⟨T, v, rfl, hT, hvv, hl, hb1⟩
  have HT := Lib.hid hT; have HV := Lib.hid hvv; have HL := Lib.hid (Nat.le_trans hl hj20)
  obtain ⟨pv, cv, rfl⟩ := row_slice hvv
  clear hT hvv hl hj20 HK3 hmin hjc hjl
  go_wp2
  go_loopg [12] (100 - key.size) (fun kx s12 wr => ∃ s : ByteArray, s12 = .string s ∧ s.size ≤ 9223372036854775807 ∧ 100 - s.size ≤ kx ∧ wr = w1)
  case atStart => exact ⟨key, rfl, hk, Nat.le_refl _, rfl⟩
  case round =>
    obtain ⟨lg, rfl, hls, hm, hwr⟩ := hrel
    obtain rfl := hwr.symm
    by_cases hlt : lg.size < 50 + c
    · have hadd : (lg ++ ⟨#[122]⟩).size = lg.size + 1 := by rw [ByteArray.size_append]; rfl
      go_wp2_with fail
      refine (HK1.out _).mono ?_
      rintro e w' ⟨rfl, rfl⟩
      go_wp2
      go_roundg (100 - (lg.size + 1))
      case measure => omega
      case rel => exact ⟨lg ++ ⟨#[122]⟩, rfl, by rw [hadd]; omega, by rw [hadd]; exact Nat.le_refl _, rfl⟩
    · go_wp2_with fail
      refine (HK1.out _).mono ?_
      rintro e w' ⟨rfl, rfl⟩
      go_wp2
      go_loopg [13] (1100 - value.size) (fun kx s13 wr => ∃ s : ByteArray, s13 = .string s ∧ s.size ≤ 9223372036854775807 ∧ 1100 - s.size ≤ kx ∧ wr = w1)
      case atStart => exact ⟨value, rfl, hv, Nat.le_refl _, rfl⟩
      case round =>
        obtain ⟨bg, rfl, hbs, hm2, hwr2⟩ := hrel
        obtain rfl := hwr2.symm
        by_cases hlt2 : bg.size < 995 + d
        · have hadd : (bg ++ ⟨#[121]⟩).size = bg.size + 1 := by rw [ByteArray.size_append]; rfl
          go_wp2_with fail
          refine (HK2.out _).mono ?_
          rintro e w' ⟨rfl, rfl⟩
          go_wp2
          go_roundg (1100 - (bg.size + 1))
          case measure => omega
          case rel => exact ⟨bg ++ ⟨#[121]⟩, rfl, by rw [hadd]; omega, by rw [hadd]; exact Nat.le_refl _, rfl⟩
        · go_wp2_with fail
          refine (HK2.out _).mono ?_
          rintro e w' ⟨rfl, rfl⟩
          have bK0 := (Blk.new w1 9 #[.string key, .string lg, .string ⟨#[]⟩]).alloc (.cells #[.string value, .string bg] 9)
          have bV0 := Blk.new (w1.alloc (.cells #[.string key, .string lg, .string ⟨#[]⟩] 9)) 9 #[.string value, .string bg]
          have hb0 := bl_trans (bl_alloc w1 (.cells #[.string key, .string lg, .string ⟨#[]⟩] 9)) (bl_alloc _ (.cells #[.string value, .string bg] 9))
          go_upto_region 12 with (fail)
          clear hlt hlt2 hm hm2 hls hbs
          obtain ⟨W0, hW0⟩ : ∃ W0, W0 = (w1.alloc (.cells #[.string key, .string lg, .string ⟨#[]⟩] 9)).alloc (.cells #[.string value, .string bg] 9) := ⟨_, rfl⟩
          obtain ⟨Kb, hKb⟩ : ∃ Kb, Kb = w1.heap.size := ⟨_, rfl⟩
          obtain ⟨Vb, hVb⟩ : ∃ Vb, Vb = w1.heap.size + 1 := ⟨_, rfl⟩
          have hVb' : (w1.alloc (.cells #[.string key, .string lg, .string ⟨#[]⟩] 9)).heap.size = Vb := by rw [hVb]; simp
          rw [hVb', ← hW0] at bV0
          rw [← hKb, ← hW0] at bK0
          rw [← hW0] at hb0
          rw [← hW0, ← hVb, ← hKb]
          have HB0 := Lib.hid hb0; have BK := Lib.hid bK0; have BV := Lib.hid bV0
          clear hW0 hKb hVb hVb' bK0 bV0 hb0
          go_wp2
          go_loopg [16, 17, 18, 19, 20] 3 (fun kx s16 s17 s18 s19 s20 wr => ∃ i : Nat, s16 = .int .i64 i ∧ i ≤ 3 ∧ 3 - i ≤ kx ∧ Hid (Below W0.heap.size W0 wr))
          case atStart => exact ⟨0, rfl, by omega, Nat.le_refl _, Lib.hid (bl_refl _)⟩
          case round =>
            obtain ⟨i, rfl, hi, hm3, HBi⟩ := hrel
            by_cases hi3 : i < 3
            · obtain ⟨kk, hkk⟩ : ∃ kk, ∀ W, Below W0.heap.size W0 W → W.cell? ⟨Kb, i, none⟩ = some (.string kk) := by
                match i, hi3 with
                | 0, _ => exact ⟨key, fun W hb => ((BK.out.below hb BK.out.lt).cell 0)⟩
                | 1, _ => exact ⟨lg, fun W hb => ((BK.out.below hb BK.out.lt).cell 1)⟩
                | 2, _ => exact ⟨⟨#[]⟩, fun W hb => ((BK.out.below hb BK.out.lt).cell 2)⟩
              have HKK := Lib.hid hkk
              clear hkk
              obtain ⟨wi, rfl⟩ : ∃ wi, wi = wr := ⟨_, rfl⟩
              go_wp2
              have d3 : decide ((i : Int) < 3) = true := decide_eq_true (by omega)
              rw [d3]
              clear d3
              go_loopg [17, 18, 19, 20] 2 (fun kx s17 s18 s19 s20 wr => ∃ k : Nat, s17 = .int .i64 k ∧ k ≤ 2 ∧ 2 - k ≤ kx ∧ Hid (Below W0.heap.size W0 wr))
              case atStart => exact ⟨0, rfl, by omega, Nat.le_refl _, HBi⟩
              case round =>
                clear HBi
                obtain ⟨k, rfl, hkl, hm4, HBk⟩ := hrel
                by_cases hk2 : k < 2
                · obtain ⟨vv, hvv⟩ : ∃ vv, ∀ W, Below W0.heap.size W0 W → W.cell? ⟨Vb, k, none⟩ = some (.string vv) := by
                    match k, hk2 with
                    | 0, _ => exact ⟨value, fun W hb => ((BV.out.below hb BV.out.lt).cell 0)⟩
                    | 1, _ => exact ⟨bg, fun W hb => ((BV.out.below hb BV.out.lt).cell 1)⟩
                  have HVV := Lib.hid hvv
                  clear hvv
                  have k0 := HKK.out wr HBk.out
                  have v0 := HVV.out wr HBk.out
                  have hB1 := bl_trans HB0.out HBk.out
                  have hput : ∀ W, Below wr.heap.size wr W → Calls Try.prog 24 #[ptrN T.p, .string kk, .string vv] W (TPutPost T ⟨kk, vv⟩ W) := fun W hb => tput_any T ⟨kk, vv⟩ W (HT.out.below (bl_trans hB1 hb)) (by have := HL.out; omega)
                  have hrp : ∀ W, Below wr.heap.size wr W → Calls Try.prog 32 #[.slice pv T.l.length cv, .string kk, .string vv] W (RowPost (putT T.l ⟨kk, vv⟩) W) := fun W hb => rput_any T.l (.slice pv T.l.length cv) ⟨kk, vv⟩ W (row_below HV.out (bl_trans hB1 hb)) HT.out.1 (by have := HL.out; omega)
                  have hln := putT_len HT.out.1 ⟨kk, vv⟩
                  have HPUT := Lib.hid hput; have HRP := Lib.hid hrp; have HLN := Lib.hid hln
                  clear hput hrp hln hB1
                  go_upto_region 18 with (fail)
                  refine wp_region_still_tail 9 (by kernel_rfl) (by kernel_rfl) ?_
                  simp only [List.take_succ_cons, List.take_zero, List.drop_succ_cons, List.drop_zero]
                  change wpStill _ _ (wr.drew) (fun a' => wpList _ _ _ _ a' (wr.drew)) _ _
                  iterate 9 still_step
                  refine wpStill_nil ?_
                  go_wp2_with fail
                  refine (HPUT.out _ (bl_drew _)).mono ?_
                  rintro e w2 ⟨T', rfl, hT', hl', _, _, hb2⟩
                  have hB2 := bl_trans (bl_drew wr) hb2
                  have HT' := Lib.hid hT'; have HL' := Lib.hid hl'; have HB2 := Lib.hid hB2
                  have hB02 := bl_trans HBk.out hB2
                  have HB02 := Lib.hid hB02
                  have k2 := HKK.out w2 hB02
                  have v2 := HVV.out w2 hB02
                  clear hT' hl' hb2 hB2 hB02 k0 v0 HPUT
                  go_upto_region 19 with (fail)
                  refine wp_region_still_tail 9 (by kernel_rfl) (by kernel_rfl) ?_
                  simp only [List.take_succ_cons, List.take_zero, List.drop_succ_cons, List.drop_zero]
                  change wpStill _ _ (w2.drew) (fun a' => wpList _ _ _ _ a' (w2.drew)) _ _
                  iterate 9 still_step
                  refine wpStill_nil ?_
                  go_wp2_with fail
                  refine (HRP.out _ (bl_trans HB2.out (bl_drew _))).mono ?_
                  rintro e w3 ⟨v', rfl, hv', hb3⟩
                  have hB23 := bl_trans (bl_drew w2) hb3
                  have hT3 := HT'.out.below hB23
                  have hB03 := bl_trans HB02.out hB23
                  have hq : T'.l.length ≤ 1000 := by rw [HL'.out]; have := HLN.out; have := HL.out; omega
                  rw [← HL'.out] at hv'
                  have hs' := hT3.1
                  have hag : ∀ W x u, Below w3.heap.size w3 W → Calls Try.prog 29 #[ptrN T'.p, v', .string x, .string u] W (Ret (.bool true) W) := fun W x u hb => agrees_any T' v' x u W (hT3.below hb) (row_below hv' hb) (by omega)
                  have hdel : ∀ W, Below w3.heap.size w3 W → Calls Try.prog 23 #[ptrN T'.p, .string kk] W (FDelPost Any T' kk W) := fun W hb => tdelF_any T' kk W (hT3.below hb).isTF (fun _ _ => trivial) (by omega)
                  have hrd : ∀ W, Below w3.heap.size w3 W → Calls Try.prog 33 #[v', .string kk] W (RowPost (delL T'.l kk) W) := fun W hb => rdel_any T'.l v' kk W (row_below hv' hb) hs' (by omega)
                  have hdl := delL_len hs' kk
                  have k3 := HKK.out w3 hB03
                  have HAG := Lib.hid hag; have HDEL := Lib.hid hdel; have HRD := Lib.hid hrd; have HB03 := Lib.hid hB03; have HDL := Lib.hid hdl; have HQ := Lib.hid hq
                  obtain ⟨pv', cv', rfl⟩ := row_slice hv'
                  clear hag hdel hrd hdl hB23 hB03 hT3 hv' hb3 k2 v2 hs' hq HRP HB2 HB02
                  go_wp2_with fail
                  refine (HAG.out _ _ _ (bl_refl _)).mono ?_
                  rintro e w4 ⟨rfl, hb4⟩
                  have k4 := HKK.out w4 (bl_trans HB03.out hb4)
                  clear k3
                  go_wp2_with fail
                  refine (HDEL.out _ hb4).mono ?_
                  rintro e w5 ⟨Z, rfl, hZ, hlZ, _, _, hb5⟩
                  have hb35 := bl_trans hb4 hb5
                  have HB05 := Lib.hid (bl_trans HB03.out hb35)
                  have hrd5 : ∀ W, Below w5.heap.size w5 W → Calls Try.prog 33 #[.slice pv' T'.l.length cv', .string kk] W (RowPost (delL T'.l kk) W) := fun W hb => HRD.out W (bl_trans hb35 hb)
                  have hag5 : ∀ W v, Below w5.heap.size w5 W → RowA W v (delL T'.l kk) → Calls Try.prog 29 #[ptrN Z.p, v, .string kk, .string ⟨#[]⟩] W (Ret (.bool true) W) := fun W v hb hv => agrees_any Z v kk ⟨#[]⟩ W (hZ.isT.below hb) (by rw [hlZ]; exact hv) (by rw [hlZ]; have := HDL.out; have := HQ.out; omega)
                  have k5 := HKK.out w5 HB05.out
                  have HRD5 := Lib.hid hrd5; have HAG5 := Lib.hid hag5
                  clear hb4 hb5 hb35 hZ hlZ hrd5 hag5 k4 HRD HDEL HAG
                  go_upto_region 23 with (fail)
                  go_region_held3 (fun w' => w'.cell? ⟨Kb, i, none⟩ = some (.string kk)) (first | go_keep | exact HKK.out _ (bl_trans HB05.out (bl_drew _)) | exact HKK.out _ (bl_trans HB05.out (bl_trans (bl_drew _) hb6)) | exact HKK.out _ (bl_trans HB05.out (bl_trans (bl_trans (bl_drew _) hb6) hb7))) (first | ((with_reducible refine (HRD5.out _ (bl_drew _)).mono ?_); rintro e w6 ⟨v6, rfl, hv6, hb6⟩) | ((with_reducible refine (HAG5.out _ _ (bl_trans (bl_drew _) hb6) hv6).mono ?_); rintro e w7 ⟨rfl, hb7⟩))
                  all_goals
                    have hB7 := bl_trans HB05.out (bl_trans (bl_trans (bl_drew w5) hb6) hb7)
                    go_wp2
                    go_roundg (2 - (k + 1))
                    case measure => omega
                    case rel => exact ⟨k + 1, by go_num, by omega, Nat.le_refl _, Lib.hid hB7⟩
                · go_wp2
                  go_roundg (3 - (i + 1))
                  case measure => omega
                  case rel => exact ⟨i + 1, by go_num, by omega, Nat.le_refl _, HBk⟩
            · go_wp2_with fail
              refine (lives_any _).mono ?_
              rintro e w9 ⟨rfl, hb9⟩
              go_wp2
              go_ret
              exact ⟨rfl, bl_trans hb1 (bl_trans (bl_trans HB0.out HBi.out) hb9)⟩
end Go.Proofs.Ytmkhnpkbaegchaa
