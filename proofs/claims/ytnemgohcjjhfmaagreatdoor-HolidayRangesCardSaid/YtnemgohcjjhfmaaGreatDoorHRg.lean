/- The walk of the law HolidayRanges: it returns true at every input. Conditions: the numbers are ints that lie in memory, the listed tables lie in memory. -/
import Derived.Test.YtnemgohcjjhfmaaGreatDoorHLives
import Derived.Test.YtnemgohcjjhfmaaGreatDoorHMk
import Derived.Test.YtnemgohcjjhfmaaGreatDoorHLoc
import Derived.Test.YtnemgohcjjhfmaaGreatDoorHRBt
namespace Go.Proofs.YtnemgohcjjhfmaaGreatDoor
open Go.RowKit
/-- the place m of a rising list is where d would stand -/
def AtP (X : List Int) (d : Int) (m : Nat) : Prop := (∀ (i : Nat) x, i < m → X[i]? = some x → x < d) ∧ ∀ x, X[m]? = some x → d ≤ x
theorem AtP.mem {X : List Int} {d : Int} {m : Nat} (hr : X.Pairwise (· < ·)) (h : AtP X d m) : d ∈ X ↔ X[m]? = some d := by
  constructor
  · intro hd
    obtain ⟨i, hi⟩ := List.mem_iff_getElem?.1 hd
    rcases Nat.lt_trichotomy i m with g | g | g
    · exact absurd (h.1 i d g hi) (by omega)
    · rw [← g]; exact hi
    · obtain ⟨hil, e⟩ := List.getElem?_eq_some_iff.1 hi
      have hml : m < X.length := by omega
      have h1 := h.2 X[m] (List.getElem?_eq_getElem hml)
      have h2 := (List.pairwise_iff_getElem.1 hr) m i hml hil g
      omega
  · intro hm; exact List.mem_of_getElem? hm
theorem AtP.hit {X : List Int} {d : Int} {m : Nat} (hr : X.Pairwise (· < ·)) (h : AtP X d m) (hm : X[m]? = some d) : AtP X (d + 1) (m + 1) := by
  refine ⟨fun i x hi hx => ?_, fun x hx => ?_⟩
  · by_cases e : i = m
    · subst e; rw [hm] at hx; cases hx; omega
    · have := h.1 i x (by omega) hx; omega
  · obtain ⟨h1, e1⟩ := List.getElem?_eq_some_iff.1 hm
    obtain ⟨h2, e2⟩ := List.getElem?_eq_some_iff.1 hx
    have := (List.pairwise_iff_getElem.1 hr) m (m + 1) h1 h2 (by omega)
    omega
theorem AtP.miss {X : List Int} {d : Int} {m : Nat} (h : AtP X d m) (hm : ¬ X[m]? = some d) : AtP X (d + 1) m := by
  refine ⟨fun i x hi hx => by have := h.1 i x hi hx; omega, fun x hx => ?_⟩
  have h1 := h.2 x hx
  have h2 : x ≠ d := fun e => hm (by rw [hx, e])
  omega
theorem isB_mem {l : List Hol} (hv : ∀ x, x ∈ l → hvB x = true) {a b d : Int} (h0 : a ≤ d) (h1 : d ≤ b) : isB l d = decide (d ∈ btw l a b) := by
  rw [Bool.eq_iff_iff, isB_iff hv, decide_eq_true_eq, btw_iff hv]
  exact ⟨fun h => ⟨⟨h0, h1⟩, h⟩, fun h => h.2⟩
theorem at_start {l : List Hol} (hv : ∀ x, x ∈ l → hvB x = true) (a b : Int) : AtP (btw l a b) a 0 :=
  ⟨fun i x hi => absurd hi (by omega), fun x hx => ((btw_iff hv).1 (List.mem_of_getElem? hx)).1.1⟩
set_option maxRecDepth 100000 in
set_option maxHeartbeats 8000000 in
theorem law_hranges (v : Value) (zs : List Int) (fr wd : Int) (w : World) (hI : IsInts w v zs) (hz : InR zs) (hG : GoodH w) (f1 : -9223372036854775808 ≤ fr) (f2 : fr ≤ 9223372036854775807) (h1 : -9223372036854775808 ≤ wd) (h2 : wd ≤ 9223372036854775807) :
    Calls Tryz.prog 4 #[v, .int .i64 fr, .int .i64 wd] w (Ret (.bool true) w) := by
  have hmk := mk_any v zs w hI hz
  have hl6 := mkHols_len zs
  have hval := mkHols_valid zs
  generalize mkHols zs = l at *
  have hlm : l.length ≤ maxLen := by unfold maxLen; omega
  have hbt := fun v f u w hG h => btw_any v f u l w hG h (by omega) hval
  have hrb := fun v f u w h => rbtw_any v f u l w h (by omega) hval
  have his := fun v d w hG h => is_any v d l w hG h (by omega) hval
  have hA := fun w => around01 fr 3654058 w f1 f2 (by omega) (by omega)
  have hA2 := fun w => around01 fr 60000 w f1 f2 (by omega) (by omega)
  have hA3 := fun w => around01 wd 1501 w h1 h2 (by omega) (by omega)
  obtain ⟨a1, a2⟩ := around_bd fr (m := 3654058) (by omega)
  obtain ⟨a3, a4⟩ := around_bd fr (m := 60000) (by omega)
  obtain ⟨a5, a6⟩ := around_bd wd (m := 1501) (by omega)
  generalize around fr 3654058 = A at *
  generalize around fr 60000 = A2 at *
  generalize around wd 1501 = A3 at *
  have HMK := Lib.hid hmk; have HA := Lib.hid hA; have HA2 := Lib.hid hA2; have HA3 := Lib.hid hA3; have HBT := Lib.hid hbt; have HIS := Lib.hid his; have HRB := Lib.hid hrb; have HVV := Lib.hid hval
  clear hmk hA hA2 hA3 hbt hrb his hI hz hval
  go_enter Tryz.func4, Tryz.ntmps4
  go_wp2_with fail
  refine HMK.out.mono ?_
  intro e w1 hp
  obtain ⟨p, cap, rfl, hm, hb1⟩ := HolsPost.hs hp hlm
  have hG1 := hG.below hb1
  clear hp
  go_wp2_with fail
  refine (HA.out _).mono ?_
  rintro e w2 ⟨rfl, rfl⟩
  go_wp2_with fail
  refine (HA2.out _).mono ?_
  rintro e w2 ⟨rfl, rfl⟩
  go_wp2
  have bK := Blk.new w1 3 #[.int .i64 (A - 1000), .int .i64 (711000 + A2)]
  have hB := bl_trans hb1 (bl_alloc w1 (.cells #[.int .i64 (A - 1000), .int .i64 (711000 + A2)] 3))
  have hb2 := bl_alloc w1 (.cells #[.int .i64 (A - 1000), .int .i64 (711000 + A2)] 3)
  have hG1 := hG1.below hb2
  have hm := hm.below hb2
  obtain ⟨g, hg⟩ : ∃ g, g = w1.heap.size := ⟨_, rfl⟩
  rw [← hg] at bK
  obtain ⟨W1, hW1⟩ : ∃ W1, W1 = w1.alloc (.cells #[.int .i64 (A - 1000), .int .i64 (711000 + A2)] 3) := ⟨_, rfl⟩
  rw [← hW1] at bK hB hG1 hm
  rw [← hg, ← hW1]
  have HM := Lib.hid hm
  have hk0 : ∀ k : Nat, k < 2 → ∃ a : Int, -1000 ≤ a ∧ a ≤ 4000000 ∧ (#[Value.int .i64 (A - 1000), .int .i64 (711000 + A2)] : Array Value)[k]? = some (.int .i64 a) := by
    intro k hk
    match k, hk with
    | 0, _ => exact ⟨A - 1000, by omega, by omega, rfl⟩
    | 1, _ => exact ⟨711000 + A2, by omega, by omega, rfl⟩
  have HK0 := Lib.hid hk0
  clear hk0 hg hW1 hb2 hm hb1
  go_loopw [9] (fun i wr => ∃ k : Nat, k ≤ 2 ∧ i = .int .i64 k ∧ Below W1.heap.size W1 wr) (fun i _ => 100 - (intOf i).toNat)
  case atStart => exact ⟨0, by omega, rfl, bl_refl _⟩
  case round =>
    obtain ⟨k, hk, rfl, hbw⟩ := hrel
    by_cases hlt : k < 2
    · obtain ⟨a, ha1, ha2, hac⟩ := HK0.out k hlt
      have hck := (bK.below hbw bK.lt).cell k
      rw [hac] at hck
      obtain ⟨wo, rfl⟩ : ∃ wo : World, wo = wr := ⟨_, rfl⟩
      clear hac
      go_wp2_with fail
      refine (HA3.out _).mono ?_
      rintro e w3 ⟨rfl, rfl⟩
      have hbl := btw_len l a (a + A3 - 1) (by omega)
      have hbt := HBT.out (.slice p l.length cap) a (a + A3 - 1)
      have hrb := HRB.out (.slice p l.length cap) a (a + A3 - 1)
      have hri := btw_rise l a (a + A3 - 1)
      have hst := at_start HVV.out a (a + A3 - 1)
      have hme := fun d h0 h1 => isB_mem HVV.out (a := a) (b := a + A3 - 1) (d := d) h0 h1
      have HBL : Hid ((btw l a (a + A3 - 1)).length ≤ maxLen) := by show _ ≤ _; unfold maxLen; omega
      generalize btw l a (a + A3 - 1) = X at *
      have HB1 := Lib.hid hbt; have HR1 := Lib.hid hrb; have HRI := Lib.hid hri; have HST := Lib.hid hst; have HME := Lib.hid hme
      clear hbt hrb hri hst hme
      go_wp2_with fail
      refine (HB1.out _ (hG1.below hbw) (HM.out.below hbw)).mono ?_
      intro e w3 hp
      obtain ⟨pb, cb, rfl, hX1, hb⟩ := BtwPost.zs hp HBL.out
      have hbw := bl_trans hbw hb
      clear hp hb
      go_wp2_with fail
      refine (HR1.out _ (HM.out.below hbw)).mono ?_
      intro e w4 hp
      obtain ⟨pc, cc, rfl, hX2, hb⟩ := BtwPost.zs hp HBL.out
      have hbw := bl_trans hbw hb
      have hX1 := hX1.below hb
      have hsa := fun w h1 h2 => same01 (.slice pb X.length cb) (.slice pc X.length cc) X X w h1 h2
      rw [decide_eq_true rfl] at hsa
      have HSA := Lib.hid hsa
      clear hp hb hsa
      go_wp2_with fail
      refine (HSA.out _ hX1 hX2).mono ?_
      rintro e w5 ⟨rfl, hb⟩
      have hbw := bl_trans hbw hb
      have hX1 := hX1.below hb
      have HX1 := Lib.hid hX1
      clear hb hX1 hX2 hck
      have hbz := hbw.size
      go_wp2
      go_loopw [13, 14] (fun n x wr2 => ∃ (m : Nat) (d : Int), m ≤ X.length ∧ n = .int .i64 m ∧ x = .int .i64 d ∧ a ≤ d ∧ d ≤ a + 401 ∧ Hid (AtP X d m) ∧ Below w5.heap.size w5 wr2) (fun _ x _ => (a + 500 - intOf x).toNat)
      case atStart => exact ⟨0, a, Nat.zero_le _, rfl, rfl, by omega, by omega, HST, bl_refl _⟩
      case round =>
        obtain ⟨m, d, hm, rfl, rfl, d1, d2, HAT, hb5⟩ := hrel
        by_cases hd : d ≤ min (a + A3 - 1) (a + 400)
        · have hmem := HAT.out.mem HRI.out
          have hisv := HME.out d d1 (by omega)
          have his := HIS.out (.slice p l.length cap) d
          have hbw2 := hbw.trans (hb5.mono hbz)
          by_cases hml : m < X.length
          · obtain ⟨x, hx⟩ : ∃ x, X[m]? = some x := ⟨_, List.getElem?_eq_getElem hml⟩
            obtain ⟨bb, off, rfl, hlb, hcx⟩ : ∃ b off, pb = some ⟨b, off, none⟩ ∧ b < w5.heap.size ∧ wr.cell? ⟨b, off + m, none⟩ = some (.int .i64 x) := by
              rcases HX1.out with ⟨_, _, _, e⟩ | ⟨b, off, c, e, hlb, _, hc⟩
              · rw [e] at hml; exact absurd hml (by simp)
              · cases e
                refine ⟨b, off, rfl, hlb, ?_⟩
                have := hc m hml
                rw [hx] at this
                exact (hb5.cell (p := ⟨b, off + m, none⟩) hlb).trans this
            have HLM : Hid (X.length ≤ maxLen) := HBL
            by_cases hxd : x = d
            · rw [hxd] at hx hcx
              have hat := HAT.out.hit HRI.out hx
              rw [hisv, decide_eq_true (hmem.2 hx)] at his
              have hq : (d == d) = true := by simp
              have HIB := Lib.hid his; have HA9 := Lib.hid hat
              clear his hat hisv hmem hx hxd
              go_wp2_with fail
              refine (HIB.out _ (hG1.below hbw2) (HM.out.below hbw2)).mono ?_
              rintro e w6 ⟨rfl, hb⟩
              have hb6 := bl_trans hb5 hb
              go_wp2
              go_roundw
              case rel => exact ⟨m + 1, d + 1, by omega, by go_num, by go_num, by omega, by omega, HA9, hb6⟩
              case measure => simp [intOf]; omega
            · have hne : ¬ X[m]? = some d := fun h => hxd (Option.some.inj (hx.symm.trans h))
              have hat := HAT.out.miss hne
              rw [hisv, decide_eq_false (fun h => hne (hmem.1 h))] at his
              have hq : (x == d) = false := by rw [beq_eq_false_iff_ne]; exact hxd
              have HIB := Lib.hid his; have HA9 := Lib.hid hat
              clear his hat hisv hmem hx hxd hne
              go_wp2_with fail
              refine (HIB.out _ (hG1.below hbw2) (HM.out.below hbw2)).mono ?_
              rintro e w6 ⟨rfl, hb⟩
              have hb6 := bl_trans hb5 hb
              go_wp2
              go_roundw
              case rel => exact ⟨m, d + 1, by omega, by go_num, by go_num, by omega, by omega, HA9, hb6⟩
              case measure => simp [intOf]; omega
          · have hne : ¬ X[m]? = some d := by rw [List.getElem?_eq_none (by omega)]; simp
            have hat := HAT.out.miss hne
            rw [hisv, decide_eq_false (fun h => hne (hmem.1 h))] at his
            have HIB := Lib.hid his; have HA9 := Lib.hid hat
            clear his hat hisv hmem hne
            go_wp2_with fail
            refine (HIB.out _ (hG1.below hbw2) (HM.out.below hbw2)).mono ?_
            rintro e w6 ⟨rfl, hb⟩
            have hb6 := bl_trans hb5 hb
            go_wp2
            go_roundw
            case rel => exact ⟨m, d + 1, by omega, by go_num, by go_num, by omega, by omega, HA9, hb6⟩
            case measure => simp [intOf]; omega
        · go_wp2
          go_roundw
          case rel => exact ⟨k + 1, by omega, by go_num, hbw.trans (hb5.mono hbz)⟩
          case measure => simp [intOf]; omega
    · obtain rfl : k = 2 := by omega
      go_wp2_with fail
      refine (hlives_any _ (hG1.below hbw)).mono ?_
      rintro e w7 ⟨rfl, hb⟩
      go_wp2
      go_ret
      exact ⟨rfl, bl_trans hB (bl_trans hbw hb)⟩
end Go.Proofs.YtnemgohcjjhfmaaGreatDoor
