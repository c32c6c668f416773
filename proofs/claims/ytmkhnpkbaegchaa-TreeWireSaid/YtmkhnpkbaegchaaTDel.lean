/- The walks of slices.Delete at pairs and at nodes: one element taken out. Conditions: the slice is a row of the call's own. -/
import Derived.Test.YtmkhnpkbaegchaaTCopy
import Derived.Test.YtmkhnpkbaegchaaKCopy
import Derived.Deep.RegionLaw
namespace Go.Proofs.Ytmkhnpkbaegchaa
open Go.RowKit

def DelPost {α : Type} (E k : Nat) (enc : α → List Value) (B : Nat) (L : List α) (i : Nat) (v : Value) (w : World) (e : Ending) (w' : World) : Prop :=
  ∃ v', e = .returned v' ∧ w'.ownsRow B E k v' (L.length - 1) (flatE enc (L.eraseIdx i)) ∧ w.grownBy w' v.ownBlock ∧ v'.ownBlock = v.ownBlock

set_option maxRecDepth 100000 in
set_option maxHeartbeats 4000000 in
theorem delP_any (L : List KV) (B i : Nat) (v : Value) (w : World) (hown : w.ownsRow B 63 2 v L.length (flatE encKV L)) (hi : i < L.length) (hl : L.length ≤ 1000000) :
    Calls Try.prog 64 #[v, .int .i64 i, .int .i64 ((i : Int) + 1)] w (DelPost 63 2 encKV B L i v w) := by
  rcases hown.2 with ⟨rfl, hn⟩ | ⟨g, cap, cur, rfl, hg1, hh, hnc, hcm, hsz, htk⟩
  · omega
  have hms : maxLen = 9223372036854775807 := rfl
  obtain ⟨i0, hi0, hz0, hzs, hzb⟩ := info_parts infoP
  have hzv : ∀ w, (zeroValue 63).run Try.prog w = .ok (.agg #[.string ⟨#[]⟩, .string ⟨#[]⟩]) w := fun w => by simp [zeroValue, typeInfo, hi0, hz0]
  have hcl : ∀ j, (flatE encKV (L.drop j)).length = (L.length - j) * 2 := fun j => by rw [flatE_len encKV_len, List.length_drop]
  have hcL := flatE_len encKV_len L
  -- the cells that are moved
  obtain ⟨A, hA, hsrc⟩ : ∃ A : Addr, (if cap = i + 1 then some (⟨g, 0, none⟩ : Addr) else some ⟨g, (i + 1) * 2, none⟩) = some A ∧ Hid (∀ t u, (flatE encKV (L.drop (i + 1)))[t]? = some u → w.drew.cell? (A.add t) = some u) := by
    by_cases h : cap = i + 1
    · refine ⟨⟨g, 0, none⟩, by simp [h], fun t u hu => ?_⟩
      have h0 : flatE encKV (L.drop (i + 1)) = [] := by rw [List.drop_eq_nil_of_le (by omega)]; rfl
      rw [h0] at hu; simp at hu
    · refine ⟨⟨g, (i + 1) * 2, none⟩, by simp [h], fun t u hu => ?_⟩
      rw [Go.WideShapes.add_plain]
      refine blk_cells (show Blk w.drew g 63 cur from hh) htk _ u ?_
      rw [flatE_drop encKV_len, List.getElem?_drop] at hu
      have e : (i + 1) * 2 = (i + 1) * 2 := by omega
      rw [e]; exact hu
  have s1 : Hid ((flatE encKV (L.drop (i + 1))).length = (L.length - (i + 1)) * 2) := hcl (i + 1)
  have s2 : Hid (∀ u ∈ flatE encKV (L.drop (i + 1)), u.oneCell' = true) := one_flat encKV_one _
  have s3 : Hid (∀ t, t < (flatE encKV (L.drop (i + 1))).length → (w.drew.cell? ⟨g, 0 + i * 2 + t, none⟩).isSome = true ∧ w.drew.frozen? ⟨g, 0 + i * 2 + t, none⟩ = false) := fun t ht => by
    have hb : Blk w.drew g 63 cur := hh
    rw [hcl] at ht
    exact ⟨by rw [hb.cell, Array.getElem?_eq_getElem (by omega)]; rfl, hb.frozen _⟩
  obtain ⟨W1, hW1⟩ : ∃ W1, W1 = w.drew.setCells g (0 + i * 2) (flatE encKV (L.drop (i + 1))) := ⟨_, rfl⟩
  obtain ⟨c1, hc1⟩ : ∃ c1 : List Value, c1 = cur.toList.take (i * 2) ++ flatE encKV (L.drop (i + 1)) ++ cur.toList.drop (i * 2 + (flatE encKV (L.drop (i + 1))).length) := ⟨_, rfl⟩
  have hl1 : c1.length = cap * 2 := by
    rw [hc1]
    simp only [List.length_append, List.length_take, List.length_drop, hcl, Array.length_toList, hsz]
    omega
  have hW1' : W1 = w.drew.setRow g c1.toArray := by
    rw [hW1, setCells_row (P := Try.prog) (show Blk w.drew g 63 cur from hh) (by rw [hcl, hsz]; omega) s2.out, hc1, Nat.zero_add]
  have b1 : Blk W1 g 63 c1.toArray := by rw [hW1']; exact Blk.setRow (show Blk w.drew g 63 cur from hh) _
  have hg2 : w.grownBy W1 (some g) := by rw [hW1']; exact (⟨rfl, rfl, rfl, Nat.le_refl _, fun _ _ _ => rfl⟩ : w.grownBy w.drew (some g)).trans (grown_setRow _ _ _)
  obtain ⟨c2, hc2⟩ : ∃ c2 : List Value, c2 = c1.take ((L.length - 1) * 2) ++ (.agg #[.string ⟨#[]⟩, .string ⟨#[]⟩] : Value).cells.toList ++ c1.drop ((L.length - 1) * 2 + (.agg #[.string ⟨#[]⟩, .string ⟨#[]⟩] : Value).cells.size) := ⟨_, rfl⟩
  have hclr : ∀ ty, (Builtin.clear_ #[27] ty #[.slice (some ⟨g, (i + (L.length - (i + 1))) * 2, none⟩) (L.length - (i + (L.length - (i + 1)))) (cap - (i + (L.length - (i + 1))))]).run Try.prog W1 = .ok (.tuple #[]) (W1.setRow g c2.toArray) := fun ty => by
    have e1 : L.length - (i + (L.length - (i + 1))) = 1 := by omega
    have e2 : (i + (L.length - (i + 1))) * 2 = (L.length - 1) * 2 := by omega
    rw [e1, e2, run_clear_one Try.underlying27 hzv b1 (by simp [hl1, Value.cells]; omega) (by intro u hu; simp [Value.cells] at hu; subst hu; rfl), hc2]
  have b2 : Blk (W1.setRow g c2.toArray) g 63 c2.toArray := b1.setRow _
  have hg3 := hg2.trans (grown_setRow W1 g c2.toArray)
  have hzl : (.agg #[.string ⟨#[]⟩, .string ⟨#[]⟩] : Value).cells.size = 2 := rfl
  have hl2 : c2.length = cap * 2 := by
    rw [hc2]
    simp only [List.length_append, List.length_take, List.length_drop, hl1, Array.length_toList, hzl]
    omega
  have ht0 : cur.toList.take (i * 2) = flatE encKV (L.take i) := by
    rw [flatE_take encKV_len, ← htk, List.take_take, Nat.min_eq_left (Nat.mul_le_mul_right _ (by omega))]
  have ht2 : c2.take ((L.length - 1) * 2) = flatE encKV (L.eraseIdx i) := by
    have e1 : c2.take ((L.length - 1) * 2) = c1.take ((L.length - 1) * 2) := by
      rw [hc2, List.append_assoc, List.take_append, List.length_take, hl1, show (L.length - 1) * 2 - min ((L.length - 1) * 2) (cap * 2) = 0 by omega, List.take_zero, List.append_nil, List.take_take, Nat.min_self]
    have e2 : (cur.toList.take (i * 2) ++ flatE encKV (L.drop (i + 1))).length = (L.length - 1) * 2 := by
      rw [List.length_append, List.length_take, hcl, Array.length_toList, hsz]; omega
    rw [e1, hc1, List.take_append, e2, Nat.sub_self, List.take_zero, List.append_nil, List.take_of_length_le (by omega), ht0, List.eraseIdx_eq_take_drop_succ, flatE_append]
  have hfin : DelPost 63 2 encKV B L i (.slice (some ⟨g, 0, none⟩) L.length cap) w (.returned (.slice (some ⟨g, 0, none⟩) (i + (L.length - (i + 1))) cap)) (W1.setRow g c2.toArray) := by
    have e : i + (L.length - (i + 1)) = L.length - 1 := by omega
    refine ⟨_, by rw [e], ⟨?_, .inr ⟨g, cap, c2.toArray, rfl, hg1, b2, by omega, hcm, by simpa using hl2, by simpa using ht2⟩⟩, hg3, rfl⟩
    rw [flatE_len encKV_len, List.length_eraseIdx_of_lt hi]
  have HFIN := Lib.hid hfin; have HCLR := Lib.hid hclr
  have hW : Hid (W1 = w.drew.setCells g (0 + i * 2) (flatE encKV (L.drop (i + 1)))) := hW1
  have hcap0 : cap ≤ 9223372036854775807 := by omega
  have hic : i ≤ cap := by omega
  have hjc : i + 1 ≤ cap := by omega
  have hin : i + 1 ≤ L.length := by omega
  have hsum : i + (L.length - (i + 1)) ≤ cap := by omega
  have htn : ((i : Int) + 1).toNat = i + 1 := by omega
  have hb1 : (0 : Int) ≤ (i : Int) + 1 := by omega
  have hb2 : (i : Int) + 1 ≤ (L.length : Int) := by omega
  have hb3 : ¬ ((i : Int) = (i : Int) + 1) := by omega
  have hb4 : (i : Int) ≤ (i : Int) + 1 := by omega
  have hb5 : (L.length : Int) ≤ (cap : Int) := by omega
  have hb6 : ((i + (L.length - (i + 1)) : Nat) : Int) ≤ (L.length : Int) := by omega
  clear hfin hclr hW1 hW1' hc1 hc2 b1 b2 hg2 hg3 hl1 hl2 ht0 ht2 hzl hzv hcl hcL hh htk hsz hown hms hcm hzb hz0
  go_enter Try.func64, Try.ntmps64
  go_wp2_with fail
  go_region_law (refine step_append_room rfl (.tmp 22) (.tmp 25) 27 rfl 63 i0 2 Try.underlying27 hi0 hzs g 0 i cap (by simp [Act.eval, Act.put]) A (L.length - (i + 1)) (cap - (i + 1)) (flatE encKV (L.drop (i + 1))) (by simp [Act.eval, Act.put]) s1.out hsrc.out s2.out (by omega) s3.out ?_; rw [← hW.out])
  go_wp2
  rw [HCLR.out]
  simp only [Result.andThen]
  rw [Oper.upon_value]
  go_wp2
  go_ret
  exact HFIN.out

set_option maxRecDepth 100000 in
set_option maxHeartbeats 4000000 in
theorem delK_any (L : List Kid) (B i : Nat) (v : Value) (w : World) (hown : w.ownsRow B 85 1 v L.length (flatE encK L)) (hi : i < L.length) (hl : L.length ≤ 1000000) :
    Calls Try.prog 74 #[v, .int .i64 i, .int .i64 ((i : Int) + 1)] w (DelPost 85 1 encK B L i v w) := by
  rcases hown.2 with ⟨rfl, hn⟩ | ⟨g, cap, cur, rfl, hg1, hh, hnc, hcm, hsz, htk⟩
  · omega
  have hms : maxLen = 9223372036854775807 := rfl
  obtain ⟨i0, hi0, hz0, hzs, hzb⟩ := info_parts infoK
  have hzv : ∀ w, (zeroValue 85).run Try.prog w = .ok (.pointer none) w := fun w => by simp [zeroValue, typeInfo, hi0, hz0]
  have hcl : ∀ j, (flatE encK (L.drop j)).length = (L.length - j) * 1 := fun j => by rw [flatE_len encK_len, List.length_drop]
  have hcL := flatE_len encK_len L
  -- the cells that are moved
  obtain ⟨A, hA, hsrc⟩ : ∃ A : Addr, (if cap = i + 1 then some (⟨g, 0, none⟩ : Addr) else some ⟨g, (i + 1), none⟩) = some A ∧ Hid (∀ t u, (flatE encK (L.drop (i + 1)))[t]? = some u → w.drew.cell? (A.add t) = some u) := by
    by_cases h : cap = i + 1
    · refine ⟨⟨g, 0, none⟩, by simp [h], fun t u hu => ?_⟩
      have h0 : flatE encK (L.drop (i + 1)) = [] := by rw [List.drop_eq_nil_of_le (by omega)]; rfl
      rw [h0] at hu; simp at hu
    · refine ⟨⟨g, (i + 1), none⟩, by simp [h], fun t u hu => ?_⟩
      rw [Go.WideShapes.add_plain]
      refine blk_cells (show Blk w.drew g 85 cur from hh) htk _ u ?_
      rw [flatE_drop encK_len, List.getElem?_drop] at hu
      have e : (i + 1) = (i + 1) * 1 := by omega
      rw [e]; exact hu
  have s1 : Hid ((flatE encK (L.drop (i + 1))).length = (L.length - (i + 1)) * 1) := hcl (i + 1)
  have s2 : Hid (∀ u ∈ flatE encK (L.drop (i + 1)), u.oneCell' = true) := one_flat encK_one _
  have s3 : Hid (∀ t, t < (flatE encK (L.drop (i + 1))).length → (w.drew.cell? ⟨g, 0 + i * 1 + t, none⟩).isSome = true ∧ w.drew.frozen? ⟨g, 0 + i * 1 + t, none⟩ = false) := fun t ht => by
    have hb : Blk w.drew g 85 cur := hh
    rw [hcl] at ht
    exact ⟨by rw [hb.cell, Array.getElem?_eq_getElem (by omega)]; rfl, hb.frozen _⟩
  obtain ⟨W1, hW1⟩ : ∃ W1, W1 = w.drew.setCells g (0 + i * 1) (flatE encK (L.drop (i + 1))) := ⟨_, rfl⟩
  obtain ⟨c1, hc1⟩ : ∃ c1 : List Value, c1 = cur.toList.take (i * 1) ++ flatE encK (L.drop (i + 1)) ++ cur.toList.drop (i * 1 + (flatE encK (L.drop (i + 1))).length) := ⟨_, rfl⟩
  have hl1 : c1.length = cap * 1 := by
    rw [hc1]
    simp only [List.length_append, List.length_take, List.length_drop, hcl, Array.length_toList, hsz]
    omega
  have hW1' : W1 = w.drew.setRow g c1.toArray := by
    rw [hW1, setCells_row (P := Try.prog) (show Blk w.drew g 85 cur from hh) (by rw [hcl, hsz]; omega) s2.out, hc1, Nat.zero_add]
  have b1 : Blk W1 g 85 c1.toArray := by rw [hW1']; exact Blk.setRow (show Blk w.drew g 85 cur from hh) _
  have hg2 : w.grownBy W1 (some g) := by rw [hW1']; exact (⟨rfl, rfl, rfl, Nat.le_refl _, fun _ _ _ => rfl⟩ : w.grownBy w.drew (some g)).trans (grown_setRow _ _ _)
  obtain ⟨c2, hc2⟩ : ∃ c2 : List Value, c2 = c1.take ((L.length - 1) * 1) ++ (.pointer none : Value).cells.toList ++ c1.drop ((L.length - 1) * 1 + (.pointer none : Value).cells.size) := ⟨_, rfl⟩
  have hclr : ∀ ty, (Builtin.clear_ #[92] ty #[.slice (some ⟨g, (i + (L.length - (i + 1))), none⟩) (L.length - (i + (L.length - (i + 1)))) (cap - (i + (L.length - (i + 1))))]).run Try.prog W1 = .ok (.tuple #[]) (W1.setRow g c2.toArray) := fun ty => by
    have e1 : L.length - (i + (L.length - (i + 1))) = 1 := by omega
    have e2 : (i + (L.length - (i + 1))) = (L.length - 1) * 1 := by omega
    rw [e1, e2, run_clear_one Try.underlying92 hzv b1 (by simp [hl1, Value.cells]; omega) (by intro u hu; simp [Value.cells] at hu; subst hu; rfl), hc2]
  have b2 : Blk (W1.setRow g c2.toArray) g 85 c2.toArray := b1.setRow _
  have hg3 := hg2.trans (grown_setRow W1 g c2.toArray)
  have hzl : (.pointer none : Value).cells.size = 1 := rfl
  have hl2 : c2.length = cap * 1 := by
    rw [hc2]
    simp only [List.length_append, List.length_take, List.length_drop, hl1, Array.length_toList, hzl]
    omega
  have ht0 : cur.toList.take (i * 1) = flatE encK (L.take i) := by
    rw [flatE_take encK_len, ← htk, List.take_take, Nat.min_eq_left (Nat.mul_le_mul_right _ (by omega))]
  have ht2 : c2.take ((L.length - 1) * 1) = flatE encK (L.eraseIdx i) := by
    have e1 : c2.take ((L.length - 1) * 1) = c1.take ((L.length - 1) * 1) := by
      rw [hc2, List.append_assoc, List.take_append, List.length_take, hl1, show (L.length - 1) * 1 - min ((L.length - 1) * 1) (cap * 1) = 0 by omega, List.take_zero, List.append_nil, List.take_take, Nat.min_self]
    have e2 : (cur.toList.take (i * 1) ++ flatE encK (L.drop (i + 1))).length = (L.length - 1) * 1 := by
      rw [List.length_append, List.length_take, hcl, Array.length_toList, hsz]; omega
    rw [e1, hc1, List.take_append, e2, Nat.sub_self, List.take_zero, List.append_nil, List.take_of_length_le (by omega), ht0, List.eraseIdx_eq_take_drop_succ, flatE_append]
  have hfin : DelPost 85 1 encK B L i (.slice (some ⟨g, 0, none⟩) L.length cap) w (.returned (.slice (some ⟨g, 0, none⟩) (i + (L.length - (i + 1))) cap)) (W1.setRow g c2.toArray) := by
    have e : i + (L.length - (i + 1)) = L.length - 1 := by omega
    refine ⟨_, by rw [e], ⟨?_, .inr ⟨g, cap, c2.toArray, rfl, hg1, b2, by omega, hcm, by simpa using hl2, by simpa using ht2⟩⟩, hg3, rfl⟩
    rw [flatE_len encK_len, List.length_eraseIdx_of_lt hi]
  have HFIN := Lib.hid hfin; have HCLR := Lib.hid hclr
  have hW : Hid (W1 = w.drew.setCells g (0 + i * 1) (flatE encK (L.drop (i + 1)))) := hW1
  have hcap0 : cap ≤ 9223372036854775807 := by omega
  have hic : i ≤ cap := by omega
  have hjc : i + 1 ≤ cap := by omega
  have hin : i + 1 ≤ L.length := by omega
  have hsum : i + (L.length - (i + 1)) ≤ cap := by omega
  have htn : ((i : Int) + 1).toNat = i + 1 := by omega
  have hb1 : (0 : Int) ≤ (i : Int) + 1 := by omega
  have hb2 : (i : Int) + 1 ≤ (L.length : Int) := by omega
  have hb3 : ¬ ((i : Int) = (i : Int) + 1) := by omega
  have hb4 : (i : Int) ≤ (i : Int) + 1 := by omega
  have hb5 : (L.length : Int) ≤ (cap : Int) := by omega
  have hb6 : ((i + (L.length - (i + 1)) : Nat) : Int) ≤ (L.length : Int) := by omega
  clear hfin hclr hW1 hW1' hc1 hc2 b1 b2 hg2 hg3 hl1 hl2 ht0 ht2 hzl hzv hcl hcL hh htk hsz hown hms hcm hzb hz0
  go_enter Try.func74, Try.ntmps74
  go_wp2_with fail
  go_region_law (refine step_append_room rfl (.tmp 22) (.tmp 25) 92 rfl 85 i0 1 Try.underlying92 hi0 hzs g 0 i cap (by simp [Act.eval, Act.put]) A (L.length - (i + 1)) (cap - (i + 1)) (flatE encK (L.drop (i + 1))) (by simp [Act.eval, Act.put]) s1.out hsrc.out s2.out (by omega) s3.out ?_; rw [← hW.out])
  go_wp2
  rw [HCLR.out]
  simp only [Result.andThen]
  rw [Oper.upon_value]
  go_wp2
  go_ret
  exact HFIN.out
end Go.Proofs.Ytmkhnpkbaegchaa
