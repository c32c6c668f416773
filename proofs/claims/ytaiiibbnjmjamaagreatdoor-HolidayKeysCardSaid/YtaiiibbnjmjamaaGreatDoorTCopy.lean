/- The walks of slices.Clone at pairs and at nodes, of copies, of strings.Compare and of the comparison that search hands on. Conditions: the slices read as rows. -/
import Derived.Test.YtaiiibbnjmjamaaGreatDoorTMem
import Derived.Lib.SliceRun
import Derived.Lib.Bytealg
import Derived.Deep.RegionHeld3
namespace Go.Proofs.YtaiiibbnjmjamaaGreatDoor
open Go.RowKit

/-- a slice as the source of an append -/
theorem src_isRow {α : Type} {k : Nat} {enc : α → List Value} (hk : ∀ x, (enc x).length = k) (hk0 : 0 < k) {w : World} {v : Value} {l : List α} (h : IsRow k enc w v l) : (∃ cap, v = .slice none 0 cap ∧ l = []) ∨ ∃ ad c, v = .slice (some ad) l.length c ∧ ∀ j u, (flatE enc l)[j]? = some u → w.cell? (ad.add j) = some u := by
  rcases h with ⟨a, cap, rfl, rfl⟩ | ⟨b, off, cap, rfl, hlt, hm, hc⟩
  · cases a with
    | none => exact .inl ⟨cap, rfl, rfl⟩
    | some ad => exact .inr ⟨ad, cap, rfl, fun j u hu => by rw [flatE_nil] at hu; cases hu⟩
  · refine .inr ⟨_, cap, rfl, fun j u hu => ?_⟩
    rw [Go.WideShapes.add_plain]
    have hj : j < l.length * k := by have := (List.getElem?_eq_some_iff.1 hu).1; rwa [flatE_len hk] at this
    have hq : j / k < l.length := Nat.div_lt_of_lt_mul (by rw [Nat.mul_comm]; exact hj)
    have hr : j % k < k := Nat.mod_lt _ hk0
    obtain ⟨x, hx⟩ : ∃ x, l[j / k]? = some x := ⟨_, List.getElem?_eq_getElem hq⟩
    have hi : j % k < (enc x).length := by rw [hk]; exact hr
    have e := flatE_at hk l (j / k) x hx (j % k) _ (List.getElem?_eq_getElem hi)
    have ej : j / k * k + j % k = j := Nat.div_add_mod' j k
    rw [ej, hu] at e
    have := hc (j / k) x hx (j % k) u (by rw [List.getElem?_eq_getElem hi]; exact e.symm)
    rwa [Nat.add_assoc, ej] at this

theorem infoP : (Tryz.prog.info? 36).map (fun i => (i.zero, i.size, i.bytes)) = some (some (.agg #[.string ⟨#[]⟩, .string ⟨#[]⟩]), 2, 32) := by kernel_rfl
theorem infoK : (Tryz.prog.info? 59).map (fun i => (i.zero, i.size, i.bytes)) = some (some (.pointer none), 1, 8) := by kernel_rfl
/-- a row that the call has made -/
def OwnPost (e k : Nat) (cells : List Value) (n : Nat) (w : World) (x : Ending) (w' : World) : Prop :=
  ∃ v, x = .returned v ∧ w'.ownsRow w.heap.size e k v n cells ∧ Below w.heap.size w w'

set_option maxRecDepth 100000 in
set_option maxHeartbeats 2000000 in
theorem cloneP_any (ps : List KV) (v : Value) (w : World) (hv : IsRow 2 encKV w v ps) (hl : ps.length ≤ 1000000000) :
    Calls Tryz.prog 70 #[v] w (OwnPost 36 2 (flatE encKV ps) ps.length w) := by
  obtain ⟨i0, hi, hz0, hz1, hz2⟩ := info_parts infoP
  have q22 : ∀ (w : World) (a : Option Addr) (n c n' c' : Nat), (binOp .eql 34 (.slice a n c) (.slice none n' c')).run Tryz.prog w = .ok (.bool a.isNone) w := fun w a n c n' c' => Lib.run_eql_slice_nil w _ _ a n c n' c' Tryz.underlying34
  rcases src_isRow encKV_len (by decide) hv with ⟨cap, rfl, rfl⟩ | ⟨ad, cap, rfl, hc⟩
  · go_enter Tryz.func70, Tryz.ntmps70
    go_wp2
    go_ret
    exact ⟨_, rfl, World.ownsRow_nil .., bl_refl _⟩
  · obtain ⟨b, off, sp⟩ := ad
    have A := Lib.hid hc
    clear hc
    go_enter Tryz.func70, Tryz.ntmps70
    go_wp2_with (at_builtin; refine wpList_append_own _ rfl _ _ 34 rfl w.heap.size 36 i0 _ 2 32 Tryz.underlying34 hi hz0 hz1 hz2 (by rfl) (by decide) _ _ _ rfl (World.ownsRow_made w #[] 0 (Nat.le_refl _) (Nat.zero_le _) (by simp)) ⟨b, off, sp⟩ ps.length cap (flatE encKV ps) rfl ?qc1 ?qc2 ?qc3 ?qc4 ?qc5 ?qc6 ?_)
    case qc1 => exact flatE_len encKV_len ps
    case qc2 => exact fun j u hj => Lib.cell?_alloc_some _ (A.out j u hj)
    case qc3 => exact one_flat encKV_one ps
    case qc4 => unfold maxLen; omega
    case qc5 => omega
    case qc6 => simp
    intro v' w1 hown hgrow hnil
    go_wp2
    go_ret
    exact ⟨v', rfl, by simpa using hown, (bl_alloc w _).grown hgrow (by simp) (by intro k hk; simp [Value.ownBlock] at hk; omega)⟩
set_option maxRecDepth 100000 in
set_option maxHeartbeats 2000000 in
theorem cloneK_any (ps : List Kid) (v : Value) (w : World) (hv : IsRow 1 encK w v ps) (hl : ps.length ≤ 1000000000) :
    Calls Tryz.prog 71 #[v] w (OwnPost 59 1 (flatE encK ps) ps.length w) := by
  obtain ⟨i0, hi, hz0, hz1, hz2⟩ := info_parts infoK
  have q22 : ∀ (w : World) (a : Option Addr) (n c n' c' : Nat), (binOp .eql 65 (.slice a n c) (.slice none n' c')).run Tryz.prog w = .ok (.bool a.isNone) w := fun w a n c n' c' => Lib.run_eql_slice_nil w _ _ a n c n' c' Tryz.underlying65
  rcases src_isRow encK_len (by decide) hv with ⟨cap, rfl, rfl⟩ | ⟨ad, cap, rfl, hc⟩
  · go_enter Tryz.func71, Tryz.ntmps71
    go_wp2
    go_ret
    exact ⟨_, rfl, World.ownsRow_nil .., bl_refl _⟩
  · obtain ⟨b, off, sp⟩ := ad
    have A := Lib.hid hc
    clear hc
    go_enter Tryz.func71, Tryz.ntmps71
    go_wp2_with (at_builtin; refine wpList_append_own _ rfl _ _ 65 rfl w.heap.size 59 i0 _ 1 8 Tryz.underlying65 hi hz0 hz1 hz2 (by rfl) (by decide) _ _ _ rfl (World.ownsRow_made w #[] 0 (Nat.le_refl _) (Nat.zero_le _) (by simp)) ⟨b, off, sp⟩ ps.length cap (flatE encK ps) rfl ?qc1 ?qc2 ?qc3 ?qc4 ?qc5 ?qc6 ?_)
    case qc1 => exact flatE_len encK_len ps
    case qc2 => exact fun j u hj => Lib.cell?_alloc_some _ (A.out j u hj)
    case qc3 => exact one_flat encK_one ps
    case qc4 => unfold maxLen; omega
    case qc5 => omega
    case qc6 => simp
    intro v' w1 hown hgrow hnil
    go_wp2
    go_ret
    exact ⟨v', rfl, by simpa using hown, (bl_alloc w _).grown hgrow (by simp) (by intro k hk; simp [Value.ownBlock] at hk; omega)⟩
def CopPost (ps : List KV) (ks : List Kid) (w : World) (e : Ending) (w' : World) : Prop :=
  ∃ v1 v2, e = .returned (.tuple #[v1, v2]) ∧ w'.ownsRow w.heap.size 36 2 v1 ps.length (flatE encKV ps) ∧ w'.ownsRow w.heap.size 59 1 v2 ks.length (flatE encK ks) ∧ Below w.heap.size w w'
set_option maxRecDepth 100000 in
set_option maxHeartbeats 4000000 in
theorem copies_any {F : Nat → Prop} (p : Nat) (ps : List KV) (ks : List Kid) (sz : Nat) (w : World) (h : NodeAt F w p ps ks sz) (hl : ps.length ≤ 1000000000) (hl2 : ks.length ≤ 1000000000) :
    Calls Tryz.prog 48 #[ptrN p] w (CopPost ps ks w) := by
  obtain ⟨vp, vk, hb, hp, hk, _⟩ := h
  have hP : ∀ W, Below w.heap.size w W → Calls Tryz.prog 70 #[vp] W (OwnPost 36 2 (flatE encKV ps) ps.length W) := fun W hW => cloneP_any ps vp W (hp.below hW) hl
  have hK : ∀ W, Below w.heap.size w W → Calls Tryz.prog 71 #[vk] W (OwnPost 59 1 (flatE encK ks) ks.length W) := fun W hW => cloneK_any ks vk W (hk.below hW) hl2
  obtain ⟨pa, pc, rfl, _⟩ := hp.slice
  obtain ⟨ka, kc, rfl, _⟩ := hk.slice
  have HP := Lib.hid hP; have HK := Lib.hid hK
  have c0 := hb.cell 0
  have c1 := hb.cell 1
  simp at c0 c1
  have hlt := hb.lt
  clear hP hK hp hk hb hl hl2
  go_enter Tryz.func48, Tryz.ntmps48
  go_upto_region 1 with (fail)
  go_region_held3 (fun w' => w'.cell? ⟨p, 0, none⟩ = some (.slice pa ps.length pc) ∧ w'.cell? ⟨p, 1, none⟩ = some (.slice ka ks.length kc)) (first | go_keep | (go_split_ands; exact ⟨(hb2.cell (p := ⟨p, 0, none⟩) hz1).trans (by assumption), (hb2.cell (p := ⟨p, 1, none⟩) hz1).trans (by assumption)⟩) | (go_split_ands; exact ⟨(hb1.cell (p := ⟨p, 0, none⟩) hlt).trans (by go_simp), (hb1.cell (p := ⟨p, 1, none⟩) hlt).trans (by go_simp)⟩)) (first | ((with_reducible refine (HP.out _ (bl_drew _)).mono ?_); rintro e w1 ⟨v1, rfl, ho1, hb1⟩; have hz1 := Nat.lt_of_lt_of_le hlt hb1.size) | ((with_reducible refine (HK.out _ (bl_trans (bl_drew _) hb1)).mono ?_); rintro e w2 ⟨v2, rfl, ho2, hb2⟩))
  all_goals
    go_wp2
    go_ret2
    exact ⟨v1, v2, rfl, row_below ho1 hb2, row_base ho2 hb1.size, bl_trans (bl_trans (bl_drew _) hb1) hb2⟩
end Go.Proofs.YtaiiibbnjmjamaaGreatDoor
