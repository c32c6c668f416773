/- Several texts in one, each with its own word at its head. Conditions: stated there. -/
import Derived.Test.YtmkhnpkbaegchaaTRfs
import Derived.Test.YtmkhnpkbaegchaaTMod
import Derived.Test.YtmkhnpkbaegchaaTDfA
import Derived.Deep.RegionHeld3
import Derived.Deep.AppendLies
import Derived.BigQuiet
import Derived.StillTailTactics
/- The walk of built. Conditions: the list of changes lies in memory. -/
namespace Go.Proofs.Ytmkhnpkbaegchaa
open Go.RowKit

theorem IsRow.take {α : Type} {k : Nat} {enc : α → List Value} {w : World} {a : Option Addr} {c : Nat} {l : List α} (h : IsRow k enc w (.slice a l.length c) l) {j : Nat} (hj : j ≤ l.length) (hl : l.length ≤ maxLen) : IsRow k enc w (.slice a j c) (l.take j) := by
  rcases h with ⟨_, _, h1, h2⟩ | ⟨b, off, cap, h1, h2, h3, h4⟩
  · have : l = [] := by simpa using h2
    subst this
    obtain rfl : j = 0 := by simpa using hj
    exact .inl ⟨a, c, rfl, rfl⟩
  · cases h1
    have hjl : (l.take j).length = j := by rw [List.length_take]; omega
    refine .inr ⟨b, off, c, by rw [hjl], h2, by rw [hjl]; omega, fun i x hx u v hu => ?_⟩
    refine h4 i x ?_ u v hu
    rw [List.getElem?_take] at hx
    split at hx
    · exact hx
    · cases hx
theorem caps_of {α : Type} {k : Nat} {enc : α → List Value} {w : World} {s : Option Addr} {n c : Nat} {l : List α} (h : IsRow k enc w (.slice s n c) l) (hc : n ≤ c) : ∃ a c', Value.slice s n c = .slice a l.length c' ∧ l.length ≤ c' := by
  obtain ⟨a, cap, e, _⟩ := h.slice
  injection e with e1 e2 e3
  subst e2
  exact ⟨s, c, rfl, hc⟩
set_option maxRecDepth 100000 in
set_option maxHeartbeats 8000000 in
theorem built_any (vl : Value) (ls : List OpV) (most : Int) (w : World) (hI : IsRow 3 encO w vl ls) (hok : ∀ x ∈ ls, OpOk x) (hn : ls.length ≤ 1000) (hm1 : 1 ≤ most) (hm2 : most ≤ 4000) :
    Calls Try.prog 18 #[vl, .int .i64 most] w (ManyPost ls.length w) := by
  obtain ⟨pa, cap, rfl, _, hop⟩ := hI.open
  have HOP := Lib.hid hop; have HOK := Lib.hid hok
  clear hop hok hI
  go_enter Try.func18, Try.ntmps18
  go_wp2_with fail
  refine (new_any _).mono ?_
  rintro e w1 ⟨p, rfl, hT1, hp, hb1⟩
  clear hp
  have HT1 := Lib.hid hT1
  clear hT1
  go_wp2
  go_loopg [7, 8, 9] ls.length (fun kx s7 s8 s9 wr => ∃ (i : Nat) (T : Tre), s9 = .int .i64 i ∧ s7 = ptrN T.p ∧ i ≤ ls.length ∧ ls.length - i ≤ kx ∧ Hid (IsT wr T) ∧ Hid (RowA wr s8 T.l) ∧ Hid (T.l.length ≤ i) ∧ Hid (Below w.heap.size w wr))
  case atStart => exact ⟨0, ⟨p, [], 0, []⟩, rfl, rfl, by omega, Nat.le_refl _, HT1, Lib.hid (World.ownsRow_nil _ _ _ _), Lib.hid (Nat.le_refl _), Lib.hid hb1⟩
  case round =>
    clear HT1 hb1
    obtain ⟨i, T, rfl, rfl, hi, hm, HT, HV, HL, HB⟩ := hrel
    obtain ⟨pv, cv, rfl⟩ := row_slice HV.out
    by_cases hlt : i < ls.length
    · obtain ⟨x, hx⟩ : ∃ x, ls[i]? = some x := ⟨_, List.getElem?_eq_getElem hlt⟩
      have hxo := HOK.out x (List.mem_of_getElem? hx)
      obtain ⟨g, off, rfl, hg, hcell⟩ := HOP.out (by omega)
      have d0 := hcell i x hx 0 _ rfl
      have d1 := hcell i x hx 1 _ rfl
      have d2 := hcell i x hx 2 _ rfl
      rw [Nat.add_zero] at d0
      have c0 := (HB.out.cell (p := ⟨g, off + i * 3, none⟩) hg).trans d0
      have c1 := (HB.out.cell (p := ⟨g, off + i * 3 + 1, none⟩) hg).trans d1
      have c2 := (HB.out.cell (p := ⟨g, off + i * 3 + 2, none⟩) hg).trans d2
      have hch := change_any T x most wr HT.out hxo hm1 hm2 (by have := HL.out; omega)
      have hp1 : ∀ W, Below wr.heap.size wr W → Calls Try.prog 19 #[.slice pv T.l.length cv, .agg #[.int .u8 (x.a : Int), .int .i64 x.k, .int .u8 (x.v : Int)], .int .i64 most] W (RowPost (chL T.l x most) W) := fun W hb => put1_any T.l _ x most W (row_below HV.out hb) HT.out.1 hxo hm1 hm2 (by have := HL.out; omega)
      have hln := chL_len HT.out.1 x most
      have HCH := Lib.hid hch; have HP1 := Lib.hid hp1; have HD := Lib.hid (And.intro d0 (And.intro d1 d2)); have HLN := Lib.hid hln
      clear hch hp1 hcell hx d0 d1 d2 hln
      go_wp2_with fail
      refine HCH.out.mono ?_
      rintro e w2 ⟨T', rfl, hT', hl', _, hb2⟩
      have HT' := Lib.hid hT'; have HL' := Lib.hid hl'; have HB2 := Lib.hid hb2
      have hB2 := bl_trans HB.out hb2
      have e0 := (hB2.cell (p := ⟨g, off + i * 3, none⟩) hg).trans HD.out.1
      have e1 := (hB2.cell (p := ⟨g, off + i * 3 + 1, none⟩) hg).trans HD.out.2.1
      have e2 := (hB2.cell (p := ⟨g, off + i * 3 + 2, none⟩) hg).trans HD.out.2.2
      have HBW2 := Lib.hid hB2
      clear hT' hl' hb2 hB2 c0 c1 c2 HCH
      go_wp2_with fail
      refine (HP1.out _ HB2.out).mono ?_
      rintro e w3 ⟨v', rfl, hv', hb3⟩
      have HV' := Lib.hid hv'
      have hT3 := HT'.out.below hb3
      have HT3 := Lib.hid hT3
      have HB3 := Lib.hid (bl_trans HBW2.out hb3)
      clear hv' hb3 hT3 e0 e1 e2
      go_wp2
      go_roundg (ls.length - (i + 1))
      case measure => omega
      case rel => exact ⟨i + 1, T', by go_num, rfl, by omega, Nat.le_refl _, HT3, Lib.hid (by rw [HL'.out]; exact HV'.out), Lib.hid (by rw [HL'.out]; have := HLN.out; have := HL.out; omega), HB3⟩
    · obtain rfl : i = ls.length := by omega
      go_wp2
      go_ret3
      exact ⟨T, _, rfl, HT.out, HV.out, HL.out, HB.out⟩
end Go.Proofs.Ytmkhnpkbaegchaa
/- The walk of built, with what the pairs may be. Conditions: the list of changes lies in memory. -/
namespace Go.Proofs.Ytmkhnpkbaegchaa
open Go.RowKit

def PermL (L : List KV) : Prop := ∀ y ∈ L, permB y = true
theorem PermL.nil : PermL [] := fun y hy => by cases hy
theorem PermL.del {L : List KV} (h : PermL L) (k : ByteArray) : PermL (delL L k) := fun y hy => h y (mem_delL.1 hy).1
theorem PermL.put {L : List KV} (h : PermL L) (p : KV) : PermL (putT L p) := fun y hy => by
  unfold putT at hy
  split at hy
  · rename_i hp
    rcases mem_putL.1 hy with e | e
    · rw [e]; exact hp
    · exact h y e.1
  · exact h y hy
theorem PermL.ch {L : List KV} (h : PermL L) (x : OpV) (most : Int) : PermL (chL L x most) := by
  unfold chL
  split
  · exact h.del _
  · exact h.put _
def BuiltP (m : Nat) (w : World) (e : Ending) (w' : World) : Prop := ∃ T v, e = .returned (.tuple #[ptrN T.p, v, .bool true]) ∧ IsT w' T ∧ RowA w' v T.l ∧ T.l.length ≤ m ∧ PermL T.l ∧ Below w.heap.size w w'
set_option maxRecDepth 100000 in
set_option maxHeartbeats 8000000 in
theorem builtP_any (vl : Value) (ls : List OpV) (most : Int) (w : World) (hI : IsRow 3 encO w vl ls) (hok : ∀ x ∈ ls, OpOk x) (hn : ls.length ≤ 1000) (hm1 : 1 ≤ most) (hm2 : most ≤ 4000) :
    Calls Try.prog 18 #[vl, .int .i64 most] w (BuiltP ls.length w) := by
  obtain ⟨pa, cap, rfl, _, hop⟩ := hI.open
  have HOP := Lib.hid hop; have HOK := Lib.hid hok
  clear hop hok hI
  go_enter Try.func18, Try.ntmps18
  go_wp2_with fail
  refine (new_any _).mono ?_
  rintro e w1 ⟨p, rfl, hT1, hp, hb1⟩
  clear hp
  have HT1 := Lib.hid hT1
  clear hT1
  go_wp2
  go_loopg [7, 8, 9] ls.length (fun kx s7 s8 s9 wr => ∃ (i : Nat) (T : Tre), s9 = .int .i64 i ∧ s7 = ptrN T.p ∧ i ≤ ls.length ∧ ls.length - i ≤ kx ∧ Hid (IsT wr T) ∧ Hid (RowA wr s8 T.l) ∧ Hid (T.l.length ≤ i) ∧ Hid (PermL T.l) ∧ Hid (Below w.heap.size w wr))
  case atStart => exact ⟨0, ⟨p, [], 0, []⟩, rfl, rfl, by omega, Nat.le_refl _, HT1, Lib.hid (World.ownsRow_nil _ _ _ _), Lib.hid (Nat.le_refl _), Lib.hid PermL.nil, Lib.hid hb1⟩
  case round =>
    clear HT1 hb1
    obtain ⟨i, T, rfl, rfl, hi, hm, HT, HV, HL, HPL, HB⟩ := hrel
    obtain ⟨pv, cv, rfl⟩ := row_slice HV.out
    by_cases hlt : i < ls.length
    · obtain ⟨x, hx⟩ : ∃ x, ls[i]? = some x := ⟨_, List.getElem?_eq_getElem hlt⟩
      have hxo := HOK.out x (List.mem_of_getElem? hx)
      obtain ⟨g, off, rfl, hg, hcell⟩ := HOP.out (by omega)
      have d0 := hcell i x hx 0 _ rfl
      have d1 := hcell i x hx 1 _ rfl
      have d2 := hcell i x hx 2 _ rfl
      rw [Nat.add_zero] at d0
      have c0 := (HB.out.cell (p := ⟨g, off + i * 3, none⟩) hg).trans d0
      have c1 := (HB.out.cell (p := ⟨g, off + i * 3 + 1, none⟩) hg).trans d1
      have c2 := (HB.out.cell (p := ⟨g, off + i * 3 + 2, none⟩) hg).trans d2
      have hch := change_any T x most wr HT.out hxo hm1 hm2 (by have := HL.out; omega)
      have hp1 : ∀ W, Below wr.heap.size wr W → Calls Try.prog 19 #[.slice pv T.l.length cv, .agg #[.int .u8 (x.a : Int), .int .i64 x.k, .int .u8 (x.v : Int)], .int .i64 most] W (RowPost (chL T.l x most) W) := fun W hb => put1_any T.l _ x most W (row_below HV.out hb) HT.out.1 hxo hm1 hm2 (by have := HL.out; omega)
      have hln := chL_len HT.out.1 x most
      have HCH := Lib.hid hch; have HP1 := Lib.hid hp1; have HD := Lib.hid (And.intro d0 (And.intro d1 d2)); have HLN := Lib.hid hln
      clear hch hp1 hcell hx d0 d1 d2 hln
      go_wp2_with fail
      refine HCH.out.mono ?_
      rintro e w2 ⟨T', rfl, hT', hl', _, hb2⟩
      have HT' := Lib.hid hT'; have HL' := Lib.hid hl'; have HB2 := Lib.hid hb2
      have hB2 := bl_trans HB.out hb2
      have e0 := (hB2.cell (p := ⟨g, off + i * 3, none⟩) hg).trans HD.out.1
      have e1 := (hB2.cell (p := ⟨g, off + i * 3 + 1, none⟩) hg).trans HD.out.2.1
      have e2 := (hB2.cell (p := ⟨g, off + i * 3 + 2, none⟩) hg).trans HD.out.2.2
      have HBW2 := Lib.hid hB2
      clear hT' hl' hb2 hB2 c0 c1 c2 HCH
      go_wp2_with fail
      refine (HP1.out _ HB2.out).mono ?_
      rintro e w3 ⟨v', rfl, hv', hb3⟩
      have HV' := Lib.hid hv'
      have hT3 := HT'.out.below hb3
      have HT3 := Lib.hid hT3
      have HB3 := Lib.hid (bl_trans HBW2.out hb3)
      clear hv' hb3 hT3 e0 e1 e2
      go_wp2
      go_roundg (ls.length - (i + 1))
      case measure => omega
      case rel => exact ⟨i + 1, T', by go_num, rfl, by omega, Nat.le_refl _, HT3, Lib.hid (by rw [HL'.out]; exact HV'.out), Lib.hid (by rw [HL'.out]; have := HLN.out; have := HL.out; omega), Lib.hid (by rw [HL'.out]; exact HPL.out.ch x most), HB3⟩
    · obtain rfl : i = ls.length := by omega
      go_wp2
      go_ret3
      exact ⟨T, _, rfl, HT.out, HV.out, HL.out, HPL.out, HB.out⟩
end Go.Proofs.Ytmkhnpkbaegchaa
/- Plain: the edits as the reference finds them, one by one; performing them yields the second list. Conditions: the lists in order. -/
namespace Go.Proofs.Ytmkhnpkbaegchaa
open Go.RowKit

def mrg : List KV → List KV → List Ed
  | [], b => b.map edP
  | x :: a, [] => edD x :: mrg a []
  | x :: a, y :: b => if kl x.k y.k then edD x :: mrg a (y :: b) else if kl y.k x.k then edP y :: mrg (x :: a) b else if x.v = y.v then mrg a b else edP y :: mrg a b
termination_by a b => a.length + b.length
theorem mrg_nil (a : List KV) : mrg a [] = a.map edD := by
  induction a with
  | nil => rw [mrg]; rfl
  | cons x a ih => rw [mrg, ih]; rfl
theorem mrg_lt {x y : KV} {a b : List KV} (h : kl x.k y.k = true) : mrg (x :: a) (y :: b) = edD x :: mrg a (y :: b) := by rw [mrg, if_pos h]
theorem mrg_gt {x y : KV} {a b : List KV} (h : kl y.k x.k = true) : mrg (x :: a) (y :: b) = edP y :: mrg (x :: a) b := by rw [mrg, if_neg (by rw [kl_asym h]; simp), if_pos h]
theorem mrg_eq {x y : KV} {a b : List KV} (h : x.k = y.k) : mrg (x :: a) (y :: b) = (if x.v = y.v then mrg a b else edP y :: mrg a b) := by rw [mrg, if_neg (by rw [h, kl_irr]; simp), if_neg (by rw [h, kl_irr]; simp)]
theorem step_mrg (y : KV) (b : List KV) : ∀ (a : List KV), Srt a → (stepD ([], a) y).1 ++ mrg (stepD ([], a) y).2 b = mrg a (y :: b)
  | [], _ => by
    rw [show stepD ([], []) y = ([edP y], []) from rfl, mrg, mrg]; rfl
  | x :: a, hs => by
    rcases kl_total x.k y.k with h | h | h
    · rw [mrg_lt h, ← step_mrg y b a (srt_cons.1 hs).2]
      unfold stepD
      simp only [(takeL_yes (q := x) (l := a) h).1, (takeL_yes (q := x) (l := a) h).2]
      cases dropL y.k a with
      | nil => simp
      | cons q rs =>
        simp only
        split
        · split <;> simp
        · simp
    · rw [mrg_eq h]
      have hn : kl x.k y.k = false := by rw [h]; exact kl_irr _
      unfold stepD
      simp only [(takeL_no (q := x) (l := a) hn).1, (takeL_no (q := x) (l := a) hn).2, if_pos h]
      split <;> simp
    · rw [mrg_gt h]
      have hn : kl x.k y.k = false := kl_asym h
      unfold stepD
      simp only [(takeL_no (q := x) (l := a) hn).1, (takeL_no (q := x) (l := a) hn).2, if_neg (kl_ne h).symm]
      simp
theorem stepD_out (o : List Ed) (a : List KV) (y : KV) : stepD (o, a) y = (o ++ (stepD ([], a) y).1, (stepD ([], a) y).2) := by
  unfold stepD
  simp only
  split
  · simp
  · split
    · split <;> simp
    · simp
theorem srt_dropL {k : ByteArray} {a : List KV} (h : Srt a) : Srt (dropL k a) := List.Pairwise.sublist (List.dropWhile_sublist _) h
theorem srt_stepD {a : List KV} {y : KV} (h : Srt a) : Srt (stepD ([], a) y).2 := by
  have hd := srt_dropL (k := y.k) h
  unfold stepD
  simp only
  split
  · exact List.Pairwise.nil
  · rename_i q rs e
    rw [e] at hd
    split
    · split
      · exact (srt_cons.1 hd).2
      · exact (srt_cons.1 hd).2
    · exact hd
theorem fold_mrg : ∀ (b : List KV) (o : List Ed) (a : List KV), Srt a → (b.foldl stepD (o, a)).1 ++ (b.foldl stepD (o, a)).2.map edD = o ++ mrg a b
  | [], o, a, _ => by rw [mrg_nil]; rfl
  | y :: b, o, a, h => by
    rw [List.foldl_cons, stepD_out, fold_mrg b _ _ (srt_stepD h), List.append_assoc, step_mrg y b a h]
/-- both ways find the same edits -/
theorem difF_mrg {a b : List KV} (h : Srt a) : difF a b = mrg a b := by
  have := fold_mrg b [] a h
  rw [List.nil_append] at this
  exact this
def applyE (L : List KV) (e : Ed) : List KV := if e.d then delL L e.k else putT L ⟨e.k, e.v⟩
/-- the pairs that are done stay ahead -/
theorem apply_all : ∀ (a b pre : List KV), Srt (pre ++ a) → Srt (pre ++ b) → (∀ y ∈ b, permB y = true) → (mrg a b).foldl applyE (pre ++ a) = pre ++ b
  | [], [], pre, _, _, _ => by rw [mrg]; rfl
  | [], y :: b, pre, ha, hb, hp => by
    have h1 : putT (pre ++ []) y = (pre ++ [y]) ++ [] := by
      unfold putT
      rw [hp y (List.mem_cons_self ..), if_pos rfl]
      have hlt : ∀ x ∈ pre, kl x.k y.k = true := fun x hx => (srt_append.1 hb).2.2 x hx y (List.mem_cons_self ..)
      unfold putL
      rw [List.append_nil, (lo_all hlt).1, (lo_all hlt).2, List.append_nil]
    have h2 := apply_all [] b (pre ++ [y]) (by rw [List.append_nil]; exact ((srt_append.1 (show Srt ((pre ++ [y]) ++ b) by rw [List.append_assoc]; exact hb)).1)) (by rw [List.append_assoc]; exact hb) (fun z hz => hp z (List.mem_cons_of_mem _ hz))
    rw [mrg] at h2 ⊢
    rw [List.map_cons, List.foldl_cons]
    show List.foldl applyE (putT (pre ++ []) y) _ = _
    rw [h1, h2, List.append_assoc]; rfl
  | x :: a, [], pre, ha, hb, hp => by
    have hd := delL_mid (a := pre) (b := [x]) (c := a) (k := x.k) (fun z hz => (srt_append.1 ha).2.2 z hz x (List.mem_cons_self ..)) (fun z hz => (srt_cons.1 (srt_append.1 ha).2.1).1 z hz)
    rw [delL_same rfl] at hd
    have h2 := apply_all a [] pre (by
      have := srt_delL (k := x.k) ha
      rw [show pre ++ x :: a = pre ++ ([x] ++ a) from rfl, hd] at this
      exact this) hb hp
    rw [mrg, List.foldl_cons]
    show List.foldl applyE (delL (pre ++ ([x] ++ a)) x.k) _ = _
    rw [hd]
    exact h2
  | x :: a, y :: b, pre, ha, hb, hp => by
    have hax := fun z hz => (srt_append.1 ha).2.2 z hz x (List.mem_cons_self ..)
    have haa := fun z hz => (srt_cons.1 (srt_append.1 ha).2.1).1 z hz
    have hby := fun z hz => (srt_append.1 hb).2.2 z hz y (List.mem_cons_self ..)
    have hbb : Srt ((pre ++ [y]) ++ b) := by rw [List.append_assoc]; exact hb
    have hpb := fun z hz => hp z (List.mem_cons_of_mem _ hz)
    have hpy := hp y (List.mem_cons_self ..)
    have hya : (∀ z ∈ x :: a, kl y.k z.k = true) → Srt ((pre ++ [y]) ++ (x :: a)) := fun h => by
      rw [List.append_assoc]
      refine srt_append.2 ⟨(srt_append.1 ha).1, srt_cons.2 ⟨h, (srt_append.1 ha).2.1⟩, fun z hz u hu => ?_⟩
      rcases List.mem_cons.1 hu with e | e
      · rw [e]; exact hby z hz
      · exact (srt_append.1 ha).2.2 z hz u e
    rcases kl_total x.k y.k with h | h | h
    · have hd := delL_mid (a := pre) (b := [x]) (c := a) (k := x.k) hax haa
      rw [delL_same rfl] at hd
      have h2 := apply_all a (y :: b) pre (by
        have := srt_delL (k := x.k) ha
        rw [show pre ++ x :: a = pre ++ ([x] ++ a) from rfl, hd] at this
        exact this) hb hp
      rw [mrg_lt h, List.foldl_cons]
      show List.foldl applyE (delL (pre ++ ([x] ++ a)) x.k) _ = _
      rw [hd]
      exact h2
    · have hay : ∀ z ∈ a, kl y.k z.k = true := fun z hz => by rw [← h]; exact haa z hz
      have hsa : Srt ((pre ++ [y]) ++ a) := by
        rw [List.append_assoc]
        refine srt_append.2 ⟨(srt_append.1 ha).1, srt_cons.2 ⟨hay, (srt_cons.1 (srt_append.1 ha).2.1).2⟩, fun z hz u hu => ?_⟩
        rcases List.mem_cons.1 hu with e | e
        · rw [e]; exact hby z hz
        · exact (srt_append.1 ha).2.2 z hz u (List.mem_cons_of_mem _ e)
      have h2 := apply_all a b (pre ++ [y]) hsa hbb hpb
      rw [mrg_eq h]
      by_cases hv : x.v = y.v
      · have hxy : x = y := by cases x; cases y; simp_all
        rw [if_pos hv, hxy]
        rw [List.append_assoc, List.append_assoc] at h2
        exact h2
      · have hm := putL_mid (a := pre) (b := [x]) (c := a) (p := y) hby hay
        rw [putL_same h] at hm
        rw [if_neg hv, List.foldl_cons]
        show List.foldl applyE (putT (pre ++ ([x] ++ a)) y) _ = _
        unfold putT
        rw [hpy, if_pos rfl, hm]
        rw [List.append_assoc, List.append_assoc] at h2
        exact h2
    · have hall : ∀ z ∈ x :: a, kl y.k z.k = true := fun z hz => by
        rcases List.mem_cons.1 hz with e | e
        · rw [e]; exact h
        · exact kl_trans h (haa z e)
      have h2 := apply_all (x :: a) b (pre ++ [y]) (hya hall) hbb hpb
      have hm := putL_mid (a := pre) (b := []) (c := x :: a) (p := y) hby hall
      rw [putL_nil] at hm
      rw [mrg_gt h, List.foldl_cons]
      show List.foldl applyE (putT (pre ++ ([] ++ x :: a)) y) _ = _
      unfold putT
      rw [hpy, if_pos rfl, hm]
      rw [List.append_assoc, List.append_assoc] at h2
      exact h2
termination_by a b => a.length + b.length
theorem apply_diff {a b : List KV} (ha : Srt a) (hb : Srt b) (hp : ∀ y ∈ b, permB y = true) : (mrg a b).foldl applyE a = b := by
  have := apply_all a b [] ha hb hp
  simpa using this
end Go.Proofs.Ytmkhnpkbaegchaa
/- The walk of the reference's Diff. Conditions: the lists are rows. -/
namespace Go.Proofs.Ytmkhnpkbaegchaa
open Go.RowKit

theorem drop_at {L : List KV} {i : Nat} {x : KV} (h : L[i]? = some x) : L.drop i = x :: L.drop (i + 1) := by
  have hlt := (List.getElem?_eq_some_iff.1 h).1
  rw [List.drop_eq_getElem_cons hlt]
  congr 1
  exact (List.getElem?_eq_some_iff.1 h).2
set_option maxRecDepth 100000 in
set_option maxHeartbeats 8000000 in
theorem rdiff_any (A B : List KV) (va vb : Value) (w : World) (ha : RowA w va A) (hb : RowA w vb B) (hla : A.length ≤ 100000) (hlb : B.length ≤ 100000) :
    Calls Try.prog 22 #[va, vb] w (OwnPost 44 3 (flatE encE (mrg A B)) (mrg A B).length w) := by
  obtain ⟨i0, hi0, hz0, hz1, hz2⟩ := info_parts infoE
  obtain ⟨pa, ca, rfl, hca1, hca2, hopa⟩ := RowA.open ha
  obtain ⟨pb, cb, rfl, hcb1, hcb2, hopb⟩ := RowA.open hb
  have hms : maxLen = 9223372036854775807 := rfl
  have HA := Lib.hid hopa; have HB := Lib.hid hopb; have HMS := Lib.hid hms
  clear ha hb hopa hopb hms
  go_enter Try.func22, Try.ntmps22
  go_wp2
  go_loopg [5, 6, 7, 47, 90] (A.length + B.length) (fun kx s5 s6 s7 s47 s90 wr => ∃ (i k : Nat) (out : List Ed), s6 = .int .i64 i ∧ s7 = .int .i64 k ∧ i ≤ A.length ∧ k ≤ B.length ∧ (A.length - i) + (B.length - k) ≤ kx ∧ out.length ≤ i + k ∧ Hid (wr.ownsRow w.heap.size 44 3 s5 out.length (flatE encE out)) ∧ Hid (out ++ mrg (A.drop i) (B.drop k) = mrg A B) ∧ Hid (Below w.heap.size w wr))
  case atStart => exact ⟨0, 0, [], rfl, rfl, Nat.zero_le _, Nat.zero_le _, by omega, Nat.le_refl _, Lib.hid (World.ownsRow_nil _ _ _ _), Lib.hid rfl, Lib.hid (bl_refl _)⟩
  case round =>
    obtain ⟨i, k, out, rfl, rfl, hi, hk, hm, hol, HO, HE, HBw⟩ := hrel
    obtain ⟨pa5, pc5, rfl⟩ := row_slice HO.out
    by_cases hia : i < A.length
    · skip
      obtain ⟨x, hx⟩ : ∃ x, A[i]? = some x := ⟨_, List.getElem?_eq_getElem hia⟩
      obtain ⟨ga, _, rfl, hga, _, _, hcela⟩ := HA.out (by omega)
      have HCA := Lib.hid (fun W (hW : Below w.heap.size w W) => (And.intro ((hW.cell (p := ⟨ga, i * 2, none⟩) hga).trans (hcela i x hx).1) ((hW.cell (p := ⟨ga, i * 2 + 1, none⟩) hga).trans (hcela i x hx).2)))
      have a0 := (HCA.out wr HBw.out).1
      have a1 := (HCA.out wr HBw.out).2
      have HDA := Lib.hid (drop_at hx)
      have wA : IntKind.i64.wrap ((A.length : Int) - 1) = (A.length : Int) - 1 := IntWalk.i64_in _ (by omega)
      have mA : min (i : Int) ((A.length : Int) - 1) = (i : Int) := by omega
      have dA1 : decide (i < A.length) = true := decide_eq_true hia
      have dA2 : decide (i = A.length) = false := decide_eq_false (by omega)
      have dA3 : ((i : Int) == (A.length : Int)) = false := by rw [beq_eq_false_iff_ne]; omega
      clear hx hcela
      by_cases hkb : k < B.length
      · skip
        obtain ⟨y, hy⟩ : ∃ y, B[k]? = some y := ⟨_, List.getElem?_eq_getElem hkb⟩
        obtain ⟨gb, _, rfl, hgb, _, _, hcelb⟩ := HB.out (by omega)
        have HCB := Lib.hid (fun W (hW : Below w.heap.size w W) => (And.intro ((hW.cell (p := ⟨gb, k * 2, none⟩) hgb).trans (hcelb k y hy).1) ((hW.cell (p := ⟨gb, k * 2 + 1, none⟩) hgb).trans (hcelb k y hy).2)))
        have b0 := (HCB.out wr HBw.out).1
        have b1 := (HCB.out wr HBw.out).2
        have HDB := Lib.hid (drop_at hy)
        have wB : IntKind.i64.wrap ((B.length : Int) - 1) = (B.length : Int) - 1 := IntWalk.i64_in _ (by omega)
        have mB : min (k : Int) ((B.length : Int) - 1) = (k : Int) := by omega
        have dB1 : decide (k < B.length) = true := decide_eq_true hkb
        have dB2 : decide (k = B.length) = false := decide_eq_false (by omega)
        have dB3 : ((k : Int) == (B.length : Int)) = false := by rw [beq_eq_false_iff_ne]; omega
        clear hy hcelb
        rcases kl_total x.k y.k with hxy | hxy | hxy
        · have l1 : Op.bytesLess x.k.toList y.k.toList = true := hxy
          have hOwr := HO.out
          have hBwr := HBw.out
          go_upto_region 9 with (fail)
          refine wp_region_quiet_lit (by kernel_rfl) (by kernel_rfl) ?_
          repeat (go_big_quiet_step (fail))
          refine wpQuiet_nil ?_
          rintro wq ⟨nq, rfl⟩
          obtain ⟨WQ, hWQ⟩ : ∃ W, W = wr.drewN nq := ⟨_, rfl⟩
          have hOWQ : WQ.ownsRow w.heap.size 44 3 (.slice pa5 out.length pc5) out.length (flatE encE out) := by rw [hWQ]; exact row_below hOwr (bl_drewN (bl_refl _) nq)
          have hBWQ : Below w.heap.size w WQ := by rw [hWQ]; exact bl_trans hBwr (bl_drewN (bl_refl _) nq)
          rw [← hWQ]
          clear hWQ
          have a0 := (HCA.out WQ hBWQ).1
          have a1 := (HCA.out WQ hBWQ).2
          have b0 := (HCB.out WQ hBWQ).1
          have b1 := (HCB.out WQ hBWQ).2
          go_upto_region 11 with (at_builtin; refine wpList_append_lies _ rfl _ _ 39 rfl w.heap.size 44 i0 _ 3 40 Try.underlying39 hi0 hz0 hz1 hz2 (by rfl) (by decide) (.slice pa5 out.length pc5) out.length _ rfl (hOWQ.alloc _) ⟨WQ.heap.size, 0, none⟩ 1 1 [Value.string x.k, .string ⟨#[]⟩, .bool true] rfl rfl (World.news_of_block (cs := #[Value.string x.k, .string ⟨#[]⟩, .bool true]) (t := 44) (fr := (0, 0)) (heap_alloc_new WQ _)) (by simp [Value.oneCell']) (by omega) (by have := HMS.out; omega) (by omega) (by have := hBWQ.size; simp; omega) _ rfl ?_; intro g4 c4 w4 ho4 hg4 _ _)
          have hg4' : (WQ.alloc (.cells #[Value.string x.k, .string ⟨#[]⟩, .bool true] 44)).grownBy w4 (Value.slice pa5 out.length pc5).ownBlock := hg4
          have hB4 : Below w.heap.size w w4 := (hBWQ.alloc hBWQ.size _).grown hg4' (by have := hBWQ.size; simp; omega) (fun k e => (hOWQ.lt k e).1)
          clear hg4 hg4'
          have HN : w4.ownsRow w.heap.size 44 3 (.slice (some ⟨g4, 0, none⟩) (out.length + 1) c4) (out ++ [edD x]).length (flatE encE (out ++ [edD x])) := by rw [flatE_snoc, List.length_append]; exact ho4
          have HNE : (out ++ [edD x]) ++ mrg (A.drop (i + 1)) (B.drop k) = mrg A B := by
            rw [List.append_assoc, ← HE.out, HDA.out, HDB.out, mrg_lt hxy]; rfl
          clear ho4
          have HF := Lib.hid (And.intro HN (And.intro HNE hB4))
          clear HN HNE
          go_wp2
          go_roundg ((A.length - (i + 1)) + (B.length - (k)))
          case measure => omega
          case rel => exact ⟨i + 1, k, out ++ [edD x], by go_num, by go_num, by omega, by omega, Nat.le_refl _, by rw [List.length_append]; simp; omega, Lib.hid HF.out.1, Lib.hid HF.out.2.1, Lib.hid HF.out.2.2⟩
        · have l1 : Op.bytesLess x.k.toList y.k.toList = false := by rw [hxy]; exact kl_irr _
          have l2 : Op.bytesLess y.k.toList x.k.toList = false := by rw [hxy]; exact kl_irr _
          have HXY := Lib.hid hxy
          clear hxy
          by_cases hv : x.v = y.v
          · have v1 : (x.v.toList = y.v.toList) = True := by rw [hv]; simp
            have v2 : (x.v.toList == y.v.toList) = true := by rw [hv]; simp
            have HNV := Lib.hid hv
            clear hv
            have hOwr := HO.out
            have hBwr := HBw.out
            go_upto_region 9 with (fail)
            refine wp_region_quiet_lit (by kernel_rfl) (by kernel_rfl) ?_
            repeat (go_big_quiet_step (fail))
            refine wpQuiet_nil ?_
            rintro wq ⟨nq, rfl⟩
            obtain ⟨WP, hWP⟩ : ∃ W, W = wr.drewN nq := ⟨_, rfl⟩
            have hOWP : WP.ownsRow w.heap.size 44 3 (.slice pa5 out.length pc5) out.length (flatE encE out) := by rw [hWP]; exact row_below hOwr (bl_drewN (bl_refl _) nq)
            have hBWP : Below w.heap.size w WP := by rw [hWP]; exact bl_trans hBwr (bl_drewN (bl_refl _) nq)
            rw [← hWP]
            clear hWP
            have a0 := (HCA.out WP hBWP).1
            have a1 := (HCA.out WP hBWP).2
            have b0 := (HCB.out WP hBWP).1
            have b1 := (HCB.out WP hBWP).2
            go_upto_region 12 with (fail)
            refine wp_region_quiet_lit (by kernel_rfl) (by kernel_rfl) ?_
            repeat (go_big_quiet_step (fail))
            refine wpQuiet_nil ?_
            rintro wq ⟨nq, rfl⟩
            obtain ⟨WR, hWR⟩ : ∃ W, W = WP.drewN nq := ⟨_, rfl⟩
            have hOWR : WR.ownsRow w.heap.size 44 3 (.slice pa5 out.length pc5) out.length (flatE encE out) := by rw [hWR]; exact row_below hOWP (bl_drewN (bl_refl _) nq)
            have hBWR : Below w.heap.size w WR := by rw [hWR]; exact bl_trans hBWP (bl_drewN (bl_refl _) nq)
            rw [← hWR]
            clear hWR
            have a0 := (HCA.out WR hBWR).1
            have a1 := (HCA.out WR hBWR).2
            have b0 := (HCB.out WR hBWR).1
            have b1 := (HCB.out WR hBWR).2
            go_upto_region 5 with (fail)
            refine wp_region_quiet_lit (by kernel_rfl) (by kernel_rfl) ?_
            repeat (go_big_quiet_step (fail))
            refine wpQuiet_nil ?_
            rintro wq ⟨nq, rfl⟩
            obtain ⟨WQ, hWQ⟩ : ∃ W, W = WR.drewN nq := ⟨_, rfl⟩
            have hOWQ : WQ.ownsRow w.heap.size 44 3 (.slice pa5 out.length pc5) out.length (flatE encE out) := by rw [hWQ]; exact row_below hOWR (bl_drewN (bl_refl _) nq)
            have hBWQ : Below w.heap.size w WQ := by rw [hWQ]; exact bl_trans hBWR (bl_drewN (bl_refl _) nq)
            rw [← hWQ]
            clear hWQ
            have a0 := (HCA.out WQ hBWQ).1
            have a1 := (HCA.out WQ hBWQ).2
            have b0 := (HCB.out WQ hBWQ).1
            have b1 := (HCB.out WQ hBWQ).2
            have HN := hOWQ
            have HNE : out ++ mrg (A.drop (i + 1)) (B.drop (k + 1)) = mrg A B := by
              rw [← HE.out, HDA.out, HDB.out, mrg_eq HXY.out, if_pos HNV.out]
            have HF := Lib.hid (And.intro HN (And.intro HNE hBWQ))
            clear HN HNE
            go_wp2
            go_roundg ((A.length - (i + 1)) + (B.length - (k + 1)))
            case measure => omega
            case rel => exact ⟨i + 1, k + 1, out, by go_num, by go_num, by omega, by omega, Nat.le_refl _, by omega, Lib.hid HF.out.1, Lib.hid HF.out.2.1, Lib.hid HF.out.2.2⟩
          · have v1 : ¬ (x.v.toList = y.v.toList) := fun e => hv (toL_inj e)
            have v2 : (x.v.toList == y.v.toList) = false := by simpa using v1
            have HNV := Lib.hid hv
            clear hv
            have hOwr := HO.out
            have hBwr := HBw.out
            go_upto_region 9 with (fail)
            refine wp_region_quiet_lit (by kernel_rfl) (by kernel_rfl) ?_
            repeat (go_big_quiet_step (fail))
            refine wpQuiet_nil ?_
            rintro wq ⟨nq, rfl⟩
            obtain ⟨WP, hWP⟩ : ∃ W, W = wr.drewN nq := ⟨_, rfl⟩
            have hOWP : WP.ownsRow w.heap.size 44 3 (.slice pa5 out.length pc5) out.length (flatE encE out) := by rw [hWP]; exact row_below hOwr (bl_drewN (bl_refl _) nq)
            have hBWP : Below w.heap.size w WP := by rw [hWP]; exact bl_trans hBwr (bl_drewN (bl_refl _) nq)
            rw [← hWP]
            clear hWP
            have a0 := (HCA.out WP hBWP).1
            have a1 := (HCA.out WP hBWP).2
            have b0 := (HCB.out WP hBWP).1
            have b1 := (HCB.out WP hBWP).2
            go_upto_region 12 with (fail)
            refine wp_region_quiet_lit (by kernel_rfl) (by kernel_rfl) ?_
            repeat (go_big_quiet_step (fail))
            refine wpQuiet_nil ?_
            rintro wq ⟨nq, rfl⟩
            obtain ⟨WR, hWR⟩ : ∃ W, W = WP.drewN nq := ⟨_, rfl⟩
            have hOWR : WR.ownsRow w.heap.size 44 3 (.slice pa5 out.length pc5) out.length (flatE encE out) := by rw [hWR]; exact row_below hOWP (bl_drewN (bl_refl _) nq)
            have hBWR : Below w.heap.size w WR := by rw [hWR]; exact bl_trans hBWP (bl_drewN (bl_refl _) nq)
            rw [← hWR]
            clear hWR
            have a0 := (HCA.out WR hBWR).1
            have a1 := (HCA.out WR hBWR).2
            have b0 := (HCB.out WR hBWR).1
            have b1 := (HCB.out WR hBWR).2
            go_upto_region 5 with (fail)
            refine wp_region_quiet_lit (by kernel_rfl) (by kernel_rfl) ?_
            repeat (go_big_quiet_step (fail))
            refine wpQuiet_nil ?_
            rintro wq ⟨nq, rfl⟩
            obtain ⟨WQ, hWQ⟩ : ∃ W, W = WR.drewN nq := ⟨_, rfl⟩
            have hOWQ : WQ.ownsRow w.heap.size 44 3 (.slice pa5 out.length pc5) out.length (flatE encE out) := by rw [hWQ]; exact row_below hOWR (bl_drewN (bl_refl _) nq)
            have hBWQ : Below w.heap.size w WQ := by rw [hWQ]; exact bl_trans hBWR (bl_drewN (bl_refl _) nq)
            rw [← hWQ]
            clear hWQ
            have a0 := (HCA.out WQ hBWQ).1
            have a1 := (HCA.out WQ hBWQ).2
            have b0 := (HCB.out WQ hBWQ).1
            have b1 := (HCB.out WQ hBWQ).2
            go_upto_region 6 with (fail)
            have hODr : (WQ.drew).ownsRow w.heap.size 44 3 (.slice pa5 out.length pc5) out.length (flatE encE out) := row_below hOWQ (bl_drew _)
            have hBDr : Below w.heap.size w (WQ.drew) := bl_trans hBWQ (bl_drew _)
            go_region_held3 (fun w' => w'.cell? ⟨gb, k * 2, none⟩ = some (.string y.k) ∧ w'.cell? ⟨gb, k * 2 + 1, none⟩ = some (.string y.v)) (first | exact HCB.out _ hBDr | exact HCB.out _ (hBDr.alloc hBDr.size _) | exact HCB.out _ ((hBDr.alloc hBDr.size _).grown hg4 (by have := hBDr.size; simp at this ⊢; omega) (fun k e => (hOWQ.lt k e).1)) | go_keep) (first | (refine step_append_lies _ (by rfl) (.tmp 29) (.tmp 41) 39 (by rfl) w.heap.size 44 i0 _ 3 40 Try.underlying39 hi0 hz0 hz1 hz2 rfl (by omega) (.slice pa5 out.length pc5) out.length (flatE encE out) (by rfl) (hODr.alloc (.cells #[Value.string y.k, .string y.v, .bool false] 44)) ⟨WQ.heap.size, 0, none⟩ 1 1 [Value.string y.k, .string y.v, .bool false] (by rfl) (by rfl) (World.news_of_block (cs := #[Value.string y.k, .string y.v, .bool false]) (t := 44) (fr := (0, 0)) (heap_alloc_new (WQ.drew) _)) (by simp [Value.oneCell']) (by omega) (by have := HMS.out; omega) (by omega) (by have := hBDr.size; simp at this ⊢; omega) _ rfl ?_; intro g4 c4 w4 ho4 hg4 _ _))
            have hg4' : (WQ.drew.alloc (.cells #[Value.string y.k, .string y.v, .bool false] 44)).grownBy w4 (Value.slice pa5 out.length pc5).ownBlock := hg4
            have hB4 : Below w.heap.size w w4 := (hBDr.alloc hBDr.size _).grown hg4' (by have := hBDr.size; simp at this ⊢; omega) (fun k e => (hOWQ.lt k e).1)
            clear hg4 hg4'
            have HN : w4.ownsRow w.heap.size 44 3 (.slice (some ⟨g4, 0, none⟩) (out.length + 1) c4) (out ++ [edP y]).length (flatE encE (out ++ [edP y])) := by rw [flatE_snoc, List.length_append]; exact ho4
            have HNE : (out ++ [edP y]) ++ mrg (A.drop (i + 1)) (B.drop (k + 1)) = mrg A B := by
              rw [List.append_assoc, ← HE.out, HDA.out, HDB.out, mrg_eq HXY.out, if_neg HNV.out]; rfl
            clear ho4
            have HF := Lib.hid (And.intro HN (And.intro HNE hB4))
            clear HN HNE
            go_wp2
            go_roundg ((A.length - (i + 1)) + (B.length - (k + 1)))
            case measure => omega
            case rel => exact ⟨i + 1, k + 1, out ++ [edP y], by go_num, by go_num, by omega, by omega, Nat.le_refl _, by rw [List.length_append]; simp; omega, Lib.hid HF.out.1, Lib.hid HF.out.2.1, Lib.hid HF.out.2.2⟩
        · have l1 : Op.bytesLess x.k.toList y.k.toList = false := kl_asym hxy
          have l2 : Op.bytesLess y.k.toList x.k.toList = true := hxy
          have hOwr := HO.out
          have hBwr := HBw.out
          go_upto_region 9 with (fail)
          refine wp_region_quiet_lit (by kernel_rfl) (by kernel_rfl) ?_
          repeat (go_big_quiet_step (fail))
          refine wpQuiet_nil ?_
          rintro wq ⟨nq, rfl⟩
          obtain ⟨WP, hWP⟩ : ∃ W, W = wr.drewN nq := ⟨_, rfl⟩
          have hOWP : WP.ownsRow w.heap.size 44 3 (.slice pa5 out.length pc5) out.length (flatE encE out) := by rw [hWP]; exact row_below hOwr (bl_drewN (bl_refl _) nq)
          have hBWP : Below w.heap.size w WP := by rw [hWP]; exact bl_trans hBwr (bl_drewN (bl_refl _) nq)
          rw [← hWP]
          clear hWP
          have a0 := (HCA.out WP hBWP).1
          have a1 := (HCA.out WP hBWP).2
          have b0 := (HCB.out WP hBWP).1
          have b1 := (HCB.out WP hBWP).2
          go_upto_region 12 with (fail)
          refine wp_region_quiet_lit (by kernel_rfl) (by kernel_rfl) ?_
          repeat (go_big_quiet_step (fail))
          refine wpQuiet_nil ?_
          rintro wq ⟨nq, rfl⟩
          obtain ⟨WQ, hWQ⟩ : ∃ W, W = WP.drewN nq := ⟨_, rfl⟩
          have hOWQ : WQ.ownsRow w.heap.size 44 3 (.slice pa5 out.length pc5) out.length (flatE encE out) := by rw [hWQ]; exact row_below hOWP (bl_drewN (bl_refl _) nq)
          have hBWQ : Below w.heap.size w WQ := by rw [hWQ]; exact bl_trans hBWP (bl_drewN (bl_refl _) nq)
          rw [← hWQ]
          clear hWQ
          have a0 := (HCA.out WQ hBWQ).1
          have a1 := (HCA.out WQ hBWQ).2
          have b0 := (HCB.out WQ hBWQ).1
          have b1 := (HCB.out WQ hBWQ).2
          go_upto_region 13 with (fail)
          have hODr : (WQ.drew).ownsRow w.heap.size 44 3 (.slice pa5 out.length pc5) out.length (flatE encE out) := row_below hOWQ (bl_drew _)
          have hBDr : Below w.heap.size w (WQ.drew) := bl_trans hBWQ (bl_drew _)
          go_region_held3 (fun w' => w'.cell? ⟨gb, k * 2, none⟩ = some (.string y.k) ∧ w'.cell? ⟨gb, k * 2 + 1, none⟩ = some (.string y.v)) (first | exact HCB.out _ hBDr | exact HCB.out _ (hBDr.alloc hBDr.size _) | exact HCB.out _ ((hBDr.alloc hBDr.size _).grown hg4 (by have := hBDr.size; simp at this ⊢; omega) (fun k e => (hOWQ.lt k e).1)) | go_keep) (first | (refine step_append_lies _ (by rfl) (.tmp 108) (.tmp 120) 39 (by rfl) w.heap.size 44 i0 _ 3 40 Try.underlying39 hi0 hz0 hz1 hz2 rfl (by omega) (.slice pa5 out.length pc5) out.length (flatE encE out) (by rfl) (hODr.alloc (.cells #[Value.string y.k, .string y.v, .bool false] 44)) ⟨WQ.heap.size, 0, none⟩ 1 1 [Value.string y.k, .string y.v, .bool false] (by rfl) (by rfl) (World.news_of_block (cs := #[Value.string y.k, .string y.v, .bool false]) (t := 44) (fr := (0, 0)) (heap_alloc_new (WQ.drew) _)) (by simp [Value.oneCell']) (by omega) (by have := HMS.out; omega) (by omega) (by have := hBDr.size; simp at this ⊢; omega) _ rfl ?_; intro g4 c4 w4 ho4 hg4 _ _))
          have hg4' : (WQ.drew.alloc (.cells #[Value.string y.k, .string y.v, .bool false] 44)).grownBy w4 (Value.slice pa5 out.length pc5).ownBlock := hg4
          have hB4 : Below w.heap.size w w4 := (hBDr.alloc hBDr.size _).grown hg4' (by have := hBDr.size; simp at this ⊢; omega) (fun k e => (hOWQ.lt k e).1)
          clear hg4 hg4'
          have HN : w4.ownsRow w.heap.size 44 3 (.slice (some ⟨g4, 0, none⟩) (out.length + 1) c4) (out ++ [edP y]).length (flatE encE (out ++ [edP y])) := by rw [flatE_snoc, List.length_append]; exact ho4
          have HNE : (out ++ [edP y]) ++ mrg (A.drop i) (B.drop (k + 1)) = mrg A B := by
            rw [List.append_assoc, ← HE.out, HDA.out, HDB.out, mrg_gt hxy]; rfl
          clear ho4
          have HF := Lib.hid (And.intro HN (And.intro HNE hB4))
          clear HN HNE
          go_wp2
          go_roundg ((A.length - (i)) + (B.length - (k + 1)))
          case measure => omega
          case rel => exact ⟨i, k + 1, out ++ [edP y], by go_num, by go_num, by omega, by omega, Nat.le_refl _, by rw [List.length_append]; simp; omega, Lib.hid HF.out.1, Lib.hid HF.out.2.1, Lib.hid HF.out.2.2⟩
      · obtain rfl : k = B.length := by omega
        have HDB := Lib.hid (show B.drop B.length = [] from List.drop_eq_nil_of_le (Nat.le_refl _))
        have hOwr := HO.out
        have hBwr := HBw.out
        go_upto_region 9 with (fail)
        refine wp_region_quiet_lit (by kernel_rfl) (by kernel_rfl) ?_
        repeat (go_big_quiet_step (fail))
        refine wpQuiet_nil ?_
        rintro wq ⟨nq, rfl⟩
        obtain ⟨WQ, hWQ⟩ : ∃ W, W = wr.drewN nq := ⟨_, rfl⟩
        have hOWQ : WQ.ownsRow w.heap.size 44 3 (.slice pa5 out.length pc5) out.length (flatE encE out) := by rw [hWQ]; exact row_below hOwr (bl_drewN (bl_refl _) nq)
        have hBWQ : Below w.heap.size w WQ := by rw [hWQ]; exact bl_trans hBwr (bl_drewN (bl_refl _) nq)
        rw [← hWQ]
        clear hWQ
        have a0 := (HCA.out WQ hBWQ).1
        have a1 := (HCA.out WQ hBWQ).2
        go_upto_region 11 with (at_builtin; refine wpList_append_lies _ rfl _ _ 39 rfl w.heap.size 44 i0 _ 3 40 Try.underlying39 hi0 hz0 hz1 hz2 (by rfl) (by decide) (.slice pa5 out.length pc5) out.length _ rfl (hOWQ.alloc _) ⟨WQ.heap.size, 0, none⟩ 1 1 [Value.string x.k, .string ⟨#[]⟩, .bool true] rfl rfl (World.news_of_block (cs := #[Value.string x.k, .string ⟨#[]⟩, .bool true]) (t := 44) (fr := (0, 0)) (heap_alloc_new WQ _)) (by simp [Value.oneCell']) (by omega) (by have := HMS.out; omega) (by omega) (by have := hBWQ.size; simp; omega) _ rfl ?_; intro g4 c4 w4 ho4 hg4 _ _)
        have hg4' : (WQ.alloc (.cells #[Value.string x.k, .string ⟨#[]⟩, .bool true] 44)).grownBy w4 (Value.slice pa5 out.length pc5).ownBlock := hg4
        have hB4 : Below w.heap.size w w4 := (hBWQ.alloc hBWQ.size _).grown hg4' (by have := hBWQ.size; simp; omega) (fun k e => (hOWQ.lt k e).1)
        clear hg4 hg4'
        have HN : w4.ownsRow w.heap.size 44 3 (.slice (some ⟨g4, 0, none⟩) (out.length + 1) c4) (out ++ [edD x]).length (flatE encE (out ++ [edD x])) := by rw [flatE_snoc, List.length_append]; exact ho4
        have HNE : (out ++ [edD x]) ++ mrg (A.drop (i + 1)) (B.drop B.length) = mrg A B := by
          rw [List.append_assoc, ← HE.out, HDA.out, HDB.out, mrg]; rfl
        clear ho4
        have HF := Lib.hid (And.intro HN (And.intro HNE hB4))
        clear HN HNE
        go_wp2
        go_roundg ((A.length - (i + 1)) + (B.length - (B.length)))
        case measure => omega
        case rel => exact ⟨i + 1, B.length, out ++ [edD x], by go_num, by go_num, by omega, by omega, Nat.le_refl _, by rw [List.length_append]; simp; omega, Lib.hid HF.out.1, Lib.hid HF.out.2.1, Lib.hid HF.out.2.2⟩
    · obtain rfl : i = A.length := by omega
      have HDA := Lib.hid (show A.drop A.length = [] from List.drop_eq_nil_of_le (Nat.le_refl _))
      by_cases hkb : k < B.length
      · skip
        obtain ⟨y, hy⟩ : ∃ y, B[k]? = some y := ⟨_, List.getElem?_eq_getElem hkb⟩
        obtain ⟨gb, _, rfl, hgb, _, _, hcelb⟩ := HB.out (by omega)
        have HCB := Lib.hid (fun W (hW : Below w.heap.size w W) => (And.intro ((hW.cell (p := ⟨gb, k * 2, none⟩) hgb).trans (hcelb k y hy).1) ((hW.cell (p := ⟨gb, k * 2 + 1, none⟩) hgb).trans (hcelb k y hy).2)))
        have b0 := (HCB.out wr HBw.out).1
        have b1 := (HCB.out wr HBw.out).2
        have HDB := Lib.hid (drop_at hy)
        have wB : IntKind.i64.wrap ((B.length : Int) - 1) = (B.length : Int) - 1 := IntWalk.i64_in _ (by omega)
        have mB : min (k : Int) ((B.length : Int) - 1) = (k : Int) := by omega
        have dB1 : decide (k < B.length) = true := decide_eq_true hkb
        have dB2 : decide (k = B.length) = false := decide_eq_false (by omega)
        have dB3 : ((k : Int) == (B.length : Int)) = false := by rw [beq_eq_false_iff_ne]; omega
        clear hy hcelb
        have hOwr := HO.out
        have hBwr := HBw.out
        go_upto_region 9 with (fail)
        refine wp_region_quiet_lit (by kernel_rfl) (by kernel_rfl) ?_
        repeat (go_big_quiet_step (fail))
        refine wpQuiet_nil ?_
        rintro wq ⟨nq, rfl⟩
        obtain ⟨WP, hWP⟩ : ∃ W, W = wr.drewN nq := ⟨_, rfl⟩
        have hOWP : WP.ownsRow w.heap.size 44 3 (.slice pa5 out.length pc5) out.length (flatE encE out) := by rw [hWP]; exact row_below hOwr (bl_drewN (bl_refl _) nq)
        have hBWP : Below w.heap.size w WP := by rw [hWP]; exact bl_trans hBwr (bl_drewN (bl_refl _) nq)
        rw [← hWP]
        clear hWP
        have b0 := (HCB.out WP hBWP).1
        have b1 := (HCB.out WP hBWP).2
        go_upto_region 12 with (fail)
        refine wp_region_quiet_lit (by kernel_rfl) (by kernel_rfl) ?_
        repeat (go_big_quiet_step (fail))
        refine wpQuiet_nil ?_
        rintro wq ⟨nq, rfl⟩
        obtain ⟨WQ, hWQ⟩ : ∃ W, W = WP.drewN nq := ⟨_, rfl⟩
        have hOWQ : WQ.ownsRow w.heap.size 44 3 (.slice pa5 out.length pc5) out.length (flatE encE out) := by rw [hWQ]; exact row_below hOWP (bl_drewN (bl_refl _) nq)
        have hBWQ : Below w.heap.size w WQ := by rw [hWQ]; exact bl_trans hBWP (bl_drewN (bl_refl _) nq)
        rw [← hWQ]
        clear hWQ
        have b0 := (HCB.out WQ hBWQ).1
        have b1 := (HCB.out WQ hBWQ).2
        go_upto_region 13 with (fail)
        have hODr : (WQ.drew).ownsRow w.heap.size 44 3 (.slice pa5 out.length pc5) out.length (flatE encE out) := row_below hOWQ (bl_drew _)
        have hBDr : Below w.heap.size w (WQ.drew) := bl_trans hBWQ (bl_drew _)
        go_region_held3 (fun w' => w'.cell? ⟨gb, k * 2, none⟩ = some (.string y.k) ∧ w'.cell? ⟨gb, k * 2 + 1, none⟩ = some (.string y.v)) (first | exact HCB.out _ hBDr | exact HCB.out _ (hBDr.alloc hBDr.size _) | exact HCB.out _ ((hBDr.alloc hBDr.size _).grown hg4 (by have := hBDr.size; simp at this ⊢; omega) (fun k e => (hOWQ.lt k e).1)) | go_keep) (first | (refine step_append_lies _ (by rfl) (.tmp 108) (.tmp 120) 39 (by rfl) w.heap.size 44 i0 _ 3 40 Try.underlying39 hi0 hz0 hz1 hz2 rfl (by omega) (.slice pa5 out.length pc5) out.length (flatE encE out) (by rfl) (hODr.alloc (.cells #[Value.string y.k, .string y.v, .bool false] 44)) ⟨WQ.heap.size, 0, none⟩ 1 1 [Value.string y.k, .string y.v, .bool false] (by rfl) (by rfl) (World.news_of_block (cs := #[Value.string y.k, .string y.v, .bool false]) (t := 44) (fr := (0, 0)) (heap_alloc_new (WQ.drew) _)) (by simp [Value.oneCell']) (by omega) (by have := HMS.out; omega) (by omega) (by have := hBDr.size; simp at this ⊢; omega) _ rfl ?_; intro g4 c4 w4 ho4 hg4 _ _))
        have hg4' : (WQ.drew.alloc (.cells #[Value.string y.k, .string y.v, .bool false] 44)).grownBy w4 (Value.slice pa5 out.length pc5).ownBlock := hg4
        have hB4 : Below w.heap.size w w4 := (hBDr.alloc hBDr.size _).grown hg4' (by have := hBDr.size; simp at this ⊢; omega) (fun k e => (hOWQ.lt k e).1)
        clear hg4 hg4'
        have HN : w4.ownsRow w.heap.size 44 3 (.slice (some ⟨g4, 0, none⟩) (out.length + 1) c4) (out ++ [edP y]).length (flatE encE (out ++ [edP y])) := by rw [flatE_snoc, List.length_append]; exact ho4
        have HNE : (out ++ [edP y]) ++ mrg (A.drop A.length) (B.drop (k + 1)) = mrg A B := by
          rw [List.append_assoc, ← HE.out, HDA.out, HDB.out, mrg, mrg]; rfl
        clear ho4
        have HF := Lib.hid (And.intro HN (And.intro HNE hB4))
        clear HN HNE
        go_wp2
        go_roundg ((A.length - (A.length)) + (B.length - (k + 1)))
        case measure => omega
        case rel => exact ⟨A.length, k + 1, out ++ [edP y], by go_num, by go_num, by omega, by omega, Nat.le_refl _, by rw [List.length_append]; simp; omega, Lib.hid HF.out.1, Lib.hid HF.out.2.1, Lib.hid HF.out.2.2⟩
      · obtain rfl : k = B.length := by omega
        have HDB := Lib.hid (show B.drop B.length = [] from List.drop_eq_nil_of_le (Nat.le_refl _))
        have hfin : out = mrg A B := by
          have := HE.out
          rw [HDA.out, HDB.out, mrg] at this
          simpa using this
        have HFIN := Lib.hid hfin
        clear hfin
        go_wp2
        go_ret
        refine ⟨_, rfl, ?_, HBw.out⟩
        rw [← HFIN.out]
        exact HO.out
end Go.Proofs.Ytmkhnpkbaegchaa
/- The walk of the law TreeDiffs. Conditions: none. -/
namespace Go.Proofs.Ytmkhnpkbaegchaa
open Go.RowKit

set_option maxRecDepth 100000 in
set_option maxHeartbeats 8000000 in
theorem law_diffs (va : Value) (la : List OpV) (vb : Value) (lb : List OpV) (more : Bool) (w : World) (hIa : IsRow 3 encO w va la) (hoka : ∀ x ∈ la, OpOk x) (hcapa : ∃ a c, va = .slice a la.length c ∧ la.length ≤ c) (hIb : IsRow 3 encO w vb lb) (hokb : ∀ x ∈ lb, OpOk x) (_hcapb : ∃ a c, vb = .slice a lb.length c ∧ lb.length ≤ c) :
    Calls Try.prog 4 #[va, vb, .bool more] w (Ret (.bool true) w) := by
  obtain ⟨pa, cap, rfl, hc⟩ := hcapa
  have hlm : la.length ≤ maxLen := hIa.slice.choose_spec.choose_spec.2
  have hms : maxLen = 9223372036854775807 := rfl
  have hlm2 : la.length ≤ 9223372036854775807 := by rw [← hms]; exact hlm
  obtain ⟨j, hj⟩ : ∃ j : Nat, j = min la.length 30 := ⟨_, rfl⟩
  have hjl : j ≤ la.length := by omega
  have hmin : min (la.length : Int) 30 = (j : Int) := by omega
  have K3 : Calls Try.prog 18 #[.slice pa j cap, .int .i64 20] w (BuiltP (la.take j).length w) := builtP_any _ (la.take j) 20 w (hIa.take hjl hlm) (fun x hx => hoka x (List.mem_of_mem_take hx)) (by rw [List.length_take]; omega) (by omega) (by omega)
  have hjc : j ≤ cap := by omega
  have hj30 : (la.take j).length ≤ 30 := by rw [List.length_take]; omega
  obtain ⟨pb, cb, rfl, _, hopb⟩ := hIb.open
  have HK3 := Lib.hid K3; have HMS := Lib.hid hms; have HOPB := Lib.hid hopb; have HOKB := Lib.hid hokb
  clear K3 hIa hIb hoka hokb hj hms hlm hopb
  go_enter Try.func4, Try.ntmps4
  go_wp2_with fail
  refine HK3.out.mono ?_
  rintro e w0 ⟨T, v, rfl, hT, hvv, hl, hpl, hb0⟩
  have hlT0 := Nat.le_trans hl hj30
  obtain ⟨pv, cv, rfl⟩ := row_slice hvv
  go_wp2_with fail
  refine (new_any _).mono ?_
  rintro e w1 ⟨q, rfl, hT1, _, hb1⟩
  have HT := Lib.hid (hT.below hb1); have HV := Lib.hid (row_below hvv hb1); have HL := Lib.hid hlT0; have HPT := Lib.hid hpl
  have HB1 := Lib.hid (bl_trans hb0 hb1)
  have HT1 := Lib.hid hT1
  clear hT hvv hl hlT0 hpl hj30 HK3 hmin hjc hjl hT1 hb0 hb1
  cases more
  · go_wp2
    go_loopg [10, 11, 12] 30 (fun kx s10 s11 s12 wr => ∃ (i : Nat) (U : Tre), s12 = .int .i64 i ∧ s10 = ptrN U.p ∧ i ≤ 30 ∧ 30 - i ≤ kx ∧ Hid (IsT wr U) ∧ Hid (RowA wr s11 U.l) ∧ Hid (U.l.length ≤ 30 + i) ∧ Hid (PermL U.l) ∧ Hid (Below w1.heap.size w1 wr))
    case atStart => exact ⟨0, ⟨q, [], 0, []⟩, rfl, rfl, by omega, Nat.le_refl _, HT1, Lib.hid (World.ownsRow_nil _ _ _ _), Lib.hid (Nat.zero_le _), Lib.hid PermL.nil, Lib.hid (bl_refl _)⟩
    case round =>
      obtain ⟨i, U, rfl, rfl, hi, hm, HU, HVU, HLU, HPU, HBw⟩ := hrel
      obtain ⟨pu, cu, rfl⟩ := row_slice HVU.out
      by_cases hlt : i < lb.length
      · by_cases hlt2 : i < 30
        · obtain ⟨x, hx⟩ : ∃ x, lb[i]? = some x := ⟨_, List.getElem?_eq_getElem hlt⟩
          have hxo := HOKB.out x (List.mem_of_getElem? hx)
          obtain ⟨g, off, rfl, hg, hcell⟩ := HOPB.out (by omega)
          have HCE := Lib.hid (fun W (hW : Below w.heap.size w W) => And.intro ((hW.cell (p := ⟨g, off + i * 3 + 0, none⟩) hg).trans (hcell i x hx 0 _ rfl)) (And.intro ((hW.cell (p := ⟨g, off + i * 3 + 1, none⟩) hg).trans (hcell i x hx 1 _ rfl)) ((hW.cell (p := ⟨g, off + i * 3 + 2, none⟩) hg).trans (hcell i x hx 2 _ rfl))))
          have hB0 := bl_trans HB1.out HBw.out
          have c0 := (HCE.out wr hB0).1
          have c1 := (HCE.out wr hB0).2.1
          have c2 := (HCE.out wr hB0).2.2
          rw [Nat.add_zero] at c0
          have hch := change_any U x 20 wr HU.out hxo (by omega) (by omega) (by have := HLU.out; omega)
          have hp1 : ∀ W, Below wr.heap.size wr W → Calls Try.prog 19 #[.slice pu U.l.length cu, .agg #[.int .u8 (x.a : Int), .int .i64 x.k, .int .u8 (x.v : Int)], .int .i64 20] W (RowPost (chL U.l x 20) W) := fun W hb => put1_any U.l _ x 20 W (row_below HVU.out hb) HU.out.1 hxo (by omega) (by omega) (by have := HLU.out; omega)
          have hln := chL_len HU.out.1 x 20
          have HCH := Lib.hid hch; have HP1 := Lib.hid hp1; have HLN := Lib.hid hln; have HBA := Lib.hid hB0
          clear hch hp1 hcell hx hln hB0
          go_wp2_with fail
          refine HCH.out.mono ?_
          rintro e w2 ⟨U', rfl, hU', hl', _, hb2⟩
          have HU' := Lib.hid hU'; have HL' := Lib.hid hl'; have HB2 := Lib.hid hb2
          have hB2 := bl_trans HBA.out hb2
          have e0 := (HCE.out w2 hB2).1
          have e1 := (HCE.out w2 hB2).2.1
          have e2 := (HCE.out w2 hB2).2.2
          rw [Nat.add_zero] at e0
          clear hU' hl' hb2 hB2 c0 c1 c2 HCH
          go_wp2_with fail
          refine (HP1.out _ HB2.out).mono ?_
          rintro e w3 ⟨v', rfl, hv', hb3⟩
          have HV' := Lib.hid hv'
          have HU3 := Lib.hid (HU'.out.below hb3)
          have HB3 := Lib.hid (bl_trans HBw.out (bl_trans HB2.out hb3))
          clear hv' hb3 e0 e1 e2
          go_wp2
          go_roundg (30 - (i + 1))
          case measure => omega
          case rel => exact ⟨i + 1, U', by go_num, rfl, by omega, Nat.le_refl _, HU3, Lib.hid (by rw [HL'.out]; exact HV'.out), Lib.hid (by rw [HL'.out]; have := HLN.out; have := HLU.out; omega), Lib.hid (by rw [HL'.out]; exact HPU.out.ch x 20), HB3⟩
        · skip
          have hTw := HT.out.below HBw.out
          have hvT := row_below HV.out HBw.out
          have hlU : U.l.length ≤ 60 := by have := HLU.out; omega
          have hlT : T.l.length ≤ 30 := HL.out
          have hsT := HT.out.1
          have hsU := HU.out.1
          have hdm := difF_mrg (b := U.l) hsT
          have hml : (mrg T.l U.l).length ≤ 90 := by
            have h1 := difS_len T.l U.l
            have h2 := congrArg List.length hdm
            unfold difF at h2
            rw [List.length_append, List.length_map] at h2
            omega
          have hap := apply_diff hsT hsU HPU.out
          have hd1 := diff_any T U wr hTw HU.out (by omega) (by omega)
          rw [hdm] at hd1
          have hd2 : ∀ W, Below wr.heap.size wr W → Calls Try.prog 22 #[.slice pv T.l.length cv, .slice pu U.l.length cu] W (OwnPost 44 3 (flatE encE (mrg T.l U.l)) (mrg T.l U.l).length W) := fun W hb => rdiff_any T.l U.l _ _ W (row_below hvT hb) (row_below HVU.out hb) (by omega) (by omega)
          obtain ⟨M, hM⟩ : ∃ M, M = mrg T.l U.l := ⟨_, rfl⟩
          rw [← hM] at hml hap hd1
          simp only [← hM] at hd2
          have HD1 := Lib.hid hd1; have HD2 := Lib.hid hd2; have HAP := Lib.hid hap; have HTW := Lib.hid hTw
          clear hM hd1 hd2 hap hTw hvT hdm hsT hsU
          go_wp2_with fail
          refine HD1.out.mono ?_
          rintro e w2 ⟨v2, rfl, ho2, hb2⟩
          obtain ⟨pd, cd, rfl⟩ := row_slice ho2
          have hx2 : IsRow 3 encE w2 (.slice pd M.length cd) M := IsRow.of_row encE_len ho2 (by show M.length ≤ maxLen; unfold maxLen; omega)
          have HX2 := Lib.hid hx2; have HB2 := Lib.hid hb2
          clear ho2 hx2 hb2 HD1
          go_wp2_with fail
          refine (HD2.out _ HB2.out).mono ?_
          rintro e w3 ⟨v3, rfl, ho3, hb3⟩
          obtain ⟨pe, ce, rfl⟩ := row_slice ho3
          have hx3 : IsRow 3 encE w3 (.slice pe M.length ce) M := IsRow.of_row encE_len ho3 (by show M.length ≤ maxLen; unfold maxLen; omega)
          have hse := sameEdits_any M M (.slice pd M.length cd) (.slice pe M.length ce) w3 (HX2.out.below hb3) hx3 (by omega) (by omega)
          rw [decide_eq_true rfl] at hse
          have HSE := Lib.hid hse
          have HB3 := Lib.hid (bl_trans HB2.out hb3)
          obtain ⟨pd', cd', hpd, _, hopd⟩ := (HX2.out.below hb3).open
          injection hpd with q1 q2 q3
          subst q1
          subst q3
          have HOPD := Lib.hid hopd
          clear ho3 hx3 hse hb3 q2 hopd HD2
          go_wp2_with fail
          refine HSE.out.mono ?_
          rintro e w4 ⟨rfl, hb4⟩
          have HB4 := Lib.hid (bl_trans HB3.out hb4)
          have HC0 := Lib.hid (HTW.out.below HB4.out)
          have hb34 := hb4
          obtain ⟨wz, hwz⟩ : ∃ W : World, W = wr := ⟨_, rfl⟩
          rw [← hwz] at HB4 HB3
          have HBZ := Lib.hid HBw.out
          have HUZ := Lib.hid HU.out
          have HVZ := Lib.hid HVU.out
          rw [← hwz] at HUZ HVZ HBZ
          clear hwz
          go_wp2
          go_loopg [14, 15] 90 (fun kx s14 s15 wr => ∃ (i : Nat) (C : Tre), s15 = .int .i64 i ∧ s14 = ptrN C.p ∧ i ≤ M.length ∧ M.length - i ≤ kx ∧ Hid (IsT wr C) ∧ Hid (C.l = (M.take i).foldl applyE T.l) ∧ Hid (C.l.length ≤ 30 + i) ∧ Hid (Below w3.heap.size w3 wr))
          case atStart => exact ⟨0, T, rfl, rfl, by omega, by omega, HC0, Lib.hid (by simp), Lib.hid (by omega), Lib.hid hb34⟩
          case round =>
            obtain ⟨t, C, rfl, rfl, ht, hm5, HC, HCL, HCN, HBC⟩ := hrel
            by_cases htm : t < M.length
            · obtain ⟨x, hx⟩ : ∃ x, M[t]? = some x := ⟨_, List.getElem?_eq_getElem htm⟩
              obtain ⟨g, off, rfl, hg, hcell⟩ := HOPD.out (by omega)
              have HCE := Lib.hid (fun W (hW : Below w3.heap.size w3 W) => And.intro ((hW.cell (p := ⟨g, off + t * 3 + 0, none⟩) hg).trans (hcell t x hx 0 _ rfl)) (And.intro ((hW.cell (p := ⟨g, off + t * 3 + 1, none⟩) hg).trans (hcell t x hx 1 _ rfl)) ((hW.cell (p := ⟨g, off + t * 3 + 2, none⟩) hg).trans (hcell t x hx 2 _ rfl))))
              have c0 := (HCE.out wr HBC.out).1
              have c1 := (HCE.out wr HBC.out).2.1
              have c2 := (HCE.out wr HBC.out).2.2
              rw [Nat.add_zero] at c0
              have hnx : (M.take (t + 1)).foldl applyE T.l = applyE C.l x := by rw [List.take_add_one, hx, Option.toList_some, List.foldl_append, ← HCL.out]; rfl
              have HNX := Lib.hid hnx
              clear hx hcell hnx
              cases hd : x.d
              · have hput := fun W (hb : Below wr.heap.size wr W) => tput_any C ⟨x.k, x.v⟩ W (HC.out.below hb) (by have := HCN.out; omega)
                have hln := putT_len HC.out.1 ⟨x.k, x.v⟩
                have hae : applyE C.l x = putT C.l ⟨x.k, x.v⟩ := by unfold applyE; rw [hd]; rfl
                have HPUT := Lib.hid hput; have HLN := Lib.hid hln; have HAE := Lib.hid hae
                rw [hd] at c2
                clear hput hln hae hd
                go_upto_region 25 with (fail)
                refine wp_region_still_tail 11 (by kernel_rfl) (by kernel_rfl) ?_
                simp only [List.take_succ_cons, List.take_zero, List.drop_succ_cons, List.drop_zero]
                change wpStill _ _ (wr.drew) (fun a' => wpList _ _ _ _ a' (wr.drew)) _ _
                iterate 11 still_step
                refine wpStill_nil ?_
                go_wp2_with fail
                refine (HPUT.out _ (bl_drew _)).mono ?_
                rintro e w6 ⟨C', rfl, hC', hlC, _, _, hb6⟩
                have HC' := Lib.hid hC'; have HLC := Lib.hid hlC
                have HB6 := Lib.hid (bl_trans HBC.out (bl_trans (bl_drew wr) hb6))
                clear hC' hlC hb6 c0 c1 c2 HPUT
                go_wp2
                go_roundg (M.length - (t + 1))
                case measure => omega
                case rel => exact ⟨t + 1, C', by go_num, rfl, by omega, Nat.le_refl _, HC', Lib.hid (by rw [HLC.out, HNX.out, HAE.out]), Lib.hid (by rw [HLC.out]; have := HLN.out; have := HCN.out; omega), HB6⟩
              · have hdel := fun W (hb : Below wr.heap.size wr W) => tdelF_any (F := Any) C x.k W (HC.out.below hb).isTF (fun _ _ => trivial) (by have := HCN.out; omega)
                have hln := delL_len HC.out.1 x.k
                have hae : applyE C.l x = delL C.l x.k := by unfold applyE; rw [hd]; rfl
                have HDEL := Lib.hid hdel; have HLN := Lib.hid hln; have HAE := Lib.hid hae
                rw [hd] at c2
                clear hdel hln hae hd
                go_wp2_with fail
                refine (HDEL.out _ (bl_refl _)).mono ?_
                rintro e w6 ⟨C', rfl, hC', hlC, _, _, hb6⟩
                have HC' := Lib.hid hC'.isT; have HLC := Lib.hid hlC
                have HB6 := Lib.hid (bl_trans HBC.out hb6)
                clear hC' hlC hb6 c0 c1 c2 HDEL
                go_wp2
                go_roundg (M.length - (t + 1))
                case measure => omega
                case rel => exact ⟨t + 1, C', by go_num, rfl, by omega, Nat.le_refl _, HC', Lib.hid (by rw [HLC.out, HNX.out, HAE.out]), Lib.hid (by rw [HLC.out]; have := HLN.out; have := HCN.out; omega), HB6⟩
            · obtain rfl : t = M.length := by omega
              have hcu : C.l = U.l := by rw [HCL.out, List.take_length]; exact HAP.out
              have hbz := bl_trans HB3.out HBC.out
              have hr := range_any C ⟨#[]⟩ ⟨#[]⟩ wr HC.out (by rw [hcu]; omega)
              rw [rangeL_all, hcu] at hr
              have hdz : ∀ W, Below wr.heap.size wr W → Calls Try.prog 20 #[ptrN C.p, ptrN U.p] W (OwnPost 44 3 [] 0 W) := fun W hb => by
                have := diff_any C U W (HC.out.below hb) (HUZ.out.below (bl_trans hbz hb)) (by rw [hcu]; omega) (by omega)
                rw [hcu, difF_same HUZ.out.1] at this
                exact this
              have HR := Lib.hid hr; have HDZ := Lib.hid hdz; have HBz := Lib.hid hbz
              clear hr hdz hcu hbz
              go_wp2_with fail
              refine HR.out.mono ?_
              rintro e w7 ⟨v7, rfl, ho7, hb7⟩
              obtain ⟨p7, c7, rfl⟩ := row_slice ho7
              have hx7 : IsRow 2 encKV w7 (.slice p7 U.l.length c7) U.l := IsRow.of_row encKV_len ho7 (by show U.l.length ≤ maxLen; unfold maxLen; omega)
              have hx8 : IsRow 2 encKV w7 (.slice pu U.l.length cu) U.l := IsRow.of_row encKV_len (row_below HVZ.out (bl_trans HBz.out hb7)) (by show U.l.length ≤ maxLen; unfold maxLen; omega)
              have hsm := same_any U.l U.l _ _ w7 hx7 hx8 (by omega) (by omega)
              rw [decide_eq_true rfl] at hsm
              have HSM := Lib.hid hsm; have HB7 := Lib.hid hb7
              clear ho7 hx7 hx8 hsm hb7
              go_wp2_with fail
              refine HSM.out.mono ?_
              rintro e w8 ⟨rfl, hb8⟩
              have HB8 := Lib.hid (bl_trans HB7.out hb8)
              clear hb8
              go_wp2_with fail
              refine (HDZ.out _ HB8.out).mono ?_
              rintro e w9 ⟨v9, rfl, ho9, hb9⟩
              obtain ⟨p9, c9, rfl⟩ := row_slice ho9
              have HB9 := Lib.hid (bl_trans HB8.out hb9)
              clear ho9 hb9
              go_wp2_with fail
              refine (lives_any _).mono ?_
              rintro e w10 ⟨rfl, hb10⟩
              go_wp2
              go_ret
              exact ⟨rfl, bl_trans HB1.out (bl_trans HBZ.out (bl_trans HBz.out (bl_trans HB9.out hb10)))⟩
      · skip
        have hTw := HT.out.below HBw.out
        have hvT := row_below HV.out HBw.out
        have hlU : U.l.length ≤ 60 := by have := HLU.out; omega
        have hlT : T.l.length ≤ 30 := HL.out
        have hsT := HT.out.1
        have hsU := HU.out.1
        have hdm := difF_mrg (b := U.l) hsT
        have hml : (mrg T.l U.l).length ≤ 90 := by
          have h1 := difS_len T.l U.l
          have h2 := congrArg List.length hdm
          unfold difF at h2
          rw [List.length_append, List.length_map] at h2
          omega
        have hap := apply_diff hsT hsU HPU.out
        have hd1 := diff_any T U wr hTw HU.out (by omega) (by omega)
        rw [hdm] at hd1
        have hd2 : ∀ W, Below wr.heap.size wr W → Calls Try.prog 22 #[.slice pv T.l.length cv, .slice pu U.l.length cu] W (OwnPost 44 3 (flatE encE (mrg T.l U.l)) (mrg T.l U.l).length W) := fun W hb => rdiff_any T.l U.l _ _ W (row_below hvT hb) (row_below HVU.out hb) (by omega) (by omega)
        obtain ⟨M, hM⟩ : ∃ M, M = mrg T.l U.l := ⟨_, rfl⟩
        rw [← hM] at hml hap hd1
        simp only [← hM] at hd2
        have HD1 := Lib.hid hd1; have HD2 := Lib.hid hd2; have HAP := Lib.hid hap; have HTW := Lib.hid hTw
        clear hM hd1 hd2 hap hTw hvT hdm hsT hsU
        go_wp2_with fail
        refine HD1.out.mono ?_
        rintro e w2 ⟨v2, rfl, ho2, hb2⟩
        obtain ⟨pd, cd, rfl⟩ := row_slice ho2
        have hx2 : IsRow 3 encE w2 (.slice pd M.length cd) M := IsRow.of_row encE_len ho2 (by show M.length ≤ maxLen; unfold maxLen; omega)
        have HX2 := Lib.hid hx2; have HB2 := Lib.hid hb2
        clear ho2 hx2 hb2 HD1
        go_wp2_with fail
        refine (HD2.out _ HB2.out).mono ?_
        rintro e w3 ⟨v3, rfl, ho3, hb3⟩
        obtain ⟨pe, ce, rfl⟩ := row_slice ho3
        have hx3 : IsRow 3 encE w3 (.slice pe M.length ce) M := IsRow.of_row encE_len ho3 (by show M.length ≤ maxLen; unfold maxLen; omega)
        have hse := sameEdits_any M M (.slice pd M.length cd) (.slice pe M.length ce) w3 (HX2.out.below hb3) hx3 (by omega) (by omega)
        rw [decide_eq_true rfl] at hse
        have HSE := Lib.hid hse
        have HB3 := Lib.hid (bl_trans HB2.out hb3)
        obtain ⟨pd', cd', hpd, _, hopd⟩ := (HX2.out.below hb3).open
        injection hpd with q1 q2 q3
        subst q1
        subst q3
        have HOPD := Lib.hid hopd
        clear ho3 hx3 hse hb3 q2 hopd HD2
        go_wp2_with fail
        refine HSE.out.mono ?_
        rintro e w4 ⟨rfl, hb4⟩
        have HB4 := Lib.hid (bl_trans HB3.out hb4)
        have HC0 := Lib.hid (HTW.out.below HB4.out)
        have hb34 := hb4
        obtain ⟨wz, hwz⟩ : ∃ W : World, W = wr := ⟨_, rfl⟩
        rw [← hwz] at HB4 HB3
        have HBZ := Lib.hid HBw.out
        have HUZ := Lib.hid HU.out
        have HVZ := Lib.hid HVU.out
        rw [← hwz] at HUZ HVZ HBZ
        clear hwz
        go_wp2
        go_loopg [14, 15] 90 (fun kx s14 s15 wr => ∃ (i : Nat) (C : Tre), s15 = .int .i64 i ∧ s14 = ptrN C.p ∧ i ≤ M.length ∧ M.length - i ≤ kx ∧ Hid (IsT wr C) ∧ Hid (C.l = (M.take i).foldl applyE T.l) ∧ Hid (C.l.length ≤ 30 + i) ∧ Hid (Below w3.heap.size w3 wr))
        case atStart => exact ⟨0, T, rfl, rfl, by omega, by omega, HC0, Lib.hid (by simp), Lib.hid (by omega), Lib.hid hb34⟩
        case round =>
          obtain ⟨t, C, rfl, rfl, ht, hm5, HC, HCL, HCN, HBC⟩ := hrel
          by_cases htm : t < M.length
          · obtain ⟨x, hx⟩ : ∃ x, M[t]? = some x := ⟨_, List.getElem?_eq_getElem htm⟩
            obtain ⟨g, off, rfl, hg, hcell⟩ := HOPD.out (by omega)
            have HCE := Lib.hid (fun W (hW : Below w3.heap.size w3 W) => And.intro ((hW.cell (p := ⟨g, off + t * 3 + 0, none⟩) hg).trans (hcell t x hx 0 _ rfl)) (And.intro ((hW.cell (p := ⟨g, off + t * 3 + 1, none⟩) hg).trans (hcell t x hx 1 _ rfl)) ((hW.cell (p := ⟨g, off + t * 3 + 2, none⟩) hg).trans (hcell t x hx 2 _ rfl))))
            have c0 := (HCE.out wr HBC.out).1
            have c1 := (HCE.out wr HBC.out).2.1
            have c2 := (HCE.out wr HBC.out).2.2
            rw [Nat.add_zero] at c0
            have hnx : (M.take (t + 1)).foldl applyE T.l = applyE C.l x := by rw [List.take_add_one, hx, Option.toList_some, List.foldl_append, ← HCL.out]; rfl
            have HNX := Lib.hid hnx
            clear hx hcell hnx
            cases hd : x.d
            · have hput := fun W (hb : Below wr.heap.size wr W) => tput_any C ⟨x.k, x.v⟩ W (HC.out.below hb) (by have := HCN.out; omega)
              have hln := putT_len HC.out.1 ⟨x.k, x.v⟩
              have hae : applyE C.l x = putT C.l ⟨x.k, x.v⟩ := by unfold applyE; rw [hd]; rfl
              have HPUT := Lib.hid hput; have HLN := Lib.hid hln; have HAE := Lib.hid hae
              rw [hd] at c2
              clear hput hln hae hd
              go_upto_region 25 with (fail)
              refine wp_region_still_tail 11 (by kernel_rfl) (by kernel_rfl) ?_
              simp only [List.take_succ_cons, List.take_zero, List.drop_succ_cons, List.drop_zero]
              change wpStill _ _ (wr.drew) (fun a' => wpList _ _ _ _ a' (wr.drew)) _ _
              iterate 11 still_step
              refine wpStill_nil ?_
              go_wp2_with fail
              refine (HPUT.out _ (bl_drew _)).mono ?_
              rintro e w6 ⟨C', rfl, hC', hlC, _, _, hb6⟩
              have HC' := Lib.hid hC'; have HLC := Lib.hid hlC
              have HB6 := Lib.hid (bl_trans HBC.out (bl_trans (bl_drew wr) hb6))
              clear hC' hlC hb6 c0 c1 c2 HPUT
              go_wp2
              go_roundg (M.length - (t + 1))
              case measure => omega
              case rel => exact ⟨t + 1, C', by go_num, rfl, by omega, Nat.le_refl _, HC', Lib.hid (by rw [HLC.out, HNX.out, HAE.out]), Lib.hid (by rw [HLC.out]; have := HLN.out; have := HCN.out; omega), HB6⟩
            · have hdel := fun W (hb : Below wr.heap.size wr W) => tdelF_any (F := Any) C x.k W (HC.out.below hb).isTF (fun _ _ => trivial) (by have := HCN.out; omega)
              have hln := delL_len HC.out.1 x.k
              have hae : applyE C.l x = delL C.l x.k := by unfold applyE; rw [hd]; rfl
              have HDEL := Lib.hid hdel; have HLN := Lib.hid hln; have HAE := Lib.hid hae
              rw [hd] at c2
              clear hdel hln hae hd
              go_wp2_with fail
              refine (HDEL.out _ (bl_refl _)).mono ?_
              rintro e w6 ⟨C', rfl, hC', hlC, _, _, hb6⟩
              have HC' := Lib.hid hC'.isT; have HLC := Lib.hid hlC
              have HB6 := Lib.hid (bl_trans HBC.out hb6)
              clear hC' hlC hb6 c0 c1 c2 HDEL
              go_wp2
              go_roundg (M.length - (t + 1))
              case measure => omega
              case rel => exact ⟨t + 1, C', by go_num, rfl, by omega, Nat.le_refl _, HC', Lib.hid (by rw [HLC.out, HNX.out, HAE.out]), Lib.hid (by rw [HLC.out]; have := HLN.out; have := HCN.out; omega), HB6⟩
          · obtain rfl : t = M.length := by omega
            have hcu : C.l = U.l := by rw [HCL.out, List.take_length]; exact HAP.out
            have hbz := bl_trans HB3.out HBC.out
            have hr := range_any C ⟨#[]⟩ ⟨#[]⟩ wr HC.out (by rw [hcu]; omega)
            rw [rangeL_all, hcu] at hr
            have hdz : ∀ W, Below wr.heap.size wr W → Calls Try.prog 20 #[ptrN C.p, ptrN U.p] W (OwnPost 44 3 [] 0 W) := fun W hb => by
              have := diff_any C U W (HC.out.below hb) (HUZ.out.below (bl_trans hbz hb)) (by rw [hcu]; omega) (by omega)
              rw [hcu, difF_same HUZ.out.1] at this
              exact this
            have HR := Lib.hid hr; have HDZ := Lib.hid hdz; have HBz := Lib.hid hbz
            clear hr hdz hcu hbz
            go_wp2_with fail
            refine HR.out.mono ?_
            rintro e w7 ⟨v7, rfl, ho7, hb7⟩
            obtain ⟨p7, c7, rfl⟩ := row_slice ho7
            have hx7 : IsRow 2 encKV w7 (.slice p7 U.l.length c7) U.l := IsRow.of_row encKV_len ho7 (by show U.l.length ≤ maxLen; unfold maxLen; omega)
            have hx8 : IsRow 2 encKV w7 (.slice pu U.l.length cu) U.l := IsRow.of_row encKV_len (row_below HVZ.out (bl_trans HBz.out hb7)) (by show U.l.length ≤ maxLen; unfold maxLen; omega)
            have hsm := same_any U.l U.l _ _ w7 hx7 hx8 (by omega) (by omega)
            rw [decide_eq_true rfl] at hsm
            have HSM := Lib.hid hsm; have HB7 := Lib.hid hb7
            clear ho7 hx7 hx8 hsm hb7
            go_wp2_with fail
            refine HSM.out.mono ?_
            rintro e w8 ⟨rfl, hb8⟩
            have HB8 := Lib.hid (bl_trans HB7.out hb8)
            clear hb8
            go_wp2_with fail
            refine (HDZ.out _ HB8.out).mono ?_
            rintro e w9 ⟨v9, rfl, ho9, hb9⟩
            obtain ⟨p9, c9, rfl⟩ := row_slice ho9
            have HB9 := Lib.hid (bl_trans HB8.out hb9)
            clear ho9 hb9
            go_wp2_with fail
            refine (lives_any _).mono ?_
            rintro e w10 ⟨rfl, hb10⟩
            go_wp2
            go_ret
            exact ⟨rfl, bl_trans HB1.out (bl_trans HBZ.out (bl_trans HBz.out (bl_trans HB9.out hb10)))⟩
  · go_wp2
    go_loopg [10, 11, 12] 30 (fun kx s10 s11 s12 wr => ∃ (i : Nat) (U : Tre), s12 = .int .i64 i ∧ s10 = ptrN U.p ∧ i ≤ 30 ∧ 30 - i ≤ kx ∧ Hid (IsT wr U) ∧ Hid (RowA wr s11 U.l) ∧ Hid (U.l.length ≤ 30 + i) ∧ Hid (PermL U.l) ∧ Hid (Below w1.heap.size w1 wr))
    case atStart => exact ⟨0, T, rfl, rfl, by omega, Nat.le_refl _, HT, HV, Lib.hid (by have := HL.out; omega), HPT, Lib.hid (bl_refl _)⟩
    case round =>
      obtain ⟨i, U, rfl, rfl, hi, hm, HU, HVU, HLU, HPU, HBw⟩ := hrel
      obtain ⟨pu, cu, rfl⟩ := row_slice HVU.out
      by_cases hlt : i < lb.length
      · by_cases hlt2 : i < 30
        · obtain ⟨x, hx⟩ : ∃ x, lb[i]? = some x := ⟨_, List.getElem?_eq_getElem hlt⟩
          have hxo := HOKB.out x (List.mem_of_getElem? hx)
          obtain ⟨g, off, rfl, hg, hcell⟩ := HOPB.out (by omega)
          have HCE := Lib.hid (fun W (hW : Below w.heap.size w W) => And.intro ((hW.cell (p := ⟨g, off + i * 3 + 0, none⟩) hg).trans (hcell i x hx 0 _ rfl)) (And.intro ((hW.cell (p := ⟨g, off + i * 3 + 1, none⟩) hg).trans (hcell i x hx 1 _ rfl)) ((hW.cell (p := ⟨g, off + i * 3 + 2, none⟩) hg).trans (hcell i x hx 2 _ rfl))))
          have hB0 := bl_trans HB1.out HBw.out
          have c0 := (HCE.out wr hB0).1
          have c1 := (HCE.out wr hB0).2.1
          have c2 := (HCE.out wr hB0).2.2
          rw [Nat.add_zero] at c0
          have hch := change_any U x 20 wr HU.out hxo (by omega) (by omega) (by have := HLU.out; omega)
          have hp1 : ∀ W, Below wr.heap.size wr W → Calls Try.prog 19 #[.slice pu U.l.length cu, .agg #[.int .u8 (x.a : Int), .int .i64 x.k, .int .u8 (x.v : Int)], .int .i64 20] W (RowPost (chL U.l x 20) W) := fun W hb => put1_any U.l _ x 20 W (row_below HVU.out hb) HU.out.1 hxo (by omega) (by omega) (by have := HLU.out; omega)
          have hln := chL_len HU.out.1 x 20
          have HCH := Lib.hid hch; have HP1 := Lib.hid hp1; have HLN := Lib.hid hln; have HBA := Lib.hid hB0
          clear hch hp1 hcell hx hln hB0
          go_wp2_with fail
          refine HCH.out.mono ?_
          rintro e w2 ⟨U', rfl, hU', hl', _, hb2⟩
          have HU' := Lib.hid hU'; have HL' := Lib.hid hl'; have HB2 := Lib.hid hb2
          have hB2 := bl_trans HBA.out hb2
          have e0 := (HCE.out w2 hB2).1
          have e1 := (HCE.out w2 hB2).2.1
          have e2 := (HCE.out w2 hB2).2.2
          rw [Nat.add_zero] at e0
          clear hU' hl' hb2 hB2 c0 c1 c2 HCH
          go_wp2_with fail
          refine (HP1.out _ HB2.out).mono ?_
          rintro e w3 ⟨v', rfl, hv', hb3⟩
          have HV' := Lib.hid hv'
          have HU3 := Lib.hid (HU'.out.below hb3)
          have HB3 := Lib.hid (bl_trans HBw.out (bl_trans HB2.out hb3))
          clear hv' hb3 e0 e1 e2
          go_wp2
          go_roundg (30 - (i + 1))
          case measure => omega
          case rel => exact ⟨i + 1, U', by go_num, rfl, by omega, Nat.le_refl _, HU3, Lib.hid (by rw [HL'.out]; exact HV'.out), Lib.hid (by rw [HL'.out]; have := HLN.out; have := HLU.out; omega), Lib.hid (by rw [HL'.out]; exact HPU.out.ch x 20), HB3⟩
        · skip
          have hTw := HT.out.below HBw.out
          have hvT := row_below HV.out HBw.out
          have hlU : U.l.length ≤ 60 := by have := HLU.out; omega
          have hlT : T.l.length ≤ 30 := HL.out
          have hsT := HT.out.1
          have hsU := HU.out.1
          have hdm := difF_mrg (b := U.l) hsT
          have hml : (mrg T.l U.l).length ≤ 90 := by
            have h1 := difS_len T.l U.l
            have h2 := congrArg List.length hdm
            unfold difF at h2
            rw [List.length_append, List.length_map] at h2
            omega
          have hap := apply_diff hsT hsU HPU.out
          have hd1 := diff_any T U wr hTw HU.out (by omega) (by omega)
          rw [hdm] at hd1
          have hd2 : ∀ W, Below wr.heap.size wr W → Calls Try.prog 22 #[.slice pv T.l.length cv, .slice pu U.l.length cu] W (OwnPost 44 3 (flatE encE (mrg T.l U.l)) (mrg T.l U.l).length W) := fun W hb => rdiff_any T.l U.l _ _ W (row_below hvT hb) (row_below HVU.out hb) (by omega) (by omega)
          obtain ⟨M, hM⟩ : ∃ M, M = mrg T.l U.l := ⟨_, rfl⟩
          rw [← hM] at hml hap hd1
          simp only [← hM] at hd2
          have HD1 := Lib.hid hd1; have HD2 := Lib.hid hd2; have HAP := Lib.hid hap; have HTW := Lib.hid hTw
          clear hM hd1 hd2 hap hTw hvT hdm hsT hsU
          go_wp2_with fail
          refine HD1.out.mono ?_
          rintro e w2 ⟨v2, rfl, ho2, hb2⟩
          obtain ⟨pd, cd, rfl⟩ := row_slice ho2
          have hx2 : IsRow 3 encE w2 (.slice pd M.length cd) M := IsRow.of_row encE_len ho2 (by show M.length ≤ maxLen; unfold maxLen; omega)
          have HX2 := Lib.hid hx2; have HB2 := Lib.hid hb2
          clear ho2 hx2 hb2 HD1
          go_wp2_with fail
          refine (HD2.out _ HB2.out).mono ?_
          rintro e w3 ⟨v3, rfl, ho3, hb3⟩
          obtain ⟨pe, ce, rfl⟩ := row_slice ho3
          have hx3 : IsRow 3 encE w3 (.slice pe M.length ce) M := IsRow.of_row encE_len ho3 (by show M.length ≤ maxLen; unfold maxLen; omega)
          have hse := sameEdits_any M M (.slice pd M.length cd) (.slice pe M.length ce) w3 (HX2.out.below hb3) hx3 (by omega) (by omega)
          rw [decide_eq_true rfl] at hse
          have HSE := Lib.hid hse
          have HB3 := Lib.hid (bl_trans HB2.out hb3)
          obtain ⟨pd', cd', hpd, _, hopd⟩ := (HX2.out.below hb3).open
          injection hpd with q1 q2 q3
          subst q1
          subst q3
          have HOPD := Lib.hid hopd
          clear ho3 hx3 hse hb3 q2 hopd HD2
          go_wp2_with fail
          refine HSE.out.mono ?_
          rintro e w4 ⟨rfl, hb4⟩
          have HB4 := Lib.hid (bl_trans HB3.out hb4)
          have HC0 := Lib.hid (HTW.out.below HB4.out)
          have hb34 := hb4
          obtain ⟨wz, hwz⟩ : ∃ W : World, W = wr := ⟨_, rfl⟩
          rw [← hwz] at HB4 HB3
          have HBZ := Lib.hid HBw.out
          have HUZ := Lib.hid HU.out
          have HVZ := Lib.hid HVU.out
          rw [← hwz] at HUZ HVZ HBZ
          clear hwz
          go_wp2
          go_loopg [14, 15] 90 (fun kx s14 s15 wr => ∃ (i : Nat) (C : Tre), s15 = .int .i64 i ∧ s14 = ptrN C.p ∧ i ≤ M.length ∧ M.length - i ≤ kx ∧ Hid (IsT wr C) ∧ Hid (C.l = (M.take i).foldl applyE T.l) ∧ Hid (C.l.length ≤ 30 + i) ∧ Hid (Below w3.heap.size w3 wr))
          case atStart => exact ⟨0, T, rfl, rfl, by omega, by omega, HC0, Lib.hid (by simp), Lib.hid (by omega), Lib.hid hb34⟩
          case round =>
            obtain ⟨t, C, rfl, rfl, ht, hm5, HC, HCL, HCN, HBC⟩ := hrel
            by_cases htm : t < M.length
            · obtain ⟨x, hx⟩ : ∃ x, M[t]? = some x := ⟨_, List.getElem?_eq_getElem htm⟩
              obtain ⟨g, off, rfl, hg, hcell⟩ := HOPD.out (by omega)
              have HCE := Lib.hid (fun W (hW : Below w3.heap.size w3 W) => And.intro ((hW.cell (p := ⟨g, off + t * 3 + 0, none⟩) hg).trans (hcell t x hx 0 _ rfl)) (And.intro ((hW.cell (p := ⟨g, off + t * 3 + 1, none⟩) hg).trans (hcell t x hx 1 _ rfl)) ((hW.cell (p := ⟨g, off + t * 3 + 2, none⟩) hg).trans (hcell t x hx 2 _ rfl))))
              have c0 := (HCE.out wr HBC.out).1
              have c1 := (HCE.out wr HBC.out).2.1
              have c2 := (HCE.out wr HBC.out).2.2
              rw [Nat.add_zero] at c0
              have hnx : (M.take (t + 1)).foldl applyE T.l = applyE C.l x := by rw [List.take_add_one, hx, Option.toList_some, List.foldl_append, ← HCL.out]; rfl
              have HNX := Lib.hid hnx
              clear hx hcell hnx
              cases hd : x.d
              · have hput := fun W (hb : Below wr.heap.size wr W) => tput_any C ⟨x.k, x.v⟩ W (HC.out.below hb) (by have := HCN.out; omega)
                have hln := putT_len HC.out.1 ⟨x.k, x.v⟩
                have hae : applyE C.l x = putT C.l ⟨x.k, x.v⟩ := by unfold applyE; rw [hd]; rfl
                have HPUT := Lib.hid hput; have HLN := Lib.hid hln; have HAE := Lib.hid hae
                rw [hd] at c2
                clear hput hln hae hd
                go_upto_region 25 with (fail)
                refine wp_region_still_tail 11 (by kernel_rfl) (by kernel_rfl) ?_
                simp only [List.take_succ_cons, List.take_zero, List.drop_succ_cons, List.drop_zero]
                change wpStill _ _ (wr.drew) (fun a' => wpList _ _ _ _ a' (wr.drew)) _ _
                iterate 11 still_step
                refine wpStill_nil ?_
                go_wp2_with fail
                refine (HPUT.out _ (bl_drew _)).mono ?_
                rintro e w6 ⟨C', rfl, hC', hlC, _, _, hb6⟩
                have HC' := Lib.hid hC'; have HLC := Lib.hid hlC
                have HB6 := Lib.hid (bl_trans HBC.out (bl_trans (bl_drew wr) hb6))
                clear hC' hlC hb6 c0 c1 c2 HPUT
                go_wp2
                go_roundg (M.length - (t + 1))
                case measure => omega
                case rel => exact ⟨t + 1, C', by go_num, rfl, by omega, Nat.le_refl _, HC', Lib.hid (by rw [HLC.out, HNX.out, HAE.out]), Lib.hid (by rw [HLC.out]; have := HLN.out; have := HCN.out; omega), HB6⟩
              · have hdel := fun W (hb : Below wr.heap.size wr W) => tdelF_any (F := Any) C x.k W (HC.out.below hb).isTF (fun _ _ => trivial) (by have := HCN.out; omega)
                have hln := delL_len HC.out.1 x.k
                have hae : applyE C.l x = delL C.l x.k := by unfold applyE; rw [hd]; rfl
                have HDEL := Lib.hid hdel; have HLN := Lib.hid hln; have HAE := Lib.hid hae
                rw [hd] at c2
                clear hdel hln hae hd
                go_wp2_with fail
                refine (HDEL.out _ (bl_refl _)).mono ?_
                rintro e w6 ⟨C', rfl, hC', hlC, _, _, hb6⟩
                have HC' := Lib.hid hC'.isT; have HLC := Lib.hid hlC
                have HB6 := Lib.hid (bl_trans HBC.out hb6)
                clear hC' hlC hb6 c0 c1 c2 HDEL
                go_wp2
                go_roundg (M.length - (t + 1))
                case measure => omega
                case rel => exact ⟨t + 1, C', by go_num, rfl, by omega, Nat.le_refl _, HC', Lib.hid (by rw [HLC.out, HNX.out, HAE.out]), Lib.hid (by rw [HLC.out]; have := HLN.out; have := HCN.out; omega), HB6⟩
            · obtain rfl : t = M.length := by omega
              have hcu : C.l = U.l := by rw [HCL.out, List.take_length]; exact HAP.out
              have hbz := bl_trans HB3.out HBC.out
              have hr := range_any C ⟨#[]⟩ ⟨#[]⟩ wr HC.out (by rw [hcu]; omega)
              rw [rangeL_all, hcu] at hr
              have hdz : ∀ W, Below wr.heap.size wr W → Calls Try.prog 20 #[ptrN C.p, ptrN U.p] W (OwnPost 44 3 [] 0 W) := fun W hb => by
                have := diff_any C U W (HC.out.below hb) (HUZ.out.below (bl_trans hbz hb)) (by rw [hcu]; omega) (by omega)
                rw [hcu, difF_same HUZ.out.1] at this
                exact this
              have HR := Lib.hid hr; have HDZ := Lib.hid hdz; have HBz := Lib.hid hbz
              clear hr hdz hcu hbz
              go_wp2_with fail
              refine HR.out.mono ?_
              rintro e w7 ⟨v7, rfl, ho7, hb7⟩
              obtain ⟨p7, c7, rfl⟩ := row_slice ho7
              have hx7 : IsRow 2 encKV w7 (.slice p7 U.l.length c7) U.l := IsRow.of_row encKV_len ho7 (by show U.l.length ≤ maxLen; unfold maxLen; omega)
              have hx8 : IsRow 2 encKV w7 (.slice pu U.l.length cu) U.l := IsRow.of_row encKV_len (row_below HVZ.out (bl_trans HBz.out hb7)) (by show U.l.length ≤ maxLen; unfold maxLen; omega)
              have hsm := same_any U.l U.l _ _ w7 hx7 hx8 (by omega) (by omega)
              rw [decide_eq_true rfl] at hsm
              have HSM := Lib.hid hsm; have HB7 := Lib.hid hb7
              clear ho7 hx7 hx8 hsm hb7
              go_wp2_with fail
              refine HSM.out.mono ?_
              rintro e w8 ⟨rfl, hb8⟩
              have HB8 := Lib.hid (bl_trans HB7.out hb8)
              clear hb8
              go_wp2_with fail
              refine (HDZ.out _ HB8.out).mono ?_
              rintro e w9 ⟨v9, rfl, ho9, hb9⟩
              obtain ⟨p9, c9, rfl⟩ := row_slice ho9
              have HB9 := Lib.hid (bl_trans HB8.out hb9)
              clear ho9 hb9
              go_wp2_with fail
              refine (lives_any _).mono ?_
              rintro e w10 ⟨rfl, hb10⟩
              go_wp2
              go_ret
              exact ⟨rfl, bl_trans HB1.out (bl_trans HBZ.out (bl_trans HBz.out (bl_trans HB9.out hb10)))⟩
      · skip
        have hTw := HT.out.below HBw.out
        have hvT := row_below HV.out HBw.out
        have hlU : U.l.length ≤ 60 := by have := HLU.out; omega
        have hlT : T.l.length ≤ 30 := HL.out
        have hsT := HT.out.1
        have hsU := HU.out.1
        have hdm := difF_mrg (b := U.l) hsT
        have hml : (mrg T.l U.l).length ≤ 90 := by
          have h1 := difS_len T.l U.l
          have h2 := congrArg List.length hdm
          unfold difF at h2
          rw [List.length_append, List.length_map] at h2
          omega
        have hap := apply_diff hsT hsU HPU.out
        have hd1 := diff_any T U wr hTw HU.out (by omega) (by omega)
        rw [hdm] at hd1
        have hd2 : ∀ W, Below wr.heap.size wr W → Calls Try.prog 22 #[.slice pv T.l.length cv, .slice pu U.l.length cu] W (OwnPost 44 3 (flatE encE (mrg T.l U.l)) (mrg T.l U.l).length W) := fun W hb => rdiff_any T.l U.l _ _ W (row_below hvT hb) (row_below HVU.out hb) (by omega) (by omega)
        obtain ⟨M, hM⟩ : ∃ M, M = mrg T.l U.l := ⟨_, rfl⟩
        rw [← hM] at hml hap hd1
        simp only [← hM] at hd2
        have HD1 := Lib.hid hd1; have HD2 := Lib.hid hd2; have HAP := Lib.hid hap; have HTW := Lib.hid hTw
        clear hM hd1 hd2 hap hTw hvT hdm hsT hsU
        go_wp2_with fail
        refine HD1.out.mono ?_
        rintro e w2 ⟨v2, rfl, ho2, hb2⟩
        obtain ⟨pd, cd, rfl⟩ := row_slice ho2
        have hx2 : IsRow 3 encE w2 (.slice pd M.length cd) M := IsRow.of_row encE_len ho2 (by show M.length ≤ maxLen; unfold maxLen; omega)
        have HX2 := Lib.hid hx2; have HB2 := Lib.hid hb2
        clear ho2 hx2 hb2 HD1
        go_wp2_with fail
        refine (HD2.out _ HB2.out).mono ?_
        rintro e w3 ⟨v3, rfl, ho3, hb3⟩
        obtain ⟨pe, ce, rfl⟩ := row_slice ho3
        have hx3 : IsRow 3 encE w3 (.slice pe M.length ce) M := IsRow.of_row encE_len ho3 (by show M.length ≤ maxLen; unfold maxLen; omega)
        have hse := sameEdits_any M M (.slice pd M.length cd) (.slice pe M.length ce) w3 (HX2.out.below hb3) hx3 (by omega) (by omega)
        rw [decide_eq_true rfl] at hse
        have HSE := Lib.hid hse
        have HB3 := Lib.hid (bl_trans HB2.out hb3)
        obtain ⟨pd', cd', hpd, _, hopd⟩ := (HX2.out.below hb3).open
        injection hpd with q1 q2 q3
        subst q1
        subst q3
        have HOPD := Lib.hid hopd
        clear ho3 hx3 hse hb3 q2 hopd HD2
        go_wp2_with fail
        refine HSE.out.mono ?_
        rintro e w4 ⟨rfl, hb4⟩
        have HB4 := Lib.hid (bl_trans HB3.out hb4)
        have HC0 := Lib.hid (HTW.out.below HB4.out)
        have hb34 := hb4
        obtain ⟨wz, hwz⟩ : ∃ W : World, W = wr := ⟨_, rfl⟩
        rw [← hwz] at HB4 HB3
        have HBZ := Lib.hid HBw.out
        have HUZ := Lib.hid HU.out
        have HVZ := Lib.hid HVU.out
        rw [← hwz] at HUZ HVZ HBZ
        clear hwz
        go_wp2
        go_loopg [14, 15] 90 (fun kx s14 s15 wr => ∃ (i : Nat) (C : Tre), s15 = .int .i64 i ∧ s14 = ptrN C.p ∧ i ≤ M.length ∧ M.length - i ≤ kx ∧ Hid (IsT wr C) ∧ Hid (C.l = (M.take i).foldl applyE T.l) ∧ Hid (C.l.length ≤ 30 + i) ∧ Hid (Below w3.heap.size w3 wr))
        case atStart => exact ⟨0, T, rfl, rfl, by omega, by omega, HC0, Lib.hid (by simp), Lib.hid (by omega), Lib.hid hb34⟩
        case round =>
          obtain ⟨t, C, rfl, rfl, ht, hm5, HC, HCL, HCN, HBC⟩ := hrel
          by_cases htm : t < M.length
          · obtain ⟨x, hx⟩ : ∃ x, M[t]? = some x := ⟨_, List.getElem?_eq_getElem htm⟩
            obtain ⟨g, off, rfl, hg, hcell⟩ := HOPD.out (by omega)
            have HCE := Lib.hid (fun W (hW : Below w3.heap.size w3 W) => And.intro ((hW.cell (p := ⟨g, off + t * 3 + 0, none⟩) hg).trans (hcell t x hx 0 _ rfl)) (And.intro ((hW.cell (p := ⟨g, off + t * 3 + 1, none⟩) hg).trans (hcell t x hx 1 _ rfl)) ((hW.cell (p := ⟨g, off + t * 3 + 2, none⟩) hg).trans (hcell t x hx 2 _ rfl))))
            have c0 := (HCE.out wr HBC.out).1
            have c1 := (HCE.out wr HBC.out).2.1
            have c2 := (HCE.out wr HBC.out).2.2
            rw [Nat.add_zero] at c0
            have hnx : (M.take (t + 1)).foldl applyE T.l = applyE C.l x := by rw [List.take_add_one, hx, Option.toList_some, List.foldl_append, ← HCL.out]; rfl
            have HNX := Lib.hid hnx
            clear hx hcell hnx
            cases hd : x.d
            · have hput := fun W (hb : Below wr.heap.size wr W) => tput_any C ⟨x.k, x.v⟩ W (HC.out.below hb) (by have := HCN.out; omega)
              have hln := putT_len HC.out.1 ⟨x.k, x.v⟩
              have hae : applyE C.l x = putT C.l ⟨x.k, x.v⟩ := by unfold applyE; rw [hd]; rfl
              have HPUT := Lib.hid hput; have HLN := Lib.hid hln; have HAE := Lib.hid hae
              rw [hd] at c2
              clear hput hln hae hd
              go_upto_region 25 with (fail)
              refine wp_region_still_tail 11 (by kernel_rfl) (by kernel_rfl) ?_
              simp only [List.take_succ_cons, List.take_zero, List.drop_succ_cons, List.drop_zero]
              change wpStill _ _ (wr.drew) (fun a' => wpList _ _ _ _ a' (wr.drew)) _ _
              iterate 11 still_step
              refine wpStill_nil ?_
              go_wp2_with fail
              refine (HPUT.out _ (bl_drew _)).mono ?_
              rintro e w6 ⟨C', rfl, hC', hlC, _, _, hb6⟩
              have HC' := Lib.hid hC'; have HLC := Lib.hid hlC
              have HB6 := Lib.hid (bl_trans HBC.out (bl_trans (bl_drew wr) hb6))
              clear hC' hlC hb6 c0 c1 c2 HPUT
              go_wp2
              go_roundg (M.length - (t + 1))
              case measure => omega
              case rel => exact ⟨t + 1, C', by go_num, rfl, by omega, Nat.le_refl _, HC', Lib.hid (by rw [HLC.out, HNX.out, HAE.out]), Lib.hid (by rw [HLC.out]; have := HLN.out; have := HCN.out; omega), HB6⟩
            · have hdel := fun W (hb : Below wr.heap.size wr W) => tdelF_any (F := Any) C x.k W (HC.out.below hb).isTF (fun _ _ => trivial) (by have := HCN.out; omega)
              have hln := delL_len HC.out.1 x.k
              have hae : applyE C.l x = delL C.l x.k := by unfold applyE; rw [hd]; rfl
              have HDEL := Lib.hid hdel; have HLN := Lib.hid hln; have HAE := Lib.hid hae
              rw [hd] at c2
              clear hdel hln hae hd
              go_wp2_with fail
              refine (HDEL.out _ (bl_refl _)).mono ?_
              rintro e w6 ⟨C', rfl, hC', hlC, _, _, hb6⟩
              have HC' := Lib.hid hC'.isT; have HLC := Lib.hid hlC
              have HB6 := Lib.hid (bl_trans HBC.out hb6)
              clear hC' hlC hb6 c0 c1 c2 HDEL
              go_wp2
              go_roundg (M.length - (t + 1))
              case measure => omega
              case rel => exact ⟨t + 1, C', by go_num, rfl, by omega, Nat.le_refl _, HC', Lib.hid (by rw [HLC.out, HNX.out, HAE.out]), Lib.hid (by rw [HLC.out]; have := HLN.out; have := HCN.out; omega), HB6⟩
          · obtain rfl : t = M.length := by omega
            have hcu : C.l = U.l := by rw [HCL.out, List.take_length]; exact HAP.out
            have hbz := bl_trans HB3.out HBC.out
            have hr := range_any C ⟨#[]⟩ ⟨#[]⟩ wr HC.out (by rw [hcu]; omega)
            rw [rangeL_all, hcu] at hr
            have hdz : ∀ W, Below wr.heap.size wr W → Calls Try.prog 20 #[ptrN C.p, ptrN U.p] W (OwnPost 44 3 [] 0 W) := fun W hb => by
              have := diff_any C U W (HC.out.below hb) (HUZ.out.below (bl_trans hbz hb)) (by rw [hcu]; omega) (by omega)
              rw [hcu, difF_same HUZ.out.1] at this
              exact this
            have HR := Lib.hid hr; have HDZ := Lib.hid hdz; have HBz := Lib.hid hbz
            clear hr hdz hcu hbz
            go_wp2_with fail
            refine HR.out.mono ?_
            rintro e w7 ⟨v7, rfl, ho7, hb7⟩
            obtain ⟨p7, c7, rfl⟩ := row_slice ho7
            have hx7 : IsRow 2 encKV w7 (.slice p7 U.l.length c7) U.l := IsRow.of_row encKV_len ho7 (by show U.l.length ≤ maxLen; unfold maxLen; omega)
            have hx8 : IsRow 2 encKV w7 (.slice pu U.l.length cu) U.l := IsRow.of_row encKV_len (row_below HVZ.out (bl_trans HBz.out hb7)) (by show U.l.length ≤ maxLen; unfold maxLen; omega)
            have hsm := same_any U.l U.l _ _ w7 hx7 hx8 (by omega) (by omega)
            rw [decide_eq_true rfl] at hsm
            have HSM := Lib.hid hsm; have HB7 := Lib.hid hb7
            clear ho7 hx7 hx8 hsm hb7
            go_wp2_with fail
            refine HSM.out.mono ?_
            rintro e w8 ⟨rfl, hb8⟩
            have HB8 := Lib.hid (bl_trans HB7.out hb8)
            clear hb8
            go_wp2_with fail
            refine (HDZ.out _ HB8.out).mono ?_
            rintro e w9 ⟨v9, rfl, ho9, hb9⟩
            obtain ⟨p9, c9, rfl⟩ := row_slice ho9
            have HB9 := Lib.hid (bl_trans HB8.out hb9)
            clear ho9 hb9
            go_wp2_with fail
            refine (lives_any _).mono ?_
            rintro e w10 ⟨rfl, hb10⟩
            go_wp2
            go_ret
            exact ⟨rfl, bl_trans HB1.out (bl_trans HBZ.out (bl_trans HBz.out (bl_trans HB9.out hb10)))⟩
end Go.Proofs.Ytmkhnpkbaegchaa
