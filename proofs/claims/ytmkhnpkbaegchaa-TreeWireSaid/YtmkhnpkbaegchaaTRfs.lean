/- Several texts in one, each with its own word at its head. Conditions: stated there. -/
import Derived.Test.YtmkhnpkbaegchaaTFind
import Derived.Test.YtmkhnpkbaegchaaTBnd
import Derived.Test.YtmkhnpkbaegchaaTTree
import Derived.Test.YtmkhnpkbaegchaaTFilF
import Derived.Deep.LoopGhost
import Derived.Test.YtmkhnpkbaegchaaTMod
import Derived.Test.YtmkhnpkbaegchaaTFloor
import Derived.Test.YtmkhnpkbaegchaaTRng
import Derived.Test.YtmkhnpkbaegchaaTLives
import Derived.OwnWalk
/- The walk of Get. Conditions: the tree lies in memory, its pairs are in order. -/
namespace Go.Proofs.Ytmkhnpkbaegchaa
open Go.RowKit

def GetPost (o : Option KV) (w : World) (e : Ending) (w' : World) : Prop := Ret (.tuple #[.string (match o with | some q => q.v | none => ⟨#[]⟩), .bool o.isSome]) w e w'
set_option maxRecDepth 100000 in
set_option maxHeartbeats 4000000 in
theorem get_any (T : Tre) (k : ByteArray) (w : World) (h : IsT w T) (hlen : T.l.length ≤ 100000) : Calls Try.prog 35 #[ptrN T.p, .string k] w (GetPost (getL T.l k) w) := by
  obtain ⟨hs, ⟨h1, _, _, h4⟩ | ⟨h', x, h1, h2, h3, _⟩⟩ := h
  · have c0 := h4.cell 0
    simp at c0
    rw [h1]
    clear h1 h4 hs
    go_enter Try.func35, Try.ntmps35
    go_wp2
    go_loopg [6] 0 (fun kx s6 wr => s6 = .pointer none ∧ wr = w)
    case atStart => exact ⟨rfl, rfl⟩
    case round =>
      obtain ⟨rfl, rfl⟩ := hrel
      go_wp2
      go_ret2
      exact ⟨rfl, bl_refl _⟩
  · have c0 := h1.cell 0
    simp at c0
    rw [h3] at hs hlen
    rw [h3]
    obtain ⟨o, ho⟩ : ∃ o, o = getL x.l k := ⟨_, rfl⟩
    rw [← ho]
    have S0 := Lib.hid (And.intro h2 (And.intro hs (And.intro hlen ho)))
    clear h1 h3 hs hlen h2 ho
    go_enter Try.func35, Try.ntmps35
    go_wp2
    go_loopg [6] h' (fun kx s6 wr => ∃ (j : Nat) (y : Kid), s6 = ptrN y.p ∧ j ≤ kx ∧ Below w.heap.size w wr ∧ Hid (IsN Any j w y ∧ Srt y.l ∧ y.l.length ≤ 100000 ∧ o = getL y.l k))
    case atStart => exact ⟨h', x, rfl, Nat.le_refl _, bl_refl _, S0⟩
    case round =>
      clear S0
      obtain ⟨j, y, rfl, hj, hB, S⟩ := hrel
      obtain ⟨ps, ks, hn⟩ := S.out.1.node
      have hsh := hn.shape
      have hsf : ks.map Kid.l = [] ∨ (ks.map Kid.l).length = ps.length + 1 := by rcases hsh with e | e; exact .inl (by simp [e]); exact .inr (by simp [e])
      have hsw : Srt (weave ps (ks.map Kid.l)) := hn.l ▸ S.out.2.1
      have hlp : ps.length ≤ 100000 := by have := hn.len; have := S.out.2.2.1; omega
      have hsr := fun W (hb : Below w.heap.size w W) => search_any y.p ps ks _ k W (hn.at_.below hb) (srt_own hsf hsw) (by omega)
      obtain ⟨pa, pc, ka, kc, d0, d1, hy0, hpp, hkk⟩ := hn.at_.cells
      have HSR := Lib.hid hsr; have HN := Lib.hid hn; have HSF := Lib.hid hsf; have HSW := Lib.hid hsw; have HPP := Lib.hid hpp; have HKK := Lib.hid hkk; have HSH := Lib.hid hsh
      clear hsr hn hsf hsw hpp hkk hsh
      have hyr := Nat.lt_of_lt_of_le hy0 hB.size
      go_wp2_with fail
      refine (HSR.out _ hB).mono ?_
      rintro e w1 ⟨i, ok, hok, rfl, hb1⟩
      have hB1 := bl_trans hB hb1
      have e0 := (hB1.cell (p := ⟨y.p, 0, none⟩) hy0).trans d0
      have e1 := (hB1.cell (p := ⟨y.p, 1, none⟩) hy0).trans d1
      have hil := hok.le
      clear d0 d1 hb1
      cases ok
      · have hlo := Lib.hid hok.lo
        have hno := Lib.hid (hok.no rfl)
        clear hok
        by_cases hk0 : ks.length = 0
        · have hkn : ks = [] := List.length_eq_zero_iff.1 hk0
          have hno2 : o = none := by
            rw [S.out.2.2.2, HN.out.l, hkn]
            simp only [List.map_nil, weave_nil]
            exact (down_leaf hlo.out hno.out).1
          subst hno2
          go_wp2
          go_ret2
          exact ⟨rfl, hB1⟩
        · have hkl : ks.length = ps.length + 1 := by rcases HSH.out with e | e; exact absurd (by rw [e]; rfl) hk0; exact e
          obtain ⟨j', rfl⟩ : ∃ j', j = j' + 1 := by
            cases j with
            | zero => exact absurd (by rw [HN.out.leaf rfl]; rfl) hk0
            | succ j' => exact ⟨j', rfl⟩
          obtain ⟨z, hz⟩ : ∃ z, ks[i]? = some z := ⟨_, List.getElem?_eq_getElem (by omega)⟩
          obtain ⟨g, og, rfl, hg, hc⟩ := HKK.out i z hz
          have f0 := (hB1.cell (p := ⟨g, og + i, none⟩) hg).trans hc
          have hzm : z ∈ ks := List.mem_of_getElem? hz
          have hfl : (ks.map Kid.l)[i]? = some z.l := by rw [List.getElem?_map, hz]; rfl
          have hfl2 : (ks.map Kid.l).length = ps.length + 1 := by rw [List.length_map]; exact hkl
          have hd := down_kid hfl2 hil hfl HSW.out hlo.out hno.out
          have hnew := Lib.hid (And.intro ((HN.out.kids j' rfl).2 z hzm).1 (And.intro (srt_child hfl2 hfl HSW.out) (And.intro (by have := kidsSum_mem hzm; have := HN.out.len; have := S.out.2.2.1; omega : z.l.length ≤ 100000) (by rw [S.out.2.2.2, HN.out.l]; exact hd.1 : o = getL z.l k))))
          clear hd hfl hfl2 hzm hz hc
          go_wp2
          go_roundg j'
          case measure => omega
          case rel => exact ⟨j', z, rfl, Nat.le_refl _, hB1, hnew⟩
      · obtain ⟨q0, hq0, hq1⟩ := hok.yes rfl
        have hi : i < ps.length := (List.getElem?_eq_some_iff.1 hq0).1
        have hd := (down_yes HSW.out HSF.out hq0 hq1).1
        have hoo : o = some q0 := by rw [S.out.2.2.2, HN.out.l]; exact hd
        subst hoo
        obtain ⟨g, og, rfl, hg, hc, hc2⟩ := HPP.out i q0 hq0
        have f0 := (hB1.cell (p := ⟨g, og + i * 2, none⟩) hg).trans hc
        have f1 := (hB1.cell (p := ⟨g, og + i * 2 + 1, none⟩) hg).trans hc2
        clear hd hok hq0 hq1 hc hc2
        go_wp2
        go_ret2
        exact ⟨rfl, hB1⟩
end Go.Proofs.Ytmkhnpkbaegchaa
/- The walks of the reference's place, Get, Permitted, Put and Delete. Conditions: the list is a row, its pairs in order. -/
namespace Go.Proofs.Ytmkhnpkbaegchaa
open Go.RowKit

/-- a list of pairs as the reference holds it -/
abbrev RowA (w : World) (v : Value) (L : List KV) : Prop := w.ownsRow 0 63 2 v L.length (flatE encKV L)
structure PlOk (L : List KV) (key : ByteArray) (i : Nat) : Prop where
  le : i ≤ L.length
  lo : ∀ x ∈ L.take i, kl x.k key = true
  no : ∀ x, L[i]? = some x → kl x.k key = false
theorem RowA.open {w : World} {v : Value} {L : List KV} (h : RowA w v L) : ∃ pa c, v = .slice pa L.length c ∧ L.length ≤ c ∧ c ≤ 9223372036854775807 ∧ (0 < L.length → ∃ g cur, pa = some ⟨g, 0, none⟩ ∧ g < w.heap.size ∧ Blk w g 63 cur ∧ cur.toList.take (L.length * 2) = flatE encKV L ∧ ∀ i x, L[i]? = some x → w.cell? ⟨g, i * 2, none⟩ = some (.string x.k) ∧ w.cell? ⟨g, i * 2 + 1, none⟩ = some (.string x.v)) := by
  have h0 := h
  rcases h.2 with ⟨rfl, hn⟩ | ⟨g, cap, cur, rfl, _, hh, hnc, hcm, hsz, htk⟩
  · exact ⟨none, 0, by rw [hn], by omega, by omega, fun h => by omega⟩
  · refine ⟨_, cap, rfl, hnc, by unfold maxLen at hcm; exact hcm, fun _ => ⟨g, cur, rfl, (Array.getElem?_eq_some_iff.1 hh).1, hh, htk, fun i x hx => row_p0 h0 hx⟩⟩
set_option maxRecDepth 100000 in
set_option maxHeartbeats 2000000 in
theorem place_any (L : List KV) (v : Value) (key : ByteArray) (w : World) (hv : RowA w v L) (hl : L.length ≤ 100000) :
    Calls Try.prog 54 #[v, .string key] w (fun e w' => ∃ i, PlOk L key i ∧ e = .returned (.int .i64 (i : Nat)) ∧ w' = w) := by
  obtain ⟨pa, c, rfl, hc1, hc2, hop⟩ := RowA.open hv
  have HOP := Lib.hid hop
  clear hv hop
  go_enter Try.func54, Try.ntmps54
  go_wp2
  go_loopg [5] L.length (fun kx s5 wr => ∃ i : Nat, s5 = .int .i64 i ∧ i ≤ L.length ∧ L.length - i ≤ kx ∧ Hid (∀ x ∈ L.take i, kl x.k key = true) ∧ wr = w)
  case atStart => exact ⟨0, rfl, Nat.zero_le _, Nat.le_refl _, Lib.hid (by simp), rfl⟩
  case round =>
    obtain ⟨i, rfl, hi, hm, hlo, rfl⟩ := hrel
    by_cases hlt : i < L.length
    · obtain ⟨x, hx⟩ : ∃ x, L[i]? = some x := ⟨_, List.getElem?_eq_getElem hlt⟩
      obtain ⟨g, cur, rfl, hg, _, _, hcell⟩ := HOP.out (by omega)
      have c0 := (hcell i x hx).1
      have HX := Lib.hid hx
      clear hx hcell
      by_cases hk : kl x.k key = true
      · have hkb : Op.bytesLess x.k.toList key.toList = true := hk
        have HK := Lib.hid hk
        clear hk
        go_wp2
        go_roundg (L.length - (i + 1))
        case measure => omega
        case rel =>
          refine ⟨i + 1, by go_num, by omega, Nat.le_refl _, Lib.hid (fun y hy => ?_), rfl⟩
          rw [List.take_add_one, HX.out] at hy
          rcases List.mem_append.1 hy with e | e
          · exact hlo.out y e
          · simp at e; rw [e]; exact HK.out
      · have hkf : kl x.k key = false := by simpa using hk
        have hkb : Op.bytesLess x.k.toList key.toList = false := hkf
        have HK := Lib.hid hkf
        clear hk hkf
        go_wp2
        go_ret
        exact ⟨i, ⟨hi, hlo.out, fun y hy => by rw [HX.out] at hy; cases hy; exact HK.out⟩, rfl, rfl⟩
    · obtain rfl : i = L.length := by omega
      go_wp2
      go_ret
      exact ⟨L.length, ⟨Nat.le_refl _, hlo.out, fun y hy => by rw [List.getElem?_eq_none (Nat.le_refl _)] at hy; cases hy⟩, rfl, rfl⟩
/-- what stands at the place of a key -/
theorem PlOk.at {L : List KV} {key : ByteArray} {i : Nat} {x : KV} (_h : PlOk L key i) (hs : Srt L) (hx : L[i]? = some x) (hk : x.k = key) : getL L key = some x := by
  have hp := parts_at hx
  rw [hp] at hs ⊢
  rw [← hk]
  exact get_pair hs
theorem PlOk.gt {L : List KV} {key : ByteArray} {i : Nat} (h : PlOk L key i) (hs : Srt L) (hk : ∀ x, L[i]? = some x → x.k ≠ key) : ∀ y ∈ L.drop i, kl key y.k = true := fun y hy => by
  obtain ⟨t, ht⟩ := List.mem_iff_getElem?.1 hy
  rw [List.getElem?_drop] at ht
  have hlt : i < L.length := by have := (List.getElem?_eq_some_iff.1 ht).1; omega
  obtain ⟨x, hx⟩ : ∃ x, L[i]? = some x := ⟨_, List.getElem?_eq_getElem hlt⟩
  have h1 : kl key x.k = true := by
    rcases kl_total x.k key with q | q | q
    · rw [h.no x hx] at q; cases q
    · exact absurd q (hk x hx)
    · exact q
  cases t with
  | zero => rw [Nat.add_zero, hx] at ht; cases ht; exact h1
  | succ t => exact kl_trans h1 (srt_at hs (by omega : i < i + (t + 1)) hx ht)
theorem PlOk.none {L : List KV} {key : ByteArray} {i : Nat} (h : PlOk L key i) (hs : Srt L) (hk : ∀ x, L[i]? = some x → x.k ≠ key) : getL L key = none := by
  refine getL_none (fun x hx => ?_)
  rw [← List.take_append_drop i L] at hx
  rcases List.mem_append.1 hx with e | e
  · exact kl_ne (h.lo x e)
  · exact (kl_ne (h.gt hs hk x e)).symm
set_option maxRecDepth 100000 in
set_option maxHeartbeats 2000000 in
theorem rget_any (L : List KV) (v : Value) (key : ByteArray) (w : World) (hv : RowA w v L) (hs : Srt L) (hl : L.length ≤ 100000) :
    Calls Try.prog 50 #[v, .string key] w (GetPost (getL L key) w) := by
  obtain ⟨o, ho⟩ : ∃ o, o = getL L key := ⟨_, rfl⟩
  rw [← ho]
  have HO := Lib.hid ho
  clear ho
  have hp := place_any L v key w hv hl
  obtain ⟨pa, c, rfl, hc1, hc2, hop⟩ := RowA.open hv
  have HOP := Lib.hid hop; have HP := Lib.hid hp; have HS := Lib.hid hs
  clear hv hop hp hs
  go_enter Try.func50, Try.ntmps50
  go_wp2_with fail
  refine HP.out.mono ?_
  rintro e w1 ⟨i, hpl, rfl, rfl⟩
  have hile := hpl.le
  have HPL := Lib.hid hpl
  clear hpl
  by_cases hlt : i < L.length
  · obtain ⟨x, hx⟩ : ∃ x, L[i]? = some x := ⟨_, List.getElem?_eq_getElem hlt⟩
    obtain ⟨g, cur, rfl, hg, _, _, hcell⟩ := HOP.out (by omega)
    have c0 := (hcell i x hx).1
    have c1 := (hcell i x hx).2
    by_cases hk : x.k = key
    · have hr := HPL.out.at HS.out hx hk
      have hkb : (x.k.toList == key.toList) = true := by rw [hk]; simp
      have hkt : (x.k.toList = key.toList) = True := by rw [hk]; simp
      have hoo := HO.out.trans hr
      subst hoo
      clear hr hk hx hcell
      go_wp2
      go_ret2
      exact ⟨rfl, bl_refl _⟩
    · have hr := HPL.out.none HS.out (fun y hy => by rw [hx] at hy; cases hy; exact hk)
      have hkt : ¬ (x.k.toList = key.toList) := fun e => hk (toL_inj e)
      have hkb : (x.k.toList == key.toList) = false := by simpa using hkt
      have hoo := HO.out.trans hr
      subst hoo
      clear hr hk hx hcell
      go_wp2
      go_ret2
      exact ⟨rfl, bl_refl _⟩
  · obtain rfl : i = L.length := by omega
    have hr := HPL.out.none HS.out (fun y hy => by rw [List.getElem?_eq_none (Nat.le_refl _)] at hy; cases hy)
    have hoo := HO.out.trans hr
    subst hoo
    clear hr
    go_wp2
    go_ret2
    exact ⟨rfl, bl_refl _⟩
set_option maxHeartbeats 1000000 in
theorem perm_any (k v : ByteArray) (w : World) : Calls Try.prog 53 #[.string k, .string v] w (Pur (.bool (permB ⟨k, v⟩)) w) := by
  have hb : permB ⟨k, v⟩ = (decide (k.size ≤ 60) && decide (v.size ≤ 1000)) := rfl
  have HB := Lib.hid hb
  clear hb
  by_cases h1 : k.size ≤ 60
  · go_enter Try.func53, Try.ntmps53
    go_wp2
    go_ret
    refine ⟨?_, rfl⟩
    rw [HB.out, decide_eq_true h1, Bool.true_and]
    exact congrArg (fun b => Ending.returned (.bool b)) (decide_eq_decide.2 (by omega))
  · go_enter Try.func53, Try.ntmps53
    go_wp2
    go_ret
    exact ⟨by rw [HB.out, decide_eq_false h1]; rfl, rfl⟩
/-- where a key goes in -/
theorem ref_put {L : List KV} {p : KV} {i : Nat} (h : PlOk L p.k i) (hs : Srt L) : (∀ x, L[i]? = some x → x.k = p.k → putL L p = L.take i ++ p :: L.drop (i + 1)) ∧ ((∀ x, L[i]? = some x → x.k ≠ p.k) → putL L p = L.take i ++ p :: L.drop i) := by
  constructor
  · intro x hx hk
    have hp := parts_at hx
    have hs2 := hs
    rw [hp] at hs2
    have := put_pair hs2 hk
    rw [← hp] at this
    exact this
  · intro hk
    exact (put_leaf h.lo (h.gt hs hk)).symm
set_option maxRecDepth 100000 in
set_option maxHeartbeats 4000000 in
theorem rput_any (L : List KV) (v : Value) (p : KV) (w : World) (hv : RowA w v L) (hs : Srt L) (hl : L.length ≤ 90000) :
    Calls Try.prog 32 #[v, .string p.k, .string p.v] w (fun e w' => ∃ v', e = .returned v' ∧ RowA w' v' (putT L p) ∧ Below w.heap.size w w') := by
  obtain ⟨i0, hi, hz0, hz1, hz2⟩ := info_parts infoP
  have hp := place_any L v p.k w hv (by omega)
  have hpm := fun w => perm_any p.k p.v w
  have HV := Lib.hid hv
  obtain ⟨pa, c, rfl, hc1, hc2, hop⟩ := RowA.open hv
  have HOP := Lib.hid hop; have HP := Lib.hid hp; have HS := Lib.hid hs; have HPM := Lib.hid hpm
  have hpt : putT L p = if permB p then putL L p else L := rfl
  have HPT := Lib.hid hpt
  clear hv hop hp hs hpm hpt
  cases hb : permB p
  · have hpm2 : ∀ w, Calls Try.prog 53 #[.string p.k, .string p.v] w (Pur (.bool false) w) := fun w => by rw [← hb]; exact HPM.out w
    have HPM2 := Lib.hid hpm2; have HBB := Lib.hid hb
    clear hpm2 hb
    go_enter Try.func32, Try.ntmps32
    go_wp2_with fail
    refine (HPM2.out _).mono ?_
    rintro e w1 ⟨rfl, rfl⟩
    go_wp2
    go_ret
    refine ⟨_, rfl, ?_, bl_refl _⟩
    rw [HPT.out, HBB.out]
    exact HV.out
  · have hpm2 : ∀ w, Calls Try.prog 53 #[.string p.k, .string p.v] w (Pur (.bool true) w) := fun w => by rw [← hb]; exact HPM.out w
    have HPM2 := Lib.hid hpm2; have HBB := Lib.hid hb
    have hms : maxLen = 9223372036854775807 := rfl
    have HMS := Lib.hid hms
    clear hpm2 hb hms
    go_enter Try.func32, Try.ntmps32
    go_wp2_with fail
    refine (HPM2.out _).mono ?_
    rintro e w1 ⟨rfl, rfl⟩
    go_wp2_with fail
    refine HP.out.mono ?_
    rintro e w2 ⟨i, hpl, rfl, rfl⟩
    have hile := hpl.le
    have hsrc : SrcIs w2 (.slice pa i c) 2 i (flatE encKV (L.take i)) := by
      rcases Nat.eq_zero_or_pos L.length with h0 | h0
      · have : L = [] := List.length_eq_zero_iff.1 h0
        subst this
        obtain rfl : i = 0 := by simpa using hile
        rcases HV.out.2 with ⟨h1, _⟩ | ⟨g, cap, cur, h1, _⟩
        · cases h1; exact src_nil
        · cases h1; exact .inr ⟨_, _, rfl, rfl, fun j u hj => by rw [List.take_nil, flatE_nil] at hj; cases hj⟩
      · obtain ⟨g, cur, rfl, hg, hbk, htk, _⟩ := HOP.out h0
        exact src_take encKV_len hbk htk hile
    have HPL := Lib.hid hpl; have HSRC := Lib.hid hsrc
    have hic : (i : Int) ≤ (c : Int) := by omega
    clear hpl hsrc
    go_upto_region 6 with (at_builtin; refine wpList_append_any_at rfl _ _ 27 rfl w2.heap.size 63 i0 _ 2 32 Try.underlying27 hi hz0 hz1 hz2 (by rfl) (by decide) _ 0 [] rfl (World.ownsRow_nil _ _ _ _) _ i _ rfl HSRC.out (one_flat encKV_one _) (by have := HMS.out; omega) (by omega) (by omega) ?_; intro v3 w3 ho3 hg3 _)
    rw [Nat.zero_add, List.nil_append] at ho3
    have hb3 : Below w2.heap.size w2 w3 := (Below.refl _ _).grown hg3 (by omega) (fun k e => by cases e)
    have hv3 := row_below HV.out hb3
    obtain ⟨pa3, pc3, rfl⟩ := row_slice ho3
    have hw3 : w2.heap.size ≤ w3.heap.size := hb3.size
    have HO3 := Lib.hid ho3; have HB3 := Lib.hid hb3; have HV3 := Lib.hid hv3
    clear ho3 hb3 hv3 hg3
    go_upto_region 7 with (at_builtin; refine wpList_append_lies _ rfl _ _ 27 rfl w2.heap.size 63 i0 _ 2 32 Try.underlying27 hi hz0 hz1 hz2 (by rfl) (by decide) (.slice pa3 i pc3) i _ rfl (HO3.out.alloc _) ⟨w3.heap.size, 0, none⟩ 1 1 [.string p.k, .string p.v] rfl rfl (World.news_of_block (cs := #[.string p.k, .string p.v]) (t := 63) (fr := (0, 0)) (heap_alloc_new w3 _)) (by simp [Value.oneCell']) (by omega) (by have := HMS.out; omega) (by omega) (by simp; omega) _ rfl ?_; intro g4 c4 w4 ho4 hg4 _ hlt4)
    have hg4' : (w3.alloc (.cells #[.string p.k, .string p.v] 63)).grownBy w4 (Value.slice pa3 i pc3).ownBlock := hg4
    have hb4 : Below w2.heap.size w2 w4 := (HB3.out.alloc hw3 _).grown hg4' (by simp; omega) (fun k e => (HO3.out.lt k e).1)
    have HO4 := Lib.hid ho4; have HB4 := Lib.hid hb4
    have hic2 : (i : Int) ≤ (L.length : Int) := by omega
    clear ho4 hb4 hg4 hg4' hlt4 HB3 HV3 HO3
    by_cases hlt : i < L.length
    · obtain ⟨x, hx⟩ : ∃ x, L[i]? = some x := ⟨_, List.getElem?_eq_getElem hlt⟩
      obtain ⟨g, cur, rfl, hg, hbk, htk, hcell⟩ := HOP.out (by omega)
      have c0 := (HB4.out.cell (p := ⟨g, i * 2, none⟩) hg).trans (hcell i x hx).1
      have hrp := ref_put HPL.out HS.out
      by_cases hk : x.k = p.k
      · have he := hrp.1 x hx hk
        have HE := Lib.hid he
        have hkb : (x.k.toList == p.k.toList) = true := by rw [hk]; simp
        have hkt : (x.k.toList = p.k.toList) = True := by rw [hk]; simp
        have hwi : IntKind.i64.wrap ((i : Int) + 1) = (i : Int) + 1 := IntWalk.i64_in _ (by omega)
        have hi1 : (i : Int) + 1 ≤ (L.length : Int) := by omega
        have hi2 : (i : Int) + 1 ≤ (c : Int) := by omega
        have hi3 : (0 : Int) ≤ (i : Int) + 1 := by omega
        clear hrp he hk hx hcell
        by_cases hlast : i + 1 = L.length
        · have hlast2 : L.length = i + 1 := hlast.symm
          clear hlast hbk htk
          by_cases hcc : c = i + 1
          · subst hcc
            go_wp2_with (at_builtin; refine append_zero rfl _ _ 27 rfl w2.heap.size 63 i0 _ 2 32 Try.underlying27 hi hz0 hz1 hz2 (by rfl) (by decide) (.slice (some ⟨g4, 0, none⟩) (i + 1) c4) (i + 1) _ rfl HO4.out _ _ rfl (by have := HMS.out; omega) (by omega) (by have := HB4.out.size; omega) ?_; intro v5 w5 ho5 hg5 _)
            have hg5' : w4.grownBy w5 (Value.slice (some ⟨g4, 0, none⟩) (i + 1) c4).ownBlock := hg5
            have hb5 : Below w2.heap.size w2 w5 := HB4.out.grown hg5' (by have := HB4.out.size; omega) (fun k e => (HO4.out.lt k e).1)
            have hlist : putL L p = L.take i ++ [p] := by rw [HE.out, List.drop_eq_nil_of_le (by omega)]
            have hlen : (L.take i ++ [p]).length = i + 1 := by rw [List.length_append, List.length_take]; simp; omega
            obtain ⟨pa5, pc5, rfl⟩ := row_slice ho5
            have HF := Lib.hid (And.intro ho5 (And.intro hb5 (And.intro hlist hlen)))
            clear ho5 hg5 hg5' hb5 hlist hlen
            go_wp2
            go_ret
            refine ⟨_, rfl, ?_, HF.out.2.1⟩
            rw [HPT.out, HBB.out, if_pos rfl, HF.out.2.2.1]
            show World.ownsRow _ _ _ _ _ _ _
            rw [HF.out.2.2.2, flatE_snoc]
            exact row_base HF.out.1 (Nat.zero_le _)
          · skip
            go_wp2_with (at_builtin; refine append_zero rfl _ _ 27 rfl w2.heap.size 63 i0 _ 2 32 Try.underlying27 hi hz0 hz1 hz2 (by rfl) (by decide) (.slice (some ⟨g4, 0, none⟩) (i + 1) c4) (i + 1) _ rfl HO4.out _ _ rfl (by have := HMS.out; omega) (by omega) (by have := HB4.out.size; omega) ?_; intro v5 w5 ho5 hg5 _)
            have hg5' : w4.grownBy w5 (Value.slice (some ⟨g4, 0, none⟩) (i + 1) c4).ownBlock := hg5
            have hb5 : Below w2.heap.size w2 w5 := HB4.out.grown hg5' (by have := HB4.out.size; omega) (fun k e => (HO4.out.lt k e).1)
            have hlist : putL L p = L.take i ++ [p] := by rw [HE.out, List.drop_eq_nil_of_le (by omega)]
            have hlen : (L.take i ++ [p]).length = i + 1 := by rw [List.length_append, List.length_take]; simp; omega
            obtain ⟨pa5, pc5, rfl⟩ := row_slice ho5
            have HF := Lib.hid (And.intro ho5 (And.intro hb5 (And.intro hlist hlen)))
            clear ho5 hg5 hg5' hb5 hlist hlen
            go_wp2
            go_ret
            refine ⟨_, rfl, ?_, HF.out.2.1⟩
            rw [HPT.out, HBB.out, if_pos rfl, HF.out.2.2.1]
            show World.ownsRow _ _ _ _ _ _ _
            rw [HF.out.2.2.2, flatE_snoc]
            exact row_base HF.out.1 (Nat.zero_le _)
        · have hcc : ¬ (c = i + 1) := by omega
          have hsrc : SrcIs w4 (.slice (some ⟨g, (i + 1) * 2, none⟩) (L.length - (i + 1)) (c - (i + 1))) 2 (L.length - (i + 1)) (flatE encKV (L.drop (i + 1))) := src_drop (j := (i + 1)) encKV_len (hbk.below HB4.out hbk.lt) htk
          have HSRC2 := Lib.hid hsrc
          clear hsrc hbk htk
          go_wp2_with (at_builtin; refine wpList_append_any_at rfl _ _ 27 rfl w2.heap.size 63 i0 _ 2 32 Try.underlying27 hi hz0 hz1 hz2 (by rfl) (by decide) (.slice (some ⟨g4, 0, none⟩) (i + 1) c4) (i + 1) _ rfl HO4.out _ (L.length - (i + 1)) _ rfl HSRC2.out (one_flat encKV_one _) (by have := HMS.out; omega) (by omega) (by have := HB4.out.size; omega) ?_; intro v5 w5 ho5 hg5 _)
          have hg5' : w4.grownBy w5 (Value.slice (some ⟨g4, 0, none⟩) (i + 1) c4).ownBlock := hg5
          have hb5 : Below w2.heap.size w2 w5 := HB4.out.grown hg5' (by have := HB4.out.size; omega) (fun k e => (HO4.out.lt k e).1)
          have hlist : putL L p = L.take i ++ [p] ++ L.drop (i + 1) := by rw [HE.out]; simp
          have hlen : (L.take i ++ [p] ++ L.drop (i + 1)).length = i + 1 + (L.length - (i + 1)) := by rw [List.length_append, List.length_append, List.length_take, List.length_drop]; simp; omega
          obtain ⟨pa5, pc5, rfl⟩ := row_slice ho5
          have HF := Lib.hid (And.intro ho5 (And.intro hb5 (And.intro hlist hlen)))
          clear ho5 hg5 hg5' hb5 hlist hlen
          go_wp2
          go_ret
          refine ⟨_, rfl, ?_, HF.out.2.1⟩
          rw [HPT.out, HBB.out, if_pos rfl, HF.out.2.2.1]
          show World.ownsRow _ _ _ _ _ _ _
          rw [HF.out.2.2.2, flatE_append, flatE_snoc]
          exact row_base HF.out.1 (Nat.zero_le _)
      · have he := hrp.2 (fun y hy => by rw [hx] at hy; cases hy; exact hk)
        have HE := Lib.hid he
        have hkt : ¬ (x.k.toList = p.k.toList) := fun e => hk (toL_inj e)
        have hkb : (x.k.toList == p.k.toList) = false := by simpa using hkt
        have hcc : ¬ (c = i) := by omega
        clear hrp he hk hx hcell
        have hsrc : SrcIs w4 (.slice (some ⟨g, i * 2, none⟩) (L.length - i) (c - i)) 2 (L.length - i) (flatE encKV (L.drop i)) := src_drop (j := i) encKV_len (hbk.below HB4.out hbk.lt) htk
        have HSRC2 := Lib.hid hsrc
        clear hsrc hbk htk
        go_wp2_with (at_builtin; refine wpList_append_any_at rfl _ _ 27 rfl w2.heap.size 63 i0 _ 2 32 Try.underlying27 hi hz0 hz1 hz2 (by rfl) (by decide) (.slice (some ⟨g4, 0, none⟩) (i + 1) c4) (i + 1) _ rfl HO4.out _ (L.length - i) _ rfl HSRC2.out (one_flat encKV_one _) (by have := HMS.out; omega) (by omega) (by have := HB4.out.size; omega) ?_; intro v5 w5 ho5 hg5 _)
        have hg5' : w4.grownBy w5 (Value.slice (some ⟨g4, 0, none⟩) (i + 1) c4).ownBlock := hg5
        have hb5 : Below w2.heap.size w2 w5 := HB4.out.grown hg5' (by have := HB4.out.size; omega) (fun k e => (HO4.out.lt k e).1)
        have hlist : putL L p = L.take i ++ [p] ++ L.drop i := by rw [HE.out]; simp
        have hlen : (L.take i ++ [p] ++ L.drop i).length = i + 1 + (L.length - i) := by rw [List.length_append, List.length_append, List.length_take, List.length_drop]; simp; omega
        obtain ⟨pa5, pc5, rfl⟩ := row_slice ho5
        have HF := Lib.hid (And.intro ho5 (And.intro hb5 (And.intro hlist hlen)))
        clear ho5 hg5 hg5' hb5 hlist hlen
        go_wp2
        go_ret
        refine ⟨_, rfl, ?_, HF.out.2.1⟩
        rw [HPT.out, HBB.out, if_pos rfl, HF.out.2.2.1]
        show World.ownsRow _ _ _ _ _ _ _
        rw [HF.out.2.2.2, flatE_append, flatE_snoc]
        exact row_base HF.out.1 (Nat.zero_le _)
    · obtain rfl : i = L.length := by omega
      have he := (ref_put HPL.out HS.out).2 (fun y hy => by rw [List.getElem?_eq_none (Nat.le_refl _)] at hy; cases hy)
      have HE := Lib.hid he
      clear he hlt
      rcases HV.out.2 with ⟨h1, h2⟩ | ⟨g, cap, cur, h1, _⟩
      · injection h1 with e1 e2 e3
        obtain rfl : L = [] := List.length_eq_zero_iff.1 e2
        subst e1
        subst e3
        simp only [List.length_nil, Nat.zero_add, List.take_nil] at *
        go_wp2_with (at_builtin; refine append_zero rfl _ _ 27 rfl w2.heap.size 63 i0 _ 2 32 Try.underlying27 hi hz0 hz1 hz2 (by rfl) (by decide) (.slice (some ⟨g4, 0, none⟩) 1 c4) 1 _ rfl HO4.out _ _ rfl (by have := HMS.out; omega) (by omega) (by have := HB4.out.size; omega) ?_; intro v5 w5 ho5 hg5 _)
        have hg5' : w4.grownBy w5 (Value.slice (some ⟨g4, 0, none⟩) 1 c4).ownBlock := hg5
        have hb5 : Below w2.heap.size w2 w5 := HB4.out.grown hg5' (by have := HB4.out.size; omega) (fun k e => (HO4.out.lt k e).1)
        have hlist : putL [] p = [] ++ [p] := by exact HE.out
        have hlen : ([] ++ [p]).length = 1 := by rfl
        obtain ⟨pa5, pc5, rfl⟩ := row_slice ho5
        have HF := Lib.hid (And.intro ho5 (And.intro hb5 (And.intro hlist hlen)))
        clear ho5 hg5 hg5' hb5 hlist hlen
        go_wp2
        go_ret
        refine ⟨_, rfl, ?_, HF.out.2.1⟩
        rw [HPT.out, HBB.out, if_pos rfl, HF.out.2.2.1]
        show World.ownsRow _ _ _ _ _ _ _
        rw [HF.out.2.2.2, flatE_snoc]
        exact row_base HF.out.1 (Nat.zero_le _)
      · cases h1
        by_cases hcc : c = L.length
        · subst hcc
          go_wp2_with (at_builtin; refine append_zero rfl _ _ 27 rfl w2.heap.size 63 i0 _ 2 32 Try.underlying27 hi hz0 hz1 hz2 (by rfl) (by decide) (.slice (some ⟨g4, 0, none⟩) (L.length + 1) c4) (L.length + 1) _ rfl HO4.out _ _ rfl (by have := HMS.out; omega) (by omega) (by have := HB4.out.size; omega) ?_; intro v5 w5 ho5 hg5 _)
          have hg5' : w4.grownBy w5 (Value.slice (some ⟨g4, 0, none⟩) (L.length + 1) c4).ownBlock := hg5
          have hb5 : Below w2.heap.size w2 w5 := HB4.out.grown hg5' (by have := HB4.out.size; omega) (fun k e => (HO4.out.lt k e).1)
          have hlist : putL L p = L.take L.length ++ [p] := by rw [HE.out, List.drop_eq_nil_of_le (Nat.le_refl _)]
          have hlen : (L.take L.length ++ [p]).length = L.length + 1 := by rw [List.length_append, List.length_take]; simp
          obtain ⟨pa5, pc5, rfl⟩ := row_slice ho5
          have HF := Lib.hid (And.intro ho5 (And.intro hb5 (And.intro hlist hlen)))
          clear ho5 hg5 hg5' hb5 hlist hlen
          go_wp2
          go_ret
          refine ⟨_, rfl, ?_, HF.out.2.1⟩
          rw [HPT.out, HBB.out, if_pos rfl, HF.out.2.2.1]
          show World.ownsRow _ _ _ _ _ _ _
          rw [HF.out.2.2.2, flatE_snoc]
          exact row_base HF.out.1 (Nat.zero_le _)
        · skip
          go_wp2_with (at_builtin; refine append_zero rfl _ _ 27 rfl w2.heap.size 63 i0 _ 2 32 Try.underlying27 hi hz0 hz1 hz2 (by rfl) (by decide) (.slice (some ⟨g4, 0, none⟩) (L.length + 1) c4) (L.length + 1) _ rfl HO4.out _ _ rfl (by have := HMS.out; omega) (by omega) (by have := HB4.out.size; omega) ?_; intro v5 w5 ho5 hg5 _)
          have hg5' : w4.grownBy w5 (Value.slice (some ⟨g4, 0, none⟩) (L.length + 1) c4).ownBlock := hg5
          have hb5 : Below w2.heap.size w2 w5 := HB4.out.grown hg5' (by have := HB4.out.size; omega) (fun k e => (HO4.out.lt k e).1)
          have hlist : putL L p = L.take L.length ++ [p] := by rw [HE.out, List.drop_eq_nil_of_le (Nat.le_refl _)]
          have hlen : (L.take L.length ++ [p]).length = L.length + 1 := by rw [List.length_append, List.length_take]; simp
          obtain ⟨pa5, pc5, rfl⟩ := row_slice ho5
          have HF := Lib.hid (And.intro ho5 (And.intro hb5 (And.intro hlist hlen)))
          clear ho5 hg5 hg5' hb5 hlist hlen
          go_wp2
          go_ret
          refine ⟨_, rfl, ?_, HF.out.2.1⟩
          rw [HPT.out, HBB.out, if_pos rfl, HF.out.2.2.1]
          show World.ownsRow _ _ _ _ _ _ _
          rw [HF.out.2.2.2, flatE_snoc]
          exact row_base HF.out.1 (Nat.zero_le _)
end Go.Proofs.Ytmkhnpkbaegchaa
/- The walks of the reference's Delete and Range. Conditions: the list is a row, its pairs in order. -/
namespace Go.Proofs.Ytmkhnpkbaegchaa
open Go.RowKit

def RowPost (M : List KV) (w : World) (e : Ending) (w' : World) : Prop := ∃ v', e = .returned v' ∧ RowA w' v' M ∧ Below w.heap.size w w'
theorem delL_filter {L : List KV} (key : ByteArray) (hs : Srt L) : delL L key = L.filter (fun x => !decide (x.k = key)) :=
  srt_ext (srt_delL hs) (hs.filter _) (fun x => by rw [mem_delL, List.mem_filter]; simp)
theorem take_filter {p : KV → Bool} : ∀ {l : List KV}, l.Pairwise (fun x y => p y = true → p x = true) → l.takeWhile p = l.filter p
  | [], _ => rfl
  | x :: l, h => by
    obtain ⟨h1, h2⟩ := List.pairwise_cons.1 h
    rw [List.takeWhile_cons, List.filter_cons]
    by_cases hx : p x = true
    · rw [if_pos hx, if_pos hx, take_filter h2]
    · rw [if_neg hx, if_neg hx]
      exact (List.filter_eq_nil_iff.2 (fun y hy e => hx (h1 y hy e))).symm
theorem rangeL_filter {L : List KV} (a u : ByteArray) (hs : Srt L) : rangeL L a u = L.filter (fun x => !kl x.k a && !cutB u x) := by
  unfold rangeL rngL
  have hs2 : Srt (L.filter fun x => !kl x.k a) := hs.filter _
  rw [take_filter (hs2.imp (fun {x y} h e => by
    unfold cutB at e ⊢
    cases hu : (u.toList == ([] : List UInt8))
    · rw [hu] at e
      simp at e
      rw [kl_trans h e]; rfl
    · rfl)), List.filter_filter]
  exact List.filter_congr (fun x _ => Bool.and_comm _ _)
set_option maxRecDepth 100000 in
set_option maxHeartbeats 4000000 in
theorem rdel_any (L : List KV) (v : Value) (key : ByteArray) (w : World) (hv : RowA w v L) (hs : Srt L) (hl : L.length ≤ 100000) :
    Calls Try.prog 33 #[v, .string key] w (RowPost (delL L key) w) := by
  obtain ⟨i0, hi, hz0, hz1, hz2⟩ := info_parts infoP
  obtain ⟨pa, c, rfl, hc1, hc2, hop⟩ := RowA.open hv
  have heq := delL_filter key hs
  have hms : maxLen = 9223372036854775807 := rfl
  have HOP := Lib.hid hop; have HEQ := Lib.hid heq; have HMS := Lib.hid hms
  clear hv hop heq hs hms
  go_enter Try.func33, Try.ntmps33
  go_wp2
  go_loopg [5, 6] L.length (fun kx s5 s6 wr => ∃ i : Nat, s6 = .int .i64 i ∧ i ≤ L.length ∧ L.length - i ≤ kx ∧ Hid (wr.ownsRow w.heap.size 63 2 s5 (List.filter (fun x => !decide (x.k = key)) (L.take i)).length (flatE encKV (List.filter (fun x => !decide (x.k = key)) (L.take i)))) ∧ Hid (Below w.heap.size w wr))
  case atStart => exact ⟨0, rfl, Nat.zero_le _, Nat.le_refl _, Lib.hid (World.ownsRow_nil _ _ _ _), Lib.hid (bl_refl _)⟩
  case round =>
    obtain ⟨i, rfl, hile, hm, HO, HB⟩ := hrel
    by_cases hlt : i < L.length
    · obtain ⟨x, hx⟩ : ∃ x, L[i]? = some x := ⟨_, List.getElem?_eq_getElem hlt⟩
      obtain ⟨m, hm2⟩ : ∃ m, m = (List.filter (fun x => !decide (x.k = key)) (L.take i)).length := ⟨_, rfl⟩
      have hmi : m ≤ i := by rw [hm2]; exact Nat.le_trans (List.length_filter_le _ _) (by rw [List.length_take]; omega)
      rw [← hm2] at HO
      obtain ⟨pa5, pc5, rfl⟩ := row_slice HO.out
      obtain ⟨g, cur, rfl, hg, _, _, hcell⟩ := HOP.out (by omega)
      have c0 := (HB.out.cell (p := ⟨g, i * 2, none⟩) hg).trans (hcell i x hx).1
      have c1 := (HB.out.cell (p := ⟨g, i * 2 + 1, none⟩) hg).trans (hcell i x hx).2
      have HX := Lib.hid hx; have HM := Lib.hid hm2
      clear hx hm2 hcell
      by_cases hk : x.k = key
      · have hkp : (!decide (x.k = key)) = false := by rw [hk]; simp
        have hkb : (x.k.toList == key.toList) = true := by rw [hk]; simp
        have hkt : (x.k.toList = key.toList) = True := by rw [hk]; simp
        clear hk
        have hnew : wr.ownsRow w.heap.size 63 2 (.slice pa5 m pc5) (List.filter (fun x => !decide (x.k = key)) (L.take (i + 1))).length (flatE encKV (List.filter (fun x => !decide (x.k = key)) (L.take (i + 1)))) := by
          rw [List.take_add_one, HX.out, Option.toList_some, List.filter_append, List.filter_cons, hkp, if_neg (by simp), List.filter_nil, List.append_nil, ← HM.out]
          exact HO.out
        have HNEW := Lib.hid hnew
        clear hnew hkp
        go_wp2
        go_roundg (L.length - (i + 1))
        case measure => omega
        case rel => exact ⟨i + 1, by go_num, by omega, Nat.le_refl _, Lib.hid HNEW.out, HB⟩
      · have hkp : (!decide (x.k = key)) = true := by simp [hk]
        have hkt : ¬ (x.k.toList = key.toList) := fun e => hk (toL_inj e)
        have hkb : (x.k.toList == key.toList) = false := by simpa using hkt
        clear hk
        have HKP := Lib.hid hkp
        clear hkp
        go_wp2_with (at_builtin; refine wpList_append_lies _ rfl _ _ 27 rfl w.heap.size 63 i0 _ 2 32 Try.underlying27 hi hz0 hz1 hz2 (by rfl) (by decide) (.slice pa5 m pc5) m _ rfl (HO.out.alloc _) ⟨wr.heap.size, 0, none⟩ 1 1 [.string x.k, .string x.v] rfl rfl (World.news_of_block (cs := #[.string x.k, .string x.v]) (t := 63) (fr := (0, 0)) (heap_alloc_new wr _)) (by simp [Value.oneCell']) (by omega) (by have := HMS.out; omega) (by omega) (by have := HB.out.size; simp; omega) _ rfl ?_; intro g4 c4 w4 ho4 hg4 _ hlt4)
        have hg4' : (wr.alloc (.cells #[.string x.k, .string x.v] 63)).grownBy w4 (Value.slice pa5 m pc5).ownBlock := hg4
        have hb4 : Below w.heap.size w w4 := (HB.out.alloc HB.out.size _).grown hg4' (by have := HB.out.size; simp; omega) (fun k e => (HO.out.lt k e).1)
        have hnew : w4.ownsRow w.heap.size 63 2 (.slice (some ⟨g4, 0, none⟩) (m + 1) c4) (List.filter (fun x => !decide (x.k = key)) (L.take (i + 1))).length (flatE encKV (List.filter (fun x => !decide (x.k = key)) (L.take (i + 1)))) := by
          rw [List.take_add_one, HX.out, Option.toList_some, List.filter_append, List.filter_cons, HKP.out, if_pos rfl, List.filter_nil, flatE_snoc, List.length_append, ← HM.out]
          exact ho4
        have HNEW := Lib.hid (And.intro hnew hb4)
        clear hnew hb4 hg4 hg4' ho4 hlt4
        go_wp2
        go_roundg (L.length - (i + 1))
        case measure => omega
        case rel => exact ⟨i + 1, by go_num, by omega, Nat.le_refl _, Lib.hid HNEW.out.1, Lib.hid HNEW.out.2⟩
    · obtain rfl : i = L.length := by omega
      rw [List.take_length] at HO
      obtain ⟨pa5, pc5, rfl⟩ := row_slice HO.out
      go_wp2
      go_ret
      refine ⟨_, rfl, ?_, HB.out⟩
      rw [HEQ.out]
      exact row_base HO.out (Nat.zero_le _)
set_option maxRecDepth 100000 in
set_option maxHeartbeats 4000000 in
theorem rrange_any (L : List KV) (v : Value) (a u : ByteArray) (w : World) (hv : RowA w v L) (hs : Srt L) (hl : L.length ≤ 100000) :
    Calls Try.prog 52 #[v, .string a, .string u] w (RowPost (rangeL L a u) w) := by
  obtain ⟨i0, hi, hz0, hz1, hz2⟩ := info_parts infoP
  obtain ⟨pa, c, rfl, hc1, hc2, hop⟩ := RowA.open hv
  have heq := rangeL_filter a u hs
  have hms : maxLen = 9223372036854775807 := rfl
  have HOP := Lib.hid hop; have HEQ := Lib.hid heq; have HMS := Lib.hid hms
  clear hv hop heq hs hms
  go_enter Try.func52, Try.ntmps52
  go_wp2
  go_loopg [7, 8] L.length (fun kx s5 s6 wr => ∃ i : Nat, s6 = .int .i64 i ∧ i ≤ L.length ∧ L.length - i ≤ kx ∧ Hid (wr.ownsRow w.heap.size 63 2 s5 (List.filter (fun x => !kl x.k a && !cutB u x) (L.take i)).length (flatE encKV (List.filter (fun x => !kl x.k a && !cutB u x) (L.take i)))) ∧ Hid (Below w.heap.size w wr))
  case atStart => exact ⟨0, rfl, Nat.zero_le _, Nat.le_refl _, Lib.hid (World.ownsRow_nil _ _ _ _), Lib.hid (bl_refl _)⟩
  case round =>
    obtain ⟨i, rfl, hile, hm, HO, HB⟩ := hrel
    by_cases hlt : i < L.length
    · obtain ⟨x, hx⟩ : ∃ x, L[i]? = some x := ⟨_, List.getElem?_eq_getElem hlt⟩
      obtain ⟨m, hm2⟩ : ∃ m, m = (List.filter (fun x => !kl x.k a && !cutB u x) (L.take i)).length := ⟨_, rfl⟩
      have hmi : m ≤ i := by rw [hm2]; exact Nat.le_trans (List.length_filter_le _ _) (by rw [List.length_take]; omega)
      rw [← hm2] at HO
      obtain ⟨pa5, pc5, rfl⟩ := row_slice HO.out
      obtain ⟨g, cur, rfl, hg, _, _, hcell⟩ := HOP.out (by omega)
      have c0 := (HB.out.cell (p := ⟨g, i * 2, none⟩) hg).trans (hcell i x hx).1
      have c1 := (HB.out.cell (p := ⟨g, i * 2 + 1, none⟩) hg).trans (hcell i x hx).2
      have HX := Lib.hid hx; have HM := Lib.hid hm2
      clear hx hm2 hcell
      by_cases hk : kl x.k a = true
      · have hkp : (!kl x.k a && !cutB u x) = false := by rw [hk]; rfl
        have hkb : Op.bytesLess x.k.toList a.toList = true := hk
        clear hk
        have hnew : wr.ownsRow w.heap.size 63 2 (.slice pa5 m pc5) (List.filter (fun x => !kl x.k a && !cutB u x) (L.take (i + 1))).length (flatE encKV (List.filter (fun x => !kl x.k a && !cutB u x) (L.take (i + 1)))) := by
          rw [List.take_add_one, HX.out, Option.toList_some, List.filter_append, List.filter_cons, hkp, if_neg (by simp), List.filter_nil, List.append_nil, ← HM.out]
          exact HO.out
        have HNEW := Lib.hid hnew
        clear hnew hkp
        go_wp2
        go_roundg (L.length - (i + 1))
        case measure => omega
        case rel => exact ⟨i + 1, by go_num, by omega, Nat.le_refl _, Lib.hid HNEW.out, HB⟩
      · have hkf : kl x.k a = false := by simpa using hk
        have hkb : Op.bytesLess x.k.toList a.toList = false := hkf
        clear hk
        by_cases hu : u.toList = []
        · have hkp : (!kl x.k a && !cutB u x) = true := by unfold cutB; rw [hkf, hu]; rfl
          have hu2 : (u.toList == ([] : List UInt8)) = true := by rw [hu]; rfl
          have hu3 : (u.toList = []) = True := by rw [hu]; simp
          clear hu hkf
          have HKP := Lib.hid hkp
          clear hkp
          go_wp2_with (at_builtin; refine wpList_append_lies _ rfl _ _ 27 rfl w.heap.size 63 i0 _ 2 32 Try.underlying27 hi hz0 hz1 hz2 (by rfl) (by decide) (.slice pa5 m pc5) m _ rfl (HO.out.alloc _) ⟨wr.heap.size, 0, none⟩ 1 1 [.string x.k, .string x.v] rfl rfl (World.news_of_block (cs := #[.string x.k, .string x.v]) (t := 63) (fr := (0, 0)) (heap_alloc_new wr _)) (by simp [Value.oneCell']) (by omega) (by have := HMS.out; omega) (by omega) (by have := HB.out.size; simp; omega) _ rfl ?_; intro g4 c4 w4 ho4 hg4 _ hlt4)
          have hg4' : (wr.alloc (.cells #[.string x.k, .string x.v] 63)).grownBy w4 (Value.slice pa5 m pc5).ownBlock := hg4
          have hb4 : Below w.heap.size w w4 := (HB.out.alloc HB.out.size _).grown hg4' (by have := HB.out.size; simp; omega) (fun k e => (HO.out.lt k e).1)
          have hnew : w4.ownsRow w.heap.size 63 2 (.slice (some ⟨g4, 0, none⟩) (m + 1) c4) (List.filter (fun x => !kl x.k a && !cutB u x) (L.take (i + 1))).length (flatE encKV (List.filter (fun x => !kl x.k a && !cutB u x) (L.take (i + 1)))) := by
            rw [List.take_add_one, HX.out, Option.toList_some, List.filter_append, List.filter_cons, HKP.out, if_pos rfl, List.filter_nil, flatE_snoc, List.length_append, ← HM.out]
            exact ho4
          have HNEW := Lib.hid (And.intro hnew hb4)
          clear hnew hb4 hg4 hg4' ho4 hlt4
          go_wp2
          go_roundg (L.length - (i + 1))
          case measure => omega
          case rel => exact ⟨i + 1, by go_num, by omega, Nat.le_refl _, Lib.hid HNEW.out.1, Lib.hid HNEW.out.2⟩
        · have hu2 : (u.toList == ([] : List UInt8)) = false := by simpa using hu
          by_cases hq : kl x.k u = true
          · have hkp : (!kl x.k a && !cutB u x) = true := by unfold cutB; rw [hkf, hq, hu2]; rfl
            have hqb : Op.bytesLess x.k.toList u.toList = true := hq
            clear hq hkf
            have HKP := Lib.hid hkp
            clear hkp
            go_wp2_with (at_builtin; refine wpList_append_lies _ rfl _ _ 27 rfl w.heap.size 63 i0 _ 2 32 Try.underlying27 hi hz0 hz1 hz2 (by rfl) (by decide) (.slice pa5 m pc5) m _ rfl (HO.out.alloc _) ⟨wr.heap.size, 0, none⟩ 1 1 [.string x.k, .string x.v] rfl rfl (World.news_of_block (cs := #[.string x.k, .string x.v]) (t := 63) (fr := (0, 0)) (heap_alloc_new wr _)) (by simp [Value.oneCell']) (by omega) (by have := HMS.out; omega) (by omega) (by have := HB.out.size; simp; omega) _ rfl ?_; intro g4 c4 w4 ho4 hg4 _ hlt4)
            have hg4' : (wr.alloc (.cells #[.string x.k, .string x.v] 63)).grownBy w4 (Value.slice pa5 m pc5).ownBlock := hg4
            have hb4 : Below w.heap.size w w4 := (HB.out.alloc HB.out.size _).grown hg4' (by have := HB.out.size; simp; omega) (fun k e => (HO.out.lt k e).1)
            have hnew : w4.ownsRow w.heap.size 63 2 (.slice (some ⟨g4, 0, none⟩) (m + 1) c4) (List.filter (fun x => !kl x.k a && !cutB u x) (L.take (i + 1))).length (flatE encKV (List.filter (fun x => !kl x.k a && !cutB u x) (L.take (i + 1)))) := by
              rw [List.take_add_one, HX.out, Option.toList_some, List.filter_append, List.filter_cons, HKP.out, if_pos rfl, List.filter_nil, flatE_snoc, List.length_append, ← HM.out]
              exact ho4
            have HNEW := Lib.hid (And.intro hnew hb4)
            clear hnew hb4 hg4 hg4' ho4 hlt4
            go_wp2
            go_roundg (L.length - (i + 1))
            case measure => omega
            case rel => exact ⟨i + 1, by go_num, by omega, Nat.le_refl _, Lib.hid HNEW.out.1, Lib.hid HNEW.out.2⟩
          · have hqf : kl x.k u = false := by simpa using hq
            have hkp : (!kl x.k a && !cutB u x) = false := by unfold cutB; rw [hkf, hqf, hu2]; rfl
            have hqb : Op.bytesLess x.k.toList u.toList = false := hqf
            clear hq hkf hqf
            have hnew : wr.ownsRow w.heap.size 63 2 (.slice pa5 m pc5) (List.filter (fun x => !kl x.k a && !cutB u x) (L.take (i + 1))).length (flatE encKV (List.filter (fun x => !kl x.k a && !cutB u x) (L.take (i + 1)))) := by
              rw [List.take_add_one, HX.out, Option.toList_some, List.filter_append, List.filter_cons, hkp, if_neg (by simp), List.filter_nil, List.append_nil, ← HM.out]
              exact HO.out
            have HNEW := Lib.hid hnew
            clear hnew hkp
            go_wp2
            go_roundg (L.length - (i + 1))
            case measure => omega
            case rel => exact ⟨i + 1, by go_num, by omega, Nat.le_refl _, Lib.hid HNEW.out, HB⟩
    · obtain rfl : i = L.length := by omega
      rw [List.take_length] at HO
      obtain ⟨pa5, pc5, rfl⟩ := row_slice HO.out
      go_wp2
      go_ret
      refine ⟨_, rfl, ?_, HB.out⟩
      rw [HEQ.out]
      exact row_base HO.out (Nat.zero_le _)
end Go.Proofs.Ytmkhnpkbaegchaa
/- The walks of the reference's Floor and Within. Conditions: the list is a row, its pairs in order; a number of pairs fits the height. -/
namespace Go.Proofs.Ytmkhnpkbaegchaa
open Go.RowKit

theorem flr_stop {L : List KV} {key : ByteArray} {i : Nat} (hs : Srt L) (h1 : ∀ x ∈ L.take i, kl key x.k = false) (h2 : ∀ x, L[i]? = some x → kl key x.k = true) : flrL L key = (L.take i).getLast? := by
  have h3 : ∀ x ∈ L.drop i, kl key x.k = true := fun x hx => by
    obtain ⟨t, ht⟩ := List.mem_iff_getElem?.1 hx
    rw [List.getElem?_drop] at ht
    cases t with
    | zero => exact h2 x ht
    | succ t =>
      have hlt : i < L.length := by have := (List.getElem?_eq_some_iff.1 ht).1; omega
      exact kl_trans (h2 _ (List.getElem?_eq_getElem hlt)) (srt_at hs (by omega : i < i + (t + 1)) (List.getElem?_eq_getElem hlt) ht)
  unfold flrL
  have e : L.filter (fun x => !kl key x.k) = L.take i := by
    conv => lhs; rw [← List.take_append_drop i L]
    rw [List.filter_append, List.filter_eq_self.2 (fun x hx => by rw [h1 x hx]; rfl), List.filter_eq_nil_iff.2 (fun x hx => by rw [h3 x hx]; simp), List.append_nil]
  rw [e]
set_option maxRecDepth 100000 in
set_option maxHeartbeats 4000000 in
theorem rfloor_any (L : List KV) (v : Value) (key : ByteArray) (w : World) (hv : RowA w v L) (hs : Srt L) (hl : L.length ≤ 100000) :
    Calls Try.prog 51 #[v, .string key] w (FlrPost (flrL L key) w) := by
  obtain ⟨o, ho⟩ : ∃ o, o = flrL L key := ⟨_, rfl⟩
  rw [← ho]
  have HOO := Lib.hid ho
  clear ho
  have bR0 : Blk ((w.alloc (.cells #[.string ⟨#[]⟩, .string ⟨#[]⟩] 63)).alloc (.cells #[.string ⟨#[]⟩, .string ⟨#[]⟩] 63)) w.heap.size 63 #[.string ⟨#[]⟩, .string ⟨#[]⟩] := (Blk.new _ _ _).alloc _
  have bO0 : Blk ((w.alloc (.cells #[.string ⟨#[]⟩, .string ⟨#[]⟩] 63)).alloc (.cells #[.string ⟨#[]⟩, .string ⟨#[]⟩] 63)) (w.heap.size + 1) 63 #[.string ⟨#[]⟩, .string ⟨#[]⟩] := Blk.at (by simp) _ _
  have hB0 := bl_trans (bl_alloc w (.cells #[.string ⟨#[]⟩, .string ⟨#[]⟩] 63)) (bl_alloc _ (.cells #[.string ⟨#[]⟩, .string ⟨#[]⟩] 63))
  obtain ⟨W0, hW0⟩ : ∃ W0, W0 = (w.alloc (.cells #[.string ⟨#[]⟩, .string ⟨#[]⟩] 63)).alloc (.cells #[.string ⟨#[]⟩, .string ⟨#[]⟩] 63) := ⟨_, rfl⟩
  rw [← hW0] at bR0 bO0 hB0
  have HW0 := Lib.hid hW0
  clear hW0
  obtain ⟨R, hR⟩ : ∃ R, R = w.heap.size := ⟨_, rfl⟩
  obtain ⟨O, hO⟩ : ∃ O, O = R + 1 := ⟨_, rfl⟩
  rw [← hR] at bR0 bO0
  rw [← hO] at bO0
  have HR := Lib.hid hR; have HO := Lib.hid hO
  have hwR : w.heap.size ≤ R := by omega
  have hwO : w.heap.size ≤ O := by omega
  have hRO : R ≠ O := by omega
  have hOR : O ≠ R := by omega
  obtain ⟨pa, c, rfl, hc1, hc2, hop⟩ := RowA.open hv
  have HOP := Lib.hid hop; have HS := Lib.hid hs
  have BR := Lib.hid bR0; have BO := Lib.hid bO0; have HB0 := Lib.hid hB0
  clear hv hop hs hR hO bR0 bO0 hB0
  go_enter Try.func51, Try.ntmps51
  go_upto_region 2 with (fail)
  rw [← HR.out, ← HO.out, ← HW0.out]
  go_wp2
  go_loopg [7, 8] L.length (fun kx s7 s8 wr => ∃ (i : Nat) (out : Option KV), s7 = .bool out.isSome ∧ s8 = .int .i64 i ∧ i ≤ L.length ∧ L.length - i ≤ kx ∧ Below w.heap.size w wr ∧ Hid (Blk wr R 63 #[.string ⟨#[]⟩, .string ⟨#[]⟩]) ∧ Hid (Blk wr O 63 #[.string (oK out), .string (oV out)]) ∧ Hid (out = (L.take i).getLast?) ∧ Hid (∀ x ∈ L.take i, kl key x.k = false))
  case atStart => exact ⟨0, none, rfl, rfl, Nat.zero_le _, Nat.le_refl _, HB0.out, BR, BO, Lib.hid (by simp), Lib.hid (by simp)⟩
  case round =>
    clear BR BO HB0
    obtain ⟨i, out, rfl, rfl, hile, hm, hB, BR, BO, HE, HLO⟩ := hrel
    have r0 := BR.out.cell 0
    have r1 := BR.out.cell 1
    have q0 := BO.out.cell 0
    have q1 := BO.out.cell 1
    have fr0 := BR.out.frozen 0
    have fr1 := BR.out.frozen 1
    have fq0 := BO.out.frozen 0
    have fq1 := BO.out.frozen 1
    simp only [List.getElem?_toArray, List.getElem?_cons_zero, List.getElem?_cons_succ] at r0 r1 q0 q1
    by_cases hlt : i < L.length
    · obtain ⟨x, hx⟩ : ∃ x, L[i]? = some x := ⟨_, List.getElem?_eq_getElem hlt⟩
      obtain ⟨g, cur, rfl, hg, _, _, hcell⟩ := HOP.out (by omega)
      have c0 := (hB.cell (p := ⟨g, i * 2, none⟩) hg).trans (hcell i x hx).1
      have c1 := (hB.cell (p := ⟨g, i * 2 + 1, none⟩) hg).trans (hcell i x hx).2
      have HX := Lib.hid hx
      have hgO : g ≠ O := by omega
      have hgR : g ≠ R := by omega
      clear hx hcell
      by_cases hk : kl key x.k = true
      · have hkb : Op.bytesLess x.k.toList key.toList = false := kl_asym hk
        have hkt : ¬ (x.k.toList = key.toList) := fun e => (kl_ne hk).symm (toL_inj e)
        have hkq : (x.k.toList == key.toList) = false := by simpa using hkt
        have hr : o = out := HOO.out.trans ((flr_stop HS.out HLO.out (fun y hy => by rw [HX.out] at hy; cases hy; exact hk)).trans HE.out.symm)
        subst hr
        clear hk
        go_wp2_with fail
        have bF := (BR.out.set 0 (.string (oK o))).set 1 (.string (oV o))
        have g0 := bF.cell 0
        have g1 := bF.cell 1
        simp at g0 g1
        refine bodyPost_ret (v := .tuple #[.agg #[.string (oK o), .string (oV o)], .bool o.isSome]) (by simp [results, Try.f51, go_sem, g0, g1]) rfl ?_
        exact ⟨rfl, (hB.setCell (p := ⟨R, 0, none⟩) hwR _).setCell (p := ⟨R, 1, none⟩) hwR _⟩
      · have hkf : kl key x.k = false := by simpa using hk
        have hnew : (some x : Option KV) = (L.take (i + 1)).getLast? := by rw [List.take_add_one, HX.out, Option.toList_some]; simp
        have hlo : ∀ y ∈ L.take (i + 1), kl key y.k = false := fun y hy => by
          rw [List.take_add_one, HX.out, Option.toList_some] at hy
          rcases List.mem_append.1 hy with e | e
          · exact HLO.out y e
          · rw [List.mem_singleton.1 e]; exact hkf
        have bR2 := (BR.out.far (p := ⟨O, 0, none⟩) hRO (.string x.k)).far (p := ⟨O, 1, none⟩) hRO (.string x.v)
        have bO2 := (BO.out.set 0 (.string x.k)).set 1 (.string x.v)
        have HNEW := Lib.hid hnew; have HLO2 := Lib.hid hlo
        rcases kl_total x.k key with q | q | q
        · have hkb : Op.bytesLess x.k.toList key.toList = true := q
          clear q
          clear hk hkf hnew hlo
          go_wp2
          go_roundg (L.length - (i + 1))
          case measure => omega
          case rel => exact ⟨i + 1, some x, rfl, by go_num, by omega, Nat.le_refl _, (hB.setCell (p := ⟨O, 0, none⟩) hwO _).setCell (p := ⟨O, 1, none⟩) hwO _, Lib.hid bR2, Lib.hid bO2, HNEW, HLO2⟩
        · have hkb : Op.bytesLess x.k.toList key.toList = false := by rw [q]; exact kl_irr _
          have hkt : (x.k.toList = key.toList) = True := by rw [q]; simp
          have hkq : (x.k.toList == key.toList) = true := by rw [q]; simp
          clear q
          clear hk hkf hnew hlo
          go_wp2
          go_roundg (L.length - (i + 1))
          case measure => omega
          case rel => exact ⟨i + 1, some x, rfl, by go_num, by omega, Nat.le_refl _, (hB.setCell (p := ⟨O, 0, none⟩) hwO _).setCell (p := ⟨O, 1, none⟩) hwO _, Lib.hid bR2, Lib.hid bO2, HNEW, HLO2⟩
        · exact absurd q hk
    · obtain rfl : i = L.length := by omega
      have hr : o = out := HOO.out.trans ((flr_stop HS.out HLO.out (fun y hy => by rw [List.getElem?_eq_none (Nat.le_refl _)] at hy; cases hy)).trans HE.out.symm)
      subst hr
      go_wp2_with fail
      have bF := (BR.out.set 0 (.string (oK o))).set 1 (.string (oV o))
      have g0 := bF.cell 0
      have g1 := bF.cell 1
      simp at g0 g1
      refine bodyPost_ret (v := .tuple #[.agg #[.string (oK o), .string (oV o)], .bool o.isSome]) (by simp [results, Try.f51, go_sem, g0, g1]) rfl ?_
      exact ⟨rfl, (hB.setCell (p := ⟨R, 0, none⟩) hwR _).setCell (p := ⟨R, 1, none⟩) hwR _⟩
set_option maxRecDepth 100000 in
set_option maxHeartbeats 4000000 in
theorem within_any (h n : Nat) (w : World) (hh : h ≤ 9) (hn : n ≤ 1000000) (hb : (h = 0 ∧ n = 0) ∨ ∃ k, h = k + 1 ∧ 2 * 4 ^ k ≤ n + 1 ∧ n + 1 ≤ 9 * 9 ^ k) :
    Calls Try.prog 31 #[.int .i64 h, .int .i64 n] w (Pur (.bool true) w) := by
  rcases hb with ⟨rfl, rfl⟩ | ⟨k, hk, h1, h2⟩
  · go_enter Try.func31, Try.ntmps31
    go_wp2
    go_ret
    exact ⟨rfl, rfl⟩
  · have hk1 : 1 ≤ h := by omega
    have HF := Lib.hid (And.intro hk (And.intro h1 h2))
    clear hk h1 h2
    go_enter Try.func31, Try.ntmps31
    go_wp2
    go_loopg [5, 6, 7] h (fun kx s5 s6 s7 wr => ∃ t lo hi : Nat, s5 = .int .i64 lo ∧ s6 = .int .i64 hi ∧ s7 = .int .i64 ((t : Int) + 1) ∧ t + 1 ≤ h ∧ h - (t + 1) ≤ kx ∧ 1 ≤ lo ∧ 1 ≤ hi ∧ Hid (lo = 2 * 4 ^ t ∧ hi = 9 * 9 ^ t) ∧ wr = w)
    case atStart => exact ⟨0, 2, 9, rfl, rfl, rfl, hk1, by omega, by omega, by omega, Lib.hid ⟨rfl, rfl⟩, rfl⟩
    case round =>
      obtain ⟨t, lo, hi, rfl, rfl, rfl, ht, hm, hl1, hi1, HP, rfl⟩ := hrel
      have hlo : lo ≤ 131072 := by
        have := Nat.pow_le_pow_right (n := 4) (by omega) (by omega : t ≤ 8)
        rw [HP.out.1]
        have e : (4 : Nat) ^ 8 = 65536 := by decide
        omega
      have hhi : hi ≤ 387420489 := by
        have := Nat.pow_le_pow_right (n := 9) (by omega) (by omega : t ≤ 8)
        rw [HP.out.2]
        have e : (9 : Nat) ^ 8 = 43046721 := by decide
        omega
      by_cases hlt : t + 1 < h
      · have hnew : 4 * lo = 2 * 4 ^ (t + 1) ∧ 9 * hi = 9 * 9 ^ (t + 1) := by rw [HP.out.1, HP.out.2, Nat.pow_succ, Nat.pow_succ]; omega
        have HNEW := Lib.hid hnew
        clear hnew
        go_wp2
        go_roundg (h - (t + 2))
        case measure => omega
        case rel => exact ⟨t + 1, 4 * lo, 9 * hi, by go_num, by go_num, by go_num, by omega, Nat.le_refl _, by omega, by omega, HNEW, rfl⟩
      · have htk : t = k := by have := HF.out.1; omega
        have hf1 : lo ≤ n + 1 := by rw [HP.out.1, htk]; exact HF.out.2.1
        have hf2 : n + 1 ≤ hi := by rw [HP.out.2, htk]; exact HF.out.2.2
        clear htk
        go_wp2
        go_ret
        refine ⟨congrArg (fun b => Ending.returned (.bool b)) ?_, rfl⟩
        simp only [decide_eq_true_eq]
        omega
end Go.Proofs.Ytmkhnpkbaegchaa
/- The walk of agrees. Conditions: the tree lies in memory, the list is its pairs. -/
namespace Go.Proofs.Ytmkhnpkbaegchaa
open Go.RowKit

theorem rangeL_len (L : List KV) (a u : ByteArray) : (rangeL L a u).length ≤ L.length := by
  unfold rangeL rngL
  exact Nat.le_trans (List.takeWhile_sublist _).length_le (List.length_filter_le _ _)
set_option maxRecDepth 100000 in
set_option maxHeartbeats 8000000 in
theorem agrees_any (T : Tre) (v : Value) (key u : ByteArray) (w : World) (hT : IsT w T) (hv : RowA w v T.l) (hl : T.l.length ≤ 90000) :
    Calls Try.prog 29 #[ptrN T.p, v, .string key, .string u] w (Ret (.bool true) w) := by
  have hs := hT.1
  have hg1 : ∀ W, Below w.heap.size w W → Calls Try.prog 35 #[ptrN T.p, .string key] W (GetPost (getL T.l key) W) := fun W hb => get_any T key W (hT.below hb) (by omega)
  have hg2 : ∀ W, Below w.heap.size w W → Calls Try.prog 50 #[v, .string key] W (GetPost (getL T.l key) W) := fun W hb => rget_any T.l v key W (row_below hv hb) hs (by omega)
  have hf1 : ∀ W, Below w.heap.size w W → Calls Try.prog 34 #[ptrN T.p, .string key] W (FlrPost (flrL T.l key) W) := fun W hb => floor_any T key W (hT.below hb) (by omega)
  have hf2 : ∀ W, Below w.heap.size w W → Calls Try.prog 51 #[v, .string key] W (FlrPost (flrL T.l key) W) := fun W hb => rfloor_any T.l v key W (row_below hv hb) hs (by omega)
  have hr1 : ∀ W, Below w.heap.size w W → Calls Try.prog 13 #[ptrN T.p, .string key, .string u] W (OwnPost 63 2 (flatE encKV (rangeL T.l key u)) (rangeL T.l key u).length W) := fun W hb => range_any T key u W (hT.below hb) (by omega)
  have hr2 : ∀ W, Below w.heap.size w W → Calls Try.prog 52 #[v, .string key, .string u] W (RowPost (rangeL T.l key u) W) := fun W hb => rrange_any T.l v key u W (row_below hv hb) hs (by omega)
  have hr3 : ∀ W, Below w.heap.size w W → Calls Try.prog 13 #[ptrN T.p, .string ⟨#[]⟩, .string ⟨#[]⟩] W (OwnPost 63 2 (flatE encKV T.l) T.l.length W) := fun W hb => by
    have := range_any T ⟨#[]⟩ ⟨#[]⟩ W (hT.below hb) (by omega)
    rw [rangeL_all] at this
    exact this
  have hle : ∀ W, Below w.heap.size w W → Calls Try.prog 16 #[ptrN T.p] W (Pur (.int .i64 T.l.length) W) := fun W hb => len_any T W (hT.below hb)
  have hml := rangeL_len T.l key u
  obtain ⟨M, hM⟩ : ∃ M, M = rangeL T.l key u := ⟨_, rfl⟩
  obtain ⟨s1, b1, hp1⟩ : ∃ s b, ∀ W, GetPost (getL T.l key) W = Ret (.tuple #[.string s, .bool b]) W := ⟨_, _, fun _ => rfl⟩
  obtain ⟨s2, s3, b2, hp2⟩ : ∃ s t b, ∀ W, FlrPost (flrL T.l key) W = Ret (.tuple #[.agg #[.string s, .string t], .bool b]) W := ⟨_, _, _, fun _ => rfl⟩
  rw [← hM] at hr1 hr2 hml
  simp only [hp1] at hg1 hg2
  simp only [hp2] at hf1 hf2
  obtain ⟨pa, c, rfl, hc1, hc2, _⟩ := RowA.open hv
  have HG1 := Lib.hid hg1; have HG2 := Lib.hid hg2; have HF1 := Lib.hid hf1; have HF2 := Lib.hid hf2; have HR1 := Lib.hid hr1; have HR2 := Lib.hid hr2; have HR3 := Lib.hid hr3; have HLE := Lib.hid hle; have HV := Lib.hid hv
  obtain ⟨n, hn⟩ : ∃ n, n = T.l.length := ⟨_, rfl⟩
  clear hg1 hg2 hf1 hf2 hr1 hr2 hr3 hle hM hp1 hp2 hs hT hv hn n
  go_enter Try.func29, Try.ntmps29
  go_wp2_with fail
  refine (HG1.out _ (bl_refl _)).mono ?_
  rintro e w1 ⟨rfl, hb1⟩
  go_wp2_with fail
  refine (HG2.out _ hb1).mono ?_
  rintro e w2 ⟨rfl, hb2⟩
  have hB2 := bl_trans hb1 hb2
  clear hb1 hb2
  go_wp2_with fail
  refine (HF1.out _ hB2).mono ?_
  rintro e w3 ⟨rfl, hb3⟩
  have hB3 := bl_trans hB2 hb3
  clear hB2 hb3
  go_wp2_with fail
  refine (HF2.out _ (bl_trans hB3 (bl_alloc _ _))).mono ?_
  rintro e w4 ⟨rfl, hb4⟩
  have hB4 := bl_trans (bl_trans hB3 (bl_alloc w3 (.cells #[.string s2, .string s3] 63))) hb4
  have bP := (Blk.new w3 63 #[.string s2, .string s3]).below hb4 (by simp)
  obtain ⟨P, hP⟩ : ∃ P, P = w3.heap.size := ⟨_, rfl⟩
  rw [← hP] at bP ⊢
  have bP5 := bP.alloc (.cells #[.string s2, .string s3] 63)
  have bQ5 := Blk.new w4 63 #[.string s2, .string s3]
  have hB5 := bl_trans hB4 (bl_alloc w4 (.cells #[.string s2, .string s3] 63))
  have p0 := bP5.cell 0
  have p1 := bP5.cell 1
  have q0 := bQ5.cell 0
  have q1 := bQ5.cell 1
  simp only [List.getElem?_toArray, List.getElem?_cons_zero, List.getElem?_cons_succ] at p0 p1 q0 q1
  clear hP hB3 hb4 bP bP5 bQ5
  go_wp2_with fail
  refine (HLE.out _ hB5).mono ?_
  rintro e w' ⟨rfl, rfl⟩
  go_wp2_with fail
  refine (HR1.out _ hB5).mono ?_
  rintro e w6 ⟨v6, rfl, ho6, hb6⟩
  have hB6 := bl_trans hB5 hb6
  have hx6 : IsRow 2 encKV w6 v6 M := IsRow.of_row encKV_len ho6 (by show M.length ≤ maxLen; unfold maxLen; omega)
  obtain ⟨pa6, pc6, rfl⟩ := row_slice ho6
  have HX6 := Lib.hid hx6
  clear hb6 ho6 hB5 hx6 p0 p1 q0 q1
  go_wp2_with fail
  refine (HR2.out _ hB6).mono ?_
  rintro e w7 ⟨v7, rfl, ho7, hb7⟩
  have hB7 := bl_trans hB6 hb7
  have hx7 : IsRow 2 encKV w7 v7 M := IsRow.of_row encKV_len ho7 (by show M.length ≤ maxLen; unfold maxLen; omega)
  obtain ⟨pa7, pc7, rfl⟩ := row_slice ho7
  have hsm := same_any M M (.slice pa6 M.length pc6) (.slice pa7 M.length pc7) w7 (HX6.out.below hb7) hx7 (by omega) (by omega)
  rw [decide_eq_true rfl] at hsm
  have HSM := Lib.hid hsm
  clear hb7 ho7 hB6 hx7 HX6 hsm
  go_wp2_with fail
  refine HSM.out.mono ?_
  rintro e w8 ⟨rfl, hb8⟩
  have hB8 := bl_trans hB7 hb8
  clear HSM hB7 hb8
  go_wp2_with fail
  refine (HR3.out _ hB8).mono ?_
  rintro e w9 ⟨v9, rfl, ho9, hb9⟩
  have hB9 := bl_trans hB8 hb9
  have hx9 : IsRow 2 encKV w9 v9 T.l := IsRow.of_row encKV_len ho9 (by show T.l.length ≤ maxLen; unfold maxLen; omega)
  have hx0 : IsRow 2 encKV w9 (.slice pa T.l.length c) T.l := IsRow.of_row encKV_len (row_below HV.out hB9) (by show T.l.length ≤ maxLen; unfold maxLen; omega)
  obtain ⟨pa9, pc9, rfl⟩ := row_slice ho9
  have hsm := same_any T.l T.l (.slice pa9 T.l.length pc9) (.slice pa T.l.length c) w9 hx9 hx0 (by omega) (by omega)
  rw [decide_eq_true rfl] at hsm
  have HSM := Lib.hid hsm
  clear hb9 ho9 hB8 hx9 hx0 hsm
  go_wp2_with fail
  refine HSM.out.mono ?_
  rintro e w10 ⟨rfl, hb10⟩
  go_wp2
  go_ret
  exact ⟨rfl, bl_trans hB9 hb10⟩
end Go.Proofs.Ytmkhnpkbaegchaa
/- The walk of many. Conditions: the numbers' bounds. -/
namespace Go.Proofs.Ytmkhnpkbaegchaa
open Go.RowKit

def ManyPost (m : Nat) (w : World) (e : Ending) (w' : World) : Prop := ∃ T v, e = .returned (.tuple #[ptrN T.p, v, .bool true]) ∧ IsT w' T ∧ RowA w' v T.l ∧ T.l.length ≤ m ∧ Below w.heap.size w w'
set_option maxRecDepth 100000 in
set_option maxHeartbeats 8000000 in
theorem many_any (n s : Nat) (thin : Bool) (w : World) (hn : n ≤ 1000) (hs2 : s ≤ 3988) :
    Calls Try.prog 30 #[.int .i64 n, .int .i64 s, .bool thin] w (ManyPost n w) := by
  have hkey : ∀ (i : Nat) W, i < 4000 → Calls Try.prog 26 #[.int .i64 i] W (Ret (.string (keyN i)) W) := fun i W hi => by
    rw [← keyF_nat hi]
    exact key_any i W (by omega) (by omega)
  have HKEY := Lib.hid hkey
  clear hkey
  go_enter Try.func30, Try.ntmps30
  go_wp2_with fail
  refine (new_any _).mono ?_
  rintro e w1 ⟨p, rfl, hT1, hp, hb1⟩
  clear hp
  have HT1 := Lib.hid hT1; have HB1 := Lib.hid hb1
  clear hT1 hb1
  go_wp2
  go_loopg [9, 10, 11, 12] n (fun kx s9 s10 s11 s12 wr => ∃ (i : Nat) (T : Tre), s11 = .int .i64 i ∧ s9 = ptrN T.p ∧ i ≤ n ∧ n - i ≤ kx ∧ Hid (IsT wr T) ∧ Hid (RowA wr s10 T.l) ∧ Hid (T.l.length ≤ i) ∧ Below w1.heap.size w1 wr)
  case atStart => exact ⟨0, ⟨p, [], 0, []⟩, rfl, rfl, by omega, Nat.le_refl _, HT1, Lib.hid (World.ownsRow_nil _ _ _ _), Lib.hid (Nat.le_refl _), bl_refl _⟩
  case round =>
    clear HT1
    obtain ⟨i, T, rfl, rfl, hi, hm, HT, HV, HL, hB⟩ := hrel
    obtain ⟨pv, cv, rfl⟩ := row_slice HV.out
    by_cases hlt : i < n
    · have hw0 : (0 : Int) ≤ (i : Int) * (s : Int) := Int.mul_nonneg (by omega) (by omega)
      have hw1 : (i : Int) * (s : Int) ≤ 3988000 := by
        have e := Int.natCast_mul i s
        have : i * s ≤ 1000 * 3988 := Nat.mul_le_mul (by omega) hs2
        omega
      obtain ⟨r, hr⟩ : ∃ r, r = i * s % 3989 := ⟨_, rfl⟩
      have hw2 : ((i : Int) * (s : Int)).tmod 3989 = (r : Int) := by rw [hr, Int.tmod_eq_emod_of_nonneg hw0, ← Int.natCast_mul]; rfl
      have hr2 : r < 4000 := by omega
      clear hr
      have hput : ∀ W, Below wr.heap.size wr W → Calls Try.prog 24 #[ptrN T.p, .string (keyN r), .string ⟨#[120]⟩] W (TPutPost T ⟨keyN r, xB⟩ W) := fun W hb => tput_any T ⟨keyN r, xB⟩ W (HT.out.below hb) (by have := HL.out; omega)
      have hrp : ∀ W, Below wr.heap.size wr W → Calls Try.prog 32 #[.slice pv T.l.length cv, .string (keyN r), .string ⟨#[120]⟩] W (RowPost (putT T.l ⟨keyN r, xB⟩) W) := fun W hb => rput_any T.l (.slice pv T.l.length cv) ⟨keyN r, xB⟩ W (row_below HV.out hb) HT.out.1 (by have := HL.out; omega)
      have HPUT := Lib.hid hput; have HRP := Lib.hid hrp
      have hky := fun W => HKEY.out r W hr2
      have HKY := Lib.hid hky
      have hlen := putT_len HT.out.1 ⟨keyN r, xB⟩
      have HLEN := Lib.hid hlen
      clear hput hky hrp hlen
      generalize keyN r = KK at *
      go_wp2_with fail
      refine (HKY.out _).mono ?_
      rintro e w9 ⟨rfl, hb9⟩
      go_wp2_with fail
      refine (HPUT.out _ hb9).mono ?_
      rintro e w10 ⟨T', rfl, hT', hl', _, _, hb10⟩
      have hb910 := bl_trans hb9 hb10
      have HT' := Lib.hid hT'; have HL' := Lib.hid hl'
      clear hT' hl' hb9 hb10
      go_wp2_with fail
      refine (HRP.out _ hb910).mono ?_
      rintro e w11 ⟨v', rfl, hv', hb11⟩
      have HV' := Lib.hid hv'
      clear hv'
      go_wp2
      go_roundg (n - (i + 1))
      case measure => omega
      case rel => exact ⟨i + 1, T', by go_num, rfl, by omega, Nat.le_refl _, Lib.hid (HT'.out.below hb11), Lib.hid (by rw [HL'.out]; exact HV'.out), Lib.hid (by rw [HL'.out]; have := HLEN.out; have := HL.out; omega), bl_trans hB (bl_trans hb910 hb11)⟩
    · obtain rfl : i = n := by omega
      obtain ⟨wa, rfl⟩ : ∃ wa, wa = wr := ⟨_, rfl⟩
      have hBa := bl_trans HB1.out hB
      have HBA := Lib.hid hBa
      clear hm hi hlt hB HB1 hBa
      cases thin
      · go_wp2
        go_loopg [9, 10, 13, 14] 0 (fun kx s9 s10 s13 s14 wr => s9 = ptrN T.p ∧ s10 = .slice pv T.l.length cv ∧ s13 = .int .i64 0 ∧ wr = wa)
        case atStart => exact ⟨rfl, rfl, rfl, rfl⟩
        case round =>
          obtain ⟨rfl, rfl, rfl, rfl⟩ := hrel
          by_cases h0 : 0 < i
          · go_wp2
            go_ret3
            exact ⟨T, _, rfl, HT.out, HV.out, HL.out, HBA.out⟩
          · go_wp2
            go_ret3
            exact ⟨T, _, rfl, HT.out, HV.out, HL.out, HBA.out⟩
      · go_wp2
        go_loopg [9, 10, 13, 14] (i + 3) (fun kx s9 s10 s13 s14 wr => ∃ (j : Nat) (Z : Tre), s13 = .int .i64 j ∧ s9 = ptrN Z.p ∧ j ≤ i + 2 ∧ i + 3 - j ≤ kx ∧ Hid (IsT wr Z) ∧ Hid (RowA wr s10 Z.l) ∧ Hid (Z.l.length ≤ i) ∧ Below wa.heap.size wa wr)
        case atStart => exact ⟨0, T, rfl, rfl, by omega, Nat.le_refl _, HT, HV, HL, bl_refl _⟩
        case round =>
          clear HT HV HL
          obtain ⟨j, Z, rfl, rfl, hj, hm, HT, HV, HL, hB⟩ := hrel
          obtain ⟨pv, cv, rfl⟩ := row_slice HV.out
          by_cases hlt : j < i
          · have hw0 : (0 : Int) ≤ (j : Int) * (s : Int) := Int.mul_nonneg (by omega) (by omega)
            have hw1 : (j : Int) * (s : Int) ≤ 3988000 := by
              have e := Int.natCast_mul j s
              have : j * s ≤ 1000 * 3988 := Nat.mul_le_mul (by omega) hs2
              omega
            obtain ⟨r, hr⟩ : ∃ r, r = j * s % 3989 := ⟨_, rfl⟩
            have hw2 : ((j : Int) * (s : Int)).tmod 3989 = (r : Int) := by rw [hr, Int.tmod_eq_emod_of_nonneg hw0, ← Int.natCast_mul]; rfl
            have hr2 : r < 4000 := by omega
            clear hr
            have hdel : ∀ W, Below wr.heap.size wr W → Calls Try.prog 23 #[ptrN Z.p, .string (keyN r)] W (FDelPost Any Z (keyN r) W) := fun W hb => tdelF_any Z (keyN r) W (HT.out.below hb).isTF (fun _ _ => trivial) (by have := HL.out; omega)
            have hrp : ∀ W, Below wr.heap.size wr W → Calls Try.prog 33 #[.slice pv Z.l.length cv, .string (keyN r)] W (RowPost (delL Z.l (keyN r)) W) := fun W hb => rdel_any Z.l (.slice pv Z.l.length cv) (keyN r) W (row_below HV.out hb) HT.out.1 (by have := HL.out; omega)
            have HDEL := Lib.hid hdel; have HRP := Lib.hid hrp
            have hky := fun W => HKEY.out r W hr2
            have HKY := Lib.hid hky
            have hlen := delL_len HT.out.1 (keyN r)
            have HLEN := Lib.hid hlen
            clear hdel hky hrp hlen
            generalize keyN r = KK at *
            go_wp2_with fail
            refine (HKY.out _).mono ?_
            rintro e w9 ⟨rfl, hb9⟩
            go_wp2_with fail
            refine (HDEL.out _ hb9).mono ?_
            rintro e w10 ⟨T', rfl, hT', hl', _, _, hb10⟩
            have hb910 := bl_trans hb9 hb10
            have HT' := Lib.hid hT'.isT; have HL' := Lib.hid hl'
            clear hT' hl' hb9 hb10
            go_wp2_with fail
            refine (HRP.out _ hb910).mono ?_
            rintro e w11 ⟨v', rfl, hv', hb11⟩
            have HV' := Lib.hid hv'
            clear hv'
            go_wp2
            go_roundg (i + 3 - (j + 3))
            case measure => omega
            case rel => exact ⟨j + 3, T', by go_num, rfl, by omega, Nat.le_refl _, Lib.hid (HT'.out.below hb11), Lib.hid (by rw [HL'.out]; exact HV'.out), Lib.hid (by rw [HL'.out]; have := HLEN.out; have := HL.out; omega), bl_trans hB (bl_trans hb910 hb11)⟩
          · go_wp2
            go_ret3
            exact ⟨Z, _, rfl, HT.out, HV.out, HL.out, bl_trans HBA.out hB⟩
end Go.Proofs.Ytmkhnpkbaegchaa
/- The walks of Value, change and Put1. Conditions: the tree lies in memory, the list is its pairs. -/
namespace Go.Proofs.Ytmkhnpkbaegchaa
open Go.RowKit

structure OpV where
  a : Nat
  k : Int
  v : Nat
def encO (x : OpV) : List Value := [.int .u8 (x.a : Int), .int .i64 x.k, .int .u8 (x.v : Int)]
theorem encO_len (x : OpV) : (encO x).length = 3 := rfl
def OpOk (x : OpV) : Prop := -9223372036854775808 ≤ x.k ∧ x.k ≤ 9223372036854775807 ∧ x.a ≤ 255 ∧ x.v ≤ 255
def valF (v : Nat) : ByteArray := ⟨#[118]⟩ ++ ⟨(Lib.decDigits (v % 8)).toArray⟩
def chL (L : List KV) (x : OpV) (most : Int) : List KV := if x.a % 2 = 1 then delL L (keyF (around x.k most)) else putT L ⟨keyF (around x.k most), valF x.v⟩
theorem chL_len {L : List KV} (hs : Srt L) (x : OpV) (most : Int) : (chL L x most).length ≤ L.length + 1 := by
  unfold chL
  split
  · exact Nat.le_trans (delL_len hs _) (Nat.le_succ _)
  · exact putT_len hs _
set_option maxRecDepth 100000 in
set_option maxHeartbeats 2000000 in
theorem value_any (x : OpV) (w : World) (hx : OpOk x) : Calls Try.prog 45 #[.agg #[.int .u8 (x.a : Int), .int .i64 x.k, .int .u8 (x.v : Int)]] w (Ret (.string (valF x.v)) w) := by
  obtain ⟨a, k, v⟩ := x
  obtain ⟨_, _, h3, h4⟩ := hx
  simp only at h3 h4 ⊢
  have hd := fun w => decimal_any (v % 8) w (by omega)
  have hw : ((v : Nat) : Int).tmod 8 = ((v % 8 : Nat) : Int) := by rw [Int.tmod_eq_emod_of_nonneg (by omega)]; rfl
  have hv : valF v = ⟨#[118]⟩ ++ ⟨#[48 + UInt8.ofNat (v % 8)]⟩ := by unfold valF; rw [dec1 (by omega), UInt8.ofNat_add]; rfl
  simp only [dec1 (show v % 8 < 10 by omega)] at hd
  have hr : v % 8 < 8 := Nat.mod_lt _ (by omega)
  have HD := Lib.hid hd; have HV := Lib.hid hv
  clear hd hv
  generalize valF v = VV at *
  generalize v % 8 = r at *
  go_enter Try.func45, Try.ntmps45
  go_wp2_with fail
  refine (HD.out _).mono ?_
  rintro e w' ⟨rfl, rfl⟩
  go_wp2
  go_ret
  exact ⟨by rw [HV.out]; rfl, bl_alloc _ _⟩
def ChPost (T : Tre) (L : List KV) (w : World) (e : Ending) (w' : World) : Prop :=
  ∃ T', e = .returned (ptrN T'.p) ∧ IsT w' T' ∧ T'.l = L ∧ Frm w.heap.size T.N T'.N (3 * T.H + 2) ∧ Below w.heap.size w w'
set_option maxRecDepth 100000 in
set_option maxHeartbeats 4000000 in
theorem change_any (T : Tre) (x : OpV) (most : Int) (w : World) (hT : IsT w T) (hx : OpOk x) (hm1 : 1 ≤ most) (hm2 : most ≤ 4000) (hl : T.l.length ≤ 90000) :
    Calls Try.prog 14 #[ptrN T.p, .agg #[.int .u8 (x.a : Int), .int .i64 x.k, .int .u8 (x.v : Int)], .int .i64 most] w (ChPost T (chL T.l x most) w) := by
  have K1 : ∀ w, Calls Try.prog 25 #[.int .i64 x.k, .int .i64 most] w (Pur (.int .i64 (around x.k most)) w) := fun w => around02 x.k most w hx.1 hx.2.1 hm1 (by omega)
  have hbd := around_bd x.k (m := most) hm1
  have K2 : ∀ W, Calls Try.prog 26 #[.int .i64 (around x.k most)] W (Ret (.string (keyF (around x.k most))) W) := fun W => key_any _ W (by omega) (by omega)
  have K3 : ∀ W, Calls Try.prog 45 #[.agg #[.int .u8 (x.a : Int), .int .i64 x.k, .int .u8 (x.v : Int)]] W (Ret (.string (valF x.v)) W) := fun W => value_any x W hx
  have K4 : ∀ W, Below w.heap.size w W → Calls Try.prog 23 #[ptrN T.p, .string (keyF (around x.k most))] W (FDelPost Any T (keyF (around x.k most)) W) := fun W hb => tdelF_any T _ W (hT.below hb).isTF (fun _ _ => trivial) (by omega)
  have K5 : ∀ W, Below w.heap.size w W → Calls Try.prog 24 #[ptrN T.p, .string (keyF (around x.k most)), .string (valF x.v)] W (TPutPost T ⟨keyF (around x.k most), valF x.v⟩ W) := fun W hb => tput_any T ⟨_, _⟩ W (hT.below hb) (by omega)
  have hch : chL T.l x most = if x.a % 2 = 1 then delL T.l (keyF (around x.k most)) else putT T.l ⟨keyF (around x.k most), valF x.v⟩ := rfl
  obtain ⟨C, hC⟩ : ∃ C, C = chL T.l x most := ⟨_, rfl⟩
  rw [← hC] at hch ⊢
  obtain ⟨a, k, v⟩ := x
  obtain ⟨_, _, ha, hv⟩ := hx
  simp only at *
  generalize keyF (around k most) = KK at *
  generalize valF v = VV at *
  generalize around k most = z at *
  have HK1 := Lib.hid K1; have HK2 := Lib.hid K2; have HK3 := Lib.hid K3; have HK4 := Lib.hid K4; have HK5 := Lib.hid K5; have HCH := Lib.hid hch
  have hw : ((a : Nat) : Int).tmod 2 = ((a % 2 : Nat) : Int) := by rw [Int.tmod_eq_emod_of_nonneg (by omega)]; rfl
  have bX := Blk.new w 31 #[.int .u8 (a : Int), .int .i64 k, .int .u8 (v : Int)]
  clear K1 K2 K3 K4 K5 hch hC
  have hNl := hT.isTF.Nlt
  clear hT
  rcases Nat.mod_two_eq_zero_or_one a with h | h
  · rw [h] at hw
    have hcc : C = putT T.l ⟨KK, VV⟩ := by rw [HCH.out, h]; rfl
    have HCC := Lib.hid hcc
    clear h hcc
    go_enter Try.func14, Try.ntmps14
    go_wp2_with fail
    refine (HK1.out _).mono ?_
    rintro e w' ⟨rfl, rfl⟩
    go_wp2_with fail
    refine (HK2.out _).mono ?_
    rintro e w2 ⟨rfl, hb2⟩
    have hb12 := bl_trans (bl_alloc w _) hb2
    have bX2 := bX.below hb2 (by simp)
    have c0 := bX2.cell 0
    have c1 := bX2.cell 1
    have c2 := bX2.cell 2
    simp only [List.getElem?_toArray, List.getElem?_cons_zero, List.getElem?_cons_succ] at c0 c1 c2
    clear hb2 bX bX2
    go_wp2_with fail
    refine (HK3.out _).mono ?_
    rintro e w3 ⟨rfl, hb3⟩
    have hb13 := bl_trans hb12 hb3
    clear hb12 hb3 c0 c1 c2
    go_wp2_with fail
    refine (HK5.out _ hb13).mono ?_
    rintro e w4 ⟨T', rfl, hT', hl', hf, _, hb4⟩
    go_wp2
    go_ret
    exact ⟨T', rfl, hT', by rw [HCC.out]; exact hl', hf.weaken hb13.size hNl, bl_trans hb13 hb4⟩
  · rw [h] at hw
    have hcc : C = delL T.l KK := by rw [HCH.out, h]; rfl
    have HCC := Lib.hid hcc
    clear h hcc
    go_enter Try.func14, Try.ntmps14
    go_wp2_with fail
    refine (HK1.out _).mono ?_
    rintro e w' ⟨rfl, rfl⟩
    go_wp2_with fail
    refine (HK2.out _).mono ?_
    rintro e w2 ⟨rfl, hb2⟩
    have hb12 := bl_trans (bl_alloc w _) hb2
    have bX2 := bX.below hb2 (by simp)
    have c0 := bX2.cell 0
    have c1 := bX2.cell 1
    have c2 := bX2.cell 2
    simp only [List.getElem?_toArray, List.getElem?_cons_zero, List.getElem?_cons_succ] at c0 c1 c2
    clear hb2 bX bX2
    go_wp2_with fail
    refine (HK4.out _ hb12).mono ?_
    rintro e w4 ⟨T', rfl, hT', hl', hf, _, hb4⟩
    go_wp2
    go_ret
    exact ⟨T', rfl, hT'.isT, by rw [HCC.out]; exact hl', hf.weaken hb12.size hNl, bl_trans hb12 hb4⟩
set_option maxRecDepth 100000 in
set_option maxHeartbeats 4000000 in
theorem put1_any (L : List KV) (vl : Value) (x : OpV) (most : Int) (w : World) (hv : RowA w vl L) (hs : Srt L) (hx : OpOk x) (hm1 : 1 ≤ most) (hm2 : most ≤ 4000) (hl : L.length ≤ 90000) :
    Calls Try.prog 19 #[vl, .agg #[.int .u8 (x.a : Int), .int .i64 x.k, .int .u8 (x.v : Int)], .int .i64 most] w (RowPost (chL L x most) w) := by
  have K1 : ∀ w, Calls Try.prog 25 #[.int .i64 x.k, .int .i64 most] w (Pur (.int .i64 (around x.k most)) w) := fun w => around02 x.k most w hx.1 hx.2.1 hm1 (by omega)
  have hbd := around_bd x.k (m := most) hm1
  have K2 : ∀ W, Calls Try.prog 26 #[.int .i64 (around x.k most)] W (Ret (.string (keyF (around x.k most))) W) := fun W => key_any _ W (by omega) (by omega)
  have K3 : ∀ W, Calls Try.prog 45 #[.agg #[.int .u8 (x.a : Int), .int .i64 x.k, .int .u8 (x.v : Int)]] W (Ret (.string (valF x.v)) W) := fun W => value_any x W hx
  have K4 : ∀ W, Below w.heap.size w W → Calls Try.prog 33 #[vl, .string (keyF (around x.k most))] W (RowPost (delL L (keyF (around x.k most))) W) := fun W hb => rdel_any L vl _ W (row_below hv hb) hs (by omega)
  have K5 : ∀ W, Below w.heap.size w W → Calls Try.prog 32 #[vl, .string (keyF (around x.k most)), .string (valF x.v)] W (RowPost (putT L ⟨keyF (around x.k most), valF x.v⟩) W) := fun W hb => rput_any L vl ⟨_, _⟩ W (row_below hv hb) hs (by omega)
  have hch : chL L x most = if x.a % 2 = 1 then delL L (keyF (around x.k most)) else putT L ⟨keyF (around x.k most), valF x.v⟩ := rfl
  obtain ⟨C, hC⟩ : ∃ C, C = chL L x most := ⟨_, rfl⟩
  rw [← hC] at hch ⊢
  obtain ⟨a, k, v⟩ := x
  obtain ⟨_, _, ha, hv2⟩ := hx
  simp only at *
  generalize keyF (around k most) = KK at *
  generalize valF v = VV at *
  generalize around k most = z at *
  have HK1 := Lib.hid K1; have HK2 := Lib.hid K2; have HK3 := Lib.hid K3; have HK4 := Lib.hid K4; have HK5 := Lib.hid K5; have HCH := Lib.hid hch
  have hw : ((a : Nat) : Int).tmod 2 = ((a % 2 : Nat) : Int) := by rw [Int.tmod_eq_emod_of_nonneg (by omega)]; rfl
  have bX := Blk.new w 31 #[.int .u8 (a : Int), .int .i64 k, .int .u8 (v : Int)]
  clear K1 K2 K3 K4 K5 hch hC
  clear hv hs
  rcases Nat.mod_two_eq_zero_or_one a with h | h
  · rw [h] at hw
    have hcc : C = putT L ⟨KK, VV⟩ := by rw [HCH.out, h]; rfl
    have HCC := Lib.hid hcc
    clear h hcc
    go_enter Try.func19, Try.ntmps19
    go_wp2_with fail
    refine (HK1.out _).mono ?_
    rintro e w' ⟨rfl, rfl⟩
    go_wp2_with fail
    refine (HK2.out _).mono ?_
    rintro e w2 ⟨rfl, hb2⟩
    have hb12 := bl_trans (bl_alloc w _) hb2
    have bX2 := bX.below hb2 (by simp)
    have c0 := bX2.cell 0
    have c1 := bX2.cell 1
    have c2 := bX2.cell 2
    simp only [List.getElem?_toArray, List.getElem?_cons_zero, List.getElem?_cons_succ] at c0 c1 c2
    clear hb2 bX bX2
    go_wp2_with fail
    refine (HK3.out _).mono ?_
    rintro e w3 ⟨rfl, hb3⟩
    have hb13 := bl_trans hb12 hb3
    clear hb12 hb3 c0 c1 c2
    go_wp2_with fail
    refine (HK5.out _ hb13).mono ?_
    rintro e w4 ⟨v', rfl, hT', hb4⟩
    go_wp2
    go_ret
    exact ⟨v', rfl, by rw [HCC.out]; exact hT', bl_trans hb13 hb4⟩
  · rw [h] at hw
    have hcc : C = delL L KK := by rw [HCH.out, h]; rfl
    have HCC := Lib.hid hcc
    clear h hcc
    go_enter Try.func19, Try.ntmps19
    go_wp2_with fail
    refine (HK1.out _).mono ?_
    rintro e w' ⟨rfl, rfl⟩
    go_wp2_with fail
    refine (HK2.out _).mono ?_
    rintro e w2 ⟨rfl, hb2⟩
    have hb12 := bl_trans (bl_alloc w _) hb2
    have bX2 := bX.below hb2 (by simp)
    have c0 := bX2.cell 0
    have c1 := bX2.cell 1
    have c2 := bX2.cell 2
    simp only [List.getElem?_toArray, List.getElem?_cons_zero, List.getElem?_cons_succ] at c0 c1 c2
    clear hb2 bX bX2
    go_wp2_with fail
    refine (HK4.out _ hb12).mono ?_
    rintro e w4 ⟨v', rfl, hT', hb4⟩
    go_wp2
    go_ret
    exact ⟨v', rfl, by rw [HCC.out]; exact hT', bl_trans hb12 hb4⟩
end Go.Proofs.Ytmkhnpkbaegchaa
