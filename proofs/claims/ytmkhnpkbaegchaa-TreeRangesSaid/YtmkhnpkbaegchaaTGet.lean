/- The walk of Get. Conditions: the tree lies in memory, its pairs are in order. -/
import Derived.Test.YtmkhnpkbaegchaaTFind
namespace Go.Proofs.Ytmkhnpkbaegchaa
open Go.RowKit

def GetPost (o : Option KV) (w : World) (e : Ending) (w' : World) : Prop := Ret (.tuple #[.string (match o with | some q => q.v | none => ⟨#[]⟩), .bool o.isSome]) w e w'
set_option maxRecDepth 100000 in
set_option maxHeartbeats 4000000 in
theorem get_any (T : Tre) (k : ByteArray) (w : World) (h : IsT w T) (hlen : T.l.length ≤ 100000) : Calls Try.prog 35 #[ptrN T.p, .string k] w (GetPost (getL T.l k) w) := by
  obtain ⟨hs, ⟨h1, _, _, h4⟩ | ⟨h', x, h1, h2, h3, _⟩⟩ := h
  · have c0 := h4.cell 0
    simp at c0
    rw [h1]
    clear h1 h4 hs
    go_enter Try.func35, Try.ntmps35
    go_wp2
    go_loopg [6] 0 (fun kx s6 wr => s6 = .pointer none ∧ wr = w)
    case atStart => exact ⟨rfl, rfl⟩
    case round =>
      obtain ⟨rfl, rfl⟩ := hrel
      go_wp2
      go_ret2
      exact ⟨rfl, bl_refl _⟩
  · have c0 := h1.cell 0
    simp at c0
    rw [h3] at hs hlen
    rw [h3]
    obtain ⟨o, ho⟩ : ∃ o, o = getL x.l k := ⟨_, rfl⟩
    rw [← ho]
    have S0 := Lib.hid (And.intro h2 (And.intro hs (And.intro hlen ho)))
    clear h1 h3 hs hlen h2 ho
    go_enter Try.func35, Try.ntmps35
    go_wp2
    go_loopg [6] h' (fun kx s6 wr => ∃ (j : Nat) (y : Kid), s6 = ptrN y.p ∧ j ≤ kx ∧ Below w.heap.size w wr ∧ Hid (IsN Any j w y ∧ Srt y.l ∧ y.l.length ≤ 100000 ∧ o = getL y.l k))
    case atStart => exact ⟨h', x, rfl, Nat.le_refl _, bl_refl _, S0⟩
    case round =>
      clear S0
      obtain ⟨j, y, rfl, hj, hB, S⟩ := hrel
      obtain ⟨ps, ks, hn⟩ := S.out.1.node
      have hsh := hn.shape
      have hsf : ks.map Kid.l = [] ∨ (ks.map Kid.l).length = ps.length + 1 := by rcases hsh with e | e; exact .inl (by simp [e]); exact .inr (by simp [e])
      have hsw : Srt (weave ps (ks.map Kid.l)) := hn.l ▸ S.out.2.1
      have hlp : ps.length ≤ 100000 := by have := hn.len; have := S.out.2.2.1; omega
      have hsr := fun W (hb : Below w.heap.size w W) => search_any y.p ps ks _ k W (hn.at_.below hb) (srt_own hsf hsw) (by omega)
      obtain ⟨pa, pc, ka, kc, d0, d1, hy0, hpp, hkk⟩ := hn.at_.cells
      have HSR := Lib.hid hsr; have HN := Lib.hid hn; have HSF := Lib.hid hsf; have HSW := Lib.hid hsw; have HPP := Lib.hid hpp; have HKK := Lib.hid hkk; have HSH := Lib.hid hsh
      clear hsr hn hsf hsw hpp hkk hsh
      have hyr := Nat.lt_of_lt_of_le hy0 hB.size
      go_wp2_with fail
      refine (HSR.out _ hB).mono ?_
      rintro e w1 ⟨i, ok, hok, rfl, hb1⟩
      have hB1 := bl_trans hB hb1
      have e0 := (hB1.cell (p := ⟨y.p, 0, none⟩) hy0).trans d0
      have e1 := (hB1.cell (p := ⟨y.p, 1, none⟩) hy0).trans d1
      have hil := hok.le
      clear d0 d1 hb1
      cases ok
      · have hlo := Lib.hid hok.lo
        have hno := Lib.hid (hok.no rfl)
        clear hok
        by_cases hk0 : ks.length = 0
        · have hkn : ks = [] := List.length_eq_zero_iff.1 hk0
          have hno2 : o = none := by
            rw [S.out.2.2.2, HN.out.l, hkn]
            simp only [List.map_nil, weave_nil]
            exact (down_leaf hlo.out hno.out).1
          subst hno2
          go_wp2
          go_ret2
          exact ⟨rfl, hB1⟩
        · have hkl : ks.length = ps.length + 1 := by rcases HSH.out with e | e; exact absurd (by rw [e]; rfl) hk0; exact e
          obtain ⟨j', rfl⟩ : ∃ j', j = j' + 1 := by
            cases j with
            | zero => exact absurd (by rw [HN.out.leaf rfl]; rfl) hk0
            | succ j' => exact ⟨j', rfl⟩
          obtain ⟨z, hz⟩ : ∃ z, ks[i]? = some z := ⟨_, List.getElem?_eq_getElem (by omega)⟩
          obtain ⟨g, og, rfl, hg, hc⟩ := HKK.out i z hz
          have f0 := (hB1.cell (p := ⟨g, og + i, none⟩) hg).trans hc
          have hzm : z ∈ ks := List.mem_of_getElem? hz
          have hfl : (ks.map Kid.l)[i]? = some z.l := by rw [List.getElem?_map, hz]; rfl
          have hfl2 : (ks.map Kid.l).length = ps.length + 1 := by rw [List.length_map]; exact hkl
          have hd := down_kid hfl2 hil hfl HSW.out hlo.out hno.out
          have hnew := Lib.hid (And.intro ((HN.out.kids j' rfl).2 z hzm).1 (And.intro (srt_child hfl2 hfl HSW.out) (And.intro (by have := kidsSum_mem hzm; have := HN.out.len; have := S.out.2.2.1; omega : z.l.length ≤ 100000) (by rw [S.out.2.2.2, HN.out.l]; exact hd.1 : o = getL z.l k))))
          clear hd hfl hfl2 hzm hz hc
          go_wp2
          go_roundg j'
          case measure => omega
          case rel => exact ⟨j', z, rfl, Nat.le_refl _, hB1, hnew⟩
      · obtain ⟨q0, hq0, hq1⟩ := hok.yes rfl
        have hi : i < ps.length := (List.getElem?_eq_some_iff.1 hq0).1
        have hd := (down_yes HSW.out HSF.out hq0 hq1).1
        have hoo : o = some q0 := by rw [S.out.2.2.2, HN.out.l]; exact hd
        subst hoo
        obtain ⟨g, og, rfl, hg, hc, hc2⟩ := HPP.out i q0 hq0
        have f0 := (hB1.cell (p := ⟨g, og + i * 2, none⟩) hg).trans hc
        have f1 := (hB1.cell (p := ⟨g, og + i * 2 + 1, none⟩) hg).trans hc2
        clear hd hok hq0 hq1 hc hc2
        go_wp2
        go_ret2
        exact ⟨rfl, hB1⟩
end Go.Proofs.Ytmkhnpkbaegchaa
