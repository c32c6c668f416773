/- The walks of the reference's Same and SameEdits. Conditions: the slices read as rows. -/
import Derived.Test.YtmkhnpkbaegchaaTDfA
import Derived.BigQuiet
namespace Go.Proofs.Ytmkhnpkbaegchaa
open Go.RowKit

instance : DecidableEq KV := fun a b => if h : a.k = b.k ∧ a.v = b.v then .isTrue (by cases a; cases b; simp_all) else .isFalse (fun e => h (by rw [e]; exact ⟨rfl, rfl⟩))
instance : DecidableEq Ed := fun a b => if h : a.k = b.k ∧ a.v = b.v ∧ a.d = b.d then .isTrue (by cases a; cases b; simp_all) else .isFalse (fun e => h (by rw [e]; exact ⟨rfl, rfl, rfl⟩))
theorem take_succ_eq {α : Type} {a b : List α} {k : Nat} {x y : α} (hx : a[k]? = some x) (hy : b[k]? = some y) : a.take (k + 1) = b.take (k + 1) ↔ a.take k = b.take k ∧ x = y := by
  rw [List.take_add_one, List.take_add_one, hx, hy]
  constructor
  · intro h
    have hl : (a.take k).length = (b.take k).length := by
      have := congrArg List.length h
      simpa using this
    have := List.append_inj h hl
    exact ⟨this.1, by simpa using this.2⟩
  · rintro ⟨h1, rfl⟩; rw [h1]
set_option maxRecDepth 100000 in
set_option maxHeartbeats 4000000 in
theorem same_any (A B : List KV) (va vb : Value) (w : World) (ha : IsRow 2 encKV w va A) (hb : IsRow 2 encKV w vb B) (hla : A.length ≤ 1000000) (_hlb : B.length ≤ 1000000) :
    Calls Try.prog 15 #[va, vb] w (Ret (.bool (decide (A = B))) w) := by
  obtain ⟨pa, ca, rfl, _, hpa⟩ := ha.open
  obtain ⟨pb, cb, rfl, _, hpb⟩ := hb.open
  have HA := Lib.hid hpa; have HB := Lib.hid hpb
  clear ha hb hpa hpb
  by_cases hl : A.length = B.length
  · have hli : (A.length : Int) = (B.length : Int) := by omega
    have hlb2 : ((A.length : Int) != (B.length : Int)) = false := by rw [hli]; simp
    have HL := Lib.hid hl
    clear hl
    obtain ⟨n, hn⟩ : ∃ n, n = A.length := ⟨_, rfl⟩
    have hnB : B.length = n := by rw [hn]; exact HL.out.symm
    rw [← hn]
    rw [hnB]
    have HN := Lib.hid (And.intro hn hnB)
    have hn6 : n ≤ 1000000 := by omega
    clear hli hlb2 hn hnB hla
    go_enter Try.func15, Try.ntmps15
    go_wp2
    go_loopg [5] n (fun kx s5 wr => ∃ i : Nat, s5 = .int .i64 i ∧ i ≤ n ∧ n - i ≤ kx ∧ Hid (A.take i = B.take i) ∧ Below w.heap.size w wr)
    case atStart => exact ⟨0, rfl, Nat.zero_le _, Nat.le_refl _, Lib.hid (by simp), bl_refl _⟩
    case round =>
      obtain ⟨i, rfl, hi, hm, hE, hB⟩ := hrel
      by_cases hlt : i < n
      · obtain ⟨x, hx⟩ : ∃ x, A[i]? = some x := ⟨_, List.getElem?_eq_getElem (by rw [← HN.out.1]; exact hlt)⟩
        obtain ⟨y, hy⟩ : ∃ y, B[i]? = some y := ⟨_, List.getElem?_eq_getElem (by rw [HN.out.2]; exact hlt)⟩
        obtain ⟨ga, oa, rfl, hga, hca⟩ := HA.out (by have := HN.out.1; omega)
        obtain ⟨gb, ob, rfl, hgb, hcb⟩ := HB.out (by have := HN.out.2; omega)
        have a0 := (hB.cell (p := ⟨ga, oa + i * 2 + 0, none⟩) hga).trans (hca i x hx 0 _ rfl)
        have a1 := (hB.cell (p := ⟨ga, oa + i * 2 + 1, none⟩) hga).trans (hca i x hx 1 _ rfl)
        have b0 := (hB.cell (p := ⟨gb, ob + i * 2 + 0, none⟩) hgb).trans (hcb i y hy 0 _ rfl)
        have b1 := (hB.cell (p := ⟨gb, ob + i * 2 + 1, none⟩) hgb).trans (hcb i y hy 1 _ rfl)
        rw [Nat.add_zero] at a0 b0
        have HX := Lib.hid (take_succ_eq hx hy)
        have HXY := Lib.hid (And.intro hx hy)
        clear hx hy hca hcb
        by_cases hxy : x = y
        · subst hxy
          have HX2 := Lib.hid (HX.out.2 ⟨hE.out, rfl⟩)
          go_upto_region 6 with (fail)
          go_big_quiet (fail)
          go_wp2
          go_roundg (n - (i + 1))
          case measure => omega
          case rel => exact ⟨i + 1, by go_num, by omega, Nat.le_refl _, HX2, bl_drewN hB _⟩
        · have hne : A ≠ B := fun e => by
            have h1 := HXY.out.1
            rw [e, HXY.out.2] at h1
            exact hxy (Option.some.inj h1).symm
          have HNE := Lib.hid hne
          clear hne
          by_cases hk : x.k = y.k
          · have hv : ¬ (x.v.toList = y.v.toList) := fun e => hxy (by cases x; cases y; simp at hk; subst hk; simpa using toL_inj e)
            have e1 : (x.k.toList == y.k.toList) = true := by rw [hk]; simp
            have e2 : (x.v.toList == y.v.toList) = false := by simpa using hv
            have e3 : (x.k.toList = y.k.toList) = True := by rw [hk]; simp
            clear hk hxy
            go_upto_region 6 with (fail)
            go_big_quiet (fail)
            go_wp2
            go_ret
            exact ⟨by rw [decide_eq_false HNE.out]; rfl, bl_drewN hB _⟩
          · have hk2 : ¬ (x.k.toList = y.k.toList) := fun e => hk (toL_inj e)
            have e1 : (x.k.toList == y.k.toList) = false := by simpa using hk2
            clear hk hxy
            go_upto_region 6 with (fail)
            go_big_quiet (fail)
            go_wp2
            go_ret
            exact ⟨by rw [decide_eq_false HNE.out]; rfl, bl_drewN hB _⟩
      · obtain rfl : i = n := by omega
        have he : A = B := by
          have := hE.out
          rw [List.take_of_length_le (by have := HN.out.1; omega), List.take_of_length_le (by have := HN.out.2; omega)] at this
          exact this
        have HEE := Lib.hid he
        clear he hE
        go_wp2
        go_ret
        exact ⟨by rw [decide_eq_true HEE.out]; rfl, hB⟩
  · have hne : A ≠ B := fun e => hl (by rw [e])
    have HNE := Lib.hid hne
    clear hne
    go_enter Try.func15, Try.ntmps15
    go_wp2
    go_ret
    exact ⟨by rw [decide_eq_false HNE.out]; rfl, bl_refl _⟩
set_option maxRecDepth 100000 in
set_option maxHeartbeats 4000000 in
theorem sameEdits_any (A B : List Ed) (va vb : Value) (w : World) (ha : IsRow 3 encE w va A) (hb : IsRow 3 encE w vb B) (hla : A.length ≤ 1000000) (_hlb : B.length ≤ 1000000) :
    Calls Try.prog 21 #[va, vb] w (Ret (.bool (decide (A = B))) w) := by
  obtain ⟨pa, ca, rfl, _, hpa⟩ := ha.open
  obtain ⟨pb, cb, rfl, _, hpb⟩ := hb.open
  have HA := Lib.hid hpa; have HB := Lib.hid hpb
  clear ha hb hpa hpb
  by_cases hl : A.length = B.length
  · have hli : (A.length : Int) = (B.length : Int) := by omega
    have hlb2 : ((A.length : Int) != (B.length : Int)) = false := by rw [hli]; simp
    have HL := Lib.hid hl
    clear hl
    obtain ⟨n, hn⟩ : ∃ n, n = A.length := ⟨_, rfl⟩
    have hnB : B.length = n := by rw [hn]; exact HL.out.symm
    rw [← hn]
    rw [hnB]
    have HN := Lib.hid (And.intro hn hnB)
    have hn6 : n ≤ 1000000 := by omega
    clear hli hlb2 hn hnB hla
    go_enter Try.func21, Try.ntmps21
    go_wp2
    go_loopg [5] n (fun kx s5 wr => ∃ i : Nat, s5 = .int .i64 i ∧ i ≤ n ∧ n - i ≤ kx ∧ Hid (A.take i = B.take i) ∧ Below w.heap.size w wr)
    case atStart => exact ⟨0, rfl, Nat.zero_le _, Nat.le_refl _, Lib.hid (by simp), bl_refl _⟩
    case round =>
      obtain ⟨i, rfl, hi, hm, hE, hB⟩ := hrel
      by_cases hlt : i < n
      · obtain ⟨x, hx⟩ : ∃ x, A[i]? = some x := ⟨_, List.getElem?_eq_getElem (by rw [← HN.out.1]; exact hlt)⟩
        obtain ⟨y, hy⟩ : ∃ y, B[i]? = some y := ⟨_, List.getElem?_eq_getElem (by rw [HN.out.2]; exact hlt)⟩
        obtain ⟨ga, oa, rfl, hga, hca⟩ := HA.out (by have := HN.out.1; omega)
        obtain ⟨gb, ob, rfl, hgb, hcb⟩ := HB.out (by have := HN.out.2; omega)
        have a0 := (hB.cell (p := ⟨ga, oa + i * 3 + 0, none⟩) hga).trans (hca i x hx 0 _ rfl)
        have a1 := (hB.cell (p := ⟨ga, oa + i * 3 + 1, none⟩) hga).trans (hca i x hx 1 _ rfl)
        have b0 := (hB.cell (p := ⟨gb, ob + i * 3 + 0, none⟩) hgb).trans (hcb i y hy 0 _ rfl)
        have b1 := (hB.cell (p := ⟨gb, ob + i * 3 + 1, none⟩) hgb).trans (hcb i y hy 1 _ rfl)
        have a2 := (hB.cell (p := ⟨ga, oa + i * 3 + 2, none⟩) hga).trans (hca i x hx 2 _ rfl)
        have b2 := (hB.cell (p := ⟨gb, ob + i * 3 + 2, none⟩) hgb).trans (hcb i y hy 2 _ rfl)
        rw [Nat.add_zero] at a0 b0
        have HX := Lib.hid (take_succ_eq hx hy)
        have HXY := Lib.hid (And.intro hx hy)
        clear hx hy hca hcb
        by_cases hxy : x = y
        · subst hxy
          have HX2 := Lib.hid (HX.out.2 ⟨hE.out, rfl⟩)
          go_upto_region 6 with (fail)
          go_big_quiet (fail)
          go_wp2
          go_roundg (n - (i + 1))
          case measure => omega
          case rel => exact ⟨i + 1, by go_num, by omega, Nat.le_refl _, HX2, bl_drewN hB _⟩
        · have hne : A ≠ B := fun e => by
            have h1 := HXY.out.1
            rw [e, HXY.out.2] at h1
            exact hxy (Option.some.inj h1).symm
          have HNE := Lib.hid hne
          clear hne
          by_cases hk : x.k = y.k
          · by_cases hv : x.v = y.v
            · have hd : x.d ≠ y.d := fun e => hxy (by cases x; cases y; simp at hk hv e; subst hk; subst hv; subst e; rfl)
              have e1 : (x.k.toList == y.k.toList) = true := by rw [hk]; simp
              have e3 : (x.k.toList = y.k.toList) = True := by rw [hk]; simp
              have e4 : (x.v.toList == y.v.toList) = true := by rw [hv]; simp
              have e5 : (x.v.toList = y.v.toList) = True := by rw [hv]; simp
              have e6 : (x.d == y.d) = false := by simpa using hd
              have e7 : ¬ (x.d = y.d) := hd
              clear hk hxy hv hd
              go_upto_region 6 with (fail)
              go_big_quiet (fail)
              go_wp2
              go_ret
              exact ⟨by rw [decide_eq_false HNE.out]; rfl, bl_drewN hB _⟩
            · have hv2 : ¬ (x.v.toList = y.v.toList) := fun e => hv (toL_inj e)
              have e1 : (x.k.toList == y.k.toList) = true := by rw [hk]; simp
              have e2 : (x.v.toList == y.v.toList) = false := by simpa using hv2
              have e3 : (x.k.toList = y.k.toList) = True := by rw [hk]; simp
              clear hk hxy hv
              go_upto_region 6 with (fail)
              go_big_quiet (fail)
              go_wp2
              go_ret
              exact ⟨by rw [decide_eq_false HNE.out]; rfl, bl_drewN hB _⟩
          · have hk2 : ¬ (x.k.toList = y.k.toList) := fun e => hk (toL_inj e)
            have e1 : (x.k.toList == y.k.toList) = false := by simpa using hk2
            clear hk hxy
            go_upto_region 6 with (fail)
            go_big_quiet (fail)
            go_wp2
            go_ret
            exact ⟨by rw [decide_eq_false HNE.out]; rfl, bl_drewN hB _⟩
      · obtain rfl : i = n := by omega
        have he : A = B := by
          have := hE.out
          rw [List.take_of_length_le (by have := HN.out.1; omega), List.take_of_length_le (by have := HN.out.2; omega)] at this
          exact this
        have HEE := Lib.hid he
        clear he hE
        go_wp2
        go_ret
        exact ⟨by rw [decide_eq_true HEE.out]; rfl, hB⟩
  · have hne : A ≠ B := fun e => hl (by rw [e])
    have HNE := Lib.hid hne
    clear hne
    go_enter Try.func21, Try.ntmps21
    go_wp2
    go_ret
    exact ⟨by rw [decide_eq_false HNE.out]; rfl, bl_refl _⟩
end Go.Proofs.Ytmkhnpkbaegchaa
