/- Several texts in one, each with its own word at its head. Conditions: stated there. -/
import Derived.Test.YtaiiibbnjmjamaaGreatDoorHLoc
import Derived.Test.YtaiiibbnjmjamaaGreatDoorDKeL
import Derived.Test.YtaiiibbnjmjamaaGreatDoorTTree
import Derived.Test.YtaiiibbnjmjamaaGreatDoorHNum
import Derived.Test.YtaiiibbnjmjamaaGreatDoorDPrint
import Derived.Lib.ItoaLen
import Derived.BigQuiet
import Derived.Test.YtaiiibbnjmjamaaGreatDoorHLives
import Derived.Test.YtaiiibbnjmjamaaGreatDoorHMk
import Derived.Test.YtaiiibbnjmjamaaGreatDoorTRng
import Derived.Test.YtaiiibbnjmjamaaGreatDoorDParse2
import Derived.Deep.RegionHeld3
import Derived.Deep.AppendLies
/- Plain: what a tree holds whose keys are the printed days of a list in order, and what the law wants of it. Conditions: the days are in order and in range. -/
namespace Go.Proofs.YtaiiibbnjmjamaaGreatDoor

theorem ofP_sorted (y : Int) (l : List Hol) : (ofP y l).Pairwise (fun p q => p.1 ≤ q.1) := stab_sorted (fun p : Int × Int => p.1) _
/-- day and rule as a pair of a tree -/
def kvN (p : Int × Int) : KV := ⟨pk p.1, ⟨(Lib.decDigits p.2.toNat).toArray⟩⟩
def NsOk (ns : List (Int × Int)) : Prop := ns.Pairwise (fun p q => p.1 ≤ q.1) ∧ ∀ p ∈ ns, inR p.1 ∧ 0 ≤ p.2 ∧ p.2 ≤ 9
theorem kvN_size {p : Int × Int} (h : 0 ≤ p.2 ∧ p.2 ≤ 9) : (kvN p).v.size = 1 := by
  show (Lib.decDigits p.2.toNat).toArray.size = 1
  rw [Lib.decDigits_one (by omega)]; rfl
theorem kvN_perm {p : Int × Int} (h : inR p.1 ∧ 0 ≤ p.2 ∧ p.2 ≤ 9) : permB (kvN p) = true := by
  unfold permB
  rw [kvN_size h.2, show (kvN p).k.size = 10 from pk_size h.1]
  rfl
/-- the days that no further one is the same as -/
def wantL (ns : List (Int × Int)) : Nat → List (Int × Int)
  | 0 => []
  | i + 1 => match ns[i]?, ns[i + 1]? with
    | some p, some q => if q.1 = p.1 then wantL ns i else wantL ns i ++ [p]
    | some p, none => wantL ns i ++ [p]
    | _, _ => wantL ns i
theorem want_same {ns : List (Int × Int)} {i : Nat} {p q : Int × Int} (h1 : ns[i]? = some p) (h2 : ns[i + 1]? = some q) (e : q.1 = p.1) : wantL ns (i + 1) = wantL ns i := by rw [wantL, h1, h2]; simp [e]
theorem want_other {ns : List (Int × Int)} {i : Nat} {p q : Int × Int} (h1 : ns[i]? = some p) (h2 : ns[i + 1]? = some q) (e : ¬ q.1 = p.1) : wantL ns (i + 1) = wantL ns i ++ [p] := by rw [wantL, h1, h2]; simp [e]
theorem want_last {ns : List (Int × Int)} {i : Nat} {p : Int × Int} (h1 : ns[i]? = some p) (h2 : ns[i + 1]? = none) : wantL ns (i + 1) = wantL ns i ++ [p] := by rw [wantL, h1, h2]
theorem want_len (ns : List (Int × Int)) : ∀ i, (wantL ns i).length ≤ i
  | 0 => Nat.le_refl _
  | i + 1 => by
    have ih := want_len ns i
    rw [wantL]
    split
    · split
      · omega
      · rw [List.length_append]; simp; omega
    · rw [List.length_append]; simp; omega
    · omega
theorem want_mem (ns : List (Int × Int)) : ∀ i, ∀ x ∈ wantL ns i, x ∈ ns
  | 0, _, h => by cases h
  | i + 1, x, h => by
    have ih := want_mem ns i x
    rw [wantL] at h
    split at h
    · rename_i p q h1 h2
      split at h
      · exact ih h
      · rcases List.mem_append.1 h with h | h
        · exact ih h
        · rw [List.mem_singleton] at h; subst h; exact List.mem_of_getElem? h1
    · rename_i p h1 h2
      rcases List.mem_append.1 h with h | h
      · exact ih h
      · rw [List.mem_singleton] at h; subst h; exact List.mem_of_getElem? h1
    · exact ih h
theorem ns_le {ns : List (Int × Int)} (h : NsOk ns) {i j : Nat} {p q : Int × Int} (hij : i ≤ j) (hp : ns[i]? = some p) (hq : ns[j]? = some q) : p.1 ≤ q.1 := by
  rcases Nat.lt_or_ge i j with e | e
  · obtain ⟨h1, rfl⟩ := List.getElem?_eq_some_iff.1 hp
    obtain ⟨h2, rfl⟩ := List.getElem?_eq_some_iff.1 hq
    exact List.pairwise_iff_getElem.1 h.1 i j h1 h2 e
  · obtain rfl : i = j := by omega
    rw [hp] at hq; cases hq; omega
/-- those wanted ahead of a day are earlier -/
theorem want_lt {ns : List (Int × Int)} (h : NsOk ns) : ∀ (i : Nat) {p : Int × Int}, ns[i]? = some p → ∀ x ∈ wantL ns i, x.1 < p.1
  | 0, _, _, _, hx => by cases hx
  | i + 1, p, hp, x, hx => by
    have hlt := (List.getElem?_eq_some_iff.1 hp).1
    obtain ⟨a, ha⟩ : ∃ a, ns[i]? = some a := ⟨_, List.getElem?_eq_getElem (by omega)⟩
    have hap := ns_le h (Nat.le_succ i) ha hp
    by_cases e : p.1 = a.1
    · rw [want_same ha hp e] at hx
      have := want_lt h i ha x hx
      omega
    · rw [want_other ha hp e] at hx
      rcases List.mem_append.1 hx with hx | hx
      · have := want_lt h i ha x hx
        omega
      · rw [List.mem_singleton] at hx
        subst hx
        omega
/-- the pairs of the tree behind k puts -/
def treeL (ns : List (Int × Int)) (k : Nat) : List KV := (ns.take k).foldl (fun L p => putT L (kvN p)) []
theorem tree_succ {ns : List (Int × Int)} {k : Nat} {p : Int × Int} (h : ns[k]? = some p) : treeL ns (k + 1) = putT (treeL ns k) (kvN p) := by
  unfold treeL
  rw [List.take_add_one, h, List.foldl_append]; rfl
theorem put_end {L : List KV} {p : KV} (h : ∀ x ∈ L, kl x.k p.k = true) : putL L p = L ++ [p] := by
  have := putL_mid (a := L) (b := []) (c := []) (p := p) h (fun x hx => by cases hx)
  simp only [List.append_nil, putL_nil] at this
  exact this
theorem put_last {L : List KV} {q p : KV} (h : ∀ x ∈ L, kl x.k p.k = true) (e : q.k = p.k) : putL (L ++ [q]) p = L ++ [p] := by
  have := putL_mid (a := L) (b := [q]) (c := []) (p := p) h (fun x hx => by cases hx)
  simp only [List.append_nil, putL_same e] at this
  exact this
theorem tree_eq {ns : List (Int × Int)} (h : NsOk ns) : ∀ (k : Nat) {p : Int × Int}, ns[k]? = some p → treeL ns (k + 1) = (wantL ns k ++ [p]).map kvN
  | 0, p, hp => by
    rw [tree_succ hp]
    have : treeL ns 0 = [] := rfl
    rw [this]
    unfold putT
    rw [if_pos (kvN_perm (h.2 p (List.mem_of_getElem? hp))), putL_nil]; rfl
  | k + 1, p, hp => by
    have hlt := (List.getElem?_eq_some_iff.1 hp).1
    obtain ⟨a, ha⟩ : ∃ a, ns[k]? = some a := ⟨_, List.getElem?_eq_getElem (by omega)⟩
    have hpo := h.2 p (List.mem_of_getElem? hp)
    have hao := h.2 a (List.mem_of_getElem? ha)
    have hle := ns_le h (Nat.le_succ k) ha hp
    have hw : ∀ x ∈ (wantL ns k).map kvN, kl x.k (kvN a).k = true := fun x hx => by
      obtain ⟨y, hy, rfl⟩ := List.mem_map.1 hx
      have h1 := want_lt h k ha y hy
      have h2 := (h.2 y (want_mem ns k y hy)).1
      exact pk_lt h2.1 h1 hao.1.2
    rw [tree_succ hp, tree_eq h k ha]
    unfold putT
    rw [if_pos (kvN_perm hpo), List.map_append]
    by_cases e : p.1 = a.1
    · rw [want_same ha hp e, List.map_append]
      have ek : (kvN a).k = (kvN p).k := by show pk a.1 = pk p.1; rw [e]
      exact put_last (fun x hx => by rw [← ek]; exact hw x hx) ek
    · rw [want_other ha hp e, List.map_append, List.map_append]
      refine put_end fun x hx => ?_
      have hap : kl (kvN a).k (kvN p).k = true := pk_lt hao.1.1 (by omega) hpo.1.2
      rcases List.mem_append.1 hx with hx | hx
      · obtain ⟨y, hy, rfl⟩ := List.mem_map.1 hx
        have h1 := want_lt h k ha y hy
        have h2 := (h.2 y (want_mem ns k y hy)).1
        exact pk_lt h2.1 (by omega) hpo.1.2
      · simp only [List.map_cons, List.map_nil, List.mem_singleton] at hx
        subst hx
        exact hap
theorem tree_want {ns : List (Int × Int)} (h : NsOk ns) : treeL ns ns.length = (wantL ns ns.length).map kvN := by
  cases hn : ns.length with
  | zero => rfl
  | succ k =>
    obtain ⟨a, ha⟩ : ∃ a, ns[k]? = some a := ⟨_, List.getElem?_eq_getElem (by omega)⟩
    rw [tree_eq h k ha, want_last ha (List.getElem?_eq_none (by omega))]
theorem tree_len (ns : List (Int × Int)) : ∀ k, (treeL ns k).length + 1 ≤ 2 ^ k := by
  intro k
  induction k with
  | zero => exact Nat.le_refl _
  | succ k ih =>
    by_cases hk : k < ns.length
    · rw [tree_succ (List.getElem?_eq_getElem hk)]
      have h1 : ∀ (L : List KV) (p : KV), (putT L p).length ≤ L.length * 2 + 1 := fun L p => by
        unfold putT putL lo hi
        split
        · rw [List.length_append, List.length_cons]
          have a1 := List.length_filter_le (fun x : KV => kl x.k p.k) L
          have a2 := List.length_filter_le (fun x : KV => kl p.k x.k) L
          omega
        · omega
      have := h1 (treeL ns k) (kvN ns[k])
      rw [Nat.pow_succ]
      omega
    · have : treeL ns (k + 1) = treeL ns k := by
        unfold treeL
        rw [List.take_of_length_le (by omega), List.take_of_length_le (by omega)]
      rw [this, Nat.pow_succ]
      omega
theorem ofP_ok {y : Int} {l : List Hol} (hl : l.length ≤ 6) : NsOk (ofP y l) := by
  refine ⟨ofP_sorted y l, fun p hp => ?_⟩
  obtain ⟨j, h, h1, h2, rfl⟩ := ofP_mem.1 hp
  have hb := (keptOn_of hp).bd
  have := (List.getElem?_eq_some_iff.1 h1).1
  exact ⟨hb, by show (0 : Int) ≤ j; omega, by show (j : Int) ≤ 9; omega⟩
end Go.Proofs.YtaiiibbnjmjamaaGreatDoor
/- The walk of Decimal of the reference. Conditions: stated at it. -/
namespace Go.Proofs.YtaiiibbnjmjamaaGreatDoor
open Go.RowKit

/-- what is still to be printed, and what is printed -/
def DecRel (j : Nat) (t : List UInt8) (n : Nat) : Prop := (¬ j = 0 ∧ Lib.decDigits j ++ t = Lib.decDigits n) ∨ (j = 0 ∧ t = Lib.decDigits n)
theorem decRel_step {j n : Nat} {t : List UInt8} (h0 : ¬ j = 0) (h : DecRel j t n) (hl : (Lib.decDigits n).length ≤ 21) : DecRel (j / 10) (UInt8.ofNat (48 + j % 10) :: t) n ∧ (UInt8.ofNat (48 + j % 10) :: t).length ≤ 21 := by
  rcases h with ⟨_, h⟩ | ⟨h, _⟩
  · by_cases h1 : j < 10
    · rw [dec1 h1] at h
      have e : j % 10 = j := by omega
      rw [e]
      exact ⟨.inr ⟨by omega, by rw [← h]; rfl⟩, by rw [← h] at hl; simpa using hl⟩
    · rw [decS h1, List.append_assoc] at h
      refine ⟨.inl ⟨by omega, h⟩, ?_⟩
      rw [← h] at hl
      simp at hl ⊢
      omega
  · exact absurd h h0
theorem dig_ext : ∀ d : Nat, d < 10 → (ByteArray.mk #[48, 49, 50, 51, 52, 53, 54, 55, 56, 57]).extract d (d + 1) = ByteArray.mk [UInt8.ofNat (48 + d)].toArray := by
  intro d hd
  have : d = 0 ∨ d = 1 ∨ d = 2 ∨ d = 3 ∨ d = 4 ∨ d = 5 ∨ d = 6 ∨ d = 7 ∨ d = 8 ∨ d = 9 := by omega
  rcases this with h | h | h | h | h | h | h | h | h | h <;> subst h <;> rfl
set_option maxHeartbeats 2000000 in
theorem decimal_any (n : Nat) (w : World) (hn : n ≤ 9223372036854775807) : Calls Tryz.prog 10 #[.int .i64 n] w (Pur (.string ⟨(Lib.decDigits n).toArray⟩) w) := by
  by_cases h0 : n = 0
  · subst h0
    go_enter Tryz.func10, Tryz.ntmps10
    go_wp2
    go_ret
    exact ⟨by rw [dec1 (by omega)]; rfl, rfl⟩
  · have h1 : ((n : Int) == 0) = false := by rw [beq_eq_false_iff_ne]; omega
    go_enter Tryz.func10, Tryz.ntmps10
    go_wp2_with fail
    have hlen := Lib.itoa_length_le (n : Int) (by omega) (by omega)
    rw [Lib.itoa_nonneg] at hlen
    go_loop [4, 5] (fun s k => ∃ (j : Nat) (t : List UInt8), j ≤ n ∧ k = .int .i64 j ∧ s = .string ⟨t.toArray⟩ ∧ t.length ≤ 21 ∧ DecRel j t n) (fun _ k => (intOf k).toNat)
    case atStart => exact ⟨n, [], Nat.le_refl _, rfl, rfl, by simp, .inl ⟨h0, by simp⟩⟩
    case round =>
      obtain ⟨j, t, hj, rfl, rfl, ht, hr⟩ := hrel
      by_cases hj0 : j = 0
      · subst hj0
        rcases hr with ⟨h, _⟩ | ⟨_, h⟩
        · exact absurd rfl h
        · have HT := Lib.hid h; clear h
          go_wp2
          go_ret
          exact ⟨by rw [← HT.out]; rfl, rfl⟩
      · have hj1 : ((j : Int) != 0) = true := by rw [bne_iff_ne]; omega
        have hs := decRel_step hj0 hr hlen
        have hx := dig_ext (j % 10) (by omega)
        have HS := Lib.hid hs; have HX := Lib.hid hx
        clear hs hx hr
        go_wp2_with fail
        go_round
        case rel => exact ⟨j / 10, UInt8.ofNat (48 + j % 10) :: t, by omega, by go_num, by rw [HX.out]; exact congrArg Value.string (ByteArray.mk_append_mk [UInt8.ofNat (48 + j % 10)] t), HS.out.2, HS.out.1⟩
        case measure => simp [intOf]; omega
end Go.Proofs.YtaiiibbnjmjamaaGreatDoor
/- The law HolidayKeys returns true at every input. Conditions: the numbers are ints that lie in memory, the listed tables lie in memory. -/
namespace Go.Proofs.YtaiiibbnjmjamaaGreatDoor
open Go.RowKit
set_option maxRecDepth 100000 in
set_option maxHeartbeats 8000000 in
theorem law_hkeys (v : Value) (zs : List Int) (yr : Int) (w : World) (hI : IsInts w v zs) (hz : InR zs) (hG : GoodH w) (h1 : -9223372036854775808 ≤ yr) (h2 : yr ≤ 9223372036854775807) :
    Calls Tryz.prog 3 #[v, .int .i64 yr] w (Ret (.bool true) w) := by
  obtain ⟨i0, hi0, hz0, hz1, hz2⟩ := info_parts infoP
  have hmk := mk_any v zs w hI hz
  have hl6 := mkHols_len zs
  have hval := mkHols_valid zs
  generalize mkHols zs = l at *
  have hlm : l.length ≤ maxLen := by unfold maxLen; omega
  have hof := fun v y w hG h => hof_any v l y w hG h (by omega) hval
  have his := fun v d w hG h => is_any v d l w hG h (by omega) hval
  have hA := fun w => around01 yr 160 w h1 h2 (by omega) (by omega)
  obtain ⟨a1, a2⟩ := around_bd yr (m := 160) (by omega)
  generalize around yr 160 = a at *
  have hns : NsOk (ofP (1950 + a) l) := ofP_ok hl6
  have hnl : (ofP (1950 + a) l).length ≤ 6 := Nat.le_trans (ofP_len _ l) hl6
  have hkp : ∀ p ∈ ofP (1950 + a) l, isB l p.1 = true := fun p hp => (isB_iff hval).2 (keptOn_of hp)
  have HMK := Lib.hid hmk; have HA := Lib.hid hA; have HOF := Lib.hid hof; have HIS := Lib.hid his; have HNS := Lib.hid hns; have HKP := Lib.hid hkp
  clear hmk hA hof his hI hz hval hns hkp
  go_enter Tryz.func3, Tryz.ntmps3
  go_wp2_with fail
  refine HMK.out.mono ?_
  intro e w1 hp
  obtain ⟨pl, cap, rfl, hm, hb1⟩ := HolsPost.hs hp hlm
  have hG1 := hG.below hb1
  have HM := Lib.hid hm; have HG1 := Lib.hid hG1
  clear hp hm hG1
  go_wp2_with fail
  refine (HA.out _).mono ?_
  rintro e w' ⟨rfl, rfl⟩
  go_wp2_with fail
  refine (HOF.out _ _ _ HG1.out HM.out).mono ?_
  intro e w2 hp
  obtain ⟨pa, ca, rfl, hb2, hcn⟩ := OfPost.mid hp
  generalize ofP (1950 + a) l = ns at *
  have hcell : ∀ W i (p : Int × Int), Below w2.heap.size w2 W → ns[i]? = some p → ∃ g, pa = some ⟨g, 0, none⟩ ∧ W.cell? ⟨g, i * 2, none⟩ = some (.int .i64 p.1) ∧ W.cell? ⟨g, i * 2 + 1, none⟩ = some (.int .i64 p.2) := fun W i p hW hp => by
    obtain ⟨g, e, _, hlt, hc⟩ := hcn (by have := (List.getElem?_eq_some_iff.1 hp).1; omega)
    have c0 := (hW.cell (p := ⟨g, 0 + i * 2 + 0, none⟩) hlt).trans (hc i p hp 0 _ rfl)
    have c1 := (hW.cell (p := ⟨g, 0 + i * 2 + 1, none⟩) hlt).trans (hc i p hp 1 _ rfl)
    rw [Nat.zero_add, Nat.add_zero] at c0
    rw [Nat.zero_add] at c1
    exact ⟨g, e, c0, c1⟩
  have HC := Lib.hid hcell
  have HG2 := Lib.hid (HG1.out.below hb2); have HM2 := Lib.hid (HM.out.below hb2); have HB2 := Lib.hid (bl_trans hb1 hb2)
  clear hp hb2 hcn hcell HOF HMK HM HG1
  go_wp2_with fail
  refine (new_any _).mono ?_
  rintro e w3 ⟨q, rfl, hT, _, hb3⟩
  have HT0 := Lib.hid hT; have HB3 := Lib.hid hb3
  clear hT hb3
  go_wp2
  go_loopg [7, 8] ns.length (fun kx s7 s8 wr => ∃ (i : Nat) (T : Tre), s8 = .int .i64 i ∧ s7 = ptrN T.p ∧ i ≤ ns.length ∧ ns.length - i ≤ kx ∧ Hid (IsT wr T) ∧ Hid (T.l = treeL ns i) ∧ Hid (Below w2.heap.size w2 wr))
  case atStart => exact ⟨0, ⟨q, [], 0, []⟩, rfl, rfl, Nat.zero_le _, Nat.le_refl _, HT0, Lib.hid rfl, HB3⟩
  case round =>
    clear HT0 HB3
    obtain ⟨i, T, rfl, rfl, hi, hm, HT, HL, HB⟩ := hrel
    by_cases hlt : i < ns.length
    · obtain ⟨p, hp⟩ : ∃ p, ns[i]? = some p := ⟨_, List.getElem?_eq_getElem hlt⟩
      have hpo := HNS.out.2 p (List.mem_of_getElem? hp)
      obtain ⟨g, rfl, c0, c1⟩ := HC.out wr i p HB.out hp
      obtain ⟨r, hr⟩ : ∃ r : Nat, p.2 = (r : Int) := ⟨p.2.toNat, by omega⟩
      have hHC : ∀ W, Below wr.heap.size wr W → W.cell? ⟨g, i * 2, none⟩ = some (.int .i64 p.1) ∧ W.cell? ⟨g, i * 2 + 1, none⟩ = some (.int .i64 p.2) := fun W hW => by
        obtain ⟨g', e, q0, q1⟩ := HC.out W i p (bl_trans HB.out hW) hp
        cases e
        exact ⟨q0, q1⟩
      have hP : ∀ W, Below wr.heap.size wr W → Calls Tryz.prog 9 #[.int .i64 p.1] W (Ret (.string (pk p.1)) W) := fun W hW => print_any p.1 W (HG2.out.below (bl_trans HB.out hW)).1
      have hD : ∀ W, Calls Tryz.prog 10 #[.int .i64 p.2] W (Pur (.string (kvN p).v) W) := fun W => by
        have := decimal_any r W (by have := hpo.2.2; omega)
        rw [← hr] at this
        show Calls _ _ _ _ (Pur (.string ⟨(Lib.decDigits p.2.toNat).toArray⟩) W)
        rw [show p.2.toNat = r by omega]
        exact this
      have hlT : T.l.length ≤ 64 := by
        rw [HL.out]
        have h1 := tree_len ns i
        have h2 : 2 ^ i ≤ 2 ^ 6 := Nat.pow_le_pow_right (by omega) (by omega)
        omega
      have hPu : ∀ W, Below wr.heap.size wr W → Calls Tryz.prog 8 #[ptrN T.p, .string (pk p.1), .string (kvN p).v] W (TPutPost T (kvN p) W) := fun W hW => tput_any T (kvN p) W (HT.out.below hW) (by omega)
      have hts := tree_succ hp
      have HHC := Lib.hid hHC; have HP := Lib.hid hP; have HD := Lib.hid hD; have HPU := Lib.hid hPu; have HTS := Lib.hid hts
      clear hHC hP hD hPu hts hp hpo hr r hlT
      generalize kvN p = kp at *
      generalize pk p.1 = KK at *
      generalize p.1 = d at *
      generalize p.2 = r at *
      go_upto_region 9 with (fail)
      go_region_held3 (fun w' => w'.cell? ⟨g, i * 2, none⟩ = some (.int .i64 d) ∧ w'.cell? ⟨g, i * 2 + 1, none⟩ = some (.int .i64 r)) (first | go_keep | exact HHC.out _ (bl_drew _) | exact HHC.out _ (bl_trans (bl_drew _) hb6) | exact HHC.out _ (bl_trans (bl_trans (bl_drew _) hb6) hb8)) (first | ((with_reducible refine (HP.out _ (bl_drew _)).mono ?_); rintro e w6 ⟨rfl, hb6⟩) | ((with_reducible refine (HD.out _).mono ?_); rintro e w7 ⟨rfl, rfl⟩) | ((with_reducible refine (HPU.out _ (bl_trans (bl_drew _) hb6)).mono ?_); rintro e w8 ⟨T', rfl, hT', hl', _, _, hb8⟩))
      all_goals
        have HT' := Lib.hid hT'
        have HL' : Hid (T'.l = treeL ns (i + 1)) := Lib.hid (by rw [hl', HL.out]; exact HTS.out.symm)
        have HB8 := Lib.hid (bl_trans HB.out (bl_trans (bl_trans (bl_drew _) hb6) hb8))
        clear hT' hl' hb6 hb8
        go_wp2
        go_roundg (ns.length - (i + 1))
        case measure => omega
        case rel => exact ⟨i + 1, T', by go_num, rfl, by omega, Nat.le_refl _, HT', HL', HB8⟩
    · obtain rfl : i = ns.length := by omega
      have hms : maxLen = 9223372036854775807 := rfl
      have HMS := Lib.hid hms
      clear hms hlt hi hm
      obtain ⟨wa, rfl⟩ : ∃ wa, wa = wr := ⟨_, rfl⟩
      go_wp2
      go_loopg [9, 10] ns.length (fun kx s9 s10 wr => ∃ i : Nat, s10 = .int .i64 i ∧ i ≤ ns.length ∧ ns.length - i ≤ kx ∧ Hid (wr.ownsRow wa.heap.size 36 2 s9 (wantL ns i).length (flatE encKV ((wantL ns i).map kvN))) ∧ Hid (Below wa.heap.size wa wr))
      case atStart => exact ⟨0, rfl, Nat.zero_le _, Nat.le_refl _, Lib.hid (World.ownsRow_nil _ _ _ _), Lib.hid (bl_refl _)⟩
      case round =>
        obtain ⟨i, rfl, hi, hm, HO, HBa⟩ := hrel
        obtain ⟨p9, c9, rfl⟩ := row_slice HO.out
        by_cases hlt : i < ns.length
        · obtain ⟨p, hp⟩ : ∃ p, ns[i]? = some p := ⟨_, List.getElem?_eq_getElem hlt⟩
          have hpo := HNS.out.2 p (List.mem_of_getElem? hp)
          have hBw := bl_trans HB.out HBa.out
          obtain ⟨g, rfl, c0, c1⟩ := HC.out wr i p hBw hp
          obtain ⟨r, hr⟩ : ∃ r : Nat, p.2 = (r : Int) := ⟨p.2.toNat, by omega⟩
          have hHC : ∀ W, Below wr.heap.size wr W → W.cell? ⟨g, i * 2, none⟩ = some (.int .i64 p.1) ∧ W.cell? ⟨g, i * 2 + 1, none⟩ = some (.int .i64 p.2) := fun W hW => by
            obtain ⟨g', e, q0, q1⟩ := HC.out W i p (bl_trans hBw hW) hp
            cases e
            exact ⟨q0, q1⟩
          have hP : ∀ W, Below wr.heap.size wr W → Calls Tryz.prog 9 #[.int .i64 p.1] W (Ret (.string (pk p.1)) W) := fun W hW => print_any p.1 W (HG2.out.below (bl_trans hBw hW)).1
          have hD : ∀ W, Calls Tryz.prog 10 #[.int .i64 p.2] W (Pur (.string (kvN p).v) W) := fun W => by
            have := decimal_any r W (by have := hpo.2.2; omega)
            rw [← hr] at this
            show Calls _ _ _ _ (Pur (.string ⟨(Lib.decDigits p.2.toNat).toArray⟩) W)
            rw [show p.2.toNat = r by omega]
            exact this
          obtain ⟨j, hj⟩ : ∃ j, j = i + 1 := ⟨_, rfl⟩
          have j1 : (i : Int) + 1 = (j : Int) := by omega
          have hwl := want_len ns i
          have hCA : ∀ W, Below wa.heap.size wa W → W.cell? ⟨g, i * 2, none⟩ = some (.int .i64 p.1) ∧ W.cell? ⟨g, i * 2 + 1, none⟩ = some (.int .i64 p.2) := fun W hW => by
            obtain ⟨g', e, q0, q1⟩ := HC.out W i p (bl_trans HB.out hW) hp
            cases e
            exact ⟨q0, q1⟩
          have HHC := Lib.hid hHC; have HP := Lib.hid hP; have HD := Lib.hid hD; have HCA := Lib.hid hCA
          clear hHC hP hD hCA hpo hr r hBw
          by_cases hsm : ∃ q, ns[i + 1]? = some q ∧ q.1 = p.1
          · obtain ⟨q, hq, e⟩ := hsm
            have hw := want_same hp hq e
            have hjl : j < ns.length := by rw [hj]; exact (List.getElem?_eq_some_iff.1 hq).1
            have e2 : wr.cell? ⟨g, j * 2, none⟩ = some (.int .i64 p.1) := by
              obtain ⟨g', e', q0, _⟩ := HC.out wr (i + 1) q (bl_trans HB.out HBa.out) hq
              cases e'
              rw [hj, ← e]; exact q0
            have HW := Lib.hid hw; have HJ := Lib.hid hj
            have t1 : decide (j < ns.length) = true := decide_eq_true hjl
            clear hp hq hj hw e
            generalize p.1 = d at *
            generalize p.2 = r at *
            go_upto_region 16 with (fail)
            refine wp_region_quiet_lit (by kernel_rfl) (by kernel_rfl) ?_
            repeat (go_big_quiet_step (fail))
            refine wpQuiet_nil ?_
            rintro wq ⟨nq, rfl⟩
            have HO2 : Hid ((wr.drewN nq).ownsRow wa.heap.size 36 2 (.slice p9 (wantL ns i).length c9) (wantL ns (i + 1)).length (flatE encKV ((wantL ns (i + 1)).map kvN))) := Lib.hid (by rw [HW.out]; exact row_below HO.out (bl_drewN (bl_refl _) nq))
            have HB2 := Lib.hid (bl_trans HBa.out (bl_drewN (bl_refl wr) nq))
            generalize wr.drewN nq = WQ at *
            go_wp2
            go_roundg (ns.length - (i + 1))
            case measure => omega
            case rel => exact ⟨i + 1, by go_num, by omega, Nat.le_refl _, HO2, HB2⟩
          · have hw : wantL ns (i + 1) = wantL ns i ++ [p] := by
              cases h : ns[i + 1]? with
              | none => exact want_last hp h
              | some q => exact want_other hp h (fun e => hsm ⟨q, h, e⟩)
            have hca : (∃ q2 : Int, j < ns.length ∧ wr.cell? ⟨g, j * 2, none⟩ = some (.int .i64 q2) ∧ ¬ q2 = p.1) ∨ ¬ j < ns.length := by
              by_cases hjl : j < ns.length
              · obtain ⟨q, hq⟩ : ∃ q, ns[i + 1]? = some q := ⟨_, List.getElem?_eq_getElem (by omega)⟩
                obtain ⟨g', e', q0, _⟩ := HC.out wr (i + 1) q (bl_trans HB.out HBa.out) hq
                cases e'
                exact .inl ⟨q.1, hjl, by rw [hj]; exact q0, fun e => hsm ⟨q, hq, e⟩⟩
              · exact .inr hjl
            have hfl : flatE encKV ((wantL ns (i + 1)).map kvN) = flatE encKV ((wantL ns i).map kvN) ++ [.string (pk p.1), .string (kvN p).v] := by rw [hw, List.map_append, flatE_append]; rfl
            have hwn : (wantL ns (i + 1)).length = (wantL ns i).length + 1 := by rw [hw, List.length_append]; rfl
            have HFL := Lib.hid (And.intro hfl hwn); have HJ := Lib.hid hj
            obtain ⟨m, hmm⟩ : ∃ m, m = (wantL ns i).length := ⟨_, rfl⟩
            rw [← hmm] at hwl HFL HO
            rw [← hmm]
            have HMM := Lib.hid hmm
            clear hw hfl hwn hsm hp hj hmm
            generalize (kvN p).v = DD at *
            generalize pk p.1 = KK at *
            generalize p.1 = d at *
            generalize p.2 = r at *
            rcases hca with ⟨q2, hjl, e2, hne⟩ | hjl
            · have t1 : decide (j < ns.length) = true := decide_eq_true hjl
              have t2 : (q2 == d) = false := by rw [beq_eq_false_iff_ne]; exact hne
              clear hne
              go_upto_region 16 with (fail)
              refine wp_region_quiet_lit (by kernel_rfl) (by kernel_rfl) ?_
              repeat (go_big_quiet_step (fail))
              refine wpQuiet_nil ?_
              rintro wq ⟨nq, rfl⟩
              obtain ⟨WQ, hWQ⟩ : ∃ W, W = wr.drewN nq := ⟨_, rfl⟩
              have hBQ : Below wr.heap.size wr WQ := by rw [hWQ]; exact bl_drewN (bl_refl _) nq
              rw [← hWQ]
              have HBQ := Lib.hid hBQ
              clear hWQ hBQ e2 c0 c1 t1 t2
              obtain ⟨c0, c1⟩ := HHC.out WQ HBQ.out
              go_upto_region 17 with (fail)
              have hODr : (WQ.drew).ownsRow wa.heap.size 36 2 (.slice p9 m c9) m (flatE encKV ((wantL ns i).map kvN)) := row_below HO.out (bl_trans HBQ.out (bl_drew _))
              have hBDr : Below wa.heap.size wa (WQ.drew) := bl_trans (bl_trans HBa.out HBQ.out) (bl_drew _)
              have HODr := Lib.hid hODr; have HBDr := Lib.hid hBDr
              have HPQ := Lib.hid (fun W (hW : Below WQ.heap.size WQ W) => HP.out W (bl_trans HBQ.out hW))
              have HCQ := Lib.hid (fun W (hW : Below WQ.heap.size WQ W) => HHC.out W (bl_trans HBQ.out hW))
              clear hODr hBDr
              go_region_held3 (fun w' => w'.cell? ⟨g, i * 2, none⟩ = some (.int .i64 d) ∧ w'.cell? ⟨g, i * 2 + 1, none⟩ = some (.int .i64 r)) (first | go_keep | exact HCQ.out _ (bl_drew _) | exact HCQ.out _ (bl_trans (bl_drew _) hb6) | exact HCQ.out _ (bl_trans (bl_trans (bl_drew _) hb6) (bl_alloc _ _)) | exact HCA.out _ ((bl_trans HBDr.out (bl_trans hb6 (bl_alloc _ _))).grown hg4 (by have := HBDr.out.size; have := hb6.size; simp; omega) (fun k e => (HODr.out.lt k e).1))) (first | (refine step_append_lies _ (by rfl) (.tmp 72) (.tmp 86) 34 (by rfl) wa.heap.size 36 i0 _ 2 32 Tryz.underlying34 hi0 hz0 hz1 hz2 rfl (by omega) (.slice p9 m c9) m (flatE encKV ((wantL ns i).map kvN)) (by rfl) ((row_below HODr.out hb6).alloc (.cells #[Value.string KK, .string DD] 36)) ⟨w6.heap.size, 0, none⟩ 1 1 [Value.string KK, .string DD] (by rfl) (by rfl) (World.news_of_block (cs := #[Value.string KK, .string DD]) (t := 36) (fr := (0, 0)) (heap_alloc_new w6 _)) (by simp [Value.oneCell']) (by omega) (by have := HMS.out; omega) (by omega) (by have := HBDr.out.size; have := hb6.size; simp at *; omega) _ rfl ?_; intro g4 c4 w4 ho4 hg4 _ _) | ((with_reducible refine (HPQ.out _ (bl_drew _)).mono ?_); rintro e w6 ⟨rfl, hb6⟩) | ((with_reducible refine (HD.out _).mono ?_); rintro e w7 ⟨rfl, rfl⟩))
              all_goals
                have hg4' : (w6.alloc (.cells #[Value.string KK, .string DD] 36)).grownBy w4 (Value.slice p9 m c9).ownBlock := hg4
                have hB4 : Below wa.heap.size wa w4 := (bl_trans HBDr.out (bl_trans hb6 (bl_alloc _ _))).grown hg4' (by have := HBDr.out.size; have := hb6.size; simp at *; omega) (fun k e => (HODr.out.lt k e).1)
                have hO4 : w4.ownsRow wa.heap.size 36 2 (.slice (some ⟨g4, 0, none⟩) (m + 1) c4) (wantL ns (i + 1)).length (flatE encKV ((wantL ns (i + 1)).map kvN)) := by rw [HFL.out.1, HFL.out.2]; exact ho4
                have HF := Lib.hid (And.intro hO4 hB4)
                clear hg4 hg4' hB4 hO4 ho4 hb6
                go_wp2
                go_roundg (ns.length - (i + 1))
                case measure => omega
                case rel => exact ⟨i + 1, by go_num, by omega, Nat.le_refl _, Lib.hid HF.out.1, Lib.hid HF.out.2⟩
            · have t1 : decide (j < ns.length) = false := decide_eq_false hjl
              go_upto_region 16 with (fail)
              refine wp_region_quiet_lit (by kernel_rfl) (by kernel_rfl) ?_
              repeat (go_big_quiet_step (fail))
              refine wpQuiet_nil ?_
              rintro wq ⟨nq, rfl⟩
              obtain ⟨WQ, hWQ⟩ : ∃ W, W = wr.drewN nq := ⟨_, rfl⟩
              have hBQ : Below wr.heap.size wr WQ := by rw [hWQ]; exact bl_drewN (bl_refl _) nq
              rw [← hWQ]
              have HBQ := Lib.hid hBQ
              clear hWQ hBQ c0 c1 t1
              obtain ⟨c0, c1⟩ := HHC.out WQ HBQ.out
              go_upto_region 17 with (fail)
              have hODr : (WQ.drew).ownsRow wa.heap.size 36 2 (.slice p9 m c9) m (flatE encKV ((wantL ns i).map kvN)) := row_below HO.out (bl_trans HBQ.out (bl_drew _))
              have hBDr : Below wa.heap.size wa (WQ.drew) := bl_trans (bl_trans HBa.out HBQ.out) (bl_drew _)
              have HODr := Lib.hid hODr; have HBDr := Lib.hid hBDr
              have HPQ := Lib.hid (fun W (hW : Below WQ.heap.size WQ W) => HP.out W (bl_trans HBQ.out hW))
              have HCQ := Lib.hid (fun W (hW : Below WQ.heap.size WQ W) => HHC.out W (bl_trans HBQ.out hW))
              clear hODr hBDr
              go_region_held3 (fun w' => w'.cell? ⟨g, i * 2, none⟩ = some (.int .i64 d) ∧ w'.cell? ⟨g, i * 2 + 1, none⟩ = some (.int .i64 r)) (first | go_keep | exact HCQ.out _ (bl_drew _) | exact HCQ.out _ (bl_trans (bl_drew _) hb6) | exact HCQ.out _ (bl_trans (bl_trans (bl_drew _) hb6) (bl_alloc _ _)) | exact HCA.out _ ((bl_trans HBDr.out (bl_trans hb6 (bl_alloc _ _))).grown hg4 (by have := HBDr.out.size; have := hb6.size; simp; omega) (fun k e => (HODr.out.lt k e).1))) (first | (refine step_append_lies _ (by rfl) (.tmp 72) (.tmp 86) 34 (by rfl) wa.heap.size 36 i0 _ 2 32 Tryz.underlying34 hi0 hz0 hz1 hz2 rfl (by omega) (.slice p9 m c9) m (flatE encKV ((wantL ns i).map kvN)) (by rfl) ((row_below HODr.out hb6).alloc (.cells #[Value.string KK, .string DD] 36)) ⟨w6.heap.size, 0, none⟩ 1 1 [Value.string KK, .string DD] (by rfl) (by rfl) (World.news_of_block (cs := #[Value.string KK, .string DD]) (t := 36) (fr := (0, 0)) (heap_alloc_new w6 _)) (by simp [Value.oneCell']) (by omega) (by have := HMS.out; omega) (by omega) (by have := HBDr.out.size; have := hb6.size; simp at *; omega) _ rfl ?_; intro g4 c4 w4 ho4 hg4 _ _) | ((with_reducible refine (HPQ.out _ (bl_drew _)).mono ?_); rintro e w6 ⟨rfl, hb6⟩) | ((with_reducible refine (HD.out _).mono ?_); rintro e w7 ⟨rfl, rfl⟩))
              all_goals
                have hg4' : (w6.alloc (.cells #[Value.string KK, .string DD] 36)).grownBy w4 (Value.slice p9 m c9).ownBlock := hg4
                have hB4 : Below wa.heap.size wa w4 := (bl_trans HBDr.out (bl_trans hb6 (bl_alloc _ _))).grown hg4' (by have := HBDr.out.size; have := hb6.size; simp at *; omega) (fun k e => (HODr.out.lt k e).1)
                have hO4 : w4.ownsRow wa.heap.size 36 2 (.slice (some ⟨g4, 0, none⟩) (m + 1) c4) (wantL ns (i + 1)).length (flatE encKV ((wantL ns (i + 1)).map kvN)) := by rw [HFL.out.1, HFL.out.2]; exact ho4
                have HF := Lib.hid (And.intro hO4 hB4)
                clear hg4 hg4' hB4 hO4 ho4 hb6
                go_wp2
                go_roundg (ns.length - (i + 1))
                case measure => omega
                case rel => exact ⟨i + 1, by go_num, by omega, Nat.le_refl _, Lib.hid HF.out.1, Lib.hid HF.out.2⟩
        · obtain rfl : i = ns.length := by omega
          have hBw := bl_trans HB.out HBa.out
          have htw := tree_want HNS.out
          have hmem : ∀ x ∈ wantL ns ns.length, x ∈ ns := want_mem ns ns.length
          have hwl := want_len ns ns.length
          obtain ⟨ws, hws⟩ : ∃ ws, ws = wantL ns ns.length := ⟨_, rfl⟩
          rw [← hws] at HO htw hmem hwl
          have hTl : T.l = ws.map kvN := by rw [HL.out, htw]
          obtain ⟨M, hM⟩ : ∃ M, M = ws.length := ⟨_, rfl⟩
          have hMl : M = (ws.map kvN).length := by rw [List.length_map]; exact hM
          have hTw := HT.out.below HBa.out
          have hrg : Calls Tryz.prog 11 #[ptrN T.p, .string ⟨#[]⟩, .string ⟨#[]⟩] wr (OwnPost 36 2 (flatE encKV (ws.map kvN)) M wr) := by
            have := range_any T ⟨#[]⟩ ⟨#[]⟩ wr hTw (by rw [hTl, List.length_map]; omega)
            rw [rangeL_all, hTl, ← hMl] at this
            exact this
          rw [← hM] at HO
          rw [← hws, ← hM]
          have hM6 : M ≤ 6 := by omega
          have hO' : wr.ownsRow wa.heap.size 36 2 (.slice p9 M c9) (ws.map kvN).length (flatE encKV (ws.map kvN)) := by rw [← hMl]; exact HO.out
          have hml : (ws.map kvN).length ≤ maxLen := by rw [← hMl]; unfold maxLen; omega
          have hwant := (IsRow.of_row encKV_len hO' hml).open
          have HRG := Lib.hid hrg; have HWA := Lib.hid hwant; have HMEM := Lib.hid hmem; have HMM := Lib.hid (And.intro hM hMl); have HML := Lib.hid hml; have HBW := Lib.hid hBw
          clear hrg hwant hmem hM hMl hml hBw hO' hTw hTl hws htw hwl HO hi hlt hm
          go_wp2_with fail
          refine HRG.out.mono ?_
          rintro e w4 ⟨v4, rfl, ho4, hb4⟩
          obtain ⟨p4, c4, rfl⟩ := row_slice ho4
          have hgot := (IsRow.of_row encKV_len (by rw [← HMM.out.2]; exact ho4) HML.out).open
          have hcells : ∀ W i (x : Int × Int), Below w4.heap.size w4 W → ws[i]? = some x → ∃ g1 o1 g2 o2, p4 = some ⟨g1, o1, none⟩ ∧ p9 = some ⟨g2, o2, none⟩ ∧ (W.cell? ⟨g1, o1 + i * 2, none⟩ = some (.string (pk x.1)) ∧ W.cell? ⟨g1, o1 + i * 2 + 1, none⟩ = some (.string (kvN x).v)) ∧ (W.cell? ⟨g2, o2 + i * 2, none⟩ = some (.string (pk x.1)) ∧ W.cell? ⟨g2, o2 + i * 2 + 1, none⟩ = some (.string (kvN x).v)) := fun W i x hW hx => by
            have hx2 : (ws.map kvN)[i]? = some (kvN x) := by rw [List.getElem?_map, hx]; rfl
            have hpos : 0 < (ws.map kvN).length := by have := (List.getElem?_eq_some_iff.1 hx2).1; omega
            obtain ⟨a1, k1, e1, _, f1⟩ := hgot
            obtain ⟨a2, k2, e2, _, f2⟩ := HWA.out
            obtain ⟨g1, o1, rfl, l1, q1⟩ := f1 hpos
            obtain ⟨g2, o2, rfl, l2, q2⟩ := f2 hpos
            cases e1
            cases e2
            have hW2 := bl_trans hb4 hW
            have a0 := (hW.cell (p := ⟨g1, o1 + i * 2 + 0, none⟩) l1).trans (q1 i _ hx2 0 _ rfl)
            have a1 := (hW.cell (p := ⟨g1, o1 + i * 2 + 1, none⟩) l1).trans (q1 i _ hx2 1 _ rfl)
            have b0 := (hW2.cell (p := ⟨g2, o2 + i * 2 + 0, none⟩) l2).trans (q2 i _ hx2 0 _ rfl)
            have b1 := (hW2.cell (p := ⟨g2, o2 + i * 2 + 1, none⟩) l2).trans (q2 i _ hx2 1 _ rfl)
            rw [Nat.add_zero] at a0 b0
            exact ⟨g1, o1, g2, o2, rfl, rfl, ⟨a0, a1⟩, ⟨b0, b1⟩⟩
          have HCL := Lib.hid hcells; have HB4 := Lib.hid (bl_trans HBW.out hb4)
          clear hgot hcells ho4 hb4 HRG HWA
          go_wp2
          go_loopg [12, 13, 14] M (fun kx s12 s13 s14 wr => ∃ i : Nat, s12 = .int .i64 i ∧ i ≤ M ∧ M - i ≤ kx ∧ Hid (Below w4.heap.size w4 wr))
          case atStart => exact ⟨0, rfl, Nat.zero_le _, Nat.le_refl _, Lib.hid (bl_refl _)⟩
          case round =>
            obtain ⟨i, rfl, hi, hm, HBi⟩ := hrel
            by_cases hlt : i < M
            · obtain ⟨x, hx⟩ : ∃ x, ws[i]? = some x := ⟨_, List.getElem?_eq_getElem (by rw [← HMM.out.1]; exact hlt)⟩
              obtain ⟨g1, o1, g2, o2, rfl, rfl, ⟨a0, a1⟩, ⟨b0, b1⟩⟩ := HCL.out wr i x HBi.out hx
              have hxm := HMEM.out x (List.mem_of_getElem? hx)
              have hxo := (HNS.out.2 x hxm).1
              have hBw := bl_trans HB4.out HBi.out
              have hcs : ∀ W, Below wr.heap.size wr W → (W.cell? ⟨g1, o1 + i * 2, none⟩ = some (.string (pk x.1)) ∧ W.cell? ⟨g1, o1 + i * 2 + 1, none⟩ = some (.string (kvN x).v)) ∧ (W.cell? ⟨g2, o2 + i * 2, none⟩ = some (.string (pk x.1)) ∧ W.cell? ⟨g2, o2 + i * 2 + 1, none⟩ = some (.string (kvN x).v)) := fun W hW => by
                obtain ⟨_, _, _, _, e1, e2, h⟩ := HCL.out W i x (bl_trans HBi.out hW) hx
                cases e1
                cases e2
                exact h
              have hpa : ∀ W, Below wr.heap.size wr W → Calls Tryz.prog 12 #[.string (pk x.1)] W (Ret (.tuple #[.int .i64 x.1, .int .i64 0]) W) := fun W hW => by
                have := parse_any (pk x.1) W (HG2.out.below (bl_trans hBw hW)).1
                obtain ⟨e1, e2⟩ := parse_print hxo.1 hxo.2
                rw [show paN (pk x.1) = x.1 from e1, show paE (pk x.1) = 0 from e2] at this
                exact this
              have hi2 : ∀ W, Below wr.heap.size wr W → Calls Tryz.prog 13 #[.slice pl l.length cap, .int .i64 x.1] W (Ret (.bool true) W) := fun W hW => by
                have := HIS.out _ x.1 W (HG2.out.below (bl_trans hBw hW)) (HM2.out.below (bl_trans hBw hW))
                rw [HKP.out x hxm] at this
                exact this
              have HCS := Lib.hid hcs; have HPA := Lib.hid hpa; have HI2 := Lib.hid hi2
              clear hcs hpa hi2 hx hxm hxo hBw
              generalize (kvN x).v = DD at *
              generalize pk x.1 = KK at *
              generalize x.1 = d at *
              clear a1 b0 b1
              go_wp2_with fail
              refine (HPA.out _ (bl_refl _)).mono ?_
              rintro e w5 ⟨rfl, hb5⟩
              have HB5 := Lib.hid hb5
              have c1 : ∀ u : UpW w5, u.w.cell? ⟨g1, o1 + i * 2, none⟩ = some (.string KK) := fun u => (HCS.out _ (bl_trans HB5.out u.h)).1.1
              have c2 : ∀ u : UpW w5, u.w.cell? ⟨g1, o1 + i * 2 + 1, none⟩ = some (.string DD) := fun u => (HCS.out _ (bl_trans HB5.out u.h)).1.2
              have c3 : ∀ u : UpW w5, u.w.cell? ⟨g2, o2 + i * 2, none⟩ = some (.string KK) := fun u => (HCS.out _ (bl_trans HB5.out u.h)).2.1
              have c4 : ∀ u : UpW w5, u.w.cell? ⟨g2, o2 + i * 2 + 1, none⟩ = some (.string DD) := fun u => (HCS.out _ (bl_trans HB5.out u.h)).2.2
              clear hb5 a0
              go_upto_region 25 with (fail)
              refine wp_region_up (by kernel_rfl) (by kernel_rfl) ?_
              repeat (go_big_quiet_step (fail))
              go_big_quiet_step (exact Ret.up (HI2.out _ (bl_trans HB5.out (UpW.h _))))
              repeat (go_big_quiet_step (fail))
              refine wpQuiet_nil ?_
              rintro w6 ⟨⟨_, hb6⟩, rfl⟩
              have HB6 := Lib.hid (bl_trans HBi.out (bl_trans HB5.out hb6))
              clear hb6 c1 c2 c3 c4
              go_wp2
              go_roundg (M - (i + 1))
              case measure => omega
              case rel => exact ⟨i + 1, by go_num, by omega, Nat.le_refl _, HB6⟩
            · go_wp2_with fail
              refine (hlives_any _ (HG2.out.below (bl_trans HB4.out HBi.out))).mono ?_
              rintro e w7 ⟨rfl, hb7⟩
              go_wp2
              go_ret
              exact ⟨rfl, bl_trans HB2.out (bl_trans (bl_trans HB4.out HBi.out) hb7)⟩
end Go.Proofs.YtaiiibbnjmjamaaGreatDoor
