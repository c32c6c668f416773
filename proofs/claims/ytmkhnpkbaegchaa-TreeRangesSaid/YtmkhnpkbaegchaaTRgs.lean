/- Several texts in one, each with its own word at its head. Conditions: stated there. -/
import Derived.Test.YtmkhnpkbaegchaaTRfs
import Derived.BigQuiet
import Derived.Lib.MinMaxS
/- Plain: two adjacent ranges of an ordered list; the last pair up to a key. Conditions: stated at each. -/
namespace Go.Proofs.Ytmkhnpkbaegchaa
open Go.RowKit

theorem split_at (k : ByteArray) : ∀ {L : List KV}, Srt L → (L.filter fun x => kl x.k k) ++ (L.filter fun x => !kl x.k k) = L
  | [], _ => rfl
  | x :: L, h => by
    obtain ⟨h1, h2⟩ := srt_cons.1 h
    cases hx : kl x.k k
    · have h3 : ∀ y ∈ L, kl y.k k = false := fun y hy => by
        cases e : kl y.k k
        · rfl
        · rw [kl_trans (h1 y hy) e] at hx; cases hx
      rw [List.filter_cons, List.filter_cons, hx, if_neg (by simp), if_pos (by rfl), List.filter_eq_nil_iff.2 (fun y hy => by rw [h3 y hy]; simp), List.filter_eq_self.2 (fun y hy => by rw [h3 y hy]; rfl)]
      rfl
    · rw [List.filter_cons, List.filter_cons, hx, if_pos rfl, if_neg (by simp), List.cons_append, split_at k h2]
theorem kl_nil (a : ByteArray) {b : ByteArray} (h : b.toList = []) : kl a b = false := by
  unfold kl
  rw [h]
  cases a.toList <;> rfl
theorem range_lo {L : List KV} {u : ByteArray} (hs : Srt L) (hu : ¬ u.toList = []) : rangeL L ⟨#[]⟩ u = L.filter fun x => kl x.k u := by
  rw [rangeL_filter _ _ hs]
  refine List.filter_congr (fun x _ => ?_)
  have e : (u.toList == ([] : List UInt8)) = false := by simpa using hu
  unfold cutB
  rw [kl_nil x.k (by rw [ByteArray.toList_eq]), e]
  simp
theorem range_mid {L : List KV} {a u : ByteArray} (hs : Srt L) (hu : ¬ u.toList = []) : rangeL L a u = (L.filter fun x => !kl x.k a).filter fun x => kl x.k u := by
  rw [rangeL_filter _ _ hs, List.filter_filter]
  refine List.filter_congr (fun x _ => ?_)
  have e : (u.toList == ([] : List UInt8)) = false := by simpa using hu
  unfold cutB
  rw [e]
  simp [Bool.and_comm]
theorem range_hi {L : List KV} {a : ByteArray} (hs : Srt L) : rangeL L a ⟨#[]⟩ = L.filter fun x => !kl x.k a := by
  rw [rangeL_filter _ _ hs]
  refine List.filter_congr (fun x _ => ?_)
  have e : ((⟨#[]⟩ : ByteArray).toList == ([] : List UInt8)) = true := by rw [ByteArray.toList_eq]; rfl
  unfold cutB
  rw [e]
  simp
theorem ranges_all {L : List KV} {a u : ByteArray} (hs : Srt L) (ha : ¬ a.toList = []) (hu : ¬ u.toList = []) (hle : kl u a = false) : rangeL L ⟨#[]⟩ a ++ rangeL L a u ++ rangeL L u ⟨#[]⟩ = L := by
  have hs2 : Srt (L.filter fun x => !kl x.k a) := hs.filter _
  have e : (L.filter fun x => !kl x.k u) = (L.filter fun x => !kl x.k a).filter fun x => !kl x.k u := by
    rw [List.filter_filter]
    refine List.filter_congr (fun x _ => ?_)
    cases h1 : kl x.k u
    · cases h2 : kl x.k a
      · rfl
      · exfalso
        rcases kl_total u a with q | q | q
        · rw [hle] at q; cases q
        · rw [q, h2] at h1; cases h1
        · rw [kl_trans h2 q] at h1; cases h1
    · rfl
  rw [range_lo hs ha, range_mid hs hu, range_hi hs, e, List.append_assoc, split_at u hs2, split_at a hs]
theorem flr_before {L : List KV} {k : ByteArray} (hs : Srt L) (hk : ¬ k.toList = []) (hg : getL L k = none) : flrL L k = (rangeL L ⟨#[]⟩ k).getLast? := by
  rw [range_lo hs hk]
  unfold flrL
  refine congrArg List.getLast? (List.filter_congr (fun x hx => ?_))
  have hne : x.k ≠ k := fun e => by
    unfold getL at hg
    have := List.find?_eq_none.1 hg x hx
    simp [e] at this
  rcases kl_total x.k k with q | q | q
  · rw [kl_asym q, q]; rfl
  · exact absurd q hne
  · rw [q, kl_asym q]; rfl
theorem flr_get {L : List KV} {k : ByteArray} {q : KV} (hs : Srt L) (hg : getL L k = some q) : flrL L k = some q ∧ q.k = k := by
  unfold getL at hg
  have hm := List.mem_of_find?_eq_some hg
  have hk := List.find?_some hg
  have hk2 : q.k = k := by simpa using hk
  obtain ⟨U, V, hUV⟩ := List.append_of_mem hm
  rw [hUV] at hs ⊢
  rw [← hk2]
  exact ⟨flr_pair hs, rfl⟩
end Go.Proofs.Ytmkhnpkbaegchaa
/- The walk of the law TreeRanges. Conditions: none. -/
namespace Go.Proofs.Ytmkhnpkbaegchaa
open Go.RowKit

theorem src_row {w : World} {B e k : Nat} {α : Type} {enc : α → List Value} {v : Value} {l : List α} (hk : ∀ x, (enc x).length = k) (h : w.ownsRow B e k v l.length (flatE enc l)) : SrcIs w v k l.length (flatE enc l) := by
  rcases h.2 with ⟨h1, h2⟩ | ⟨g, cap, cur, h1, hg, hh, r1, r2, r3, r4⟩
  · have hl : l = [] := List.length_eq_zero_iff.1 h2
    subst hl
    exact .inl ⟨h1, rfl, rfl⟩
  · refine .inr ⟨⟨g, 0, none⟩, cap, h1, flatE_len hk l, fun j u hu => ?_⟩
    rw [Go.WideShapes.add_plain, Nat.zero_add]
    exact blk_cells (n := l.length * k) hh r4 j u hu
theorem minmax_kl (a b : ByteArray) : kl (Lib.maxS a b) (Lib.minS a b) = false := by
  have e : (a.data.toList < b.data.toList) ↔ kl a b = true := by rw [kl_data, Proofs.bytesLess_eq]; simp
  unfold Lib.maxS Lib.minS
  by_cases h : kl a b = true
  · rw [if_pos (e.2 h), if_pos (.inl (e.2 h))]
    exact kl_asym h
  · have hf : kl a b = false := by simpa using h
    rw [if_neg (fun q => h (e.1 q))]
    split
    · exact kl_irr a
    · exact hf
set_option maxRecDepth 100000 in
set_option maxHeartbeats 8000000 in
theorem law_ranges (n s : Int) (a b : ByteArray) (w : World) (hn1 : -9223372036854775808 ≤ n) (hn2 : n ≤ 9223372036854775807) (hs1 : -9223372036854775808 ≤ s) (hs2 : s ≤ 9223372036854775807) (_h2 : a.size ≤ maxLen) (_h3 : b.size ≤ maxLen) :
    Calls Try.prog 9 #[.int .i64 n, .int .i64 s, .string a, .string b] w (Ret (.bool true) w) := by
  obtain ⟨m, hm⟩ : ∃ m : Nat, around n 301 = m := ⟨(around n 301).toNat, by have := around_bd n (m := 301) (by omega); omega⟩
  obtain ⟨c, hc⟩ : ∃ c : Nat, around s 3988 = c := ⟨(around s 3988).toNat, by have := around_bd s (m := 3988) (by omega); omega⟩
  have hm2 : m ≤ 300 := by have := around_bd n (m := 301) (by omega); omega
  have hc2 : c ≤ 3987 := by have := around_bd s (m := 3988) (by omega); omega
  have K1 : ∀ w, Calls Try.prog 25 #[.int .i64 n, .int .i64 301] w (Pur (.int .i64 (m : Int)) w) := fun w => by rw [← hm]; exact around02 n 301 w hn1 hn2 (by omega) (by omega)
  have K2 : ∀ w, Calls Try.prog 25 #[.int .i64 s, .int .i64 3988] w (Pur (.int .i64 (c : Int)) w) := fun w => by rw [← hc]; exact around02 s 3988 w hs1 hs2 (by omega) (by omega)
  have K4 : ∀ W, Calls Try.prog 30 #[.int .i64 m, .int .i64 ((c + 1 : Nat) : Int), .bool false] W (ManyPost m W) := fun W => many_any m (c + 1) false W (by omega) (by omega)
  have e1 : 1 + (c : Int) = ((c + 1 : Nat) : Int) := by omega
  have HK1 := Lib.hid K1; have HK2 := Lib.hid K2; have HK4 := Lib.hid K4
  clear K1 K2 K4 hm hc hn1 hn2 hs1 hs2
  obtain ⟨d, hd⟩ : ∃ d, d = c + 1 := ⟨_, rfl⟩
  rw [← hd] at e1 HK4
  have hcd : (c : Int) ≤ 3987 := by omega
  clear hd
  go_enter Try.func9, Try.ntmps9
  go_wp2_with fail
  refine (HK1.out _).mono ?_
  rintro e w' ⟨rfl, rfl⟩
  go_wp2_with fail
  refine (HK2.out _).mono ?_
  rintro e w' ⟨rfl, rfl⟩
  go_wp2_with fail
  refine (HK4.out _).mono ?_
  rintro e w1 ⟨T, v, rfl, hT, hv, hl, hb1⟩
  go_upto_region 5 with (fail)
  rw [Lib.run_min_strs]
  go_upto_region 6 with (fail)
  rw [Lib.run_max_strs]
  go_upto_region 6 with (fail)
  have hmm := minmax_kl a b
  generalize Lib.minS a b = lo at *
  generalize Lib.maxS a b = hi at *
  have HMM := Lib.hid hmm
  clear hmm
  obtain ⟨pv, cv, rfl⟩ := row_slice hv
  by_cases hle : lo.toList = []
  · have hle2 : (lo.toList == ([] : List UInt8)) = true := by rw [hle]; rfl
    have hle3 : (lo.toList = []) = True := by rw [hle]; simp
    clear hle
    go_wp2_with fail
    refine (lives_any _).mono ?_
    rintro e w5 ⟨rfl, hb5⟩
    go_wp2
    go_ret
    exact ⟨rfl, bl_trans hb1 hb5⟩
  have hle2 : (lo.toList == ([] : List UInt8)) = false := by simpa using hle
  by_cases hhe : hi.toList = []
  · have hhe2 : (hi.toList == ([] : List UInt8)) = true := by rw [hhe]; rfl
    have hhe3 : (hi.toList = []) = True := by rw [hhe]; simp
    clear hhe
    go_wp2_with fail
    refine (lives_any _).mono ?_
    rintro e w5 ⟨rfl, hb5⟩
    go_wp2
    go_ret
    exact ⟨rfl, bl_trans hb1 hb5⟩
  have hhe2 : (hi.toList == ([] : List UInt8)) = false := by simpa using hhe
  have hs := hT.1
  have hall := ranges_all hs hle hhe HMM.out
  have hrg : ∀ W x y, Below w1.heap.size w1 W → Calls Try.prog 13 #[ptrN T.p, .string x, .string y] W (OwnPost 63 2 (flatE encKV (rangeL T.l x y)) (rangeL T.l x y).length W) := fun W x y hb => range_any T x y W (hT.below hb) (by omega)
  have hr0 : ∀ W, Below w1.heap.size w1 W → Calls Try.prog 13 #[ptrN T.p, .string ⟨#[]⟩, .string ⟨#[]⟩] W (OwnPost 63 2 (flatE encKV T.l) T.l.length W) := fun W hb => by
    have := hrg W ⟨#[]⟩ ⟨#[]⟩ hb
    rw [rangeL_all] at this
    exact this
  have hl1 : (rangeL T.l ⟨#[]⟩ lo).length ≤ 1000 := Nat.le_trans (rangeL_len _ _ _) (by omega)
  have hl2 : (rangeL T.l lo hi).length ≤ 1000 := Nat.le_trans (rangeL_len _ _ _) (by omega)
  have hl3 : (rangeL T.l hi ⟨#[]⟩).length ≤ 1000 := Nat.le_trans (rangeL_len _ _ _) (by omega)
  have hl4 : (rangeL T.l ⟨#[]⟩ hi).length ≤ 1000 := Nat.le_trans (rangeL_len _ _ _) (by omega)
  obtain ⟨s2, s3, b2, hp2, he2⟩ : ∃ s t b, (∀ W, FlrPost (flrL T.l hi) W = Ret (.tuple #[.agg #[.string s, .string t], .bool b]) W) ∧ s = oK (flrL T.l hi) ∧ t = oV (flrL T.l hi) ∧ b = (flrL T.l hi).isSome := ⟨_, _, _, fun _ => rfl, rfl, rfl, rfl⟩
  obtain ⟨s1, b1, hp1, he1⟩ : ∃ s b, (∀ W, GetPost (getL T.l hi) W = Ret (.tuple #[.string s, .bool b]) W) ∧ s = oV (getL T.l hi) ∧ b = (getL T.l hi).isSome := ⟨_, _, fun _ => rfl, rfl, rfl⟩
  have hfl : ∀ W, Below w1.heap.size w1 W → Calls Try.prog 34 #[ptrN T.p, .string hi] W (Ret (.tuple #[.agg #[.string s2, .string s3], .bool b2]) W) := fun W hb => by
    have := floor_any T hi W (hT.below hb) (by omega)
    rw [hp2] at this
    exact this
  have hge : ∀ W, Below w1.heap.size w1 W → Calls Try.prog 35 #[ptrN T.p, .string hi] W (Ret (.tuple #[.string s1, .bool b1]) W) := fun W hb => by
    have := get_any T hi W (hT.below hb) (by omega)
    rw [hp1] at this
    exact this
  have hlow := fun h => flr_before (L := T.l) (k := hi) hs hhe h
  have hgt := fun q h => flr_get (L := T.l) (k := hi) (q := q) hs h
  have hl0 : T.l.length ≤ 300 := by omega
  have hra := fun W => hrg W ⟨#[]⟩ lo
  have hrb := fun W => hrg W lo hi
  have hrc := fun W => hrg W hi ⟨#[]⟩
  have hrd := fun W => hrg W ⟨#[]⟩ hi
  clear hrg hp1 hp2 hT hv hs hl
  generalize rangeL T.l ⟨#[]⟩ lo = L1 at *
  generalize rangeL T.l lo hi = L2 at *
  generalize rangeL T.l hi ⟨#[]⟩ = L3 at *
  generalize rangeL T.l ⟨#[]⟩ hi = L4 at *
  have HRA := Lib.hid hra; have HRB := Lib.hid hrb; have HRC := Lib.hid hrc; have HRD := Lib.hid hrd; have HR0 := Lib.hid hr0; have HFL := Lib.hid hfl; have HGE := Lib.hid hge; have HE1 := Lib.hid he1; have HE2 := Lib.hid he2; have HALL := Lib.hid hall; have HLOW := Lib.hid hlow; have HGT := Lib.hid hgt
  obtain ⟨i0, hi', hz0, hz1, hz2⟩ := info_parts infoP
  have hms : maxLen = 9223372036854775807 := rfl
  have HMS := Lib.hid hms
  clear hra hrb hrc hrd hr0 hfl hge he1 he2 hall hlow hgt hms
  go_wp2_with fail
  refine (HRA.out _ (bl_refl _)).mono ?_
  rintro e w2 ⟨v2, rfl, ho2, hb2⟩
  have HO2 := Lib.hid ho2; have HB2 := Lib.hid hb2
  clear ho2 hb2
  obtain ⟨pa2, pc2, rfl⟩ := row_slice HO2.out
  go_wp2_with fail
  refine (HRB.out _ HB2.out).mono ?_
  rintro e w3 ⟨v3, rfl, ho3, hb3⟩
  have hb13 := bl_trans HB2.out hb3
  have HO3 := Lib.hid (row_below HO2.out hb3)
  have HB3 := Lib.hid hb13
  have HSRC := Lib.hid (src_row encKV_len ho3)
  obtain ⟨pa3, pc3, rfl⟩ := row_slice ho3
  clear ho3 hb3 hb13 HO2 HB2
  go_upto_region 9 with (at_builtin; refine wpList_append_any_at rfl _ _ 27 rfl w1.heap.size 63 i0 _ 2 32 Try.underlying27 hi' hz0 hz1 hz2 (by rfl) (by decide) (.slice pa2 L1.length pc2) L1.length _ rfl HO3.out _ L2.length _ rfl HSRC.out (one_flat encKV_one _) (by have := HMS.out; omega) (by omega) (by have := HB3.out.size; omega) ?_; intro v4 w4 ho4 hg4 _)
  have hb4 : Below w1.heap.size w1 w4 := HB3.out.grown hg4 HB3.out.size (fun k e => (HO3.out.lt k e).1)
  have HO4 := Lib.hid ho4; have HB4 := Lib.hid hb4
  clear ho4 hb4 hg4 HO3 HB3 HSRC
  obtain ⟨pa4, pc4, rfl⟩ := row_slice HO4.out
  go_wp2_with fail
  refine (HRC.out _ HB4.out).mono ?_
  rintro e w5 ⟨v5, rfl, ho5, hb5⟩
  have hb15 := bl_trans HB4.out hb5
  have HO5 := Lib.hid (row_below HO4.out hb5)
  have HB5 := Lib.hid hb15
  have HSRC := Lib.hid (src_row encKV_len ho5)
  obtain ⟨pa5, pc5, rfl⟩ := row_slice ho5
  clear ho5 hb5 hb15 HO4 HB4
  go_upto_region 10 with (at_builtin; refine wpList_append_any_at rfl _ _ 27 rfl w1.heap.size 63 i0 _ 2 32 Try.underlying27 hi' hz0 hz1 hz2 (by rfl) (by decide) (.slice pa4 (L1.length + L2.length) pc4) (L1.length + L2.length) _ rfl HO5.out _ L3.length _ rfl HSRC.out (one_flat encKV_one _) (by have := HMS.out; omega) (by omega) (by have := HB5.out.size; omega) ?_; intro v6 w6 ho6 hg6 _)
  have hb6 : Below w1.heap.size w1 w6 := HB5.out.grown hg6 HB5.out.size (fun k e => (HO5.out.lt k e).1)
  have ho6' : w6.ownsRow w1.heap.size 63 2 v6 T.l.length (flatE encKV T.l) := by
    have e : L1.length + L2.length + L3.length = T.l.length := by
      have := congrArg List.length HALL.out
      simp at this
      omega
    rw [← e, ← HALL.out, flatE_append, flatE_append]
    exact ho6
  have HO6 := Lib.hid ho6'; have HB6 := Lib.hid hb6
  clear ho6 ho6' hb6 hg6 HO5 HB5 HSRC
  obtain ⟨pa6, pc6, rfl⟩ := row_slice HO6.out
  go_wp2_with fail
  refine (HFL.out _ HB6.out).mono ?_
  rintro e w7 ⟨rfl, hb7⟩
  have hb17 := bl_trans HB6.out hb7
  go_wp2_with fail
  refine (HGE.out _ (bl_trans hb17 (bl_alloc _ _))).mono ?_
  rintro e w8 ⟨rfl, hb8⟩
  have hb78 := bl_trans (bl_alloc w7 (.cells #[.string s2, .string s3] 63)) hb8
  have bP := (Blk.new w7 63 #[.string s2, .string s3]).below hb8 (by simp)
  obtain ⟨P, hP⟩ : ∃ P, P = w7.heap.size := ⟨_, rfl⟩
  rw [← hP] at bP ⊢
  have hb68 := bl_trans hb7 hb78
  have hb18 := bl_trans HB6.out hb68
  clear hP hb7 hb17 hb8 hb78
  go_wp2_with fail
  refine (HRD.out _ hb18).mono ?_
  rintro e w9 ⟨v9, rfl, ho9, hb9⟩
  have hx6 : IsRow 2 encKV w9 (.slice pa6 T.l.length pc6) T.l := IsRow.of_row encKV_len (row_below (row_below HO6.out hb68) hb9) (by show T.l.length ≤ maxLen; unfold maxLen; omega)
  have HX6 := Lib.hid hx6
  have bP9 := bP.below hb9 bP.lt
  have hb19 := bl_trans hb18 hb9
  obtain ⟨pa9, pc9, rfl⟩ := row_slice ho9
  have HO9 := Lib.hid ho9; have HB9 := Lib.hid hb19
  have p0 := bP9.cell 0
  have p1 := bP9.cell 1
  simp only [List.getElem?_toArray, List.getElem?_cons_zero, List.getElem?_cons_succ] at p0 p1
  clear ho9 hb9 hb18 hb68 hb19 hx6 bP bP9 HO6 HB6
  cases hget : getL T.l hi with
  | some q =>
    have hgq := HGT.out q hget
    have hee1 : s1 = q.v ∧ b1 = true := by have := HE1.out; rw [hget] at this; exact this
    have hee2 : s2 = q.k ∧ s3 = q.v ∧ b2 = true := by have := HE2.out; rw [hgq.1] at this; exact this
    obtain ⟨rfl, rfl⟩ := hee1
    obtain ⟨rfl, rfl, rfl⟩ := hee2
    obtain rfl := hgq.2
    clear HE1 HE2 hgq hget HGT HLOW
    go_wp2_with fail
    refine (HR0.out _ HB9.out).mono ?_
    rintro e w10 ⟨v10, rfl, ho10, hb10⟩
    have hx10 : IsRow 2 encKV w10 v10 T.l := IsRow.of_row encKV_len ho10 (by show T.l.length ≤ maxLen; unfold maxLen; omega)
    obtain ⟨pa10, pc10, rfl⟩ := row_slice ho10
    have hsm := same_any T.l T.l (.slice pa6 T.l.length pc6) (.slice pa10 T.l.length pc10) w10 (HX6.out.below hb10) hx10 (by omega) (by omega)
    rw [decide_eq_true rfl] at hsm
    have HSM := Lib.hid hsm
    have hb110 := bl_trans HB9.out hb10
    clear hsm hx10 ho10 hb10
    go_wp2_with fail
    refine HSM.out.mono ?_
    rintro e w11 ⟨rfl, hb11⟩
    go_wp2_with fail
    refine (lives_any _).mono ?_
    rintro e w12 ⟨rfl, hb12⟩
    go_wp2
    go_ret
    exact ⟨rfl, bl_trans hb1 (bl_trans hb110 (bl_trans hb11 hb12))⟩
  | none =>
    have hee1 : s1 = ⟨#[]⟩ ∧ b1 = false := by have := HE1.out; rw [hget] at this; exact this
    have hfb := HLOW.out hget
    obtain ⟨rfl, rfl⟩ := hee1
    rcases List.eq_nil_or_concat L4 with h4 | ⟨ini, x, h4⟩
    · have hee2 : s2 = ⟨#[]⟩ ∧ s3 = ⟨#[]⟩ ∧ b2 = false := by have := HE2.out; rw [hfb, h4] at this; exact this
      obtain ⟨rfl, rfl, rfl⟩ := hee2
      have hz : L4.length = 0 := by rw [h4]; rfl
      have hz2 : ((L4.length : Nat) : Int) = 0 := by omega
      have d1 : decide ((0 : Int) < ((L4.length : Nat) : Int)) = false := decide_eq_false (by omega)
      clear HE1 HE2 hget hfb h4 HGT HLOW
      go_upto_region 15 with (fail)
      refine wp_region_quiet_lit (by kernel_rfl) (by kernel_rfl) ?_
      repeat (go_big_quiet_step (fail))
      refine wpQuiet_nil ?_
      rintro w10' ⟨nq, rfl⟩
      have HBQ := Lib.hid (bl_drewN HB9.out nq)
      have HXQ := Lib.hid (HX6.out.below (bl_drewN (bl_refl w9) nq))
      go_wp2_with fail
      refine (HR0.out _ HBQ.out).mono ?_
      rintro e w10 ⟨v10, rfl, ho10, hb10⟩
      have hx10 : IsRow 2 encKV w10 v10 T.l := IsRow.of_row encKV_len ho10 (by show T.l.length ≤ maxLen; unfold maxLen; omega)
      obtain ⟨pa10, pc10, rfl⟩ := row_slice ho10
      have hsm := same_any T.l T.l (.slice pa6 T.l.length pc6) (.slice pa10 T.l.length pc10) w10 (HXQ.out.below hb10) hx10 (by omega) (by omega)
      rw [decide_eq_true rfl] at hsm
      have HSM := Lib.hid hsm
      have hb110 := bl_trans HBQ.out hb10
      clear hsm hx10 ho10 hb10
      go_wp2_with fail
      refine HSM.out.mono ?_
      rintro e w11 ⟨rfl, hb11⟩
      go_wp2_with fail
      refine (lives_any _).mono ?_
      rintro e w12 ⟨rfl, hb12⟩
      go_wp2
      go_ret
      exact ⟨rfl, bl_trans hb1 (bl_trans hb110 (bl_trans hb11 hb12))⟩
    · have hee2 : s2 = x.k ∧ s3 = x.v ∧ b2 = true := by have := HE2.out; rw [hfb, h4] at this; simpa using this
      obtain ⟨rfl, rfl, rfl⟩ := hee2
      have hq : L4.length = ini.length + 1 := by rw [h4]; simp
      have hx : L4[ini.length]? = some x := by rw [h4]; simp
      obtain ⟨pb, cb, hpb, _, _, hop⟩ := RowA.open (L := L4) (row_base HO9.out (Nat.zero_le _))
      injection hpb with e1 e2 e3
      subst e1
      subst e3
      obtain ⟨g, cur, rfl, hg, _, _, hcell⟩ := hop (by omega)
      have c0 := (hcell _ x hx).1
      have c1 := (hcell _ x hx).2
      have d1 : decide (0 < L4.length) = true := decide_eq_true (by omega)
      have d2 : IntKind.i64.wrap (((L4.length : Nat) : Int) - 1) = (ini.length : Int) := by rw [IntWalk.i64_in _ (by omega)]; omega
      have hin : ini.length < L4.length := by omega
      clear HE1 HE2 hget hfb h4 HGT HLOW hx hcell hop e2 hq
      go_upto_region 15 with (fail)
      refine wp_region_quiet_lit (by kernel_rfl) (by kernel_rfl) ?_
      repeat (go_big_quiet_step (fail))
      refine wpQuiet_nil ?_
      rintro w10' ⟨nq, rfl⟩
      have HBQ := Lib.hid (bl_drewN HB9.out nq)
      have HXQ := Lib.hid (HX6.out.below (bl_drewN (bl_refl w9) nq))
      go_wp2_with fail
      refine (HR0.out _ HBQ.out).mono ?_
      rintro e w10 ⟨v10, rfl, ho10, hb10⟩
      have hx10 : IsRow 2 encKV w10 v10 T.l := IsRow.of_row encKV_len ho10 (by show T.l.length ≤ maxLen; unfold maxLen; omega)
      obtain ⟨pa10, pc10, rfl⟩ := row_slice ho10
      have hsm := same_any T.l T.l (.slice pa6 T.l.length pc6) (.slice pa10 T.l.length pc10) w10 (HXQ.out.below hb10) hx10 (by omega) (by omega)
      rw [decide_eq_true rfl] at hsm
      have HSM := Lib.hid hsm
      have hb110 := bl_trans HBQ.out hb10
      clear hsm hx10 ho10 hb10
      go_wp2_with fail
      refine HSM.out.mono ?_
      rintro e w11 ⟨rfl, hb11⟩
      go_wp2_with fail
      refine (lives_any _).mono ?_
      rintro e w12 ⟨rfl, hb12⟩
      go_wp2
      go_ret
      exact ⟨rfl, bl_trans hb1 (bl_trans hb110 (bl_trans hb11 hb12))⟩
end Go.Proofs.Ytmkhnpkbaegchaa
