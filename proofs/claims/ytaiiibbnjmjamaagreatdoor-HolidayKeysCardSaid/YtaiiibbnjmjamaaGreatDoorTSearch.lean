/- The walks of strings.Compare, of the binary search over the pairs of a node, and of search. Conditions: the pairs are in order and read as a row. -/
import Derived.Test.YtaiiibbnjmjamaaGreatDoorTCopy
import Derived.Deep.LoopGhost
namespace Go.Proofs.YtaiiibbnjmjamaaGreatDoor
open Go.RowKit

def cmpV (a b : ByteArray) : Int := if kl a b then -1 else if a = b then 0 else 1
set_option maxRecDepth 100000 in
set_option maxHeartbeats 1000000 in
theorem cmpStr_any (a b : ByteArray) (w : World) : Calls Tryz.prog 85 #[.string a, .string b] w (Pur (.int .i64 (cmpV a b)) w) := by
  have hc : cmpV a b = Lib.compareBytes a.data.toList b.data.toList := (cmp_k a b).symm
  go_enter Tryz.func85, Tryz.ntmps85
  go_wp2
  rw [run_callFunc_extern Tryz.func106 (by kernel_rfl) (by kernel_rfl) (by kernel_rfl) (e := Extern.BytealgCompare.compare) (by kernel_rfl), Lib.run_compareString]
  simp only [Result.andThen]
  rw [Oper.upon_value]
  go_wp2
  go_ret
  exact ⟨ret_int hc.symm, rfl⟩
set_option maxHeartbeats 1000000 in
theorem strCmp_any (a b : ByteArray) (w : World) : Calls Tryz.prog 69 #[.string a, .string b] w (Pur (.int .i64 (cmpV a b)) w) := by
  have hc := fun w => cmpStr_any a b w
  generalize cmpV a b = c at *
  go_enter Tryz.func69, Tryz.ntmps69
  go_wp2_with fail
  refine (hc _).mono ?_
  rintro e w1 ⟨rfl, rfl⟩
  go_wp2
  go_ret
  exact ⟨rfl, rfl⟩
set_option maxHeartbeats 1000000 in
theorem scmp_any (k v key : ByteArray) (w : World) : Calls Tryz.prog 68 #[.agg #[.string k, .string v], .string key] w (Ret (.int .i64 (cmpV k key)) w) := by
  have hc := fun w => strCmp_any k key w
  generalize cmpV k key = c at *
  go_enter Tryz.func68, Tryz.ntmps68
  go_wp2_with fail
  refine (hc _).mono ?_
  rintro e w1 ⟨rfl, rfl⟩
  go_wp2
  go_ret
  exact ⟨rfl, bl_alloc _ _⟩

/-- the place of a key among the pairs of a node -/
structure SrchOk (ps : List KV) (key : ByteArray) (i : Nat) (ok : Bool) : Prop where
  le : i ≤ ps.length
  lo : ∀ x ∈ ps.take i, kl x.k key = true
  yes : ok = true → ∃ x, ps[i]? = some x ∧ x.k = key
  no : ok = false → ∀ x ∈ ps.drop i, kl key x.k = true
/-- what is known in the midst of the search -/
def BInv (ps : List KV) (key : ByteArray) (a b : Nat) : Prop :=
  (∀ t x, t < a → ps[t]? = some x → kl x.k key = true) ∧ (∀ t x, b ≤ t → ps[t]? = some x → kl x.k key = false)
theorem srt_at {ps : List KV} (h : Srt ps) {i j : Nat} (hij : i < j) {x y : KV} (hx : ps[i]? = some x) (hy : ps[j]? = some y) : kl x.k y.k = true := by
  obtain ⟨h1, rfl⟩ := List.getElem?_eq_some_iff.1 hx
  obtain ⟨h2, rfl⟩ := List.getElem?_eq_some_iff.1 hy
  exact List.pairwise_iff_getElem.1 h i j h1 h2 hij
theorem BInv.start (ps : List KV) (key : ByteArray) : BInv ps key 0 ps.length :=
  ⟨fun _ _ h => absurd h (Nat.not_lt_zero _), fun t x h e => by rw [List.getElem?_eq_none h] at e; cases e⟩
theorem BInv.right {ps : List KV} {key : ByteArray} {a b h : Nat} {x : KV} (hi : BInv ps key a b) (hs : Srt ps) (hx : ps[h]? = some x) (hc : kl x.k key = true) : BInv ps key (h + 1) b :=
  ⟨fun t y ht hy => by
    rcases Nat.lt_or_ge t h with q | q
    · exact kl_trans (srt_at hs q hy hx) hc
    · obtain rfl : t = h := by omega
      rw [hx] at hy; cases hy; exact hc, hi.2⟩
theorem BInv.left {ps : List KV} {key : ByteArray} {a b h : Nat} {x : KV} (hi : BInv ps key a b) (hs : Srt ps) (hx : ps[h]? = some x) (hc : kl x.k key = false) : BInv ps key a h :=
  ⟨hi.1, fun t y ht hy => by
    rcases Nat.lt_or_ge h t with q | q
    · cases e : kl y.k key
      · rfl
      · rw [kl_trans (srt_at hs q hx hy) e] at hc; cases hc
    · obtain rfl : t = h := by omega
      rw [hx] at hy; cases hy; exact hc⟩
theorem BInv.ok {ps : List KV} {key : ByteArray} {i : Nat} (hi : BInv ps key i i) (hs : Srt ps) (hl : i ≤ ps.length) : SrchOk ps key i (match ps[i]? with | some x => decide (x.k = key) | none => false) := by
  refine ⟨hl, fun x hx => ?_, fun h => ?_, fun h x hx => ?_⟩
  · obtain ⟨t, ht⟩ := List.mem_iff_getElem?.1 hx
    have hlt : t < i := by have := (List.getElem?_eq_some_iff.1 ht).1; rw [List.length_take] at this; omega
    rw [List.getElem?_take_of_lt hlt] at ht
    exact hi.1 t x hlt ht
  · cases e : ps[i]? with
    | none => rw [e] at h; cases h
    | some x => rw [e] at h; exact ⟨x, rfl, of_decide_eq_true h⟩
  · obtain ⟨t, ht⟩ := List.mem_iff_getElem?.1 hx
    rw [List.getElem?_drop] at ht
    have h1 := hi.2 (i + t) x (Nat.le_add_right _ _) ht
    have h2 : i < ps.length := by have := (List.getElem?_eq_some_iff.1 ht).1; omega
    rw [List.getElem?_eq_getElem h2] at h
    have h3 : ps[i].k ≠ key := of_decide_eq_false h
    have h4 := hi.2 i ps[i] (Nat.le_refl _) (List.getElem?_eq_getElem h2)
    have h5 : kl key ps[i].k = true := by
      rcases kl_total ps[i].k key with q | q | q
      · rw [h4] at q; cases q
      · exact absurd q h3
      · exact q
    cases t with
    | zero => rw [Nat.add_zero, List.getElem?_eq_getElem h2] at ht; cases ht; exact h5
    | succ t => exact kl_trans h5 (srt_at hs (by omega : i < i + (t + 1)) (List.getElem?_eq_getElem h2) ht)
def SrchPost (ps : List KV) (key : ByteArray) (w : World) (e : Ending) (w' : World) : Prop :=
  ∃ i ok, SrchOk ps key i ok ∧ e = .returned (.tuple #[.int .i64 (i : Nat), .bool ok]) ∧ Below w.heap.size w w'
set_option maxRecDepth 100000 in
set_option maxHeartbeats 4000000 in
theorem bsf_any (ps : List KV) (key : ByteArray) (v : Value) (w : World) (hv : IsRow 2 encKV w v ps) (hs : Srt ps) (hl : ps.length ≤ 1000000000) :
    Calls Tryz.prog 67 #[v, .string key, .func (.func 68) #[] #[]] w (SrchPost ps key w) := by
  obtain ⟨pa, cap, rfl, _, hop⟩ := hv.open
  have HS := Lib.hid hs
  have HOP := Lib.hid hop
  have S0 := Lib.hid (BInv.start ps key)
  clear hv hs hop
  go_enter Tryz.func67, Tryz.ntmps67
  go_wp2
  go_loopg [9, 10] ps.length (fun kx s9 s10 wr => ∃ a b : Nat, s9 = .int .i64 a ∧ s10 = .int .i64 b ∧ a ≤ b ∧ b ≤ ps.length ∧ b - a ≤ kx ∧ Below w.heap.size w wr ∧ Hid (BInv ps key a b))
  case atStart => exact ⟨0, ps.length, rfl, rfl, Nat.zero_le _, Nat.le_refl _, by omega, bl_refl _, S0⟩
  case round =>
    clear S0
    obtain ⟨a, b, rfl, rfl, hab, hbn, hg, hB, I⟩ := hrel
    by_cases hlt : a < b
    · obtain ⟨g, off, rfl, hgl, hcell⟩ := HOP.out (by omega)
      obtain ⟨x, hx⟩ : ∃ x, ps[(a + b) / 2]? = some x := ⟨_, List.getElem?_eq_getElem (by omega)⟩
      have c0 := (hB.cell (p := ⟨g, off + (a + b) / 2 * 2 + 0, none⟩) hgl).trans (hcell _ x hx 0 _ rfl)
      have c1 := (hB.cell (p := ⟨g, off + (a + b) / 2 * 2 + 1, none⟩) hgl).trans (hcell _ x hx 1 _ rfl)
      rw [Nat.add_zero] at c0
      have HX := Lib.hid hx
      clear hx hcell
      have hc := fun w => scmp_any x.k x.v key w
      have hcv : cmpV x.k key = if kl x.k key then -1 else if x.k = key then 0 else 1 := rfl
      generalize hq : cmpV x.k key = q at hc hcv
      have HC := Lib.hid hc
      clear hc hq
      by_cases hneg : q < 0
      · have hk : kl x.k key = true := by
          cases e : kl x.k key
          · rw [e] at hcv; simp at hcv; split at hcv <;> omega
          · rfl
        clear hcv
        go_wp2_with fail
        refine (HC.out _).mono ?_
        rintro e w1 ⟨rfl, hb⟩
        go_wp2
        go_roundg (b - ((a + b) / 2 + 1))
        case measure => omega
        case rel => exact ⟨(a + b) / 2 + 1, b, by rw [show ((a : Int) + (b : Int)) / 2 + 1 = (((a + b) / 2 + 1 : Nat) : Int) by omega], rfl, by omega, hbn, Nat.le_refl _, bl_trans hB hb, Lib.hid (I.out.right HS.out HX.out hk)⟩
      · have hk : kl x.k key = false := by
          cases e : kl x.k key
          · rfl
          · rw [e] at hcv; simp at hcv; omega
        clear hcv
        go_wp2_with fail
        refine (HC.out _).mono ?_
        rintro e w1 ⟨rfl, hb⟩
        go_wp2
        go_roundg ((a + b) / 2 - a)
        case measure => omega
        case rel => exact ⟨a, (a + b) / 2, rfl, by rw [show ((a : Int) + (b : Int)) / 2 = (((a + b) / 2 : Nat) : Int) by omega], by omega, by omega, Nat.le_refl _, bl_trans hB hb, Lib.hid (I.out.left HS.out HX.out hk)⟩
    · obtain rfl : b = a := by omega
      have hok := I.out.ok HS.out hbn
      by_cases hn : b < ps.length
      · obtain ⟨g, off, rfl, hgl, hcell⟩ := HOP.out (by omega)
        obtain ⟨x, hx⟩ : ∃ x, ps[b]? = some x := ⟨_, List.getElem?_eq_getElem hn⟩
        have c0 := (hB.cell (p := ⟨g, off + b * 2 + 0, none⟩) hgl).trans (hcell _ x hx 0 _ rfl)
        have c1 := (hB.cell (p := ⟨g, off + b * 2 + 1, none⟩) hgl).trans (hcell _ x hx 1 _ rfl)
        rw [Nat.add_zero] at c0
        rw [hx] at hok
        have hc := fun w => scmp_any x.k x.v key w
        have hcv : cmpV x.k key = if kl x.k key then -1 else if x.k = key then 0 else 1 := rfl
        have hno := I.out.2 b x (Nat.le_refl _) hx
        rw [hno] at hcv
        clear hx hcell hno
        generalize hq : cmpV x.k key = q at hc hcv
        have HC := Lib.hid hc
        clear hc hq
        have HOK := Lib.hid hok
        clear hok
        by_cases h0 : q = 0
        · have hk : x.k = key := by
            by_cases e : x.k = key
            · exact e
            · rw [if_neg e] at hcv; simp at hcv; omega
          have ho : SrchOk ps key b (decide (x.k = key)) := HOK.out
          rw [show (decide (x.k = key)) = true from decide_eq_true hk] at ho
          have HO := Lib.hid ho
          clear ho HOK hk hcv
          go_wp2_with fail
          refine (HC.out _).mono ?_
          rintro e w1 ⟨rfl, hb⟩
          go_wp2
          go_ret2
          exact ⟨b, true, HO.out, rfl, bl_trans hB hb⟩
        · have hk : x.k ≠ key := fun e => by rw [if_pos e] at hcv; simp at hcv; omega
          have ho : SrchOk ps key b (decide (x.k = key)) := HOK.out
          rw [show (decide (x.k = key)) = false from decide_eq_false hk] at ho
          have HO := Lib.hid ho
          clear ho HOK hk hcv
          go_wp2_with fail
          refine (HC.out _).mono ?_
          rintro e w1 ⟨rfl, hb⟩
          go_wp2
          go_ret2
          refine ⟨b, false, HO.out, ?_, bl_trans hB hb⟩
          show Ending.returned (.tuple #[.int .i64 b, .bool (q == 0)]) = _
          rw [show (q == 0) = false by simpa using h0]
      · rw [List.getElem?_eq_none (by omega)] at hok
        have HO := Lib.hid hok
        clear hok
        go_wp2
        go_ret2
        exact ⟨b, false, HO.out, rfl, hB⟩
set_option maxRecDepth 100000 in
set_option maxHeartbeats 1000000 in
theorem search_any {F : Nat → Prop} (p : Nat) (ps : List KV) (ks : List Kid) (sz : Nat) (key : ByteArray) (w : World) (h : NodeAt F w p ps ks sz) (hs : Srt ps) (hl : ps.length ≤ 1000000000) :
    Calls Tryz.prog 47 #[ptrN p, .string key] w (SrchPost ps key w) := by
  obtain ⟨vp, vk, hb, hp, hk, _⟩ := h
  have hc := bsf_any ps key vp w hp hs hl
  have c0 := hb.cell 0
  simp at c0
  have HC := Lib.hid hc
  clear hc hp hk hb hs hl
  go_enter Tryz.func47, Tryz.ntmps47
  go_wp2_with fail
  refine HC.out.mono ?_
  rintro e w1 ⟨i, ok, hok, rfl, hb⟩
  go_wp2
  go_ret2
  exact ⟨i, ok, hok, rfl, hb⟩
end Go.Proofs.YtaiiibbnjmjamaaGreatDoor
