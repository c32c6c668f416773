/- Several texts in one, each with its own word at its head. Conditions: stated there. -/
import Derived.Test.YtaiiibbnjmjamaaGreatDoorTTree
import Derived.Test.YtaiiibbnjmjamaaGreatDoorKK
import Derived.Laws.EntriesVeiled
/- Plain words and words on memory for the way down a tree: what the search at a node tells of the whole list below it. Conditions: stated at each. -/
namespace Go.Proofs.YtaiiibbnjmjamaaGreatDoor
open Go.RowKit

def getL (l : List KV) (k : ByteArray) : Option KV := l.find? fun x => decide (x.k = k)
/-- the last pair whose key is not behind a key -/
def flrL (l : List KV) (k : ByteArray) : Option KV := (l.filter fun x => !kl k x.k).getLast?
theorem getL_none {l : List KV} {k : ByteArray} (h : ∀ x ∈ l, x.k ≠ k) : getL l k = none := List.find?_eq_none.2 fun x hx => by simpa using h x hx
theorem getL_mid {a b c : List KV} {k : ByteArray} (ha : ∀ x ∈ a, kl x.k k = true) (hc : ∀ x ∈ c, kl k x.k = true) : getL (a ++ (b ++ c)) k = getL b k := by
  have h1 := getL_none (fun x hx => kl_ne (ha x hx))
  have h2 := getL_none (fun x hx => (kl_ne (hc x hx)).symm)
  unfold getL at *
  rw [List.find?_append, List.find?_append, h1, h2]
  cases List.find? _ b <;> rfl
theorem flr_mid {a b c : List KV} {k : ByteArray} (ha : ∀ x ∈ a, kl x.k k = true) (hc : ∀ x ∈ c, kl k x.k = true) : flrL (a ++ (b ++ c)) k = (flrL b k).or a.getLast? := by
  unfold flrL
  have h1 : a.filter (fun x => !kl k x.k) = a := List.filter_eq_self.2 fun x hx => by rw [kl_asym (ha x hx)]; rfl
  have h2 : c.filter (fun x => !kl k x.k) = [] := List.filter_eq_nil_iff.2 fun x hx => by rw [hc x hx]; simp
  rw [List.filter_append, List.filter_append, h1, h2, List.append_nil, List.getLast?_append]
theorem get_pair {U V : List KV} {q : KV} (h : Srt (U ++ q :: V)) : getL (U ++ q :: V) q.k = some q := by
  have h1 := srt_mid h
  rw [show U ++ q :: V = U ++ ([q] ++ V) by simp, getL_mid h1.1 h1.2]
  unfold getL; simp
theorem flr_pair {U V : List KV} {q : KV} (h : Srt (U ++ q :: V)) : flrL (U ++ q :: V) q.k = some q := by
  have h1 := srt_mid h
  rw [show U ++ q :: V = U ++ ([q] ++ V) by simp, flr_mid h1.1 h1.2]
  unfold flrL; simp [kl_irr]
theorem wpre_last : ∀ (A : List KV) (FA : List (List KV)), FA.length = A.length → (wpre A FA).getLast? = A.getLast?
  | [], _, _ => rfl
  | _ :: _, [], h => by simp at h
  | a :: A, f :: FA, h => by
    have ih := wpre_last A FA (by simpa using h)
    show (f ++ a :: wpre A FA).getLast? = _
    rw [List.getLast?_append, List.getLast?_cons, List.getLast?_cons, ih]; rfl
/-- what the search at a node tells of the whole list below it -/
theorem down_yes {ps : List KV} {fs : List (List KV)} {k : ByteArray} {i : Nat} {q : KV} (hs : Srt (weave ps fs)) (hl : fs = [] ∨ fs.length = ps.length + 1) (hq : ps[i]? = some q) (e : q.k = k) : getL (weave ps fs) k = some q ∧ flrL (weave ps fs) k = some q := by
  obtain ⟨U, V, h1, _⟩ := weave_pair ps fs i q hq hl
  subst e
  rw [h1] at hs ⊢
  exact ⟨get_pair hs, flr_pair hs⟩
theorem take_last {ps : List KV} {i : Nat} : (ps.take i).getLast? = if i = 0 then none else if i ≤ ps.length then ps[i - 1]? else ps.getLast? := by
  split
  · rename_i h; subst h; rfl
  · split
    · rw [List.getLast?_eq_getElem?, List.length_take, Nat.min_eq_left (by assumption), List.getElem?_take_of_lt (by omega)]
    · rw [List.take_of_length_le (by omega)]
theorem down_leaf {ps : List KV} {k : ByteArray} {i : Nat} (h1 : ∀ x ∈ ps.take i, kl x.k k = true) (h2 : ∀ x ∈ ps.drop i, kl k x.k = true) : getL ps k = none ∧ flrL ps k = (ps.take i).getLast? := by
  have a := getL_mid (a := ps.take i) (b := []) (c := ps.drop i) h1 h2
  have b := flr_mid (a := ps.take i) (b := []) (c := ps.drop i) h1 h2
  rw [List.nil_append, List.take_append_drop] at a b
  exact ⟨a, b⟩
theorem down_kid {ps : List KV} {fs : List (List KV)} {k : ByteArray} {i : Nat} {f : List KV} (hl : fs.length = ps.length + 1) (hi : i ≤ ps.length) (hf : fs[i]? = some f) (hs : Srt (weave ps fs)) (h1 : ∀ x ∈ ps.take i, kl x.k k = true) (h2 : ∀ x ∈ ps.drop i, kl k x.k = true) :
    getL (weave ps fs) k = getL f k ∧ flrL (weave ps fs) k = (flrL f k).or (ps.take i).getLast? := by
  obtain ⟨_, h3, _⟩ := weave_child hl hi hf
  rw [h3] at hs ⊢
  have a1 := wpre_lt hs h1
  have a2 := wpost_gt (srt_append.1 (srt_append.1 hs).2.1).2.1 h2
  refine ⟨getL_mid a1 a2, ?_⟩
  rw [flr_mid a1 a2, wpre_last _ _ (by simp; omega)]
/-- a node as it is read on the way down -/
theorem NodeAt.cells {F : Nat → Prop} {w : World} {p : Nat} {ps : List KV} {ks : List Kid} {sz : Nat} (h : NodeAt F w p ps ks sz) :
    ∃ pa pc ka kc, w.cell? ⟨p, 0, none⟩ = some (.slice pa ps.length pc) ∧ w.cell? ⟨p, 1, none⟩ = some (.slice ka ks.length kc) ∧ p < w.heap.size ∧
      (∀ i q, ps[i]? = some q → ∃ g o, pa = some ⟨g, o, none⟩ ∧ g < w.heap.size ∧ w.cell? ⟨g, o + i * 2, none⟩ = some (.string q.k) ∧ w.cell? ⟨g, o + i * 2 + 1, none⟩ = some (.string q.v)) ∧
      (∀ i y, ks[i]? = some y → ∃ g o, ka = some ⟨g, o, none⟩ ∧ g < w.heap.size ∧ w.cell? ⟨g, o + i, none⟩ = some (ptrN y.p)) := by
  obtain ⟨vp, vk, h1, h2, h3, _⟩ := h
  obtain ⟨pa, pc, rfl, _, hp⟩ := h2.open
  obtain ⟨ka, kc, rfl, _, hk⟩ := h3.open
  have c0 := h1.cell 0
  have c1 := h1.cell 1
  simp at c0 c1
  refine ⟨pa, pc, ka, kc, c0, c1, h1.lt, fun i q hq => ?_, fun i y hy => ?_⟩
  · obtain ⟨g, o, e, hg, hc⟩ := hp (by have := (List.getElem?_eq_some_iff.1 hq).1; omega)
    exact ⟨g, o, e, hg, hc i q hq 0 _ rfl, hc i q hq 1 _ rfl⟩
  · obtain ⟨g, o, e, hg, hc⟩ := hk (by have := (List.getElem?_eq_some_iff.1 hy).1; omega)
    have := hc i y hy 0 _ rfl
    rw [Nat.mul_one, Nat.add_zero] at this
    exact ⟨g, o, e, hg, this⟩
end Go.Proofs.YtaiiibbnjmjamaaGreatDoor
/- The walk of visit: it yields the pairs of the tree below a node whose keys are at least a key, in order, until it is told to stop. Conditions: the tree lies in memory, its pairs are in order. -/
namespace Go.Proofs.YtaiiibbnjmjamaaGreatDoor
open Go.RowKit
attribute [local go_sem] Oper.semAt_some

/-- the pairs whose keys are at least a key -/
def rngL (l : List KV) (k : ByteArray) : List KV := l.filter fun x => !kl x.k k
theorem rng_append (a b : List KV) (k : ByteArray) : rngL (a ++ b) k = rngL a k ++ rngL b k := List.filter_append ..
theorem rng_cons {x : KV} {k : ByteArray} (h : kl x.k k = false) (l : List KV) : rngL (x :: l) k = x :: rngL l k := List.filter_cons_of_pos (by rw [h]; rfl)
theorem rng_none {l : List KV} {k : ByteArray} (h : ∀ x ∈ l, kl x.k k = true) : rngL l k = [] := List.filter_eq_nil_iff.2 fun x hx => by rw [h x hx]; simp
theorem SrchOk.ge {ps : List KV} {key : ByteArray} {i : Nat} {ok : Bool} (h : SrchOk ps key i ok) (hs : Srt ps) : ∀ t q, i ≤ t → ps[t]? = some q → kl q.k key = false := fun t q ht hq => by
  cases ok with
  | false =>
    have : q ∈ ps.drop i := List.mem_iff_getElem?.2 ⟨t - i, by rw [List.getElem?_drop, show i + (t - i) = t by omega]; exact hq⟩
    exact kl_asym (h.no rfl q this)
  | true =>
    obtain ⟨q0, h0, h1⟩ := h.yes rfl
    rcases Nat.lt_or_ge i t with e | e
    · exact kl_asym (h1 ▸ srt_at hs e h0 hq)
    · obtain rfl : t = i := by omega
      rw [hq] at h0; cases h0
      rw [h1]; exact kl_irr _
theorem rng_start {ps : List KV} {fs : List (List KV)} {key : ByteArray} {i : Nat} (hl : fs = [] ∨ fs.length = ps.length + 1) (hi : i ≤ ps.length) (hs : Srt (weave ps fs)) (h1 : ∀ x ∈ ps.take i, kl x.k key = true) : rngL (weave ps fs) key = rngL (weave (ps.drop i) (fs.drop i)) key := by
  rcases hl with rfl | hl
  · rw [List.drop_nil, weave_nil, weave_nil]
    conv => lhs; rw [← List.take_append_drop i ps, rng_append, rng_none h1, List.nil_append]
  · have h2 := weave_split (ps.take i) (fs.take i) (ps.drop i) (fs.drop i) (by simp; omega)
    rw [List.take_append_drop, List.take_append_drop] at h2
    rw [h2] at hs ⊢
    rw [rng_append, rng_none (wpre_lt hs h1), List.nil_append]
theorem rng_leaf {ps : List KV} {key : ByteArray} {t : Nat} {q : KV} (hq : ps[t]? = some q) (h : kl q.k key = false) : rngL (weave (ps.drop t) (([] : List (List KV)).drop t)) key = q :: rngL (weave (ps.drop (t + 1)) (([] : List (List KV)).drop (t + 1))) key := by
  obtain ⟨ht, rfl⟩ := List.getElem?_eq_some_iff.1 hq
  rw [List.drop_nil, List.drop_nil, weave_nil, weave_nil, List.drop_eq_getElem_cons ht, rng_cons h]
theorem rng_inner {ps : List KV} {fs : List (List KV)} {key : ByteArray} {t : Nat} {q : KV} {f : List KV} (hq : ps[t]? = some q) (hf : fs[t]? = some f) (h : kl q.k key = false) : rngL (weave (ps.drop t) (fs.drop t)) key = rngL f key ++ q :: rngL (weave (ps.drop (t + 1)) (fs.drop (t + 1))) key := by
  obtain ⟨ht, rfl⟩ := List.getElem?_eq_some_iff.1 hq
  obtain ⟨ht2, rfl⟩ := List.getElem?_eq_some_iff.1 hf
  rw [List.drop_eq_getElem_cons ht, List.drop_eq_getElem_cons ht2]
  show rngL (fs[t] ++ ps[t] :: weave _ _) key = _
  rw [rng_append, rng_cons h]
theorem rng_last {ps : List KV} {fs : List (List KV)} {key : ByteArray} {f : List KV} (hl : fs.length = ps.length + 1) (hf : fs[ps.length]? = some f) : rngL (weave (ps.drop ps.length) (fs.drop ps.length)) key = rngL f key := by
  obtain ⟨ht2, rfl⟩ := List.getElem?_eq_some_iff.1 hf
  rw [List.drop_length, List.drop_eq_getElem_cons ht2, List.drop_eq_nil_of_le (by omega)]; rfl
def encY (x : KV) : Array Value := #[aggP x]
theorem YieldAt.any {n m : Nat} {P : Program} {l : Nat} {args : Array Value} {W : World} {R : Ending → World → Prop} (h : YieldAt Fence.wide n P l args W R) : YieldAt Fence.wide m P l args W R := by
  obtain ⟨fn, tmps, assign, body, h1, h2⟩ := h
  exact ⟨fn, tmps, assign, body, h1, h2.1, fun c cs _ => h2.2 c cs (room_wide _)⟩
def VisPost (n₀ : Nat) (w0 : World) (R : List KV) (J Jx : List KV → World → Prop) (pre : List KV) (e : Ending) (W' : World) : Prop :=
  (e = .returned (.bool true) ∧ J (pre ++ R) W' ∧ Below n₀ w0 W') ∨ (e = .returned (.bool false) ∧ ∃ q, q <+: R ∧ Jx (pre ++ q) W')
theorem grown_none {w w' : World} (h : Below w.heap.size w w') : w.grownBy w' none := ⟨h.os, h.tape, h.output, h.size, fun k hk _ => h.block k hk⟩
theorem AbidesT.bl {β : Type} {B : Nat} {J : β → World → Prop} (hJ : AbidesT (fun _ => false) B J) {s : β} {w w' : World} (h : J s w) (hb : Below w.heap.size w w') : J s w' := hJ s w w' none h (grown_none hb) (fun r e => by cases e)
set_option maxRecDepth 100000 in
set_option maxHeartbeats 8000000 in
theorem visit_step (l : Nat) (J Jx : List KV → World → Prop) (w0 : World) (key : ByteArray) (N : Nat) (n : Nat) (_hn : 1 ≤ n)
    (hJ : AbidesT (fun _ => false) w0.heap.size J)
    (hY : ∀ pre x W1, J pre W1 → pre.length < N → YieldAt Fence.wide (n - 1) Tryz.prog l (encY x) W1 fun e W' =>
      (e = .returned (.bool true) ∧ J (pre ++ [x]) W' ∧ Below w0.heap.size W1 W') ∨ (e = .returned (.bool false) ∧ Jx (pre ++ [x]) W'))
    (h : Nat) (x : Kid) (pre : List KV) (W : World) (hx : IsN Any h w0 x) (hs : Srt x.l) (hlen : x.l.length ≤ 100000) (hB : Below w0.heap.size w0 W) (h0 : J pre W) (hN : pre.length + (rngL x.l key).length ≤ N)
    (hrec : ∀ h', h = h' + 1 → ∀ (y : Kid) (pre : List KV) (W : World), IsN Any h' w0 y → Srt y.l → y.l.length ≤ 100000 → Below w0.heap.size w0 W → J pre W → pre.length + (rngL y.l key).length ≤ N →
      Calls Tryz.prog 59 #[ptrN y.p, .string key, .func (.yield l) #[] #[]] W (VisPost w0.heap.size w0 (rngL y.l key) J Jx pre)) :
    CallsIn Fence.wide n Tryz.prog 59 #[ptrN x.p, .string key, .func (.yield l) #[] #[]] W (VisPost w0.heap.size w0 (rngL x.l key) J Jx pre) := by
  obtain ⟨ps, ks, hn⟩ := hx.node
  have hsh := hn.shape
  have hsf : ks.map Kid.l = [] ∨ (ks.map Kid.l).length = ps.length + 1 := by rcases hsh with e | e; exact .inl (by simp [e]); exact .inr (by simp [e])
  have hsw : Srt (weave ps (ks.map Kid.l)) := hn.l ▸ hs
  have hlp : ps.length ≤ 100000 := by have := hn.len; omega
  have hso := srt_own hsf hsw
  have hsr := fun W (hb : Below w0.heap.size w0 W) => search_any x.p ps ks _ key W (hn.at_.below hb) hso (by omega)
  obtain ⟨pa, pc, ka, kc, d0, d1, hy0, hpp, hkk⟩ := hn.at_.cells
  have HSR := Lib.hid hsr; have HND := Lib.hid hn; have HSF := Lib.hid hsf; have HSW := Lib.hid hsw; have HPP := Lib.hid hpp; have HKK := Lib.hid hkk; have HSH := Lib.hid hsh; have HSO := Lib.hid hso; have HJ := Lib.hid hJ; have HY := Lib.hid hY; have HREC := Lib.hid hrec; have HNN := Lib.hid hN; have HJ0 := Lib.hid h0; have HLEN := Lib.hid hlen
  clear hsr hn hsf hsw hpp hkk hsh hso hJ hY hrec hN h0 hx hs hlen
  refine callsIn_of_wp Tryz.func59 rfl trivial ?_ rfl
  simp only [Tryz.ntmps59, List.size_toArray, List.length_cons, List.length_nil, Nat.reduceAdd, Nat.reduceSub, Array.replicate_succ, Array.replicate_zero, List.push_toArray, List.append_toArray, List.nil_append, List.cons_append]
  gi_wp2_with fail
  refine ⟨trivial, ?_⟩
  refine (callsIn_wide.2 (HSR.out _ hB)).mono ?_
  rintro e W1 ⟨i, ok, hok, rfl, hb1⟩
  have hB1 := Below.trans hB (hb1.mono hB.size)
  have hJ1 := HJ.out.bl HJ0.out hb1
  have hil := hok.le
  have hge := Lib.hid (hok.ge HSO.out)
  have hst := Lib.hid (rng_start HSF.out hil HSW.out hok.lo)
  have HJ1 := Lib.hid hJ1
  clear hok hb1 hB hJ1 HJ0
  gi_wp2
  gi_loopw [7] (fun i' wr => ∃ (t : Nat) (pre' : List KV), i' = .int .i64 t ∧ i ≤ t ∧ t ≤ ps.length + 1 ∧ Below w0.heap.size w0 wr ∧ Hid (J (pre ++ pre') wr) ∧ Hid (rngL x.l key = pre' ++ (if t ≤ ps.length then rngL (weave (ps.drop t) ((ks.map Kid.l).drop t)) key else [])))
    (fun i' _ => ps.length + 1 - (intOf i').toNat)
  case atStart => exact ⟨i, [], rfl, Nat.le_refl _, by omega, hB1, by rw [List.append_nil]; exact HJ1, by rw [if_pos hil, HND.out.l, hst.out]; exact Lib.hid rfl⟩
  case round =>
    clear hB1 HJ1 hst
    obtain ⟨t, pre', rfl, hit, ht, hB, HJs, HR⟩ := hrel
    have e0 := (hB.cell (p := ⟨x.p, 0, none⟩) hy0).trans d0
    have e1 := (hB.cell (p := ⟨x.p, 1, none⟩) hy0).trans d1
    by_cases htl : t ≤ ps.length
    · have hR := HR.out
      rw [if_pos htl] at hR
      by_cases hk0 : ks.length = 0
      · have hkn : ks = [] := List.length_eq_zero_iff.1 hk0
        by_cases htt : t < ps.length
        · obtain ⟨q, hq⟩ : ∃ q, ps[t]? = some q := ⟨_, List.getElem?_eq_getElem htt⟩
          have hst := rng_leaf hq (hge.out t q hit hq)
          have hR2 : rngL x.l key = pre' ++ q :: (if t + 1 ≤ ps.length then rngL (weave (ps.drop (t + 1)) ((ks.map Kid.l).drop (t + 1))) key else []) := by
            rw [hR, hkn, List.map_nil, hst, if_pos (by omega)]
          obtain ⟨gp, op, rfl, hgp, hc, hc2⟩ := HPP.out t q hq
          have p0 := (hB.cell (p := ⟨gp, op + t * 2, none⟩) hgp).trans hc
          have p1 := (hB.cell (p := ⟨gp, op + t * 2 + 1, none⟩) hgp).trans hc2
          have HR2 := Lib.hid hR2
          clear hR hR2 hc hc2 hq hst HR
          have hlt : (pre ++ pre').length < N := by
            have := HNN.out
            rw [HR2.out] at this
            simp only [List.length_append, List.length_cons] at this ⊢
            omega
          obtain ⟨fn, tmps, assign, body, hy, hRd⟩ := HY.out (pre ++ pre') q wr HJs.out hlt
          dsimp only [encY] at hy
          clear hlt
          gi_wp2
          refine ⟨trivial, ?_⟩
          gi_wp2
          refine hRd.mono ?_
          rintro e W3 (⟨rfl, hJ3, hk3⟩ | ⟨rfl, hJx3⟩)
          · have hB3 := Below.trans hB hk3
            have HJ3 := Lib.hid hJ3
            clear hy hRd hJ3
            gi_wp2
            go_roundw
            case rel => exact ⟨t + 1, pre' ++ [q], by go_num, by omega, by omega, hB3, by rw [← List.append_assoc]; exact HJ3, by rw [List.append_assoc]; exact HR2⟩
            case measure => simp [intOf] <;> omega
          · gi_wp2
            go_ret
            exact .inr ⟨rfl, pre' ++ [q], by rw [HR2.out]; exact ⟨_, by rw [List.append_assoc]; rfl⟩, by rw [← List.append_assoc]; exact hJx3⟩
        · obtain rfl : t = ps.length := by omega
          have hR2 : rngL x.l key = pre' := by
            rw [hR, hkn, List.map_nil, List.drop_nil, weave_nil, List.drop_length]
            unfold rngL; simp
          have HR2 := Lib.hid hR2
          clear hR hR2 HR
          gi_wp2
          refine ⟨trivial, ?_⟩
          gi_wp2
          refine ⟨by simp, ?_⟩
          gi_wp2
          go_roundw
          case rel => exact ⟨ps.length + 1, pre', by go_num, by omega, Nat.le_refl _, hB, HJs, by rw [if_neg (by omega), List.append_nil]; exact HR2⟩
          case measure => simp [intOf] <;> omega
      · have hkl : ks.length = ps.length + 1 := by rcases HSH.out with e | e; exact absurd (by rw [e]; rfl) hk0; exact e
        obtain ⟨h', rfl⟩ : ∃ h', h = h' + 1 := by
          cases h with
          | zero => exact absurd (by rw [HND.out.leaf rfl]; rfl) hk0
          | succ h' => exact ⟨h', rfl⟩
        obtain ⟨z, hz⟩ : ∃ z, ks[t]? = some z := ⟨_, List.getElem?_eq_getElem (by omega)⟩
        obtain ⟨g, og, rfl, hg, hc⟩ := HKK.out t z hz
        have f0 := (hB.cell (p := ⟨g, og + t, none⟩) hg).trans hc
        have hzm : z ∈ ks := List.mem_of_getElem? hz
        have hfl : (ks.map Kid.l)[t]? = some z.l := by rw [List.getElem?_map, hz]; rfl
        have hfl2 : (ks.map Kid.l).length = ps.length + 1 := by rw [List.length_map]; exact hkl
        have hzs := srt_child hfl2 hfl HSW.out
        have hzl : z.l.length ≤ 100000 := by have := kidsSum_mem hzm; have := HND.out.len; have := HLEN.out; omega
        obtain ⟨rest, hrest⟩ : ∃ rest, rngL x.l key = pre' ++ (rngL z.l key ++ rest) := by
          by_cases htt : t < ps.length
          · obtain ⟨q, hq⟩ : ∃ q, ps[t]? = some q := ⟨_, List.getElem?_eq_getElem htt⟩
            exact ⟨_, by rw [hR, rng_inner hq hfl (hge.out t q hit hq)]⟩
          · obtain rfl : t = ps.length := by omega
            exact ⟨[], by rw [hR, rng_last hfl2 hfl, List.append_nil]⟩
        have hcall := HREC.out h' rfl z (pre ++ pre') wr ((HND.out.kids h' rfl).2 z hzm).1 hzs hzl hB HJs.out (by
          have := HNN.out
          rw [hrest] at this
          simp only [List.length_append] at this ⊢
          omega)
        have HC := Lib.hid hcall
        have HREST := Lib.hid hrest
        have hkp : 0 < ks.length := by omega
        by_cases htt : t < ps.length
        · obtain ⟨q, hq⟩ : ∃ q, ps[t]? = some q := ⟨_, List.getElem?_eq_getElem htt⟩
          have hR2 : rngL x.l key = (pre' ++ rngL z.l key) ++ q :: (if t + 1 ≤ ps.length then rngL (weave (ps.drop (t + 1)) ((ks.map Kid.l).drop (t + 1))) key else []) := by
            rw [hR, rng_inner hq hfl (hge.out t q hit hq), if_pos (by omega), List.append_assoc]
          obtain ⟨gp, op, rfl, hgp, hc, hc2⟩ := HPP.out t q hq
          have HR2 := Lib.hid hR2
          have HQ := Lib.hid (And.intro hc hc2)
          clear hR hR2 hc hc2 hq HR hcall hrest hz hzm hfl hfl2 hzs hzl HREC
          gi_wp2_with fail
          refine ⟨trivial, ?_⟩
          refine (callsIn_wide.2 HC.out).mono ?_
          rintro e W3 (⟨rfl, hJ3, hB3⟩ | ⟨rfl, q', hq', hJx3⟩)
          · have e0 := (hB3.cell (p := ⟨x.p, 0, none⟩) hy0).trans d0
            have p0 := (hB3.cell (p := ⟨gp, op + t * 2, none⟩) hgp).trans HQ.out.1
            have p1 := (hB3.cell (p := ⟨gp, op + t * 2 + 1, none⟩) hgp).trans HQ.out.2
            have hlt : (pre ++ (pre' ++ rngL z.l key)).length < N := by
              have := HNN.out
              rw [HR2.out] at this
              simp only [List.length_append, List.length_cons] at this ⊢
              omega
            rw [List.append_assoc] at hJ3
            obtain ⟨fn, tmps, assign, body, hy, hRd⟩ := HY.out (pre ++ (pre' ++ rngL z.l key)) q W3 hJ3 hlt
            dsimp only [encY] at hy
            clear hlt hB HJs hJ3
            gi_wp2
            refine hRd.mono ?_
            rintro e W4 (⟨rfl, hJ4, hk4⟩ | ⟨rfl, hJx4⟩)
            · have hB4 := Below.trans hB3 hk4
              have HJ4 := Lib.hid hJ4
              clear hy hRd hJ4
              gi_wp2
              go_roundw
              case rel => exact ⟨t + 1, (pre' ++ rngL z.l key) ++ [q], by go_num, by omega, by omega, hB4, by rw [← List.append_assoc]; exact HJ4, by rw [List.append_assoc]; exact HR2⟩
              case measure => simp [intOf] <;> omega
            · gi_wp2
              go_ret
              exact .inr ⟨rfl, (pre' ++ rngL z.l key) ++ [q], by rw [HR2.out]; exact ⟨_, by rw [List.append_assoc]; rfl⟩, by rw [← List.append_assoc]; exact hJx4⟩
          · clear hB HJs
            gi_wp2
            go_ret
            refine .inr ⟨rfl, pre' ++ q', ?_, by rw [← List.append_assoc]; exact hJx3⟩
            obtain ⟨s, hs⟩ := hq'
            rw [HREST.out]
            exact ⟨s ++ rest, by rw [← hs]; simp⟩
        · obtain rfl : t = ps.length := by omega
          have hR2 : rngL x.l key = pre' ++ rngL z.l key := by rw [hR, rng_last hfl2 hfl]
          have HR2 := Lib.hid hR2
          clear hR hR2 hc HR hcall hrest hz hzm hfl hfl2 hzs hzl HREC
          gi_wp2_with fail
          refine ⟨trivial, ?_⟩
          refine (callsIn_wide.2 HC.out).mono ?_
          rintro e W3 (⟨rfl, hJ3, hB3⟩ | ⟨rfl, q', hq', hJx3⟩)
          · have e0 := (hB3.cell (p := ⟨x.p, 0, none⟩) hy0).trans d0
            rw [List.append_assoc] at hJ3
            have HJ3 := Lib.hid hJ3
            clear hB HJs hJ3
            gi_wp2
            refine ⟨by simp, ?_⟩
            gi_wp2
            go_roundw
            case rel => exact ⟨ps.length + 1, pre' ++ rngL z.l key, by go_num, by omega, Nat.le_refl _, hB3, HJ3, by rw [if_neg (by omega), List.append_nil]; exact HR2⟩
            case measure => simp [intOf] <;> omega
          · clear hB HJs
            gi_wp2
            go_ret
            refine .inr ⟨rfl, pre' ++ q', ?_, by rw [← List.append_assoc]; exact hJx3⟩
            obtain ⟨s, hs⟩ := hq'
            rw [HR2.out]
            exact ⟨s, by rw [← hs]; simp⟩
    · have htp : t = ps.length + 1 := by omega
      have hR := HR.out
      rw [if_neg htl, List.append_nil] at hR
      have HR2 := Lib.hid hR
      have hcmp : ¬ ((t : Int) ≤ (ps.length : Int)) := by omega
      clear hR HR htp htl
      gi_wp2
      go_ret
      exact .inl ⟨rfl, by rw [HR2.out]; exact HJs.out, hB⟩
end Go.Proofs.YtaiiibbnjmjamaaGreatDoor
/- The walks of from and of Range. Conditions: the tree lies in memory, its pairs are in order. -/
namespace Go.Proofs.YtaiiibbnjmjamaaGreatDoor
open Go.RowKit
attribute [local go_sem] Oper.semAt_some

theorem visit_in (l : Nat) (J Jx : List KV → World → Prop) (w0 : World) (key : ByteArray) (N : Nat) (n : Nat) (hn : 1 ≤ n)
    (hJ : AbidesT (fun _ => false) w0.heap.size J)
    (hY : ∀ pre x W1, J pre W1 → pre.length < N → YieldAt Fence.wide (n - 1) Tryz.prog l (encY x) W1 fun e W' =>
      (e = .returned (.bool true) ∧ J (pre ++ [x]) W' ∧ Below w0.heap.size W1 W') ∨ (e = .returned (.bool false) ∧ Jx (pre ++ [x]) W')) :
    ∀ (h : Nat) (x : Kid) (pre : List KV) (W : World), IsN Any h w0 x → Srt x.l → x.l.length ≤ 100000 → Below w0.heap.size w0 W → J pre W → pre.length + (rngL x.l key).length ≤ N →
      CallsIn Fence.wide n Tryz.prog 59 #[ptrN x.p, .string key, .func (.yield l) #[] #[]] W (VisPost w0.heap.size w0 (rngL x.l key) J Jx pre)
  | 0, x, pre, W, hx, hs, hl, hB, h0, hN => visit_step l J Jx w0 key N n hn hJ hY 0 x pre W hx hs hl hB h0 hN (fun h' e => by cases e)
  | h + 1, x, pre, W, hx, hs, hl, hB, h0, hN => visit_step l J Jx w0 key N n hn hJ hY (h + 1) x pre W hx hs hl hB h0 hN (fun h' e y pre' W' hy hys hyl hB' hJ' hN' => by
      cases e
      exact callsIn_wide.1 (visit_in l J Jx w0 key N n hn hJ hY h y pre' W' hy hys hyl hB' hJ' hN'))
set_option maxHeartbeats 1000000 in
theorem visit_nil (key : ByteArray) (v : Value) (W : World) : Calls Tryz.prog 59 #[.pointer none, .string key, v] W (Pur (.bool true) W) := by
  go_enter Tryz.func59, Tryz.ntmps59
  go_wp2
  go_ret
  exact ⟨rfl, rfl⟩
/-- a root: none, or a node with all below it -/
def RootIs (w : World) (rv : Value) (l : List KV) : Prop := (rv = .pointer none ∧ l = []) ∨ ∃ h x, rv = ptrN x.p ∧ IsN Any h w x ∧ l = x.l
theorem RootIs.below {w w' : World} {rv : Value} {l : List KV} (h : RootIs w rv l) (hb : Below w.heap.size w w') : RootIs w' rv l := by
  rcases h with h | ⟨h', x, h1, h2, h3⟩
  · exact .inl h
  · exact .inr ⟨h', x, h1, h2.below hb, h3⟩
theorem IsT.root {w : World} {T : Tre} (h : IsT w T) : ∃ rv, Blk w T.p 61 #[rv] ∧ RootIs w rv T.l := by
  obtain ⟨_, ⟨h1, _, _, h4⟩ | ⟨h', x, h1, h2, h3, _⟩⟩ := h
  · exact ⟨_, h4, .inl ⟨rfl, h1⟩⟩
  · exact ⟨_, h1, .inr ⟨h', x, rfl, h2, h3⟩⟩
abbrev noT : TypeId → Bool := fun _ => false
abbrev fromF (Bn Bk : Nat) : Value := .func (.func 58) #[] #[.pointer (some ⟨Bn, 0, none⟩), .pointer (some ⟨Bk, 0, none⟩)]
set_option maxHeartbeats 1000000 in
theorem from_any (n : Nat) (o : Option Addr) (key : ByteArray) (w : World) :
    CallsIn Fence.wide n Tryz.prog 27 #[.pointer o, .string key] w fun e w' => e = .returned (fromF w.heap.size (w.heap.size + 1)) ∧ w' = (w.alloc (.cells #[.pointer o] 59)).alloc (.cells #[.string key] 9) := by
  refine callsIn_of_wp Tryz.func27 rfl trivial ?_ rfl
  simp only [Tryz.ntmps27, List.size_toArray, List.length_cons, List.length_nil, Nat.reduceAdd, Nat.reduceSub, Array.replicate_succ, Array.replicate_zero, List.push_toArray, List.append_toArray, List.nil_append, List.cons_append]
  gi_wp2
  go_ret
  exact ⟨rfl, rfl⟩
set_option maxRecDepth 100000 in
set_option maxHeartbeats 4000000 in
theorem from_stops (n : Nat) (hn : 1 ≤ n) (Bn Bk : Nat) (rv : Value) (key : ByteArray) (l : List KV) (wb w : World) (hbw : Below wb.heap.size wb w) (hr : RootIs wb rv l) (hs : Srt l) (hl : l.length ≤ 100000) (bN : Blk w Bn 59 #[rv]) (bK : Blk w Bk 9 #[.string key]) :
    SeqStopsT noT (fun _ => True) Fence.wide n Tryz.prog 58 #[.pointer (some ⟨Bn, 0, none⟩), .pointer (some ⟨Bk, 0, none⟩)] encY (KeepT noT wb.heap.size) (fun ys => ys = rngL l key) (fun pre => pre <+: rngL l key) (rngL l key).length w := by
  intro lp J Jx W hW hJ hJx hY h0
  have hJ' : AbidesT (fun _ => false) wb.heap.size J := fun s A B row h1 h2 h3 => hJ s A B row h1 h2 (fun r e => by obtain ⟨_, o, _, hm⟩ := h3 r e; cases o <;> cases hm)
  have hv : Calls Tryz.prog 59 #[rv, .string key, .func (.yield lp) #[] #[]] W (VisPost wb.heap.size wb (rngL l key) J Jx []) := by
    have hWb : Below wb.heap.size wb W := hbw.trans (hW.mono hbw.size)
    rcases hr with ⟨rfl, rfl⟩ | ⟨h', x, rfl, h2, rfl⟩
    · refine (visit_nil key _ W).mono ?_
      rintro e W' ⟨rfl, rfl⟩
      exact .inl ⟨rfl, h0, hWb⟩
    · refine callsIn_wide.1 (visit_in lp J Jx wb key (rngL x.l key).length 1 (Nat.le_refl _) hJ' (fun pre q W1 hp hlt => ?_) h' x [] W h2 hs hl hWb h0 (by simp))
      obtain ⟨fn, tmps, assign, body, hy, hRd⟩ := hY pre q W1 hp trivial hlt
      exact ⟨fn, tmps, assign, body, hy, (RoundIn.mono ⟨hRd.1, fun c cs _ => hRd.2 c cs (room_wide _)⟩ (fun e W' h => h.imp (fun h => ⟨h.1, h.2.1, h.2.2.below⟩) id))⟩
  have cN := ((bN.below hW bN.lt).cell 0)
  have cK := ((bK.below hW bK.lt).cell 0)
  simp at cN cK
  have HV := Lib.hid hv
  clear hv hY hJ hJx hJ' h0 hr
  refine callsIn_of_wp Tryz.func58 rfl trivial ?_ rfl
  simp only [Tryz.ntmps58, List.size_toArray, List.length_cons, List.length_nil, Nat.reduceAdd, Nat.reduceSub, Array.replicate_succ, Array.replicate_zero, List.push_toArray, List.append_toArray, List.nil_append, List.cons_append]
  gi_wp2_with fail
  refine ⟨trivial, ?_⟩
  refine (callsIn_wide.2 HV.out).mono ?_
  rintro e W' (⟨rfl, hJ1, hB1⟩ | ⟨rfl, q, hq, hJx1⟩)
  · gi_wp2
    go_end0
    exact ⟨⟨_, rfl⟩, .inl ⟨_, rfl, hJ1⟩⟩
  · gi_wp2
    go_end0
    exact ⟨⟨_, rfl⟩, .inr ⟨q, hq, hJx1⟩⟩
theorem row_ownT {β : Type} {T : TypeId → Bool} {B base : Nat} {e : TypeId} {size : Nat} (v : Value) (n : β → Nat) (xs : β → List Value) (ht : T e = false) : OwnT T B (fun s W => W.ownsRow base e size v (n s) (xs s)) := by
  intro s W W' row h hg hr
  refine h.kept hg ?_
  rcases hv : v.ownBlock with _ | g
  · exact .inl rfl
  · refine .inr (fun e' => ?_)
    obtain ⟨_, ob, ho, hc⟩ := hr g e'.symm
    rcases h.2 with ⟨h1, _⟩ | ⟨g', cap', cur, h1, _, hh, _⟩
    · rw [h1] at hv; cases hv
    · rw [h1] at hv
      have : g' = g := by simpa [Value.ownBlock] using hv
      rw [this] at hh
      rw [hh] at ho; cases ho
      rcases hc with hc | hc
      · cases hc
      · rw [show mineB T (Obj.cells cur e (0, 0)) = T e from rfl, ht] at hc; cases hc
theorem row_mine {w : World} {T : TypeId → Bool} {base : Nat} {e : TypeId} {size n : Nat} {v : Value} {xs : List Value} (h : w.ownsRow base e size v n xs) (ht : T e = false) : ∀ r, v.ownBlock = some r → base ≤ r ∧ ∀ o : Obj, w.heap[r]? = some o → mineB T o = false := by
  intro r hr
  rcases h.2 with ⟨h1, _⟩ | ⟨g', cap', cur, h1, hb, hh, _⟩
  · rw [h1] at hr; cases hr
  · rw [h1] at hr
    have : g' = r := by simpa [Value.ownBlock] using hr
    subst this
    exact ⟨hb, fun o ho => by rw [hh] at ho; cases ho; exact ht⟩
/-- the range ends ahead of this pair -/
def cutB (u : ByteArray) (x : KV) : Bool := !(u.toList == ([] : List UInt8)) && !(kl x.k u)
/-- the pairs from a key up to another one -/
def rangeL (l : List KV) (a u : ByteArray) : List KV := (rngL l a).takeWhile fun x => !cutB u x
theorem take_all {p : KV → Bool} {l : List KV} (h : ∀ x ∈ l, p x = true) : l.takeWhile p = l := by
  induction l with
  | nil => rfl
  | cons a l ih => rw [List.takeWhile_cons, h a (List.mem_cons_self ..), if_pos rfl, ih (fun x hx => h x (List.mem_cons_of_mem _ hx))]
theorem take_hit {p : KV → Bool} : ∀ {l s : List KV} {x : KV}, (∀ y ∈ l, p y = true) → p x = false → (l ++ x :: s).takeWhile p = l
  | [], s, x, _, hx => by rw [List.nil_append, List.takeWhile_cons, hx]; rfl
  | a :: l, s, x, h, hx => by
    rw [List.cons_append, List.takeWhile_cons, h a (List.mem_cons_self ..), if_pos rfl, take_hit (fun y hy => h y (List.mem_cons_of_mem _ hy)) hx]
def RngI (u : ByteArray) (U O : Nat) (w : World) (pre : List KV) (W : World) : Prop :=
  (∀ x ∈ pre, cutB u x = false) ∧ Blk W U 9 #[.string u] ∧ (∃ sv, Blk W O 34 #[sv] ∧ W.ownsRow (O + 1) 36 2 sv pre.length (flatE encKV pre)) ∧ O + 1 ≤ W.heap.size ∧ Below w.heap.size w W
def RngX (u : ByteArray) (O : Nat) (w : World) (pre : List KV) (W : World) : Prop :=
  ∃ ini last, pre = ini ++ [last] ∧ (∀ x ∈ ini, cutB u x = false) ∧ cutB u last = true ∧ (∃ sv, Blk W O 34 #[sv] ∧ W.ownsRow (O + 1) 36 2 sv ini.length (flatE encKV ini)) ∧ Below w.heap.size w W
end Go.Proofs.YtaiiibbnjmjamaaGreatDoor
