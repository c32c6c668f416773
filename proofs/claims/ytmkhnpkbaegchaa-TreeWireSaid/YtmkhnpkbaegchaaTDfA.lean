/- Several texts in one, each with its own word at its head. Conditions: stated there. -/
import Derived.Test.YtmkhnpkbaegchaaTRow
import Derived.OrdersIn
import Derived.OrdersHeld
import Derived.Deep.Quiet
import Derived.Test.YtmkhnpkbaegchaaTRng
import Derived.Deep.RegionHeld3
import Derived.BigQuiet
import Derived.Sort.LoopGhostIn
/- Plain: the edits that turn one ordered list of pairs into another, as the program gathers them; the rest of a slice as it is read. Conditions: none. -/
namespace Go.Proofs.Ytmkhnpkbaegchaa
open Go.RowKit

structure Ed where
  k : ByteArray
  v : ByteArray
  d : Bool
def encE (x : Ed) : List Value := [.string x.k, .string x.v, .bool x.d]
theorem encE_len (x : Ed) : (encE x).length = 3 := rfl
theorem encE_one (x : Ed) : ∀ u ∈ encE x, u.oneCell' = true := fun u h => by simp [encE] at h; rcases h with rfl | rfl | rfl <;> rfl
def edD (q : KV) : Ed := ⟨q.k, ⟨#[]⟩, true⟩
def edP (p : KV) : Ed := ⟨p.k, p.v, false⟩
def takeL (k : ByteArray) (l : List KV) : List KV := l.takeWhile fun q => kl q.k k
def dropL (k : ByteArray) (l : List KV) : List KV := l.dropWhile fun q => kl q.k k
theorem takeL_yes {k : ByteArray} {q : KV} {l : List KV} (h : kl q.k k = true) : takeL k (q :: l) = q :: takeL k l ∧ dropL k (q :: l) = dropL k l := by
  unfold takeL dropL
  rw [List.takeWhile_cons, List.dropWhile_cons, h]
  exact ⟨rfl, rfl⟩
theorem takeL_no {k : ByteArray} {q : KV} {l : List KV} (h : kl q.k k = false) : takeL k (q :: l) = [] ∧ dropL k (q :: l) = q :: l := by
  unfold takeL dropL
  rw [List.takeWhile_cons, List.dropWhile_cons, h]
  exact ⟨rfl, rfl⟩
/-- one pair of the second list -/
def stepD (s : List Ed × List KV) (p : KV) : List Ed × List KV :=
  match dropL p.k s.2 with
  | [] => (s.1 ++ (takeL p.k s.2).map edD ++ [edP p], [])
  | q :: rs => if q.k = p.k then (if q.v = p.v then (s.1 ++ (takeL p.k s.2).map edD, rs) else (s.1 ++ (takeL p.k s.2).map edD ++ [edP p], rs)) else (s.1 ++ (takeL p.k s.2).map edD ++ [edP p], q :: rs)
def difS (A pre : List KV) : List Ed × List KV := pre.foldl stepD ([], A)
theorem difS_snoc (A pre : List KV) (p : KV) : difS A (pre ++ [p]) = stepD (difS A pre) p := by unfold difS; rw [List.foldl_append]; rfl
def difF (A B : List KV) : List Ed := (difS A B).1 ++ (difS A B).2.map edD
theorem takeL_dropL (k : ByteArray) (l : List KV) : (takeL k l).length + (dropL k l).length = l.length := by
  have := congrArg List.length (List.takeWhile_append_dropWhile (p := fun q : KV => kl q.k k) (l := l))
  rw [List.length_append] at this
  exact this
theorem stepD_len (s : List Ed × List KV) (p : KV) : (stepD s p).1.length + (stepD s p).2.length ≤ s.1.length + s.2.length + 1 ∧ (stepD s p).2.length ≤ s.2.length := by
  have h := takeL_dropL p.k s.2
  unfold stepD
  split
  · rename_i e
    rw [e] at h
    simp at h ⊢; omega
  · rename_i q rs e
    rw [e] at h
    simp at h
    split
    · split <;> simp <;> omega
    · simp; omega
theorem foldD_len : ∀ (pre : List KV) (s : List Ed × List KV), (pre.foldl stepD s).1.length + (pre.foldl stepD s).2.length ≤ s.1.length + s.2.length + pre.length ∧ (pre.foldl stepD s).2.length ≤ s.2.length
  | [], s => ⟨by simp, Nat.le_refl _⟩
  | p :: pre, s => by
    have h1 := stepD_len s p
    have h2 := foldD_len pre (stepD s p)
    rw [List.foldl_cons, List.length_cons]
    omega
theorem difS_len (A pre : List KV) : (difS A pre).1.length + (difS A pre).2.length ≤ A.length + pre.length ∧ (difS A pre).2.length ≤ A.length := by
  have := foldD_len pre ([], A)
  simpa [difS] using this
/-- the rest of the first list as a slice -/
def RowV (O Q : Nat) (W : World) (ov : Value) (rest : List KV) : Prop :=
  ∃ pa c, ov = .slice pa rest.length c ∧ rest.length ≤ c ∧ c ≤ 9223372036854775807 ∧ (rest ≠ [] → ∃ b off ty cur, pa = some ⟨b, off, none⟩ ∧ O < b ∧ b < Q ∧ Blk W b ty cur ∧ ∀ t u, (flatE encKV rest)[t]? = some u → cur[off + t]? = some u)
theorem RowV.kept {O Q : Nat} {W W' : World} {ov : Value} {rest : List KV} (h : RowV O Q W ov rest) (hk : ∀ b, O < b → b < Q → b < W.heap.size → W'.heap[b]? = W.heap[b]?) : RowV O Q W' ov rest := by
  obtain ⟨pa, c, h1, h2, h3, h4⟩ := h
  refine ⟨pa, c, h1, h2, h3, fun hn => ?_⟩
  obtain ⟨b, off, ty, cur, e1, e2, e3, e4, e5⟩ := h4 hn
  exact ⟨b, off, ty, cur, e1, e2, e3, (hk b e2 e3 e4.lt).trans e4, e5⟩
theorem RowV.of_row {O Q B : Nat} {W : World} {v : Value} {A : List KV} (h : W.ownsRow B 63 2 v A.length (flatE encKV A)) (hO : O < B) (hQ : W.heap.size ≤ Q) (hl : A.length ≤ 1000000) : RowV O Q W v A := by
  rcases h.2 with ⟨rfl, hn⟩ | ⟨g, cap, cur, rfl, hg, hh, hnc, hcm, hsz, htk⟩
  · have : A = [] := List.length_eq_zero_iff.1 hn
    subst this
    exact ⟨none, 0, rfl, Nat.le_refl _, by omega, fun h => absurd rfl h⟩
  · refine ⟨_, cap, rfl, hnc, by unfold maxLen at hcm; exact hcm, fun _ => ⟨g, 0, _, cur, rfl, by omega, by have := (Array.getElem?_eq_some_iff.1 hh).1; omega, hh, fun t u hu => ?_⟩⟩
    rw [Nat.zero_add]
    have h1 : t < (flatE encKV A).length := (List.getElem?_eq_some_iff.1 hu).1
    rw [← htk, List.getElem?_take] at hu
    split at hu
    · rw [Array.getElem?_toList] at hu; exact hu
    · cases hu
/-- its first pair, and what is left -/
theorem RowV.open {O Q : Nat} {W : World} {ov : Value} {q : KV} {rs : List KV} (h : RowV O Q W ov (q :: rs)) :
    ∃ b off c, ov = .slice (some ⟨b, off, none⟩) (rs.length + 1) c ∧ O < b ∧ b < Q ∧ rs.length + 1 ≤ c ∧ c ≤ 9223372036854775807 ∧ b < W.heap.size ∧ W.cell? ⟨b, off, none⟩ = some (.string q.k) ∧ W.cell? ⟨b, off + 1, none⟩ = some (.string q.v) ∧
      (∀ (pa' : Option Addr), (rs ≠ [] → pa' = some ⟨b, off + 2, none⟩) → RowV O Q W (.slice pa' rs.length (c - 1)) rs) := by
  obtain ⟨pa, c, h1, h2, h3, h4⟩ := h
  obtain ⟨b, off, ty, cur, rfl, e2, e3, e4, e5⟩ := h4 (by simp)
  have f0 := e5 0 (.string q.k) (by rw [flatE_cons]; rfl)
  have f1 := e5 1 (.string q.v) (by rw [flatE_cons]; rfl)
  rw [Nat.add_zero] at f0
  refine ⟨b, off, c, h1, e2, e3, h2, h3, e4.lt, by rw [e4.cell]; exact f0, by rw [e4.cell]; exact f1, fun pa' hp => ⟨pa', c - 1, rfl, by simp at h2; omega, by omega, fun hn => ⟨b, off + 2, ty, cur, hp hn, e2, e3, e4, fun t u hu => ?_⟩⟩⟩
  have := e5 (t + 2) u (by rw [flatE_cons, List.getElem?_append_right (by rw [encKV_len]; omega), encKV_len, Nat.add_sub_cancel]; exact hu)
  rw [show off + 2 + t = off + (t + 2) by omega]
  exact this
/-- a pair of it -/
theorem RowV.at {O Q : Nat} {W : World} {ov : Value} {l : List KV} (h : RowV O Q W ov l) {pa : Option Addr} {c : Nat} (hv : ov = .slice pa l.length c) {i : Nat} {q : KV} (hq : l[i]? = some q) :
    ∃ b off, pa = some ⟨b, off, none⟩ ∧ O < b ∧ b < Q ∧ b < W.heap.size ∧ W.cell? ⟨b, off + i * 2, none⟩ = some (.string q.k) ∧ W.cell? ⟨b, off + i * 2 + 1, none⟩ = some (.string q.v) := by
  obtain ⟨pa', c', h1, h2, h3, h4⟩ := h
  rw [hv] at h1
  cases h1
  obtain ⟨b, off, ty, cur, rfl, e2, e3, e4, e5⟩ := h4 (fun e => by rw [e] at hq; cases hq)
  have f0 := e5 (i * 2 + 0) _ (flatE_at encKV_len l i q hq 0 _ rfl)
  have f1 := e5 (i * 2 + 1) _ (flatE_at encKV_len l i q hq 1 _ rfl)
  exact ⟨b, off, rfl, e2, e3, e4.lt, by rw [e4.cell]; exact f0, by rw [e4.cell, Nat.add_assoc]; exact f1⟩
end Go.Proofs.Ytmkhnpkbaegchaa
/- A region that draws its order, in a round of a range over a function: what the plain laws say of it holds there too. Conditions: it holds no defer. -/
namespace Go.Proofs.Ytmkhnpkbaegchaa
open Go.RowKit

def noDefer (ops : Array Oper) : Bool := ops.toList.all fun o => match o.op with | .defer _ => false | _ => true
theorem noDefer_spec {ops : Array Oper} (h : noDefer ops = true) (i : Nat) (o : Oper) (ho : ops[i]? = some o) (c) : o.op ≠ .defer c := fun e => by
  have hm : o ∈ ops.toList := by
    have := Array.mem_of_getElem? ho
    exact Array.mem_def.1 this
  have := List.all_eq_true.1 h o hm
  rw [e] at this
  cases this
/-- the region comes to its end -/
def NormQ (Q : Exit → Act → World → Prop) : Exit → Act → World → Prop := fun e a w => e = .normal ∧ Q .normal a w
section
variable {P : Program} {l n : Nat} {Q : Exit → Act → World → Prop}
theorem normQ_no (Q : Exit → Act → World → Prop) : ¬ LetsOut (NormQ Q) := fun ⟨_, _, h, _⟩ => by cases h
theorem rnd_upon {o : Oper} {a : Act} {K K' : Act → World → Prop} {r : Result Next} (hK : ∀ a w, K a w → K' a w) (h : o.upon P a K (NormQ Q) r) : o.uponIn (Fence.wide.inRound l) n P a K' Q r := by
  unfold Oper.upon at h
  unfold Oper.uponIn
  split at h
  · exact hK _ _ h
  · exact hK _ _ h
  · exact hK _ _ h
  · refine ⟨fun h0 => by simp [Fence.wide] at h0, CallsIn.inRound l (callsIn_wide.2 (h.mono ?_))⟩
    rintro e w' h'
    cases e with
    | returned v => exact hK _ _ h'
    | panicked chain => exact absurd h'.1 (by simp)
    | outgrown => exact absurd h' (normQ_no Q)
  · refine ⟨fun h0 => by simp [Fence.wide] at h0, fun c cs _ => ?_⟩
    obtain ⟨v, w', h1, h2⟩ := h c cs
    exact ⟨v, w', hK _ _ h1, stepsIn_wide.2 h2⟩
  · exact absurd h.1 (by simp)
  · exact h.elim
theorem rnd_op {ops : Array Oper} {i : Nat} (hnd : ∀ (i : Nat) o, ops[i]? = some o → ∀ c, o.op ≠ .defer c) {a : Act} {w : World} {K K' : Act → World → Prop} (hK : ∀ a w, K a w → K' a w) (h : wpOp P ops (NormQ Q) i K a w) : wpOpIn (Fence.wide.inRound l) n P ops Q i K' a w := by
  unfold wpOp at h
  unfold wpOpIn
  cases ho : ops[i]? with
  | none => rw [ho] at h; exact hK _ _ h
  | some o =>
    rw [ho] at h
    simp only at h ⊢
    split at h
    · rename_i hw
      rw [if_pos hw]
      rcases h with h | h
      · unfold Oper.wp at h
        unfold Oper.wpIn
        rw [Oper.semAt_eq _ _ _ (hnd i o ho)]
        exact ⟨fun f _ => trivial, rnd_upon hK h⟩
      · exact absurd h.2 (normQ_no Q)
    · rename_i hw
      rw [if_neg hw]
      exact ⟨fun f _ => trivial, hK _ _ h⟩
theorem rnd_any {ops : Array Oper} {md : Region.Mode} (hnd : ∀ (i : Nat) o, ops[i]? = some o → ∀ c, o.op ≠ .defer c) : ∀ (fuel : Nat) (listed : Array Bool) (a : Act) (w : World), wpAny P md ops (NormQ Q) fuel listed a w → wpAnyIn (Fence.wide.inRound l) n P md ops Q fuel listed a w
  | 0, _, _, _, h => ⟨h.1, h.2.2⟩
  | fuel + 1, _, _, _, h => ⟨fun h0 => (h.1 h0).2, fun i hi => rnd_op hnd (fun a w h' => rnd_any hnd fuel _ a w h') (h.2 i hi)⟩
/-- THE BRIDGE -/
theorem wpIn_round_region {ops : Array Oper} {id : Nat} {a : Act} {w : World} (hm : P.follows .mixedOrders = true) (hnd : noDefer ops = true)
    (h : wpAny P .any ops (NormQ Q) ops.size (Array.replicate ops.size false) a w.drew) : (Code.region id ops true).wpIn (Fence.wide.inRound l) n P Q a w :=
  wpIn_region_any hm (rnd_any (noDefer_spec hnd) _ _ _ _ h)
/-- operations that read alone -/
theorem wpIn_round_quiet {L : List Oper} {id : Nat} {a : Act} {w : World} (hm : P.follows .mixedOrders = true) (hB : Region.lexB .any L.toArray = true) (hnd : noDefer L.toArray = true)
    (h : wpQuiet P L.toArray (fun w' => ∃ n, w' = w.drewN n) (fun a' => ∀ w', (∃ n, w' = w.drewN n) → Q .normal a' w') L a) : (Code.region id L.toArray true).wpIn (Fence.wide.inRound l) n P Q a w := by
  simp only [Region.lexB, Bool.and_eq_true] at hB
  refine wpIn_round_region hm hnd (wpAny_of_quiet (C := fun w' => ∃ n, w' = w.drewN n) (Q := fun a' => ∀ w', (∃ n, w' = w.drewN n) → Q .normal a' w') (fun _ w' hw' h => ⟨rfl, h w' hw'⟩) _ _ _ _ ⟨1, rfl⟩ ?_)
  have := wpAnyQ_lex (C := fun w' => ∃ n, w' = w.drewN n) (md := .any) hB.1 L 0 (Array.replicate L.toArray.size false) a (by simp) (by simpa using hB.2) h
  simpa using this
/-- operations that are taken first where they yield in every world that meets S -/
theorem wpIn_round_held {S : World → Prop} {ops : Array Oper} {id : Nat} {a : Act} {w : World} (hm : P.follows .mixedOrders = true) (hnd : noDefer ops = true)
    (h : wpAnyH P .any ops (NormQ Q) S ops.size (Array.replicate ops.size false) a w.drew) : (Code.region id ops true).wpIn (Fence.wide.inRound l) n P Q a w :=
  wpIn_round_region hm hnd (wpAny_of_held _ _ _ _ h)
end
end Go.Proofs.Ytmkhnpkbaegchaa
/- The walk of Diff. Conditions: both trees lie in memory, their pairs are in order. -/
namespace Go.Proofs.Ytmkhnpkbaegchaa
open Go.RowKit
attribute [local go_sem] Oper.semAt_some

theorem rangeL_all (l : List KV) : rangeL l ⟨#[]⟩ ⟨#[]⟩ = l := by
  have h0 : (⟨#[]⟩ : ByteArray).toList = [] := by rw [ByteArray.toList_eq]
  have h1 : ∀ x : KV, kl x.k ⟨#[]⟩ = false := fun x => by
    unfold kl
    rw [h0]
    cases x.k.toList <;> rfl
  unfold rangeL rngL
  rw [List.filter_eq_self.2 (fun x _ => by rw [h1 x]; rfl)]
  refine take_all (fun x _ => ?_)
  unfold cutB
  rw [h0]
  rfl
def DifI (A : List KV) (O Q : Nat) (w : World) (pre : List KV) (W : World) : Prop :=
  ∃ sv ov, Blk W O 39 #[sv] ∧ W.ownsRow (Q + 1) 44 3 sv (difS A pre).1.length (flatE encE (difS A pre).1) ∧ Blk W Q 27 #[ov] ∧ RowV O Q W ov (difS A pre).2 ∧ Q + 1 ≤ W.heap.size ∧ Below w.heap.size w W
def remN (Q : Nat) (w : World) : Nat := match w.cell? ⟨Q, 0, none⟩ with | some (.slice _ n _) => n | _ => 0
/-- what stands in memory in the midst of a round -/
def DS (O Q Bx : Nat) (x : KV) (w0 W V : World) (out : List Ed) (rest : List KV) (sv ov : Value) : Prop :=
  Blk V O 39 #[sv] ∧ V.ownsRow (Q + 1) 44 3 sv out.length (flatE encE out) ∧ Blk V Q 27 #[ov] ∧ RowV O Q V ov rest ∧ Blk V Bx 63 #[.string x.k, .string x.v] ∧ KeepsOthers W V ∧ Below w0.heap.size W V ∧ Q + 1 ≤ V.heap.size
def DLp (O Q Bx : Nat) (x : KV) (D : List Ed × List KV) (w0 W wr : World) : Prop :=
  ∃ out rest sv ov, (out ++ (takeL x.k rest).map edD = D.1 ++ (takeL x.k D.2).map edD ∧ dropL x.k rest = dropL x.k D.2 ∧ out.length + rest.length ≤ 300000) ∧ DS O Q Bx x w0 W wr out rest sv ov
theorem DS.drewN {O Q Bx : Nat} {x : KV} {w0 W V : World} {out : List Ed} {rest : List KV} {sv ov : Value} (h : DS O Q Bx x w0 W V out rest sv ov) (n : Nat) : DS O Q Bx x w0 W (V.drewN n) out rest sv ov := by
  obtain ⟨b1, b2, b3, b4, b5, b6, b7, b8⟩ := h
  exact ⟨b1, b2, b3, b4, b5, ⟨b6.size, b6.same⟩, ⟨b7.os, b7.tape, b7.output, b7.size, b7.block⟩, b8⟩
/-- the end of a round -/
theorem DS.fin {A : List KV} {O Q Bx n₀ : Nat} {x : KV} {w W V : World} {pre : List KV} {D : List Ed × List KV} {out : List Ed} {rest : List KV} {sv ov : Value} (h : DS O Q Bx x w W V out rest sv ov) (hD : D = difS A pre) (hst : stepD D x = (out, rest)) (hw : Below w.heap.size w W) :
    KeepsFrom n₀ W V ∧ KeepT noT w.heap.size W V ∧ DifI A O Q w (pre ++ [x]) V := by
  obtain ⟨b1, b2, b3, b4, b5, b6, b7, b8⟩ := h
  refine ⟨b6.from _, ⟨b7, fun _ _ _ _ h => by cases h⟩, sv, ov, b1, ?_, b3, ?_, b8, hw.trans b7⟩
  · rw [difS_snoc, ← hD, hst]; exact b2
  · rw [difS_snoc, ← hD, hst]; exact b4
theorem RowV.own {O Q B : Nat} {W W' : World} {row : Option Nat} {ov : Value} {rest : List KV} (h : RowV O Q W ov rest) (hg : W.grownBy W' row) (hr : ∀ r, row = some r → B ≤ r ∧ ∃ o : Obj, W.heap[r]? = some o ∧ (o.isCells = false ∨ mineB noT o = true)) : RowV O Q W' ov rest := by
  obtain ⟨pa, c, h1, h2, h3, h4⟩ := h
  refine ⟨pa, c, h1, h2, h3, fun hn => ?_⟩
  obtain ⟨b, off, ty, cur, e1, e2, e3, e4, e5⟩ := h4 hn
  exact ⟨b, off, ty, cur, e1, e2, e3, Blk.ownT (T := noT) (B := B) _ _ (fun (_ : Unit) => cur) rfl () W W' row e4 hg hr, e5⟩
section
variable {O Q Bx : Nat} {W V w1 : World} {n n' N0 : Nat} {xs xs' : List Value} {sv v' ov : Value} {rest : List KV}
/-- out grows: what stands behind the append and the store -/
theorem out_app {cs : Array Value} (hOQ : O < Q) (hBx : Q + 1 ≤ Bx) (hN : N0 ≤ O) (b1 : Blk V O 39 #[sv]) (b2 : V.ownsRow (Q + 1) 44 3 sv n xs) (b3 : Blk V Q 27 #[ov]) (b4 : RowV O Q V ov rest) (b5 : Blk V Bx 63 cs)
    (b6 : KeepsOthers W V) (b7 : Below N0 W V) (b8 : Q + 1 ≤ V.heap.size) {e : Array Value} (hg : (V.alloc (.cells e 44)).grownBy w1 sv.ownBlock) (ho : w1.ownsRow (Q + 1) 44 3 v' n' xs') :
    Blk (w1.setCell ⟨O, 0, none⟩ v') O 39 #[v'] ∧ (w1.setCell ⟨O, 0, none⟩ v').ownsRow (Q + 1) 44 3 v' n' xs' ∧ Blk (w1.setCell ⟨O, 0, none⟩ v') Q 27 #[ov] ∧ RowV O Q (w1.setCell ⟨O, 0, none⟩ v') ov rest ∧ Blk (w1.setCell ⟨O, 0, none⟩ v') Bx 63 cs ∧
      KeepsOthers W (w1.setCell ⟨O, 0, none⟩ v') ∧ Below N0 W (w1.setCell ⟨O, 0, none⟩ v') ∧ Q + 1 ≤ (w1.setCell ⟨O, 0, none⟩ v').heap.size := by
  have b2a := b2.alloc (.cells e 44)
  have far : ∀ b, b < Q + 1 → some b ≠ sv.ownBlock := fun b hb => row_far b2a hb
  have hsz := hg.size
  simp at hsz
  have c1 := (b1.alloc (.cells e 44)).kept hg (far O (by omega))
  have c3 := (b3.alloc (.cells e 44)).kept hg (far Q (by omega))
  have c5 := (b5.alloc (.cells e 44)).kept hg (fun h => by
    have hb := b5.alloc (.cells e 44)
    rcases b2a.2 with ⟨h1, _⟩ | ⟨g', c', cur', h1, _, h2, _⟩
    · rw [h1] at h; cases h
    · rw [h1] at h
      have h9 : Bx = g' := Option.some.inj h
      subst h9
      exact Blk.ne hb (show Blk _ Bx 44 cur' from h2) (by decide) rfl)
  have hrow : w1.grownBy (w1.setCell ⟨O, 0, none⟩ v') (some O) := grown_setAt w1 O 0 v'
  refine ⟨c1.set 0 v', ho.kept hrow (.inr (row_far ho (by omega)).symm), c3.far (p := ⟨O, 0, none⟩) (by show Q ≠ O; omega) _, ?_, c5.far (p := ⟨O, 0, none⟩) (by show Bx ≠ O; omega) _, ?_, ?_, by simp; omega⟩
  · refine ((b4.kept (fun b _ _ hlt => (bl_alloc V (.cells e 44)).block b hlt)).kept (fun b h1 h2 hlt => hg.block b hlt (far b (by omega)))).kept (fun b h1 h2 hlt => heap_setCell_other w1 ⟨O, 0, none⟩ b v' (fun h => by have h9 : b = O := h; omega))
  · refine ((b6.trans (KeepsOthers.alloc _ _)).trans (KeepsOthers.of_grownBy hg (fun j o' hj ho' => ?_))).trans (KeepsOthers.setCell _ _ _)
    rcases b2a.2 with ⟨h1, _⟩ | ⟨g', c', cur', h1, _, h2, _⟩
    · rw [h1] at hj; cases hj
    · rw [h1] at hj
      have h9 : g' = j := Option.some.inj hj
      subst h9
      rw [h2] at ho'; cases ho'; rfl
  · exact ((b7.alloc (by omega) _).grown hg (by simp; omega) (fun k h => by have := (b2a.lt k h).1; omega)).setCell (p := ⟨O, 0, none⟩) hN _
theorem DS.app {O Q Bx : Nat} {x : KV} {w W V w1 : World} {out out' : List Ed} {rest : List KV} {sv ov v' : Value} (h : DS O Q Bx x w W V out rest sv ov) (hOQ : O < Q) (hBx : Q + 1 ≤ Bx) (hN : w.heap.size ≤ O) {e : Array Value} (hg : (V.alloc (.cells e 44)).grownBy w1 sv.ownBlock)
    (ho : w1.ownsRow (Q + 1) 44 3 v' out'.length (flatE encE out')) : DS O Q Bx x w W (w1.setCell ⟨O, 0, none⟩ v') out' rest v' ov := by
  obtain ⟨b1, b2, b3, b4, b5, b6, b7, b8⟩ := h
  exact out_app hOQ hBx hN b1 b2 b3 b4 b5 b6 b7 b8 hg ho
theorem DS.grown {O Q Bx : Nat} {x : KV} {w W V w1 : World} {out : List Ed} {rest : List KV} {sv ov : Value} (h : DS O Q Bx x w W V out rest sv ov) (hOQ : O < Q) {e : Array Value} (hg : (V.alloc (.cells e 44)).grownBy w1 sv.ownBlock) : w1.cell? ⟨O, 0, none⟩ = some sv ∧ w1.frozen? ⟨O, 0, none⟩ = false := by
  obtain ⟨b1, b2, b3, b4, b5, b6, b7, b8⟩ := h
  have c1 := (b1.alloc (.cells e 44)).kept hg (row_far (b2.alloc (.cells e 44)) (by omega))
  have c := c1.cell 0
  simp at c
  exact ⟨c, c1.frozen 0⟩
theorem DS.far5 {O Q Bx : Nat} {x : KV} {w W V w1 : World} {out : List Ed} {rest : List KV} {sv ov : Value} (h : DS O Q Bx x w W V out rest sv ov) (_hOQ : O < Q) {e : Array Value} (hg : (V.alloc (.cells e 44)).grownBy w1 sv.ownBlock) :
    w1.cell? ⟨Q, 0, none⟩ = V.cell? ⟨Q, 0, none⟩ ∧ ∀ b, O < b → b < Q → ∀ off, b < V.heap.size → w1.cell? ⟨b, off, none⟩ = V.cell? ⟨b, off, none⟩ := by
  obtain ⟨b1, b2, b3, b4, b5, b6, b7, b8⟩ := h
  have b2a := b2.alloc (.cells e 44)
  refine ⟨(hg.cell_far ⟨Q, 0, none⟩ (by simp; omega) (row_far b2a (by show Q < Q + 1; omega))).trans ((bl_alloc V _).cell (p := ⟨Q, 0, none⟩) (by show Q < V.heap.size; omega)), fun b h1 h2 off hlt => (hg.cell_far ⟨b, off, none⟩ (by simp; omega) (row_far b2a (by show b < Q + 1; omega))).trans ((bl_alloc V _).cell (p := ⟨b, off, none⟩) hlt)⟩
theorem out_old {e : Array Value} (hOQ : O < Q) (b1 : Blk V O 39 #[sv]) (b2 : V.ownsRow (Q + 1) 44 3 sv n xs) (hg : (V.alloc (.cells e 44)).grownBy w1 sv.ownBlock) : Blk w1 O 39 #[sv] ∧ w1.cell? ⟨O, 0, none⟩ = some sv ∧ w1.frozen? ⟨O, 0, none⟩ = false := by
  have c1 := (b1.alloc (.cells e 44)).kept hg (row_far (b2.alloc (.cells e 44)) (by omega))
  have c := c1.cell 0
  simp at c
  exact ⟨c1, c, c1.frozen 0⟩
theorem out_app2 {e : Array Value} (hOQ : O < Q) (hN : N0 ≤ O) (b1 : Blk V O 39 #[sv]) (b2 : V.ownsRow (Q + 1) 44 3 sv n xs) (b4 : RowV O Q V ov rest)
    (b6 : KeepsOthers W V) (b7 : Below N0 W V) (b8 : Q + 1 ≤ V.heap.size) (hg : (V.alloc (.cells e 44)).grownBy w1 sv.ownBlock) (ho : w1.ownsRow (Q + 1) 44 3 v' n' xs') :
    Blk (w1.setCell ⟨O, 0, none⟩ v') O 39 #[v'] ∧ (w1.setCell ⟨O, 0, none⟩ v').ownsRow (Q + 1) 44 3 v' n' xs' ∧ RowV O Q (w1.setCell ⟨O, 0, none⟩ v') ov rest ∧
      KeepsOthers W (w1.setCell ⟨O, 0, none⟩ v') ∧ Below N0 W (w1.setCell ⟨O, 0, none⟩ v') ∧ Q + 1 ≤ (w1.setCell ⟨O, 0, none⟩ v').heap.size := by
  have b2a := b2.alloc (.cells e 44)
  have far : ∀ b, b < Q + 1 → some b ≠ sv.ownBlock := fun b hb => row_far b2a hb
  have hsz := hg.size
  simp at hsz
  have c1 := (out_old hOQ b1 b2 hg).1
  have hrow : w1.grownBy (w1.setCell ⟨O, 0, none⟩ v') (some O) := grown_setAt w1 O 0 v'
  refine ⟨c1.set 0 v', ho.kept hrow (.inr (row_far ho (by omega)).symm), ?_, ?_, ?_, by simp; omega⟩
  · exact ((b4.kept (fun b _ _ hlt => (bl_alloc V (.cells e 44)).block b hlt)).kept (fun b h1 h2 hlt => hg.block b hlt (far b (by omega)))).kept (fun b h1 h2 hlt => heap_setCell_other w1 ⟨O, 0, none⟩ b v' (fun h => by have h9 : b = O := h; omega))
  · refine ((b6.trans (KeepsOthers.alloc _ _)).trans (KeepsOthers.of_grownBy hg (fun j o' hj ho' => ?_))).trans (KeepsOthers.setCell _ _ _)
    rcases b2a.2 with ⟨h1, _⟩ | ⟨g', c', cur', h1, _, h2, _⟩
    · rw [h1] at hj; cases hj
    · rw [h1] at hj
      have h9 : g' = j := Option.some.inj hj
      subst h9
      rw [h2] at ho'; cases ho'; rfl
  · exact ((b7.alloc (by omega) _).grown hg (by simp; omega) (fun k h => by have := (b2a.lt k h).1; omega)).setCell (p := ⟨O, 0, none⟩) hN _
/-- old is cut -/
theorem DS.cut {O Q Bx : Nat} {x q : KV} {w W V : World} {out : List Ed} {rs : List KV} {sv ov ov' : Value} (h : DS O Q Bx x w W V out (q :: rs) sv ov) (hOQ : O < Q) (hBx : Q + 1 ≤ Bx) (hN : w.heap.size ≤ O) (h4 : RowV O Q V ov' rs) : DS O Q Bx x w W (V.setCell ⟨Q, 0, none⟩ ov') out rs sv ov' := by
  obtain ⟨b1, b2, b3, _, b5, b6, b7, b8⟩ := h
  exact ⟨b1.far (p := ⟨Q, 0, none⟩) (Nat.ne_of_lt hOQ) _, b2.kept (grown_setAt V Q 0 ov') (.inr (row_far b2 (by omega)).symm), b3.set 0 ov', h4.kept (fun b h1 h2 hlt => heap_setCell_other V ⟨Q, 0, none⟩ b ov' (fun h => by have h9 : b = Q := h; omega)), b5.far (p := ⟨Q, 0, none⟩) (by show Bx ≠ Q; omega) _,
    b6.trans (KeepsOthers.setCell _ _ _), b7.setCell (p := ⟨Q, 0, none⟩) (by show _ ≤ Q; omega) _, by simp; omega⟩
/-- the cells -/
theorem DS.cells {O Q Bx : Nat} {x : KV} {w W V : World} {out : List Ed} {rest : List KV} {sv ov : Value} (h : DS O Q Bx x w W V out rest sv ov) :
    V.cell? ⟨O, 0, none⟩ = some sv ∧ V.cell? ⟨Q, 0, none⟩ = some ov ∧ V.cell? ⟨Bx, 0, none⟩ = some (.string x.k) ∧ V.cell? ⟨Bx, 1, none⟩ = some (.string x.v) ∧ V.frozen? ⟨O, 0, none⟩ = false ∧ V.frozen? ⟨Q, 0, none⟩ = false ∧ Bx < V.heap.size := by
  obtain ⟨b1, b2, b3, b4, b5, b6, b7, b8⟩ := h
  have c1 := b1.cell 0
  have c3 := b3.cell 0
  have c5 := b5.cell 0
  have c6 := b5.cell 1
  simp at c1 c3 c5 c6
  exact ⟨c1, c3, c5, c6, b1.frozen 0, b3.frozen 0, b5.lt⟩
end
theorem infoE : (Try.prog.info? 44).map (fun i => (i.zero, i.size, i.bytes)) = some (some (.agg #[.string ⟨#[]⟩, .string ⟨#[]⟩, .bool false]), 3, 40) := by kernel_rfl
set_option maxRecDepth 100000 in
set_option maxHeartbeats 8000000 in
theorem diff_any (Ta Tb : Tre) (w : World) (ha : IsT w Ta) (hb : IsT w Tb) (hla : Ta.l.length ≤ 100000) (hlb : Tb.l.length ≤ 100000) :
    Calls Try.prog 20 #[ptrN Ta.p, ptrN Tb.p] w (OwnPost 44 3 (flatE encE (difF Ta.l Tb.l)) (difF Ta.l Tb.l).length w) := by
  obtain ⟨i0, hi, hz0, hz1, hz2⟩ := info_parts infoE
  obtain ⟨rv, bT, hrt⟩ := hb.root
  have hs := hb.1
  obtain ⟨o, rfl⟩ : ∃ o, rv = .pointer o := by rcases hrt with ⟨rfl, _⟩ | ⟨_, x, rfl, _⟩; exact ⟨_, rfl⟩; exact ⟨_, rfl⟩
  have c0 := bT.cell 0
  simp at c0
  have hTlt := bT.lt
  have HRT := Lib.hid hrt; have HS := Lib.hid hs; have HA := Lib.hid ha
  clear hb bT hrt hs ha
  refine (callsIn_wide (n := 3)).1 ?_
  refine callsIn_of_wp_marks Try.func20 rfl trivial ?_ rfl
  simp only [Try.ntmps20, List.size_toArray, List.length_cons, List.length_nil, Nat.reduceAdd, Nat.reduceSub, Array.replicate_succ, Array.replicate_zero, List.push_toArray, List.append_toArray, List.nil_append, List.cons_append]
  gi_wp2_with fail
  refine ⟨trivial, ?_⟩
  refine (callsIn_wide.2 (range_any Ta ⟨#[]⟩ ⟨#[]⟩ _ (HA.out.below (bl_alloc _ _)) hla)).mono ?_
  rintro e w1 ⟨v1, rfl, ho1, hb1⟩
  rw [rangeL_all] at ho1
  have hB1 := bl_trans (bl_alloc w (.cells #[.slice none 0 0] 39)) hb1
  have bO1 : Blk w1 w.heap.size 39 #[.slice none 0 0] := (Blk.new w 39 #[.slice none 0 0]).below hb1 (by simp)
  obtain ⟨va, vc, rfl⟩ := row_slice ho1
  have c1 := ((bl_trans hB1 (bl_alloc w1 (.cells #[.slice va Ta.l.length vc] 27))).cell (p := ⟨Tb.p, 0, none⟩) hTlt).trans c0
  clear c0
  gi_wp2_with fail
  refine ⟨trivial, ?_⟩
  refine (from_any _ o ⟨#[]⟩ _).mono ?_
  rintro e w2 ⟨rfl, rfl⟩
  gi_wp2_with fail
  obtain ⟨Q, hQ⟩ : ∃ Q, Q = w1.heap.size := ⟨_, rfl⟩
  obtain ⟨O, hO⟩ : ∃ O, O = w.heap.size := ⟨_, rfl⟩
  obtain ⟨W0, hW0⟩ : ∃ W0, (((w1.alloc (.cells #[.slice va Ta.l.length vc] 27)).alloc (.cells #[.pointer o] 85)).alloc (.cells #[.string ⟨#[]⟩] 9)) = W0 := ⟨_, rfl⟩
  have hb10 : Below w1.heap.size w1 W0 := by rw [← hW0]; exact bl_trans (bl_trans (bl_alloc _ _) (bl_alloc _ _)) (bl_alloc _ _)
  have hB0 : Below w.heap.size w W0 := bl_trans hB1 hb10
  have hs0 : W0.heap.size = Q + 3 := by rw [← hW0, hQ]; simp
  have hOQ : O < Q := by have := bO1.lt; omega
  have bO : Blk W0 O 39 #[.slice none 0 0] := by rw [hO]; exact bO1.below hb10 bO1.lt
  have bQ : Blk W0 Q 27 #[.slice va Ta.l.length vc] := by rw [← hW0]; exact ((Blk.at hQ _ _).alloc _).alloc _
  have bN : Blk W0 (Q + 1) 85 #[.pointer o] := by rw [← hW0]; exact (Blk.at (by simp; omega) _ _).alloc _
  have bK : Blk W0 (Q + 1 + 1) 9 #[.string ⟨#[]⟩] := by rw [← hW0]; exact Blk.at (by simp; omega) _ _
  have hv0 : RowV O Q W0 (.slice va Ta.l.length vc) Ta.l := (RowV.of_row (O := O) (Q := Q) ho1 (by simp; omega) (by omega) (by omega)).kept (fun b _ _ hlt => hb10.block b hlt)
  have hwO : w.heap.size ≤ O := by omega
  have hOw : O < w.heap.size + 1 := by omega
  have hQO : w1.heap.size ≤ Q := by omega
  rw [hW0, ← hO, ← hQ]
  clear hW0 c1 ho1 bO1 hb1 hB1 hb10 hO hQ hQO
  refine wpIn_rangeFunc_ownT noT rfl (by omega) (gf := 61) (lb := #[.pointer (some ⟨Q + 1, 0, none⟩), .pointer (some ⟨Q + 1 + 1, 0, none⟩)]) rfl trivial (enters_of Try.func61 (by kernel_rfl) rfl)
    (from_stops (3 - 1) (by omega) (Q + 1) (Q + 1 + 1) (.pointer o) ⟨#[]⟩ Tb.l w W0 hB0 HRT.out HS.out hlb bN bK) keepT_t (keepT_b (n₀ := w.heap.size) (by omega)) (Below.refl _ _) (fun _ => rfl)
    (DifI Ta.l O Q w) (fun _ _ _ => False) ?own ?ownx ?start
    (fun x a' W => ∃ Bx, Q + 1 ≤ Bx ∧ Blk W Bx 63 #[.string x.k, .string x.v] ∧ a' = { tmps := #[ptrN Ta.p, ptrN Tb.p, undef, undef, .slice none 0 0, .pointer (some ⟨O, 0, none⟩), .pointer (some ⟨Q, 0, none⟩), .pointer (some ⟨Bx, 0, none⟩), undef, undef, ptrN Ta.p, .slice va Ta.l.length vc, ptrN Tb.p, .pointer (some ⟨Tb.p, 0, none⟩), .pointer (some ⟨Tb.p, 0, none⟩), .pointer o, fromF (Q + 1) (Q + 1 + 1), aggP x, undef, undef, undef, undef, undef, undef, undef, undef, undef, undef, undef, undef, undef, undef, undef, undef, undef, undef, undef, undef, undef, undef, undef, undef, undef, undef, undef, undef, undef, undef, undef, undef, undef, undef, undef, undef, undef, undef, undef, undef, undef, undef, undef, undef, undef, undef, undef, undef, undef, undef, undef, undef, undef, undef, undef, undef, undef, undef, undef, undef, undef, undef, undef, undef, undef, undef, undef, undef, undef, undef, undef, undef, undef], defers := [] })
    ?ax ?assign ?body ?done ?stop
  case own =>
    intro pre A B row hs hg hr
    obtain ⟨sv, ov, h1, h2, h3, h4, h5, h6⟩ := hs
    exact ⟨sv, ov, Blk.ownT _ _ (fun (_ : Unit) => #[sv]) rfl () A B row h1 hg hr, row_ownT sv (fun (s : List Ed) => s.length) (fun s => flatE encE s) rfl _ A B row h2 hg hr, Blk.ownT _ _ (fun (_ : Unit) => #[ov]) rfl () A B row h3 hg hr, h4.own hg hr, Nat.le_trans h5 hg.size, belowT (by omega) (by omega) () A B row h6 hg hr⟩
  case ownx => intro c s A B row hs; exact hs.elim
  case start => exact ⟨_, _, bO, World.ownsRow_nil _ _ _ _, bQ, hv0, by omega, hB0⟩
  case ax =>
    intro x a' _ X Y row hs hg hr
    obtain ⟨Bx, h1, h2, h3⟩ := hs
    exact ⟨Bx, h1, h2.kept hg (fun e => by obtain ⟨_, ob, ho, hc⟩ := hr Bx e.symm; rw [show X.heap[Bx]? = _ from h2] at ho; cases ho; cases hc), h3⟩
  case assign =>
    rintro l pre x W K ⟨sv, ov, h1, h2, h3, h4, h5, h6⟩ hK
    dsimp only [encY]
    gi_wp2
    exact hK _ _ ((KeepsOthers.alloc _ _).from _) (KeepT.alloc h6.size _) ⟨sv, ov, h1.alloc _, h2.alloc _, h3.alloc _, h4.kept (fun b _ _ hlt => (bl_alloc W _).block b hlt), (by simp; omega), bl_trans h6 (bl_alloc _ _)⟩ ⟨W.heap.size, h5, Blk.new _ _ _, rfl⟩
  case body =>
    rintro l pre x a' W hl ⟨r, hr⟩ ⟨sv, ov, h1, h2, h3, h4, h5, h6⟩ ⟨Bx, hBx, bX, rfl⟩ hx hlt
    have hpl : pre.length ≤ 100000 := by have := List.length_filter_le (fun x => !kl x.k ⟨#[]⟩) Tb.l; unfold rngL at hlt; omega
    have hdl := difS_len Ta.l pre
    obtain ⟨D, hD⟩ : ∃ D, D = difS Ta.l pre := ⟨_, rfl⟩
    rw [← hD] at h2 h4 hdl
    have HD := Lib.hid hD
    have D0 : DLp O Q Bx x D w W W := ⟨D.1, D.2, sv, ov, ⟨rfl, rfl, by omega⟩, h1, h2, h3, h4, bX, KeepsOthers.refl W, Below.refl _ _, h5⟩
    have HD0 := Lib.hid D0
    have H6 := Lib.hid h6
    clear hD D0 h1 h2 h3 h4 bX h6 hdl
    have HMS := Lib.hid (show maxLen = 9223372036854775807 from rfl)
    gi_wp2
    gi_loopw [] (fun wr => DLp O Q Bx x D w W wr) (fun wr => remN Q wr)
    case atStart => exact HD0.out
    case round =>
      clear HD0
      obtain ⟨out, rest, sv, ov, ⟨e1, e2, e3⟩, ds⟩ := hrel
      have E := Lib.hid (And.intro e1 e2)
      clear e1 e2
      obtain ⟨va', vc', rfl⟩ := row_slice ds.2.1
      cases rest with
      | nil =>
        obtain ⟨pa, c, rfl, _⟩ := ds.2.2.2.1
        obtain ⟨cO, cQ, x0, x1, fO, fQ, hBl⟩ := ds.cells
        have DSw := Lib.hid ds
        clear ds
        simp only [List.length_nil] at e3 cQ
        gi_wp2
        refine wpIn_round_quiet (by kernel_rfl) (by kernel_rfl) (by kernel_rfl) ?_
        repeat (go_big_quiet_step (fail))
        refine wpQuiet_nil ?_
        rintro w5 ⟨nq, rfl⟩
        gi_wp2
        refine wpIn_round_quiet (by kernel_rfl) (by kernel_rfl) (by kernel_rfl) ?_
        repeat (go_big_quiet_step (fail))
        refine wpQuiet_nil ?_
        rintro w5 ⟨nq2, rfl⟩
        have dv := (DSw.out.drewN nq).drewN nq2
        clear cO cQ x0 x1 fO fQ DSw
        generalize (wr.drewN nq).drewN nq2 = V at dv ⊢
        obtain ⟨cO, cQ, x0, x1, fO, fQ, hBl⟩ := dv.cells
        have DSv := Lib.hid dv
        clear dv
        gi_wp2_with (gi_at_builtin; refine wpListIn_append_own _ rfl _ _ 39 rfl (Q + 1) 44 i0 _ 3 40 Try.underlying39 hi hz0 hz1 hz2 (by rfl) (by decide) _ _ _ rfl (DSv.out.2.1.alloc _) ⟨V.heap.size, 0, none⟩ 1 1 [.string x.k, .string x.v, .bool false] rfl rfl (fun j u' hj => by rw [Go.WideShapes.add_plain, Nat.zero_add, (Blk.new V 44 #[.string x.k, .string x.v, .bool false]).cell, List.getElem?_toArray]; exact hj) (by intro u' hu'; simp at hu'; rcases hu' with rfl | rfl | rfl <;> rfl) (by have := HMS.out; omega) (by omega) (by have := DSv.out.2.2.2.2.2.2.2; simp; omega) ?_; intro v5 w5 hown5 hgrow5 _; obtain ⟨g5, cap5, rfl⟩ := ownsRow_succ hown5; have hg5 : (V.alloc (.cells #[.string x.k, .string x.v, .bool false] 44)).grownBy w5 (Value.slice va' out.length vc').ownBlock := hgrow5; have cf := DSv.out.grown hOQ hg5; have c5 := cf.1; have f5 := cf.2)
        have hn5 : DS O Q Bx x w W (w5.setCell ⟨O, 0, none⟩ (.slice (some ⟨g5, 0, none⟩) (out.length + 1) cap5)) (out ++ [edP x]) [] (.slice (some ⟨g5, 0, none⟩) (out.length + 1) cap5) (.slice pa 0 c) := DSv.out.app hOQ hBx hwO hg5 (by rw [List.length_append, flatE_snoc]; exact hown5)
        refine hn5.fin HD.out ?_ H6.out
        have hE := E.out
        unfold stepD
        rw [← hE.2, ← hE.1]
        simp [takeL, dropL]
      | cons q rs =>
        obtain ⟨b, off, c, rfl, hb1, hb2, hb3, hb4, hb5, q0, q1, hcut⟩ := ds.2.2.2.1.open
        obtain ⟨cO, cQ, x0, x1, fO, fQ, hBl⟩ := ds.cells
        have DSw := Lib.hid ds
        have HCUT := Lib.hid hcut
        clear ds hcut
        simp only [List.length_cons] at e3
        by_cases hk : kl q.k x.k = true
        · have hkb : Op.bytesLess q.k.toList x.k.toList = true := hk
          gi_wp2
          refine wpIn_round_quiet (by kernel_rfl) (by kernel_rfl) (by kernel_rfl) ?_
          repeat (go_big_quiet_step (fail))
          refine wpQuiet_nil ?_
          rintro w5 ⟨nq, rfl⟩
          gi_wp2
          have dv := DSw.out.drewN nq
          have q0' : (wr.drewN nq).cell? ⟨b, off, none⟩ = some (.string q.k) := q0
          have q1' : (wr.drewN nq).cell? ⟨b, off + 1, none⟩ = some (.string q.v) := q1
          have hb5' : b < (wr.drewN nq).heap.size := hb5
          have hrem : remN Q wr = rs.length + 1 := by unfold remN; rw [cQ]
          clear cO cQ x0 x1 fO fQ DSw q0 q1 hb5 HCUT
          generalize hVe : wr.drewN nq = V at dv q0' q1' hb5' ⊢
          clear hVe
          obtain ⟨cO, cQ, x0, x1, fO, fQ, hBl⟩ := dv.cells
          obtain ⟨b', off', c', hov, _, _, _, _, _, _, _, hcut⟩ := dv.2.2.2.1.open
          obtain ⟨⟨rfl, rfl⟩, rfl⟩ : (b = b' ∧ off = off') ∧ c = c' := by simpa using hov
          have HCUT := Lib.hid hcut
          have hOV : O < V.heap.size := by have := dv.2.2.2.2.2.2.2; omega
          have DSv := Lib.hid dv
          clear dv hov hcut
          apply share
          · intro tail
            refine wpIn_round_held (S := fun w' => w'.cell? ⟨Q, 0, none⟩ = some (.slice (some ⟨b, off, none⟩) (rs.length + 1) c) ∧ w'.cell? ⟨b, off, none⟩ = some (.string q.k)) (by kernel_rfl) (by kernel_rfl) ?_
            refine wpAnyH_take (i := 1) (v := .slice (some ⟨b, off, none⟩) (rs.length + 1) c) rfl (by kernel_rfl) (by kernel_rfl) (by kernel_rfl) (fun _ _ _ h => absurd h.1 (by simp)) (.inl ⟨by rfl, by rintro w' ⟨s1, s2⟩; go_simp⟩) ⟨cQ, q0'⟩ ?_
            refine wpAnyH_take (i := 2) (v := .pointer (some ⟨b, off, none⟩)) rfl (by kernel_rfl) (by kernel_rfl) (by kernel_rfl) (fun _ _ _ h => absurd h.1 (by simp)) (.inl ⟨by rfl, by rintro w' ⟨s1, s2⟩; go_simp⟩) ⟨cQ, q0'⟩ ?_
            refine wpAnyH_take (i := 3) (v := .pointer (some ⟨b, off, none⟩)) rfl (by kernel_rfl) (by kernel_rfl) (by kernel_rfl) (fun _ _ _ h => absurd h.1 (by simp)) (.inl ⟨by rfl, by rintro w' ⟨s1, s2⟩; go_simp⟩) ⟨cQ, q0'⟩ ?_
            refine wpAnyH_take (i := 4) (v := .string q.k) rfl (by kernel_rfl) (by kernel_rfl) (by kernel_rfl) (fun _ _ _ h => absurd h.1 (by simp)) (.inl ⟨by rfl, by rintro w' ⟨s1, s2⟩; go_simp⟩) ⟨cQ, q0'⟩ ?_
            refine wpAnyH_take (i := 5) (v := .agg #[.string q.k, .string ⟨#[]⟩, .bool true]) rfl (by kernel_rfl) (by kernel_rfl) (by kernel_rfl) (fun _ _ _ h => absurd h.1 (by simp)) (.inl ⟨by rfl, by rintro w' ⟨s1, s2⟩; go_simp⟩) ⟨cQ, q0'⟩ ?_
            refine wpAnyH_ready (rs := [0, 6]) (by kernel_rfl) (by simp) (AllReadyH.cons rfl (fun K hK => ?_) (AllReadyH.cons rfl (fun K hK => ?_) AllReadyH.nil))
            · go_simp
              refine hK.out _ _ ⟨cQ, q0'⟩ (fun _ => ?_)
              refine wpAnyH_ready (rs := [6]) (by kernel_rfl) (by simp) (AllReadyH.cons rfl (fun K hK => ?_) AllReadyH.nil)
              go_simp
              refine hK.out _ _ ⟨(World.cell?_alloc_some _ _ _ (by rw [cQ]; rfl)).trans cQ, (World.cell?_alloc_some _ _ _ (by rw [q0']; rfl)).trans q0'⟩ (fun _ => ?_)
              refine wpAnyH_ready (rs := [7]) (by kernel_rfl) (by simp) (AllReadyH.cons rfl (fun K hK => ?_) AllReadyH.nil)
              refine step_append_lies _ (by rfl) (.tmp 30) (.tmp 36) 39 (by rfl) (Q + 1) 44 i0 _ 3 40 Try.underlying39 hi hz0 hz1 hz2 rfl (by omega) (.slice va' out.length vc') out.length (flatE encE out) (by rfl) (DSv.out.2.1.alloc (.cells #[.string q.k, .string ⟨#[]⟩, .bool true] 44)) ⟨V.heap.size, 0, none⟩ 1 1 [.string q.k, .string ⟨#[]⟩, .bool true] (by rfl) (by rfl) (World.news_of_block (cs := #[.string q.k, .string ⟨#[]⟩, .bool true]) (t := 44) (fr := (0, 0)) (heap_alloc_new V _)) (by simp [Value.oneCell']) (by omega) (by have := HMS.out; omega) (by omega) (by have := DSv.out.2.2.2.2.2.2.2; simp; omega) _ rfl ?_
              intro g5 cap5 w5 hown5 hgrow5 hat5 hlt5
              have hg5 : (V.alloc (.cells #[.string q.k, .string ⟨#[]⟩, .bool true] 44)).grownBy w5 (Value.slice va' out.length vc').ownBlock := ⟨hgrow5.os, hgrow5.tape, hgrow5.output, hgrow5.size, hgrow5.block⟩
              have cf := DSv.out.grown hOQ hg5
              have c5 := cf.1
              have f5 := cf.2
              have n5 := DSv.out.app (out' := out ++ [edD q]) hOQ hBx hwO hg5 (by rw [List.length_append, flatE_snoc]; exact hown5)
              have sq := (DSv.out.far5 hOQ hg5).1
              have sb := (DSv.out.far5 hOQ hg5).2 b hb1 hb2 off
              refine hK.out _ _ ⟨sq.trans cQ, (sb hb5').trans q0'⟩ (fun sA => ?_)
              refine wpAnyH_ready (rs := [8]) (by kernel_rfl) (by simp) (AllReadyH.cons rfl (fun K hK => ?_) AllReadyH.nil)
              go_simp
              refine hK.out _ _ ⟨(cell_other (by show Q ≠ O; omega)).trans (sq.trans cQ), (cell_other (by show b ≠ O; omega)).trans ((sb hb5').trans q0')⟩ (fun sB => ?_)
              refine wpAnyH_done (by kernel_rfl) ⟨rfl, ?_⟩ _
              clear hK hgrow5 cf c5 f5 n5 sq sb hat5 hlt5 sA sB
              revert hg5; revert hown5; revert w5; revert cap5; revert g5; exact tail.out
            · go_simp
              refine hK.out _ _ ⟨(World.cell?_alloc_some _ _ _ (by rw [cQ]; rfl)).trans cQ, (World.cell?_alloc_some _ _ _ (by rw [q0']; rfl)).trans q0'⟩ (fun _ => ?_)
              refine wpAnyH_ready (rs := [0]) (by kernel_rfl) (by simp) (AllReadyH.cons rfl (fun K hK => ?_) AllReadyH.nil)
              go_simp
              refine hK.out _ _ ⟨(World.cell?_alloc_some _ _ _ (by rw [cQ]; rfl)).trans cQ, (World.cell?_alloc_some _ _ _ (by rw [q0']; rfl)).trans q0'⟩ (fun _ => ?_)
              refine wpAnyH_ready (rs := [7]) (by kernel_rfl) (by simp) (AllReadyH.cons rfl (fun K hK => ?_) AllReadyH.nil)
              refine step_append_lies _ (by rfl) (.tmp 30) (.tmp 36) 39 (by rfl) (Q + 1) 44 i0 _ 3 40 Try.underlying39 hi hz0 hz1 hz2 rfl (by omega) (.slice va' out.length vc') out.length (flatE encE out) (by rfl) (DSv.out.2.1.alloc (.cells #[.string q.k, .string ⟨#[]⟩, .bool true] 44)) ⟨V.heap.size, 0, none⟩ 1 1 [.string q.k, .string ⟨#[]⟩, .bool true] (by rfl) (by rfl) (World.news_of_block (cs := #[.string q.k, .string ⟨#[]⟩, .bool true]) (t := 44) (fr := (0, 0)) (heap_alloc_new V _)) (by simp [Value.oneCell']) (by omega) (by have := HMS.out; omega) (by omega) (by have := DSv.out.2.2.2.2.2.2.2; simp; omega) _ rfl ?_
              intro g5 cap5 w5 hown5 hgrow5 hat5 hlt5
              have hg5 : (V.alloc (.cells #[.string q.k, .string ⟨#[]⟩, .bool true] 44)).grownBy w5 (Value.slice va' out.length vc').ownBlock := ⟨hgrow5.os, hgrow5.tape, hgrow5.output, hgrow5.size, hgrow5.block⟩
              have cf := DSv.out.grown hOQ hg5
              have c5 := cf.1
              have f5 := cf.2
              have n5 := DSv.out.app (out' := out ++ [edD q]) hOQ hBx hwO hg5 (by rw [List.length_append, flatE_snoc]; exact hown5)
              have sq := (DSv.out.far5 hOQ hg5).1
              have sb := (DSv.out.far5 hOQ hg5).2 b hb1 hb2 off
              refine hK.out _ _ ⟨sq.trans cQ, (sb hb5').trans q0'⟩ (fun sA => ?_)
              refine wpAnyH_ready (rs := [8]) (by kernel_rfl) (by simp) (AllReadyH.cons rfl (fun K hK => ?_) AllReadyH.nil)
              go_simp
              refine hK.out _ _ ⟨(cell_other (by show Q ≠ O; omega)).trans (sq.trans cQ), (cell_other (by show b ≠ O; omega)).trans ((sb hb5').trans q0')⟩ (fun sB => ?_)
              refine wpAnyH_done (by kernel_rfl) ⟨rfl, ?_⟩ _
              clear hK hgrow5 cf c5 f5 n5 sq sb hat5 hlt5 sA sB
              revert hg5; revert hown5; revert w5; revert cap5; revert g5; exact tail.out
          · intro g5 cap5 w5 hown5 hg5
            have n5 := DSv.out.app (out' := out ++ [edD q]) hOQ hBx hwO hg5 (by rw [List.length_append, flatE_snoc]; exact hown5)
            clear cO cQ x0 x1 fO fQ q0' q1' hb5' HCUT hown5 hg5 DSv
            generalize w5.setCell ⟨O, 0, none⟩ (.slice (some ⟨g5, 0, none⟩) (out.length + 1) cap5) = V2 at n5 ⊢
            obtain ⟨cO, cQ, x0, x1, fO, fQ, hBl⟩ := n5.cells
            obtain ⟨b', off', c', hov, _, _, _, _, _, _, _, hcut⟩ := n5.2.2.2.1.open
            obtain ⟨⟨rfl, rfl⟩, rfl⟩ : (b = b' ∧ off = off') ∧ c = c' := by simpa using hov
            have h1i : (1 : Int) ≤ (rs.length : Int) + 1 := by omega
            have h2i : (rs.length : Int) + 1 ≤ (c : Int) := by omega
            have hE1 : out ++ [edD q] ++ (takeL x.k rs).map edD = D.1 ++ (takeL x.k D.2).map edD := by
              rw [← E.out.1, (takeL_yes hk).1]; simp
            have hE2 : dropL x.k rs = dropL x.k D.2 := by rw [← E.out.2, (takeL_yes hk).2]
            have HE := Lib.hid (And.intro hE1 hE2)
            have HN5 := Lib.hid n5; have HCUT := Lib.hid hcut
            have hrem' : Hid (remN Q wr = rs.length + 1) := hrem
            clear hE1 hE2 n5 hcut hov hk hkb hrem
            by_cases hc1 : c = 1
            · subst hc1
              obtain rfl : rs = [] := List.length_eq_zero_iff.1 (by omega)
              gi_wp2
              have n6 : DS O Q Bx x w W (V2.setCell ⟨Q, 0, none⟩ (.slice (some ⟨b, off, none⟩) 0 0)) (out ++ [edD q]) [] (.slice (some ⟨g5, 0, none⟩) (out.length + 1) cap5) (.slice (some ⟨b, off, none⟩) 0 0) := HN5.out.cut hOQ hBx hwO (HCUT.out (some ⟨b, off, none⟩) (fun h => absurd rfl h))
              go_roundw
              case rel => exact ⟨_, _, _, _, ⟨HE.out.1, HE.out.2, by rw [List.length_append, List.length_singleton]; omega⟩, n6⟩
              case measure =>
                have c6 := n6.cells.2.1
                rw [hrem'.out]
                unfold remN
                rw [show _ = _ from c6]
                show 0 < _
                exact Nat.succ_pos _
            · gi_wp2
              have n6 := HN5.out.cut hOQ hBx hwO (HCUT.out (some ⟨b, off + 2, none⟩) (fun _ => rfl))
              go_roundw
              case rel => exact ⟨_, _, _, _, ⟨HE.out.1, HE.out.2, by rw [List.length_append, List.length_singleton]; omega⟩, n6⟩
              case measure =>
                have c6 := n6.cells.2.1
                rw [hrem'.out]
                unfold remN
                rw [show _ = _ from c6]
                show rs.length < _
                omega
        · have hkf : kl q.k x.k = false := by simpa using hk
          have hkb : Op.bytesLess q.k.toList x.k.toList = false := hkf
          clear hk
          by_cases hq : q.k = x.k
          · have hnb : (q.k.toList == x.k.toList) = true := by rw [hq]; simp
            have hnd : decide (q.k.toList = x.k.toList) = true := by rw [hq]; simp
            have hnt : (q.k.toList = x.k.toList) = True := by rw [hq]; simp
            have HNQ := Lib.hid hq
            clear hq
            have h1i : (1 : Int) ≤ (rs.length : Int) + 1 := by omega
            have h2i : (rs.length : Int) + 1 ≤ (c : Int) := by omega
            by_cases hv : q.v = x.v
            · have hvb : (q.v.toList == x.v.toList) = true := by rw [hv]; simp
              have hvn : (q.v.toList != x.v.toList) = false := by rw [hv]; simp
              have hvt : (q.v.toList = x.v.toList) = True := by rw [hv]; simp
              have HV := Lib.hid hv
              clear hv
              gi_wp2
              refine wpIn_round_quiet (by kernel_rfl) (by kernel_rfl) (by kernel_rfl) ?_
              repeat (go_big_quiet_step (fail))
              refine wpQuiet_nil ?_
              rintro w5 ⟨nq, rfl⟩
              gi_wp2
              refine wpIn_round_quiet (by kernel_rfl) (by kernel_rfl) (by kernel_rfl) ?_
              repeat (go_big_quiet_step (fail))
              refine wpQuiet_nil ?_
              rintro w5 ⟨nq2, rfl⟩
              gi_wp2
              refine wpIn_round_quiet (by kernel_rfl) (by kernel_rfl) (by kernel_rfl) ?_
              repeat (go_big_quiet_step (fail))
              refine wpQuiet_nil ?_
              rintro w5 ⟨nq3, rfl⟩
              have dv := ((DSw.out.drewN nq).drewN nq2).drewN nq3
              clear cO cQ x0 x1 fO fQ DSw q0 q1 hb5 HCUT
              generalize ((wr.drewN nq).drewN nq2).drewN nq3 = V at dv ⊢
              obtain ⟨cO, cQ, x0, x1, fO, fQ, hBl⟩ := dv.cells
              obtain ⟨b', off', c', hov, _, _, _, _, _, _, _, hcut⟩ := dv.2.2.2.1.open
              obtain ⟨⟨rfl, rfl⟩, rfl⟩ : (b = b' ∧ off = off') ∧ c = c' := by simpa using hov
              have HCUT := Lib.hid hcut
              have DSv := Lib.hid dv
              clear dv hcut hov
              by_cases hc1 : c = 1
              · subst hc1
                obtain rfl : rs = [] := List.length_eq_zero_iff.1 (by omega)
                gi_wp2
                have n6 : DS O Q Bx x w W (V.setCell ⟨Q, 0, none⟩ (.slice (some ⟨b, off, none⟩) 0 0)) out [] (.slice va' out.length vc') (.slice (some ⟨b, off, none⟩) 0 0) := DSv.out.cut hOQ hBx hwO (HCUT.out (some ⟨b, off, none⟩) (fun h => absurd rfl h))
                refine n6.fin HD.out ?_ H6.out
                have hE := E.out
                rw [(takeL_no hkf).1, (takeL_no hkf).2, List.map_nil, List.append_nil] at hE
                unfold stepD
                rw [← hE.2, ← hE.1]
                simp only
                rw [if_pos HNQ.out, if_pos HV.out]
              · skip
                gi_wp2
                have n6 : DS O Q Bx x w W (V.setCell ⟨Q, 0, none⟩ (.slice (some ⟨b, off + 2, none⟩) rs.length (c - 1))) out rs (.slice va' out.length vc') (.slice (some ⟨b, off + 2, none⟩) rs.length (c - 1)) := DSv.out.cut hOQ hBx hwO (HCUT.out (some ⟨b, off + 2, none⟩) (fun _ => rfl))
                refine n6.fin HD.out ?_ H6.out
                have hE := E.out
                rw [(takeL_no hkf).1, (takeL_no hkf).2, List.map_nil, List.append_nil] at hE
                unfold stepD
                rw [← hE.2, ← hE.1]
                simp only
                rw [if_pos HNQ.out, if_pos HV.out]
            · have hvt : ¬ (q.v.toList = x.v.toList) := fun h => hv (toL_inj h)
              have hvb : (q.v.toList == x.v.toList) = false := by simpa using hvt
              have hvn : (q.v.toList != x.v.toList) = true := by simpa using hvt
              have HV := Lib.hid hv
              clear hv
              gi_wp2
              refine wpIn_round_quiet (by kernel_rfl) (by kernel_rfl) (by kernel_rfl) ?_
              repeat (go_big_quiet_step (fail))
              refine wpQuiet_nil ?_
              rintro w5 ⟨nq, rfl⟩
              gi_wp2
              refine wpIn_round_quiet (by kernel_rfl) (by kernel_rfl) (by kernel_rfl) ?_
              repeat (go_big_quiet_step (fail))
              refine wpQuiet_nil ?_
              rintro w5 ⟨nq2, rfl⟩
              gi_wp2
              refine wpIn_round_quiet (by kernel_rfl) (by kernel_rfl) (by kernel_rfl) ?_
              repeat (go_big_quiet_step (fail))
              refine wpQuiet_nil ?_
              rintro w5 ⟨nq3, rfl⟩
              have dv := ((DSw.out.drewN nq).drewN nq2).drewN nq3
              clear cO cQ x0 x1 fO fQ DSw q0 q1 hb5 HCUT
              generalize ((wr.drewN nq).drewN nq2).drewN nq3 = V at dv ⊢
              obtain ⟨cO, cQ, x0, x1, fO, fQ, hBl⟩ := dv.cells
              obtain ⟨b', off', c', hov, _, _, _, _, _, _, _, hcut⟩ := dv.2.2.2.1.open
              obtain ⟨⟨rfl, rfl⟩, rfl⟩ : (b = b' ∧ off = off') ∧ c = c' := by simpa using hov
              have HCUT := Lib.hid hcut
              have DSv := Lib.hid dv
              clear dv hcut hov
              by_cases hc1 : c = 1
              · subst hc1
                obtain rfl : rs = [] := List.length_eq_zero_iff.1 (by omega)
                gi_wp2_with (gi_at_builtin; refine wpListIn_append_own _ rfl _ _ 39 rfl (Q + 1) 44 i0 _ 3 40 Try.underlying39 hi hz0 hz1 hz2 (by rfl) (by decide) _ _ _ rfl (DSv.out.2.1.alloc _) ⟨V.heap.size, 0, none⟩ 1 1 [.string x.k, .string x.v, .bool false] rfl rfl (fun j u' hj => by rw [Go.WideShapes.add_plain, Nat.zero_add, (Blk.new V 44 #[.string x.k, .string x.v, .bool false]).cell, List.getElem?_toArray]; exact hj) (by intro u' hu'; simp at hu'; rcases hu' with rfl | rfl | rfl <;> rfl) (by have := HMS.out; omega) (by omega) (by have := DSv.out.2.2.2.2.2.2.2; simp; omega) ?_; intro v5 w5 hown5 hgrow5 _; obtain ⟨g5, cap5, rfl⟩ := ownsRow_succ hown5; have hg5 : (V.alloc (.cells #[.string x.k, .string x.v, .bool false] 44)).grownBy w5 (Value.slice va' out.length vc').ownBlock := hgrow5; have cf := DSv.out.grown hOQ hg5; have c5 := cf.1; have f5 := cf.2; have sq := (DSv.out.far5 hOQ hg5).1.trans cQ; have fq := (hgrow5.frozen_far ⟨Q, 0, none⟩ (by have := DSv.out.2.2.2.2.2.2.2; simp; omega) (row_far (DSv.out.2.1.alloc (.cells #[.string x.k, .string x.v, .bool false] 44)) (by show Q < Q + 1; omega))).trans ((Blk.alloc DSv.out.2.2.1 _).frozen 0))
                have n5 := DSv.out.app (out' := out ++ [edP x]) hOQ hBx hwO hg5 (by rw [List.length_append, flatE_snoc]; exact hown5)
                obtain ⟨b', off', c', hov, _, _, _, _, _, _, _, hcut⟩ := n5.2.2.2.1.open
                obtain ⟨⟨rfl, rfl⟩, rfl⟩ : (b = b' ∧ off = off') ∧ _ = c' := by simpa using hov
                have n6 : DS O Q Bx x w W ((w5.setCell ⟨O, 0, none⟩ (.slice (some ⟨g5, 0, none⟩) (out.length + 1) cap5)).setCell ⟨Q, 0, none⟩ (.slice (some ⟨b, off, none⟩) 0 0)) (out ++ [edP x]) [] (.slice (some ⟨g5, 0, none⟩) (out.length + 1) cap5) (.slice (some ⟨b, off, none⟩) 0 0) := n5.cut hOQ hBx hwO (hcut (some ⟨b, off, none⟩) (fun h => absurd rfl h))
                refine n6.fin HD.out ?_ H6.out
                have hE := E.out
                rw [(takeL_no hkf).1, (takeL_no hkf).2, List.map_nil, List.append_nil] at hE
                unfold stepD
                rw [← hE.2, ← hE.1]
                simp only
                rw [if_pos HNQ.out, if_neg HV.out]
              · skip
                gi_wp2_with (gi_at_builtin; refine wpListIn_append_own _ rfl _ _ 39 rfl (Q + 1) 44 i0 _ 3 40 Try.underlying39 hi hz0 hz1 hz2 (by rfl) (by decide) _ _ _ rfl (DSv.out.2.1.alloc _) ⟨V.heap.size, 0, none⟩ 1 1 [.string x.k, .string x.v, .bool false] rfl rfl (fun j u' hj => by rw [Go.WideShapes.add_plain, Nat.zero_add, (Blk.new V 44 #[.string x.k, .string x.v, .bool false]).cell, List.getElem?_toArray]; exact hj) (by intro u' hu'; simp at hu'; rcases hu' with rfl | rfl | rfl <;> rfl) (by have := HMS.out; omega) (by omega) (by have := DSv.out.2.2.2.2.2.2.2; simp; omega) ?_; intro v5 w5 hown5 hgrow5 _; obtain ⟨g5, cap5, rfl⟩ := ownsRow_succ hown5; have hg5 : (V.alloc (.cells #[.string x.k, .string x.v, .bool false] 44)).grownBy w5 (Value.slice va' out.length vc').ownBlock := hgrow5; have cf := DSv.out.grown hOQ hg5; have c5 := cf.1; have f5 := cf.2; have sq := (DSv.out.far5 hOQ hg5).1.trans cQ; have fq := (hgrow5.frozen_far ⟨Q, 0, none⟩ (by have := DSv.out.2.2.2.2.2.2.2; simp; omega) (row_far (DSv.out.2.1.alloc (.cells #[.string x.k, .string x.v, .bool false] 44)) (by show Q < Q + 1; omega))).trans ((Blk.alloc DSv.out.2.2.1 _).frozen 0))
                have n5 := DSv.out.app (out' := out ++ [edP x]) hOQ hBx hwO hg5 (by rw [List.length_append, flatE_snoc]; exact hown5)
                obtain ⟨b', off', c', hov, _, _, _, _, _, _, _, hcut⟩ := n5.2.2.2.1.open
                obtain ⟨⟨rfl, rfl⟩, rfl⟩ : (b = b' ∧ off = off') ∧ _ = c' := by simpa using hov
                have n6 : DS O Q Bx x w W ((w5.setCell ⟨O, 0, none⟩ (.slice (some ⟨g5, 0, none⟩) (out.length + 1) cap5)).setCell ⟨Q, 0, none⟩ (.slice (some ⟨b, off + 2, none⟩) rs.length (c - 1))) (out ++ [edP x]) rs (.slice (some ⟨g5, 0, none⟩) (out.length + 1) cap5) (.slice (some ⟨b, off + 2, none⟩) rs.length (c - 1)) := n5.cut hOQ hBx hwO (hcut (some ⟨b, off + 2, none⟩) (fun _ => rfl))
                refine n6.fin HD.out ?_ H6.out
                have hE := E.out
                rw [(takeL_no hkf).1, (takeL_no hkf).2, List.map_nil, List.append_nil] at hE
                unfold stepD
                rw [← hE.2, ← hE.1]
                simp only
                rw [if_pos HNQ.out, if_neg HV.out]
          · have hn : ¬ (q.k.toList = x.k.toList) := fun h => hq (toL_inj h)
            have hnb : (q.k.toList == x.k.toList) = false := by simpa using hn
            have HNQ := Lib.hid hq
            clear hq
            gi_wp2
            refine wpIn_round_quiet (by kernel_rfl) (by kernel_rfl) (by kernel_rfl) ?_
            repeat (go_big_quiet_step (fail))
            refine wpQuiet_nil ?_
            rintro w5 ⟨nq, rfl⟩
            gi_wp2
            refine wpIn_round_quiet (by kernel_rfl) (by kernel_rfl) (by kernel_rfl) ?_
            repeat (go_big_quiet_step (fail))
            refine wpQuiet_nil ?_
            rintro w5 ⟨nq2, rfl⟩
            have dv := (DSw.out.drewN nq).drewN nq2
            clear cO cQ x0 x1 fO fQ DSw q0 q1 hb5 HCUT
            generalize (wr.drewN nq).drewN nq2 = V at dv ⊢
            obtain ⟨cO, cQ, x0, x1, fO, fQ, hBl⟩ := dv.cells
            obtain ⟨b', off', c', hov, _, _, _, _, _, _, _, hcut⟩ := dv.2.2.2.1.open
            obtain ⟨⟨rfl, rfl⟩, rfl⟩ : (b = b' ∧ off = off') ∧ c = c' := by simpa using hov
            have HCUT := Lib.hid hcut
            have DSv := Lib.hid dv
            clear dv hcut hov
            gi_wp2_with (gi_at_builtin; refine wpListIn_append_own _ rfl _ _ 39 rfl (Q + 1) 44 i0 _ 3 40 Try.underlying39 hi hz0 hz1 hz2 (by rfl) (by decide) _ _ _ rfl (DSv.out.2.1.alloc _) ⟨V.heap.size, 0, none⟩ 1 1 [.string x.k, .string x.v, .bool false] rfl rfl (fun j u' hj => by rw [Go.WideShapes.add_plain, Nat.zero_add, (Blk.new V 44 #[.string x.k, .string x.v, .bool false]).cell, List.getElem?_toArray]; exact hj) (by intro u' hu'; simp at hu'; rcases hu' with rfl | rfl | rfl <;> rfl) (by have := HMS.out; omega) (by omega) (by have := DSv.out.2.2.2.2.2.2.2; simp; omega) ?_; intro v5 w5 hown5 hgrow5 _; obtain ⟨g5, cap5, rfl⟩ := ownsRow_succ hown5; have hg5 : (V.alloc (.cells #[.string x.k, .string x.v, .bool false] 44)).grownBy w5 (Value.slice va' out.length vc').ownBlock := hgrow5; have cf := DSv.out.grown hOQ hg5; have c5 := cf.1; have f5 := cf.2; have sq := (DSv.out.far5 hOQ hg5).1.trans cQ; have fq := (hgrow5.frozen_far ⟨Q, 0, none⟩ (by have := DSv.out.2.2.2.2.2.2.2; simp; omega) (row_far (DSv.out.2.1.alloc (.cells #[.string x.k, .string x.v, .bool false] 44)) (by show Q < Q + 1; omega))).trans ((Blk.alloc DSv.out.2.2.1 _).frozen 0))
            have n5 := DSv.out.app (out' := out ++ [edP x]) hOQ hBx hwO hg5 (by rw [List.length_append, flatE_snoc]; exact hown5)
            refine n5.fin HD.out ?_ H6.out
            have hE := E.out
            rw [(takeL_no hkf).1, (takeL_no hkf).2, List.map_nil, List.append_nil] at hE
            unfold stepD
            rw [← hE.2, ← hE.1]
            simp only
            rw [if_neg HNQ.out]
  case done =>
    rintro Dd ys W hD rfl ⟨sv, ov, h1, h2, h3, h4, h5, h6⟩ hK
    have hrl : rngL Tb.l ⟨#[]⟩ = Tb.l := by
      have := rangeL_all Tb.l
      unfold rangeL at this
      rw [take_all (fun x _ => by unfold cutB; rw [show (⟨#[]⟩ : ByteArray).toList = [] by rw [ByteArray.toList_eq]]; rfl)] at this
      exact this
    rw [hrl] at h2 h4
    have hdl := difS_len Ta.l Tb.l
    obtain ⟨D, hD'⟩ : ∃ D, D = difS Ta.l Tb.l := ⟨_, rfl⟩
    have hdif : difF Ta.l Tb.l = D.1 ++ D.2.map edD := by unfold difF; rw [hD']
    rw [← hD'] at h2 h4 hdl
    have HDIF := Lib.hid hdif
    obtain ⟨pa, c, rfl, hc1, hc2, hrow⟩ := h4
    have h4 : RowV O Q W (.slice pa D.2.length c) D.2 := ⟨pa, c, rfl, hc1, hc2, hrow⟩
    have cQ := h3.cell 0
    simp at cQ
    obtain ⟨va', vc', rfl⟩ := row_slice h2
    have HH := Lib.hid (And.intro h1 (And.intro h2 (And.intro h4 h5)))
    have H6 := Lib.hid h6; have HK := Lib.hid hK
    clear h1 h2 h3 h4 h5 h6 hrow hdif hD' hrl hK
    have HMS := Lib.hid (show maxLen = 9223372036854775807 from rfl)
    gi_wp2
    gi_loopg [79] D.2.length (fun kx s79 wr => ∃ (i : Nat) (out : List Ed) (sv : Value), s79 = .int .i64 i ∧ i ≤ D.2.length ∧ D.2.length - i ≤ kx ∧ Hid (out = D.1 ++ (D.2.take i).map edD) ∧ Blk wr O 39 #[sv] ∧ Hid (wr.ownsRow (Q + 1) 44 3 sv out.length (flatE encE out)) ∧ Hid (RowV O Q wr (.slice pa D.2.length c) D.2) ∧ Hid (KeepsOthers W wr) ∧ Below w.heap.size W wr ∧ Q + 1 ≤ wr.heap.size)
    case atStart => exact ⟨0, D.1, _, rfl, Nat.zero_le _, Nat.le_refl _, Lib.hid (by simp), HH.out.1, Lib.hid HH.out.2.1, Lib.hid HH.out.2.2.1, Lib.hid (KeepsOthers.refl W), Below.refl _ _, HH.out.2.2.2⟩
    case round =>
      obtain ⟨i, out, sv, rfl, hile, hm, ho, bO, hr, hv, hko, hbl, hsz⟩ := hrel
      obtain ⟨va2, vc2, rfl⟩ := row_slice hr.out
      have cO := bO.cell 0
      simp at cO
      have fO := bO.frozen 0
      have hol : out.length = D.1.length + i := by rw [ho.out, List.length_append, List.length_map, List.length_take]; omega
      have HOL := Lib.hid hol
      have hol2 : out.length ≤ 200000 := by omega
      clear hol
      by_cases hlt : i < D.2.length
      · obtain ⟨q, hq⟩ : ∃ q, D.2[i]? = some q := ⟨_, List.getElem?_eq_getElem hlt⟩
        obtain ⟨b, off, hpa, hb1, hb2, hb3, q0, q1⟩ := hv.out.at rfl hq
        subst hpa
        have HQ := Lib.hid hq; have BO := Lib.hid bO
        have hOr : O < wr.heap.size := bO.lt
        clear hq bO
        have hbp : Below wr.heap.size wr (wr.alloc (.cells #[.string q.k, .string q.v] 63)) := bl_alloc _ _
        obtain ⟨V, hV⟩ : ∃ V, V = wr.alloc (.cells #[.string q.k, .string q.v] 63) := ⟨_, rfl⟩
        have bOV : Blk V O 39 #[.slice va2 out.length vc2] := by rw [hV]; exact BO.out.alloc _
        have hrV := row_below hr.out hbp
        rw [← hV] at hrV
        have HRV := Lib.hid hrV; have HV := Lib.hid hV; have BOV := Lib.hid bOV
        clear hrV hV bOV hbp
        gi_wp2_with (gi_at_builtin; rw [← HV.out]; refine wpListIn_append_own _ rfl _ _ 39 rfl (Q + 1) 44 i0 _ 3 40 Try.underlying39 hi hz0 hz1 hz2 (by rfl) (by decide) (.slice va2 out.length vc2) out.length (flatE encE out) rfl (HRV.out.alloc _) ⟨wr.heap.size + 1, 0, none⟩ 1 1 [.string q.k, .string ⟨#[]⟩, .bool true] rfl rfl (fun j u' hj => by rw [Go.WideShapes.add_plain, Nat.zero_add, (Blk.at (show wr.heap.size + 1 = V.heap.size by rw [HV.out]; simp) 44 #[.string q.k, .string ⟨#[]⟩, .bool true]).cell, List.getElem?_toArray]; exact hj) (by intro u' hu'; simp at hu'; rcases hu' with rfl | rfl | rfl <;> rfl) (by have := HMS.out; omega) (by omega) (by have := HV.out; simp [this]; omega) ?_; intro v5 w5 hown5 hgrow5 _; obtain ⟨g5, cap5, rfl⟩ := ownsRow_succ hown5; have hg5 : (V.alloc (.cells #[.string q.k, .string ⟨#[]⟩, .bool true] 44)).grownBy w5 (Value.slice va2 out.length vc2).ownBlock := hgrow5; have cf := out_old hOQ BOV.out HRV.out hg5; have c5 := cf.2.1; have f5 := cf.2.2)
        have hVs : V.heap.size = wr.heap.size + 1 := by rw [HV.out]; simp
        have hkV : KeepsOthers W V := by rw [HV.out]; exact hko.out.trans (KeepsOthers.alloc _ _)
        have hbV : Below w.heap.size W V := by rw [HV.out]; exact hbl.alloc (by have := H6.out.size; have := hbl.size; omega) _
        have hvV : RowV O Q V (.slice (some ⟨b, off, none⟩) D.2.length c) D.2 := by rw [HV.out]; exact hv.out.kept (fun b _ _ hlt => (bl_alloc _ _).block b hlt)
        have hn := out_app2 (N0 := w.heap.size) hOQ hwO BOV.out HRV.out hvV hkV hbV (by omega) hg5 hown5
        gi_roundg (D.2.length - (i + 1))
        case measure => omega
        case rel =>
          refine ⟨i + 1, out ++ [edD q], _, by go_num, by omega, Nat.le_refl _, ?_, hn.1, ?_, hn.2.2.1, hn.2.2.2.1, hn.2.2.2.2.1, hn.2.2.2.2.2⟩
          · show _ = _
            rw [ho.out, List.take_add_one, HQ.out]; simp
          · show World.ownsRow _ _ _ _ _ _ _
            rw [List.length_append, flatE_snoc]; exact hn.2.1
      · obtain rfl : i = D.2.length := by omega
        have hKw := hko.out.same Dd _ HK.out rfl
        have hbw := H6.out.trans hbl
        have hor := hr.out
        have hoe : out = D.1 ++ D.2.map edD := by rw [ho.out, List.take_length]
        subst hoe
        have HOR := Lib.hid hor; have HBW := Lib.hid hbw; have HKW := Lib.hid hKw
        clear hor hbw hKw hr hv hko ho bO
        gi_wp2
        refine ⟨by simp, .inl ⟨_, _, rfl, run_takeDeferred HKW.out, ?_⟩⟩
        refine ⟨_, results_tmp rfl _ _ _, _, rfl, ?_, HBW.out.trans (belowK_b (w := w) (Nat.le_refl _) wr Dd _ _ (by omega) HKW.out rfl rfl)⟩
        have hle : (D.1 ++ D.2.map edD).length = D.1.length + D.2.length := by simp
        have hor := HOR.out
        rw [HDIF.out, hle]
        rw [hle] at hor
        exact row_base (ownsRow_putObj hor _ HKW.out rfl) (by omega)
  case stop =>
    rintro Dd c pre W hD hpre h
    exact h.elim
end Go.Proofs.Ytmkhnpkbaegchaa
