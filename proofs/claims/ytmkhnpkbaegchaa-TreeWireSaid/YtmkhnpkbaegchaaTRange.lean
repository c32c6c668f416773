/- The walks of from and of Range. Conditions: the tree lies in memory, its pairs are in order. -/
import Derived.Test.YtmkhnpkbaegchaaTVisit
import Derived.Laws.EntriesVeiled
namespace Go.Proofs.Ytmkhnpkbaegchaa
open Go.RowKit
attribute [local go_sem] Oper.semAt_some

theorem visit_in (l : Nat) (J Jx : List KV → World → Prop) (w0 : World) (key : ByteArray) (N : Nat) (n : Nat) (hn : 1 ≤ n)
    (hJ : AbidesT (fun _ => false) w0.heap.size J)
    (hY : ∀ pre x W1, J pre W1 → pre.length < N → YieldAt Fence.wide (n - 1) Try.prog l (encY x) W1 fun e W' =>
      (e = .returned (.bool true) ∧ J (pre ++ [x]) W' ∧ Below w0.heap.size W1 W') ∨ (e = .returned (.bool false) ∧ Jx (pre ++ [x]) W')) :
    ∀ (h : Nat) (x : Kid) (pre : List KV) (W : World), IsN Any h w0 x → Srt x.l → x.l.length ≤ 100000 → Below w0.heap.size w0 W → J pre W → pre.length + (rngL x.l key).length ≤ N →
      CallsIn Fence.wide n Try.prog 62 #[ptrN x.p, .string key, .func (.yield l) #[] #[]] W (VisPost w0.heap.size w0 (rngL x.l key) J Jx pre)
  | 0, x, pre, W, hx, hs, hl, hB, h0, hN => visit_step l J Jx w0 key N n hn hJ hY 0 x pre W hx hs hl hB h0 hN (fun h' e => by cases e)
  | h + 1, x, pre, W, hx, hs, hl, hB, h0, hN => visit_step l J Jx w0 key N n hn hJ hY (h + 1) x pre W hx hs hl hB h0 hN (fun h' e y pre' W' hy hys hyl hB' hJ' hN' => by
      cases e
      exact callsIn_wide.1 (visit_in l J Jx w0 key N n hn hJ hY h y pre' W' hy hys hyl hB' hJ' hN'))
set_option maxHeartbeats 1000000 in
theorem visit_nil (key : ByteArray) (v : Value) (W : World) : Calls Try.prog 62 #[.pointer none, .string key, v] W (Pur (.bool true) W) := by
  go_enter Try.func62, Try.ntmps62
  go_wp2
  go_ret
  exact ⟨rfl, rfl⟩
/-- a root: none, or a node with all below it -/
def RootIs (w : World) (rv : Value) (l : List KV) : Prop := (rv = .pointer none ∧ l = []) ∨ ∃ h x, rv = ptrN x.p ∧ IsN Any h w x ∧ l = x.l
theorem RootIs.below {w w' : World} {rv : Value} {l : List KV} (h : RootIs w rv l) (hb : Below w.heap.size w w') : RootIs w' rv l := by
  rcases h with h | ⟨h', x, h1, h2, h3⟩
  · exact .inl h
  · exact .inr ⟨h', x, h1, h2.below hb, h3⟩
theorem IsT.root {w : World} {T : Tre} (h : IsT w T) : ∃ rv, Blk w T.p 87 #[rv] ∧ RootIs w rv T.l := by
  obtain ⟨_, ⟨h1, _, _, h4⟩ | ⟨h', x, h1, h2, h3, _⟩⟩ := h
  · exact ⟨_, h4, .inl ⟨rfl, h1⟩⟩
  · exact ⟨_, h1, .inr ⟨h', x, rfl, h2, h3⟩⟩
abbrev noT : TypeId → Bool := fun _ => false
abbrev fromF (Bn Bk : Nat) : Value := .func (.func 61) #[] #[.pointer (some ⟨Bn, 0, none⟩), .pointer (some ⟨Bk, 0, none⟩)]
set_option maxHeartbeats 1000000 in
theorem from_any (n : Nat) (o : Option Addr) (key : ByteArray) (w : World) :
    CallsIn Fence.wide n Try.prog 44 #[.pointer o, .string key] w fun e w' => e = .returned (fromF w.heap.size (w.heap.size + 1)) ∧ w' = (w.alloc (.cells #[.pointer o] 85)).alloc (.cells #[.string key] 9) := by
  refine callsIn_of_wp Try.func44 rfl trivial ?_ rfl
  simp only [Try.ntmps44, List.size_toArray, List.length_cons, List.length_nil, Nat.reduceAdd, Nat.reduceSub, Array.replicate_succ, Array.replicate_zero, List.push_toArray, List.append_toArray, List.nil_append, List.cons_append]
  gi_wp2
  go_ret
  exact ⟨rfl, rfl⟩
set_option maxRecDepth 100000 in
set_option maxHeartbeats 4000000 in
theorem from_stops (n : Nat) (hn : 1 ≤ n) (Bn Bk : Nat) (rv : Value) (key : ByteArray) (l : List KV) (wb w : World) (hbw : Below wb.heap.size wb w) (hr : RootIs wb rv l) (hs : Srt l) (hl : l.length ≤ 100000) (bN : Blk w Bn 85 #[rv]) (bK : Blk w Bk 9 #[.string key]) :
    SeqStopsT noT (fun _ => True) Fence.wide n Try.prog 61 #[.pointer (some ⟨Bn, 0, none⟩), .pointer (some ⟨Bk, 0, none⟩)] encY (KeepT noT wb.heap.size) (fun ys => ys = rngL l key) (fun pre => pre <+: rngL l key) (rngL l key).length w := by
  intro lp J Jx W hW hJ hJx hY h0
  have hJ' : AbidesT (fun _ => false) wb.heap.size J := fun s A B row h1 h2 h3 => hJ s A B row h1 h2 (fun r e => by obtain ⟨_, o, _, hm⟩ := h3 r e; cases o <;> cases hm)
  have hv : Calls Try.prog 62 #[rv, .string key, .func (.yield lp) #[] #[]] W (VisPost wb.heap.size wb (rngL l key) J Jx []) := by
    have hWb : Below wb.heap.size wb W := hbw.trans (hW.mono hbw.size)
    rcases hr with ⟨rfl, rfl⟩ | ⟨h', x, rfl, h2, rfl⟩
    · refine (visit_nil key _ W).mono ?_
      rintro e W' ⟨rfl, rfl⟩
      exact .inl ⟨rfl, h0, hWb⟩
    · refine callsIn_wide.1 (visit_in lp J Jx wb key (rngL x.l key).length 1 (Nat.le_refl _) hJ' (fun pre q W1 hp hlt => ?_) h' x [] W h2 hs hl hWb h0 (by simp))
      obtain ⟨fn, tmps, assign, body, hy, hRd⟩ := hY pre q W1 hp trivial hlt
      exact ⟨fn, tmps, assign, body, hy, (RoundIn.mono ⟨hRd.1, fun c cs _ => hRd.2 c cs (room_wide _)⟩ (fun e W' h => h.imp (fun h => ⟨h.1, h.2.1, h.2.2.below⟩) id))⟩
  have cN := ((bN.below hW bN.lt).cell 0)
  have cK := ((bK.below hW bK.lt).cell 0)
  simp at cN cK
  have HV := Lib.hid hv
  clear hv hY hJ hJx hJ' h0 hr
  refine callsIn_of_wp Try.func61 rfl trivial ?_ rfl
  simp only [Try.ntmps61, List.size_toArray, List.length_cons, List.length_nil, Nat.reduceAdd, Nat.reduceSub, Array.replicate_succ, Array.replicate_zero, List.push_toArray, List.append_toArray, List.nil_append, List.cons_append]
  gi_wp2_with fail
  refine ⟨trivial, ?_⟩
  refine (callsIn_wide.2 HV.out).mono ?_
  rintro e W' (⟨rfl, hJ1, hB1⟩ | ⟨rfl, q, hq, hJx1⟩)
  · gi_wp2
    go_end0
    exact ⟨⟨_, rfl⟩, .inl ⟨_, rfl, hJ1⟩⟩
  · gi_wp2
    go_end0
    exact ⟨⟨_, rfl⟩, .inr ⟨q, hq, hJx1⟩⟩
theorem row_ownT {β : Type} {T : TypeId → Bool} {B base : Nat} {e : TypeId} {size : Nat} (v : Value) (n : β → Nat) (xs : β → List Value) (ht : T e = false) : OwnT T B (fun s W => W.ownsRow base e size v (n s) (xs s)) := by
  intro s W W' row h hg hr
  refine h.kept hg ?_
  rcases hv : v.ownBlock with _ | g
  · exact .inl rfl
  · refine .inr (fun e' => ?_)
    obtain ⟨_, ob, ho, hc⟩ := hr g e'.symm
    rcases h.2 with ⟨h1, _⟩ | ⟨g', cap', cur, h1, _, hh, _⟩
    · rw [h1] at hv; cases hv
    · rw [h1] at hv
      have : g' = g := by simpa [Value.ownBlock] using hv
      rw [this] at hh
      rw [hh] at ho; cases ho
      rcases hc with hc | hc
      · cases hc
      · rw [show mineB T (Obj.cells cur e (0, 0)) = T e from rfl, ht] at hc; cases hc
theorem row_mine {w : World} {T : TypeId → Bool} {base : Nat} {e : TypeId} {size n : Nat} {v : Value} {xs : List Value} (h : w.ownsRow base e size v n xs) (ht : T e = false) : ∀ r, v.ownBlock = some r → base ≤ r ∧ ∀ o : Obj, w.heap[r]? = some o → mineB T o = false := by
  intro r hr
  rcases h.2 with ⟨h1, _⟩ | ⟨g', cap', cur, h1, hb, hh, _⟩
  · rw [h1] at hr; cases hr
  · rw [h1] at hr
    have : g' = r := by simpa [Value.ownBlock] using hr
    subst this
    exact ⟨hb, fun o ho => by rw [hh] at ho; cases ho; exact ht⟩
/-- the range ends ahead of this pair -/
def cutB (u : ByteArray) (x : KV) : Bool := !(u.toList == ([] : List UInt8)) && !(kl x.k u)
/-- the pairs from a key up to another one -/
def rangeL (l : List KV) (a u : ByteArray) : List KV := (rngL l a).takeWhile fun x => !cutB u x
theorem take_all {p : KV → Bool} {l : List KV} (h : ∀ x ∈ l, p x = true) : l.takeWhile p = l := by
  induction l with
  | nil => rfl
  | cons a l ih => rw [List.takeWhile_cons, h a (List.mem_cons_self ..), if_pos rfl, ih (fun x hx => h x (List.mem_cons_of_mem _ hx))]
theorem take_hit {p : KV → Bool} : ∀ {l s : List KV} {x : KV}, (∀ y ∈ l, p y = true) → p x = false → (l ++ x :: s).takeWhile p = l
  | [], s, x, _, hx => by rw [List.nil_append, List.takeWhile_cons, hx]; rfl
  | a :: l, s, x, h, hx => by
    rw [List.cons_append, List.takeWhile_cons, h a (List.mem_cons_self ..), if_pos rfl, take_hit (fun y hy => h y (List.mem_cons_of_mem _ hy)) hx]
def RngI (u : ByteArray) (U O : Nat) (w : World) (pre : List KV) (W : World) : Prop :=
  (∀ x ∈ pre, cutB u x = false) ∧ Blk W U 9 #[.string u] ∧ (∃ sv, Blk W O 27 #[sv] ∧ W.ownsRow (O + 1) 63 2 sv pre.length (flatE encKV pre)) ∧ O + 1 ≤ W.heap.size ∧ Below w.heap.size w W
def RngX (u : ByteArray) (O : Nat) (w : World) (pre : List KV) (W : World) : Prop :=
  ∃ ini last, pre = ini ++ [last] ∧ (∀ x ∈ ini, cutB u x = false) ∧ cutB u last = true ∧ (∃ sv, Blk W O 27 #[sv] ∧ W.ownsRow (O + 1) 63 2 sv ini.length (flatE encKV ini)) ∧ Below w.heap.size w W
end Go.Proofs.Ytmkhnpkbaegchaa
