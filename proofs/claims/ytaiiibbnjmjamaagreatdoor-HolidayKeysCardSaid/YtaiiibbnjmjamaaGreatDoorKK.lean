/- Several texts in one, each with its own word at its head. Conditions: stated there. -/
import Derived.Test.YtaiiibbnjmjamaaGreatDoorRows
import Derived.WalkKit
import Derived.WalkSpells
import Derived.WalkLawsBesides
import Derived.Deep.QuietTactic
import Derived.BigQuiet
import Derived.Lib.Hide
import Derived.Deep.DeepCutAuto
import Derived.Deep.CutBlock
import Derived.Deep.RegionWith
import Derived.Deep.DeepFit
import Derived.RangeFuncNested
import Derived.RangeFuncBound
import Derived.RangeFuncCalls
import Derived.RangeFuncLeaves
import Derived.RangeFuncBox
import Derived.Shelf.Abstract
import Derived.OwnWalkIn
import Derived.TacticsInMore
import Derived.LoopNIn
import Derived.LoopIn
import Derived.Laws.Rows
import Derived.Laws.OwnMore
import Derived.Deep.Draws
import Derived.Maps.AppendAt
/- Words for walks: what a call leaves of the memory that was there. Conditions: none. -/
namespace Go.Proofs.YtaiiibbnjmjamaaGreatDoor
open Go.RowKit

theorem bl_trans {a b c : World} (h : Below a.heap.size a b) (k : Below b.heap.size b c) : Below a.heap.size a c := h.trans (k.mono h.size)
theorem bl_alloc (w : World) (o : Obj) : Below w.heap.size w (w.alloc o) := (Below.refl _ w).alloc (Nat.le_refl _) o
theorem bl_drew (w : World) : Below w.heap.size w w.drew := (Below.refl _ w).drew
theorem bl_refl (w : World) : Below w.heap.size w w := Below.refl _ w

/-- it returns v, and what lay there lies there -/
def Ret (v : Value) (w : World) (e : Ending) (w' : World) : Prop := e = .returned v ∧ Below w.heap.size w w'
/-- it returns v, and the world is the old one -/
def Pur (v : Value) (w : World) (e : Ending) (w' : World) : Prop := e = .returned v ∧ w = w'
theorem Pur.ret {v w e w'} (h : Pur v w e w') : Ret v w e w' := by obtain ⟨rfl, rfl⟩ := h; exact ⟨rfl, Below.refl _ _⟩
/-- the worlds in which all that lies in W lies as it lay -/
structure UpW (W : World) where
  w : World
  h : Below W.heap.size W w
instance (W : World) : Nonempty (UpW W) := ⟨⟨W, Below.refl _ _⟩⟩
theorem wp_region_up {P : Program} {id : Nat} {Q : Exit → Act → World → Prop} {a : Act} {w : World} {l : List Oper} (hm : P.follows .mixedOrders = true) (hB : Region.lexB .any l.toArray = true)
    (h : wpQuiet P l.toArray (fun w' => ∃ u : UpW w, w' = u.w) (fun a' => ∀ w', (∃ u : UpW w, w' = u.w) → Q .normal a' w') l a) : (Code.region id l.toArray true).wp P Q a w :=
  wp_region_quiet (C := fun w' => ∃ u : UpW w, w' = u.w) hm hB ⟨⟨w.drew, bl_drew w⟩, rfl⟩ (by simpa using h)
theorem Ret.up {P : Program} {f : FuncId} {args : Array Value} {W : World} {u : UpW W} {v : Value} (h : Calls P f args u.w (Ret v u.w)) : Calls P f args u.w fun e w'' => e = .returned v ∧ ∃ u' : UpW W, w'' = u'.w :=
  h.mono fun _ w'' ⟨he, hb⟩ => ⟨he, ⟨w'', bl_trans u.h hb⟩, rfl⟩
theorem ret_int {k : IntKind} {a b : Int} (h : a = b) : Ending.returned (.int k a) = .returned (.int k b) := by rw [h]
theorem ret_bool {a b : Bool} (h : a = b) : Ending.returned (.bool a) = .returned (.bool b) := by rw [h]
theorem ret_ie {a b : Int} {c d : Int} (h : a = b) (h' : c = d) : Ending.returned (.tuple #[.int .i64 a, .int .i64 c]) = .returned (.tuple #[.int .i64 b, .int .i64 d]) := by rw [h, h']
theorem bl_drewN {a w : World} (h : Below a.heap.size a w) (n : Nat) : Below a.heap.size a (w.drewN n) := h.trans ⟨rfl, rfl, rfl, Nat.le_refl _, fun _ _ => rfl⟩
theorem Pur.quiet {P : Program} {f : FuncId} {args : Array Value} {w : World} {n : Nat} {v : Value} (h : Calls P f args (w.drewN n) (Pur v (w.drewN n))) : Calls P f args (w.drewN n) fun e w'' => e = .returned v ∧ ∃ m, w'' = w.drewN m :=
  h.mono fun _ _ ⟨he, hm⟩ => ⟨he, n, hm.symm⟩
end Go.Proofs.YtaiiibbnjmjamaaGreatDoor
/- Plain words and words on slices of ints: Around, Floor; what a slice reads. Conditions: none. -/
namespace Go.Proofs.YtaiiibbnjmjamaaGreatDoor
open Go.RowKit

/-- Around: a number from 0 on, below most -/
def around (n m : Int) : Int := (if n < 0 then -(n + 1) else n) % m
theorem around_bd (n : Int) {m : Int} (h : 1 ≤ m) : 0 ≤ around n m ∧ around n m < m := by
  unfold around; exact ⟨Int.emod_nonneg _ (by omega), Int.emod_lt_of_pos _ (by omega)⟩
/-- Floor: rounded down -/
theorem floor_a {a b : Int} (hb : 0 < b) (h : a.tmod b < 0) : a.tdiv b - 1 = a / b := by
  have h1 := Int.tmod_add_mul_tdiv a b
  have h2 := Int.lt_tmod_of_pos a hb
  have h3 := Int.emod_add_mul_ediv a b
  have h4 := Int.emod_nonneg a (b := b) (by omega)
  have h5 := Int.emod_lt_of_pos a hb
  have e : b * (a.tdiv b - a / b) = a % b - a.tmod b := by rw [Int.mul_sub]; omega
  have e1 : 0 < b * (a.tdiv b - a / b) := by omega
  have e2 : b * (a.tdiv b - a / b) < b * 2 := by omega
  have e0 : b * 0 < b * (a.tdiv b - a / b) := by omega
  have e3 := Int.lt_of_mul_lt_mul_left e0 (by omega)
  have e4 := Int.lt_of_mul_lt_mul_left e2 (by omega)
  omega
theorem floor_b {a b : Int} (hb : 0 < b) (h : ¬ a.tmod b < 0) : a.tdiv b = a / b := by
  have h1 := Int.tmod_add_mul_tdiv a b
  have h2 := Int.tmod_lt_of_pos a hb
  have h3 := Int.emod_add_mul_ediv a b
  have h4 := Int.emod_nonneg a (b := b) (by omega)
  have h5 := Int.emod_lt_of_pos a hb
  have e : b * (a.tdiv b - a / b) = a % b - a.tmod b := by rw [Int.mul_sub]; omega
  have e2 : b * (a.tdiv b - a / b) < b * 1 := by omega
  have e1 : b * (-1) < b * (a.tdiv b - a / b) := by omega
  have e3 := Int.lt_of_mul_lt_mul_left e2 (by omega)
  have e4 := Int.lt_of_mul_lt_mul_left e1 (by omega)
  omega

/-- the slice v reads as the ints zs -/
def IsInts (w : World) (v : Value) (zs : List Int) : Prop :=
  (∃ a cap, v = .slice a 0 cap ∧ zs = []) ∨ ∃ b off cap, v = .slice (some ⟨b, off, none⟩) zs.length cap ∧ b < w.heap.size ∧ zs.length ≤ maxLen ∧ ∀ j, j < zs.length → w.cell? ⟨b, off + j, none⟩ = some (.int .i64 (zs[j]?.getD 0))
theorem IsInts.below {w w' : World} {v : Value} {zs : List Int} (h : IsInts w v zs) (hb : Below w.heap.size w w') : IsInts w' v zs := by
  rcases h with h | ⟨b, off, cap, e, hlt, hm, hc⟩
  · exact .inl h
  · exact .inr ⟨b, off, cap, e, Nat.lt_of_lt_of_le hlt hb.size, hm, fun j hj => (hb.cell (p := ⟨b, off + j, none⟩) hlt).trans (hc j hj)⟩
theorem IsInts.nil (w : World) : IsInts w (.slice none 0 0) [] := .inl ⟨none, 0, rfl, rfl⟩
/-- every one of them is an int -/
def InR (zs : List Int) : Prop := ∀ z, z ∈ zs → -9223372036854775808 ≤ z ∧ z ≤ 9223372036854775807
theorem take_next {zs : List Int} {k : Nat} (h : k < zs.length) : zs.take (k + 1) = zs.take k ++ [zs[k]?.getD 0] := by
  rw [List.take_add_one, List.getElem?_eq_getElem h]; rfl
theorem InR.at {zs : List Int} (h : InR zs) (k : Nat) : -9223372036854775808 ≤ zs[k]?.getD 0 ∧ zs[k]?.getD 0 ≤ 9223372036854775807 := by
  cases e : zs[k]? with
  | none => exact ⟨by decide, by decide⟩
  | some z => exact h z (List.mem_of_getElem? e)
/-- a row that the call has made, as a slice of ints -/
theorem IsInts.of_row {w : World} {B e : Nat} {v : Value} {zs : List Int} (h : w.ownsRow B e 1 v zs.length (zs.map (Value.int .i64))) (hm : zs.length ≤ maxLen) : IsInts w v zs := by
  have h0 := h
  obtain ⟨_, hcase⟩ := h
  rcases hcase with ⟨e1, e2⟩ | ⟨g, cap', cur, e1, hg, hh, hn, hcap, hsz, htake⟩
  · refine .inl ⟨none, 0, ?_, List.length_eq_zero_iff.1 (by simpa using e2)⟩
    rw [e1]
  · subst e1
    refine .inr ⟨g, 0, cap', rfl, (Array.getElem?_eq_some_iff.1 hh).1, hm, fun j hj => ?_⟩
    have := h0.cellAt j (by simpa using hj)
    rw [Nat.zero_add, this]
    simp [List.getElem?_eq_getElem hj]
end Go.Proofs.YtaiiibbnjmjamaaGreatDoor
/- A law for a range over a function whose iterator keeps state of its own in cells of types of its own (T): turned from the kit's law for a boxed loop variable. Conditions: stated in it. -/
namespace Go.Proofs.YtaiiibbnjmjamaaGreatDoor
open Go.RowKit

/-- a block of cells of one of the iterator's own types -/
def mineB (T : TypeId → Bool) : Obj → Bool
  | .cells _ t _ => T t
  | _ => false
def AbidesT {β : Type} (T : TypeId → Bool) (B : Nat) (J : β → World → Prop) : Prop :=
  ∀ s W W' row, J s W → W.grownBy W' row → (∀ r, row = some r → B ≤ r ∧ ∃ o : Obj, W.heap[r]? = some o ∧ mineB T o = true) → J s W'
def OwnT {β : Type} (T : TypeId → Bool) (B : Nat) (I : β → World → Prop) : Prop :=
  ∀ s W W' row, I s W → W.grownBy W' row → (∀ r, row = some r → B ≤ r ∧ ∃ o : Obj, W.heap[r]? = some o ∧ (o.isCells = false ∨ mineB T o = true)) → I s W'
theorem OwnT.from {β : Type} {T : TypeId → Bool} {B : Nat} {I : β → World → Prop} (h : OwnT T B I) : OwnFrom B I :=
  fun s W W' row hs hg hr => h s W W' row hs hg (fun r e => by obtain ⟨h1, o, h2, h3⟩ := hr r e; exact ⟨h1, o, h2, .inl h3⟩)
theorem OwnT.and {β : Type} {T : TypeId → Bool} {B : Nat} {I I' : β → World → Prop} (h : OwnT T B I) (h' : OwnT T B I') : OwnT T B (fun s W => I s W ∧ I' s W) := fun s W W' row hs hg hr => ⟨h s W W' row hs.1 hg hr, h' s W W' row hs.2 hg hr⟩
/-- the iterator's contract -/
def SeqStopsT {α : Type} (T : TypeId → Bool) (p : α → Prop) (F : Fence) (n : Nat) (P : Program) (g : Nat) (lb : Array Value) (encs : α → Array Value) (Kp : World → World → Prop) (S Sp : List α → Prop) (N : Nat) (w : World) : Prop :=
  ∀ (l : Nat) (J Jx : List α → World → Prop) (W : World), Below w.heap.size w W → AbidesT T W.heap.size J → AbidesT T W.heap.size Jx →
    (∀ pre x W1, J pre W1 → p x → pre.length < N → YieldAt F (n - 1) P l (encs x) W1 fun e W' =>
      (e = .returned (.bool true) ∧ J (pre ++ [x]) W' ∧ Kp W1 W') ∨ (e = .returned (.bool false) ∧ Jx (pre ++ [x]) W')) →
    J [] W →
    CallsIn F n P g (#[.func (.yield l) #[] #[]] ++ lb) W fun e W' => (∃ v, e = .returned v) ∧ ((∃ xs, S xs ∧ J xs W') ∨ (∃ pre, Sp pre ∧ Jx pre W'))

/-- what a round that goes on keeps: what lay below n₀, and all blocks of the iterator's types -/
structure KeepT (T : TypeId → Bool) (n₀ : Nat) (W W' : World) : Prop where
  below : Below n₀ W W'
  mine : ∀ (b : Nat) cs t fr, T t = true → W.heap[b]? = some (Obj.cells cs t fr) → W'.heap[b]? = some (Obj.cells cs t fr)
theorem keepT_t {T : TypeId → Bool} {n₀ : Nat} {A B C : World} (h : KeepT T n₀ A B) (k : KeepT T n₀ B C) : KeepT T n₀ A C := ⟨h.below.trans k.below, fun b cs t fr ht hb => k.mine b cs t fr ht (h.mine b cs t fr ht hb)⟩
theorem KeepT.refl (T : TypeId → Bool) (n₀ : Nat) (W : World) : KeepT T n₀ W W := ⟨Below.refl _ _, fun _ _ _ _ _ h => h⟩
theorem keepT_b {T : TypeId → Bool} {n₀ : Nat} {w : World} (hn : n₀ ≤ w.heap.size) (W : World) (l : Nat) (o o' : Obj) (hl : w.heap.size ≤ l) (ho : W.heap[l]? = some o) (hc : o.isCells = false) (hw : o.isWalk = false) : KeepT T n₀ W (W.putObj l o') :=
  ⟨belowK_b hn W l o o' hl ho hc hw, fun b cs t fr _ hb => by
    have : b ≠ l := fun e => by rw [e, ho] at hb; cases hb; cases hc
    exact (World.putObj_heap_other this).trans hb⟩

/-- the law -/
theorem wpIn_rangeFunc_ownT {F : Fence} {n : Nat} {P : Program} {α : Type} (T : TypeId → Bool) {p : α → Prop} {g : Operand} {ps : Array Tmp} {assign body : Code} {Q : Exit → Act → World → Prop} {a : Act} {w : World}
    (hro : F.round = none) (h1 : 1 ≤ n) {gf : Nat} {lb : Array Value} (hg : a.eval g = .func (.func gf) #[] lb) (hFg : F.fn gf) (eg : ∀ args w, (callFunc gf args).run P w = .ok (.enter gf args) w)
    {encs : α → Array Value} {Kp : World → World → Prop} {S Sp : List α → Prop} {N : Nat} {w0 : World} (hseq : SeqStopsT T p F (n - 1) P gf lb encs Kp S Sp N w0)
    (hKt : ∀ {A B C : World}, Kp A B → Kp B C → Kp A C) (hKb : ∀ (W : World) (l : Nat) (o o' : Obj), w.heap.size ≤ l → W.heap[l]? = some o → o.isCells = false → o.isWalk = false → Kp W (W.putObj l o')) (hb0 : Below w0.heap.size w0 w) (hps : ∀ x, (encs x).size = ps.size)
    (I : List α → World → Prop) (Ix : Code → List α → World → Prop) (hI' : OwnT T w.heap.size I) (hIx' : ∀ c, OwnT T w.heap.size (Ix c)) (h0 : I [] w) (Ax : α → Act → World → Prop) (hAx : ∀ x a', OwnFrom w.heap.size (fun (_ : Unit) W => Ax x a' W))
    (hassign : ∀ (l : Nat) (pre : List α) (x : α) (W : World) (K : Act → World → Prop), I pre W → (∀ a' W', KeepsFrom w.heap.size W W' → Kp W W' → I pre W' → Ax x a' W' → K a' W') →
      assign.wpIn (F.inRound l) (n - 1 - 1) P (Exit.then K (fun _ _ _ => False)) { tmps := (ps.zip (encs x)).foldl (fun t (p, v) => t.setIfInBounds p v) a.tmps, defers := [] } W)
    (hbody : ∀ (l : Nat) (pre : List α) (x : α) (a' : Act) (W : World), w.heap.size ≤ l → (∃ r, W.heap[l]? = some (.loop r)) → I pre W → Ax x a' W → p x → pre.length < N → body.wpIn (F.inRound l) (n - 1 - 1) P (ownPostG w.heap.size Kp I Ix (pre ++ [x]) W) a' W)
    (hdone : ∀ (D : Nat) (xs : List α) (W : World), w.heap.size ≤ D → S xs → I xs W → W.heap[D]? = some (.deferred (some [])) → Q .normal { a with defers := { target := .collected D, args := #[] } :: a.defers } W)
    (hstop : ∀ (D : Nat) (c : Code) (pre : List α) (W : World), w.heap.size ≤ D → Sp pre → Ix c pre W → W.heap[D]? = some (.deferred (some [])) → c.wpIn F n P Q { a with defers := { target := .collected D, args := #[] } :: a.defers } W) :
    (Code.rangeFunc g ps assign body).wpIn F n P Q a w := by
  have hI := hI'.from
  have hIx := fun c => (hIx' c).from
  refine wpIn_rangeFunc ?_
  intro fn hfn
  rw [hro]
  obtain ⟨rec, hrec⟩ : ∃ rec : LoopState → Option Code → Loop, rec = fun st pe => { state := st, pending := pe, fn, tmps := a.tmps, params := ps, assign, body, defers := w.heap.size } := ⟨_, rfl⟩
  obtain ⟨W1, hW1⟩ : ∃ W1, (w.alloc (.deferred (some []))).alloc (.loop (rec .ready none)) = W1 := ⟨_, rfl⟩
  have hL1 : W1.heap[w.heap.size + 1]? = some (.loop (rec .ready none)) := by
    rw [← hW1]; have := World.alloc_heap_new (w.alloc (.deferred (some []))) (.loop (rec .ready none)); rwa [World.size_alloc] at this
  have hK1 : W1.heap[w.heap.size]? = some (.deferred (some [])) := by
    rw [← hW1]; exact (Below.heap_alloc _ _ _ (by simp)).trans (World.alloc_heap_new w _)
  have hI1 : I [] W1 := by rw [← hW1]; exact hI.alloc _ (hI.alloc _ h0)
  have hb1 : Below w0.heap.size w0 W1 := by
    rw [← hW1]; exact hb0.trans ((((Below.refl _ w).alloc (Nat.le_refl _) _).alloc (by simp) _).mono hb0.size)
  refine ⟨w.heap.size + 1, [{ target := .collected w.heap.size, args := #[] }], W1, { target := .fn (.func gf) lb, args := #[.func (.yield (w.heap.size + 1)) #[] #[]] }, W1, gf,
    #[.func (.yield (w.heap.size + 1)) #[] #[]] ++ lb, W1, ?_, ?_, ?_, ?_, fun _ => h1, ?_⟩
  · rw [← hW1, hrec]; exact run_enterLoop_outer _ _ _ _ _
  · simp only [resolve, hg]
    simp [go_sem]
  · intro f' hf'; simp [Target.leads] at hf'; subst hf'; exact hFg
  · simp [invoke, go_sem, eg]
  · -- THE ITERATOR's CONTRACT, AT THE CALLER's INVARIANT WITH THE TWO FACTS OF BOOK-KEEPING BESIDE IT
    have hnw : ∀ {A B : World} {row : Option Nat}, (∀ r, row = some r → W1.heap.size ≤ r ∧ ∃ o : Obj, A.heap[r]? = some o ∧ mineB T o = true) → (∀ r, row = some r → w.heap.size ≤ r ∧ ∃ o : Obj, A.heap[r]? = some o ∧ (o.isCells = false ∨ mineB T o = true)) :=
      fun hr r e => by obtain ⟨hB, o, ho, hw⟩ := hr r e; exact ⟨by rw [← hW1] at hB; simp at hB; omega, o, ho, .inr hw⟩
    have hgk : ∀ {A B : World} {row : Option Nat}, A.grownBy B row → (∀ r, row = some r → W1.heap.size ≤ r ∧ ∃ o : Obj, A.heap[r]? = some o ∧ mineB T o = true) → ∀ {k : Nat} {o : Obj}, A.heap[k]? = some o → o.isCells = false → B.heap[k]? = A.heap[k]? :=
      by
        intro A B row hg hr k o hk hc
        refine hg.block k (Array.getElem?_eq_some_iff.1 hk).1 (fun e => ?_)
        obtain ⟨_, o', ho', hm⟩ := hr k e.symm
        rw [hk] at ho'; cases ho'
        cases o <;> first | (cases hc; done) | (cases hm; done)
    refine (hseq (w.heap.size + 1)
      (fun pre W => I pre W ∧ W.heap[w.heap.size + 1]? = some (.loop (rec .ready none)) ∧ W.heap[w.heap.size]? = some (.deferred (some [])))
      (fun pre W => ∃ c, Ix c pre W ∧ W.heap[w.heap.size + 1]? = some (.loop (rec .done (some c))) ∧ W.heap[w.heap.size]? = some (.deferred (some [])))
      W1 hb1
      (fun s A B row hs hg' hr => ⟨hI' s A B row hs.1 hg' (hnw (B := B) hr), (hgk hg' hr hs.2.1 rfl).trans hs.2.1, (hgk hg' hr hs.2.2 rfl).trans hs.2.2⟩)
      (fun s A B row hs hg' hr => by
        obtain ⟨c, hc, hl, hk⟩ := hs
        exact ⟨c, hIx' c s A B row hc hg' (hnw (B := B) hr), (hgk hg' hr hl rfl).trans hl, (hgk hg' hr hk rfl).trans hk⟩)
      ?_ ⟨hI1, hL1, hK1⟩).mono ?_
    · -- ONE ROUND
      rintro pre x W ⟨hi, hl, hk⟩ hpx hlen
      have hlt : w.heap.size + 1 < W.heap.size := (Array.getElem?_eq_some_iff.1 hl).1
      have hy := run_yield (P := P) (args := encs x) hl (by rw [hrec]; exact hps x)
      rw [hrec] at hy
      refine ⟨fn, _, assign, body, hy, roundIn_of_wpIn hfn (hassign _ pre x W _ hi ?_)⟩
      clear hy
      intro a' Wa hkfa hkpa hia hax
      -- THE ASSIGN CODE MAY HAVE LAID BLOCKS (a loop variable that an inner function captures is boxed): the two blocks of book-keeping lie as they lay
      replace hl := hkfa.same _ _ (by omega) hl rfl
      replace hk := hkfa.same _ _ (Nat.le_refl _) hk rfl
      replace hlt : w.heap.size + 1 < Wa.heap.size := (Array.getElem?_eq_some_iff.1 hl).1
      replace hi := hia
      clear hia
      revert hkpa hkfa
      generalize W = Wb
      intro hkfa hkpa
      obtain ⟨W, rfl⟩ : ∃ W, W = Wa := ⟨_, rfl⟩
      refine ⟨_, run_beginRound hl (by rw [hrec]), ?_⟩
      have hl2 : (W.putObj (w.heap.size + 1) (.loop { rec .ready none with state := .busy })).heap[w.heap.size + 1]? = some (.loop { rec .ready none with state := .busy }) := World.putObj_heap_same hlt
      have hk2 : (W.putObj (w.heap.size + 1) (.loop { rec .ready none with state := .busy })).heap[w.heap.size]? = some (.deferred (some [])) := (World.putObj_heap_other (by omega)).trans hk
      have hw2 : Kp W (W.putObj (w.heap.size + 1) (.loop { rec .ready none with state := .busy })) := hKb _ _ _ _ (by omega) hl rfl rfl
      refine wpIn_mono (hbody _ pre x a' _ (by omega) ⟨_, hl2⟩ (hI.putObj _ hi (by omega) hl rfl) ((hAx x a').putObj (s := ()) _ hax (by omega) hl rfl) hpx hlen) ?_
      have fin : ∀ (jump : Option Code) (W3 : World), KeepsFrom w.heap.size (W.putObj (w.heap.size + 1) (.loop { rec .ready none with state := .busy })) W3 →
          (Instr.endRound (w.heap.size + 1) jump).run P W3 = .ok (.bool jump.isNone) (W3.putObj (w.heap.size + 1) (.loop (rec (if jump.isNone then .ready else .done) jump))) ∧
          W3.heap[w.heap.size + 1]? = some (.loop { rec .ready none with state := .busy }) ∧
          (W3.putObj (w.heap.size + 1) (.loop (rec (if jump.isNone then .ready else .done) jump))).heap[w.heap.size + 1]? = some (.loop (rec (if jump.isNone then .ready else .done) jump)) ∧
          (W3.putObj (w.heap.size + 1) (.loop (rec (if jump.isNone then .ready else .done) jump))).heap[w.heap.size]? = some (.deferred (some [])) := fun jump W3 hk3 => by
        have hl3 := hk3.same _ _ (by omega) hl2 rfl
        have := run_endRound (P := P) jump hl3
        rw [hrec] at this ⊢
        exact ⟨this, by rw [hrec] at hl3; exact hl3, World.putObj_heap_same (Array.getElem?_eq_some_iff.1 hl3).1, (World.putObj_heap_other (by omega)).trans (hk3.same _ _ (Nat.le_refl _) hk2 rfl)⟩
      rintro e a3 W3 hp
      cases e with
      | normal =>
        obtain ⟨hk3, hkp3, hi3⟩ := hp
        obtain ⟨hr, hl3, hl4, hk4⟩ := fin none W3 hk3
        exact ⟨_, _, hr, .inl ⟨rfl, ⟨hI.putObj _ hi3 (by omega) hl3 rfl, hl4, hk4⟩, hKt hkpa (hKt (hKt hw2 hkp3) (hKb _ _ _ _ (by omega) hl3 rfl rfl))⟩⟩
      | ret =>
        obtain ⟨hk3, hi3⟩ := hp
        obtain ⟨hr, hl3, hl4, hk4⟩ := fin (some .ret) W3 hk3
        exact ⟨_, _, hr, .inr ⟨rfl, .ret, (hIx _).putObj _ hi3 (by omega) hl3 rfl, hl4, hk4⟩⟩
      | exit id =>
        obtain ⟨hk3, hi3⟩ := hp
        obtain ⟨hr, hl3, hl4, hk4⟩ := fin (some (.exit id)) W3 hk3
        exact ⟨_, _, hr, .inr ⟨rfl, .exit id, (hIx _).putObj _ hi3 (by omega) hl3 rfl, hl4, hk4⟩⟩
      | goto t =>
        obtain ⟨hk3, hi3⟩ := hp
        obtain ⟨hr, hl3, hl4, hk4⟩ := fin (some (.goto t)) W3 hk3
        exact ⟨_, _, hr, .inr ⟨rfl, .goto t, (hIx _).putObj _ hi3 (by omega) hl3 rfl, hl4, hk4⟩⟩
      | panic ch => exact hp.elim
      | outgrown => exact hp.elim
    · -- BEHIND THE ITERATOR
      rintro e W2 ⟨⟨v, rfl⟩, (⟨xs, hS, hi, hl, hk⟩ | ⟨pre, hSp, c, hi, hl, hk⟩)⟩
      · exact ⟨none, _, by have := run_endLoop (P := P) hl (by rw [hrec]; simp); rw [hrec] at this; exact this, hdone _ xs _ (Nat.le_refl _) hS (hI.putObj _ hi (by omega) hl rfl) ((World.putObj_heap_other (by omega)).trans hk)⟩
      · exact ⟨some c, _, by have := run_endLoop (P := P) hl (by rw [hrec]; simp); rw [hrec] at this; exact this, hstop _ c pre _ (Nat.le_refl _) hSp ((hIx c).putObj _ hi (by omega) hl rfl) ((World.putObj_heap_other (by omega)).trans hk)⟩
end Go.Proofs.YtaiiibbnjmjamaaGreatDoor
/- Words on blocks of memory that are known whole. Conditions: none. -/
namespace Go.Proofs.YtaiiibbnjmjamaaGreatDoor
open Go.RowKit

/-- block g is the cells cs, of elements of type t, none of them frozen -/
def Blk (w : World) (g : Nat) (t : TypeId) (cs : Array Value) : Prop := w.heap[g]? = some (Obj.cells cs t (0, 0))
theorem Blk.lt {w : World} {g t cs} (h : Blk w g t cs) : g < w.heap.size := (Array.getElem?_eq_some_iff.1 h).1
theorem Blk.cell {w : World} {g t cs} (h : Blk w g t cs) (i : Nat) : w.cell? ⟨g, i, none⟩ = cs[i]? := by
  unfold World.cell?
  rw [show w.heap[g]? = _ from h]
  rfl
theorem Blk.frozen {w : World} {g t cs} (h : Blk w g t cs) (i : Nat) : w.frozen? ⟨g, i, none⟩ = false := by
  unfold World.frozen?
  rw [show w.heap[g]? = _ from h]
  simp
theorem Blk.new (w : World) (t : TypeId) (cs : Array Value) : Blk (w.alloc (.cells cs t)) w.heap.size t cs := World.alloc_heap_new w _
theorem Blk.at {w : World} {n : Nat} (h : n = w.heap.size) (t : TypeId) (cs : Array Value) : Blk (w.alloc (.cells cs t)) n t cs := by rw [h]; exact Blk.new w t cs
theorem Blk.kept {w w' : World} {g t cs} {row : Option Nat} (h : Blk w g t cs) (hg : w.grownBy w' row) (hne : some g ≠ row) : Blk w' g t cs := (hg.block g h.lt hne).trans h
theorem Blk.alloc {w : World} {g t cs} (h : Blk w g t cs) (o : Obj) : Blk (w.alloc o) g t cs := h.kept (World.grownBy_alloc w o none) (by simp)
theorem Blk.below {w w' : World} {B g t cs} (h : Blk w g t cs) (hb : Below B w w') (hg : g < B) : Blk w' g t cs := (hb.block g hg).trans h
theorem Blk.drew {w : World} {g t cs} (h : Blk w g t cs) : Blk w.drew g t cs := h
theorem Blk.drewN {w : World} {g t cs} (h : Blk w g t cs) (n : Nat) : Blk (w.drewN n) g t cs := h
theorem grown_setAt (W : World) (B i : Nat) (v : Value) : W.grownBy (W.setCell ⟨B, i, none⟩ v) (some B) :=
  ⟨rfl, rfl, rfl, by simp [World.setCell], fun k _ hk => by
    have hne : B ≠ k := fun e => hk (by rw [e])
    simp [World.setCell, Array.getElem?_modify, hne]⟩
theorem Blk.set {w : World} {g t cs} (h : Blk w g t cs) (i : Nat) (u : Value) : Blk (w.setCell ⟨g, i, none⟩ u) g t (cs.setIfInBounds i u) := by
  have h' : w.heap[g]? = some (Obj.cells cs t (0, 0)) := h
  show (w.heap.modify g _)[g]? = _
  simp [Array.getElem?_modify, h']
theorem Blk.far {w : World} {g t cs} (h : Blk w g t cs) {p : Addr} (hp : g ≠ p.block) (u : Value) : Blk (w.setCell p u) g t cs := by
  have h' : w.heap[g]? = some (Obj.cells cs t (0, 0)) := h
  show (w.heap.modify p.block _)[g]? = _
  simp [Array.getElem?_modify, h', Ne.symm hp]
theorem Blk.ne {w : World} {g t cs g' t' cs'} (h : Blk w g t cs) (h' : Blk w g' t' cs') (hne : t ≠ t') : g ≠ g' := by
  intro e
  subst e
  have := Option.some.inj ((show w.heap[g]? = _ from h).symm.trans h')
  injection this with _ ht
  exact hne ht
theorem Blk.mine {w : World} {T : TypeId → Bool} {g t cs} (h : Blk w g t cs) (ht : T t = true) {B : Nat} (hB : B ≤ g) : ∀ r, (some g : Option Nat) = some r → B ≤ r ∧ ∃ o : Obj, w.heap[r]? = some o ∧ mineB T o = true := by
  intro r e
  cases e
  exact ⟨hB, _, h, ht⟩
/-- a block of a type that is not the iterator's stays through its steps, and through the book-keeping -/
theorem Blk.ownT {β : Type} {T : TypeId → Bool} {B : Nat} (g : Nat) (t : TypeId) (f : β → Array Value) (ht : T t = false) : OwnT T B (fun s W => Blk W g t (f s)) := by
  intro s W W' row h hg hr
  refine h.kept hg (fun e => ?_)
  obtain ⟨_, o, ho, hc⟩ := hr g e.symm
  rw [show W.heap[g]? = _ from h] at ho
  cases ho
  rcases hc with hc | hc
  · cases hc
  · rw [show mineB T (Obj.cells (f s) t (0, 0)) = T t from rfl, ht] at hc; cases hc
theorem belowT {β : Type} {T : TypeId → Bool} {B n₀ : Nat} {w : World} (hw : n₀ ≤ w.heap.size) (hn : n₀ ≤ B) : OwnT T B (fun (_ : β) W => Below n₀ w W) :=
  fun _ _ _ _ hs hg hr => hs.grown hg (Nat.le_trans hw hs.size) (fun k e => Nat.le_trans hn (hr k e).1)
theorem pureT {β : Type} {T : TypeId → Bool} {B : Nat} (p : β → Prop) : OwnT T B (fun s (_ : World) => p s) := fun _ _ _ _ hs _ _ => hs
theorem KeepT.alloc {T : TypeId → Bool} {n₀ : Nat} {W : World} (h : n₀ ≤ W.heap.size) (o : Obj) : KeepT T n₀ W (W.alloc o) :=
  ⟨(Below.refl _ _).alloc h _, fun b cs t fr _ hb => ((World.grownBy_alloc W o none).block b (Array.getElem?_eq_some_iff.1 hb).1 (by simp)).trans hb⟩
theorem KeepT.grown {T : TypeId → Bool} {n₀ : Nat} {W W' : World} {row : Option Nat} (hg : W.grownBy W' row) (h : n₀ ≤ W.heap.size) (hr : ∀ r, row = some r → n₀ ≤ r ∧ ∀ o : Obj, W.heap[r]? = some o → mineB T o = false) : KeepT T n₀ W W' :=
  ⟨(Below.refl _ _).grown hg h (fun k e => (hr k e).1), fun b cs t fr ht hb => (hg.block b (Array.getElem?_eq_some_iff.1 hb).1 (fun e => by
    have := (hr b e.symm).2 _ hb
    rw [show mineB T (Obj.cells cs t fr) = T t from rfl, ht] at this; cases this)).trans hb⟩
theorem KeepT.set {T : TypeId → Bool} {n₀ : Nat} {W : World} {g t cs} (h : Blk W g t cs) (ht : T t = false) (hn : n₀ ≤ g) (hw : n₀ ≤ W.heap.size) (i : Nat) (v : Value) : KeepT T n₀ W (W.setCell ⟨g, i, none⟩ v) :=
  KeepT.grown (grown_setAt W g i v) hw (fun r e => by
    cases e
    exact ⟨hn, fun o ho => by rw [show W.heap[g]? = _ from h] at ho; cases ho; exact ht⟩)
theorem KeepT.drew {T : TypeId → Bool} {n₀ : Nat} {W : World} : KeepT T n₀ W W.drew := ⟨(Below.refl _ _).drew, fun _ _ _ _ _ h => h⟩
/-- a result that lies in a cell, read when the deferred calls are taken -/
theorem Blk.put {W : World} {g t cs D o} (h : Blk W g t cs) (hD : W.heap[D]? = some (.deferred o)) (o' : Obj) : Blk (W.putObj D o') g t cs := by
  have hne : g ≠ D := fun e => by
    have h' : W.heap[g]? = some (Obj.cells cs t (0, 0)) := h
    rw [e, hD] at h'; cases h'
  exact (World.putObj_heap_other hne).trans h
theorem keepsFrom_set (B : Nat) (W : World) (g i : Nat) (v : Value) {t cs} (h : Blk W g t cs) : KeepsFrom B W (W.setCell ⟨g, i, none⟩ v) :=
  ⟨by simp [World.setCell], fun k o hk h0 ho => by
    have hne : k ≠ g := fun e => by
      rw [e, show W.heap[g]? = _ from h] at h0; cases h0; cases ho
    exact ((grown_setAt W g i v).block k (Array.getElem?_eq_some_iff.1 h0).1 (fun e => hne (Option.some.inj e))).trans h0⟩
end Go.Proofs.YtaiiibbnjmjamaaGreatDoor
/- Words on slices of elements of k cells each: what such a slice reads as; the elements of a row that the call has made. Conditions: none. -/
namespace Go.Proofs.YtaiiibbnjmjamaaGreatDoor
open Go.RowKit

theorem pur_ret {P : Program} {f : FuncId} {args : Array Value} {w : World} {v : Value} (h : Calls P f args w (Pur v w)) : Calls P f args w (Ret v w) := h.mono fun _ _ => Pur.ret
/-- the slice v reads as the elements l, of k cells each, laid by enc -/
def IsRow {α : Type} (k : Nat) (enc : α → List Value) (w : World) (v : Value) (l : List α) : Prop :=
  (∃ a cap, v = .slice a 0 cap ∧ l = []) ∨ ∃ b off cap, v = .slice (some ⟨b, off, none⟩) l.length cap ∧ b < w.heap.size ∧ l.length ≤ maxLen ∧
    ∀ j x, l[j]? = some x → ∀ i u, (enc x)[i]? = some u → w.cell? ⟨b, off + j * k + i, none⟩ = some u
section
variable {α : Type} {k : Nat} {enc : α → List Value}
theorem IsRow.below {w w' : World} {v : Value} {l : List α} (h : IsRow k enc w v l) (hb : Below w.heap.size w w') : IsRow k enc w' v l := by
  rcases h with h | ⟨b, off, cap, e, hlt, hm, hc⟩
  · exact .inl h
  · exact .inr ⟨b, off, cap, e, Nat.lt_of_lt_of_le hlt hb.size, hm, fun j x hx i u hu => (hb.cell (p := ⟨b, off + j * k + i, none⟩) hlt).trans (hc j x hx i u hu)⟩
theorem IsRow.nil (w : World) : IsRow k enc w (.slice none 0 0) ([] : List α) := .inl ⟨none, 0, rfl, rfl⟩
theorem IsRow.slice {w : World} {v : Value} {l : List α} (h : IsRow k enc w v l) : ∃ a cap, v = .slice a l.length cap ∧ l.length ≤ maxLen := by
  rcases h with ⟨a, cap, rfl, rfl⟩ | ⟨b, off, cap, e, hlt, hm, hc⟩
  · exact ⟨a, cap, rfl, Nat.zero_le _⟩
  · exact ⟨_, cap, e, hm⟩
/-- the elements' cells, one behind the other -/
def flatE (enc : α → List Value) (l : List α) : List Value := l.flatMap enc
theorem flatE_nil : flatE enc [] = [] := rfl
theorem flatE_append (l r : List α) : flatE enc (l ++ r) = flatE enc l ++ flatE enc r := by unfold flatE; rw [List.flatMap_append]
theorem flatE_one (x : α) : flatE enc [x] = enc x := by unfold flatE; simp
theorem flatE_snoc (l : List α) (x : α) : flatE enc (l ++ [x]) = flatE enc l ++ enc x := by rw [flatE_append, flatE_one]
theorem flatE_len (hk : ∀ x, (enc x).length = k) (l : List α) : (flatE enc l).length = l.length * k := by
  unfold flatE
  induction l with
  | nil => simp
  | cons a l ih => rw [List.flatMap_cons, List.length_append, ih, hk, List.length_cons, Nat.succ_mul, Nat.add_comm]
theorem flatE_at (hk : ∀ x, (enc x).length = k) : ∀ (l : List α) (j : Nat) (x : α), l[j]? = some x → ∀ (i : Nat) (u : Value), (enc x)[i]? = some u → (flatE enc l)[j * k + i]? = some u
  | [], j, x, h, _, _, _ => by simp at h
  | a :: l, 0, x, h, i, u, hu => by
    simp at h; subst h
    have hi : i < (enc a).length := (List.getElem?_eq_some_iff.1 hu).1
    unfold flatE
    rw [List.flatMap_cons, Nat.zero_mul, Nat.zero_add, List.getElem?_append_left hi, hu]
  | a :: l, j + 1, x, h, i, u, hu => by
    simp at h
    have ih := flatE_at hk l j x h i u hu
    have e : flatE enc (a :: l) = enc a ++ flatE enc l := by unfold flatE; rw [List.flatMap_cons]
    rw [e, List.getElem?_append_right (by rw [hk, Nat.succ_mul]; omega), hk, show (j + 1) * k + i - k = j * k + i by rw [Nat.succ_mul]; omega]
    exact ih
/-- a row that the call has made, as a slice of such elements -/
theorem IsRow.of_row {w : World} {B e : Nat} {v : Value} {l : List α} (hk : ∀ x, (enc x).length = k) (h : w.ownsRow B e k v l.length (flatE enc l)) (hm : l.length ≤ maxLen) : IsRow k enc w v l := by
  have h0 := h
  rcases h.2 with ⟨e1, e2⟩ | ⟨g, cap', cur, e1, hg, hh, hn, hcap, hsz, htake⟩
  · exact .inl ⟨none, 0, e1, List.length_eq_zero_iff.1 e2⟩
  · subst e1
    refine .inr ⟨g, 0, cap', rfl, (Array.getElem?_eq_some_iff.1 hh).1, hm, fun j x hx i u hu => ?_⟩
    have c := h0.cells (g := g) rfl (j * k + i) u (flatE_at hk l j x hx i u hu)
    rw [Go.WideShapes.add_plain] at c
    rw [Nat.add_assoc]
    exact c
end
theorem row_below {w w' : World} {B e k n : Nat} {v : Value} {xs : List Value} (h : w.ownsRow B e k v n xs) (hb : Below w.heap.size w w') : w'.ownsRow B e k v n xs := by
  refine ⟨h.1, ?_⟩
  rcases h.2 with h1 | ⟨g, cap', cur, h1, hg, hh, h2⟩
  · exact .inl h1
  · exact .inr ⟨g, cap', cur, h1, hg, (hb.block g (Array.getElem?_eq_some_iff.1 hh).1).trans hh, h2⟩
theorem row_base {w : World} {B B' : Nat} {e : TypeId} {size n : Nat} {v : Value} {xs : List Value} (h : w.ownsRow B e size v n xs) (hb : B' ≤ B) : w.ownsRow B' e size v n xs := by
  refine ⟨h.1, ?_⟩
  rcases h.2 with h1 | ⟨g, cap', cur, h1, hg, h2⟩
  · exact .inl h1
  · exact .inr ⟨g, cap', cur, h1, by omega, h2⟩
theorem row_far {w : World} {B : Nat} {e : TypeId} {size n : Nat} {v : Value} {xs : List Value} (h : w.ownsRow B e size v n xs) {g : Nat} (hg : g < B) : some g ≠ v.ownBlock := by
  intro k
  have := (h.lt g k.symm).1
  omega
theorem row_slice {w : World} {B e k n : Nat} {v : Value} {xs : List Value} (h : w.ownsRow B e k v n xs) : ∃ a cap, v = .slice a n cap := by
  rcases h.2 with ⟨h1, h2⟩ | ⟨g', cap', cur, h1, _⟩
  · exact ⟨none, 0, by rw [h1, h2]⟩
  · exact ⟨_, _, h1⟩
/-- the blocks from n0 to n1 lie as they lay -/
def Mid (n0 n1 : Nat) (w w' : World) : Prop := n1 ≤ w'.heap.size ∧ ∀ k, n0 ≤ k → k < n1 → w'.heap[k]? = w.heap[k]?
theorem Mid.refl {n0 n1 : Nat} {w : World} (h : n1 ≤ w.heap.size) : Mid n0 n1 w w := ⟨h, fun _ _ _ => rfl⟩
theorem Mid.grown {n0 n1 : Nat} {w w' w'' : World} {row : Option Nat} (h : Mid n0 n1 w w') (hg : w'.grownBy w'' row) (hr : ∀ r, row = some r → r < n0 ∨ n1 ≤ r) : Mid n0 n1 w w'' :=
  ⟨Nat.le_trans h.1 hg.size, fun k h0 h1 => (hg.block k (Nat.lt_of_lt_of_le h1 h.1) (fun e => by rcases hr k e.symm with q | q <;> omega)).trans (h.2 k h0 h1)⟩
theorem Mid.alloc {n0 n1 : Nat} {w w' : World} (h : Mid n0 n1 w w') (o : Obj) : Mid n0 n1 w (w'.alloc o) := h.grown (World.grownBy_alloc w' o none) (fun r e => by cases e)
theorem Mid.below {n0 n1 : Nat} {w w' w'' : World} (h : Mid n0 n1 w w') (hb : Below w'.heap.size w' w'') : Mid n0 n1 w w'' :=
  ⟨Nat.le_trans h.1 hb.size, fun k h0 h1 => (hb.block k (Nat.lt_of_lt_of_le h1 h.1)).trans (h.2 k h0 h1)⟩
theorem Mid.cell {n0 n1 : Nat} {w w' : World} (h : Mid n0 n1 w w') {g : Nat} (h0 : n0 ≤ g) (h1 : g < n1) (o : Nat) : w'.cell? ⟨g, o, none⟩ = w.cell? ⟨g, o, none⟩ := World.cell?_of_block (h.2 g h0 h1)
/-- the block of a row lies outside n0 to n1 -/
def OutB (n0 n1 : Nat) (v : Value) : Prop := ∀ r, v.ownBlock = some r → r < n0 ∨ n1 ≤ r
theorem OutB.of_lt {w : World} {B e k n n0 n1 : Nat} {v : Value} {xs : List Value} (h : w.ownsRow B e k v n xs) (hw : w.heap.size ≤ n0) : OutB n0 n1 v := fun r e => .inl (Nat.lt_of_lt_of_le (h.lt r e).2 hw)
theorem OutB.at {n0 n1 m : Nat} {v v' : Value} (h : OutB n0 n1 v) (hv : v'.ownBlock = v.ownBlock ∨ v'.ownBlock = some m) (hm : n1 ≤ m) : OutB n0 n1 v' := by
  intro r e
  rcases hv with q | q
  · exact h r (q ▸ e)
  · rw [q] at e; cases e; exact .inr hm
end Go.Proofs.YtaiiibbnjmjamaaGreatDoor
