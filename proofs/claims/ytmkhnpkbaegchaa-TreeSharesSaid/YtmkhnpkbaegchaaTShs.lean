/- Several texts in one, each with its own word at its head. Conditions: stated there. -/
import Derived.Test.YtmkhnpkbaegchaaTRfs
import Derived.Test.YtmkhnpkbaegchaaTRem
import Derived.Maps.Own
import Derived.Deep.LoopGhost
import Derived.OwnWalk
import Derived.StillTailTactics
import Derived.Test.YtmkhnpkbaegchaaTLives
/- Plain: the nodes of a tree are different ones; how many new nodes several changes make. Conditions: stated at each. -/
namespace Go.Proofs.Ytmkhnpkbaegchaa
open Go.RowKit

/-- the first pair of a node, as the memory has it -/
def hdP (w : World) (p : Nat) : KV :=
  match w.cell? ⟨p, 0, none⟩ with
  | some (.slice (some a) _ _) =>
    match w.cell? a, w.cell? ⟨a.block, a.off + 1, none⟩ with
    | some (.string k), some (.string v) => ⟨k, v⟩
    | _, _ => ⟨⟨#[]⟩, ⟨#[]⟩⟩
  | _ => ⟨⟨#[]⟩, ⟨#[]⟩⟩
theorem NodeAt.hd {F : Nat → Prop} {w : World} {p : Nat} {ps : List KV} {ks : List Kid} {sz : Nat} (h : NodeAt F w p ps ks sz) (hn : 1 ≤ ps.length) : hdP w p ∈ ps := by
  obtain ⟨vp, vk, h1, h2, _⟩ := h
  obtain ⟨pa, cap, rfl, _, ho⟩ := h2.open
  obtain ⟨b, off, rfl, _, hc⟩ := ho (by omega)
  obtain ⟨x, hx⟩ : ∃ x, ps[0]? = some x := ⟨_, List.getElem?_eq_getElem (by omega)⟩
  have c0 := hc 0 x hx 0 (.string x.k) rfl
  have c1 := hc 0 x hx 1 (.string x.v) rfl
  have d0 := h1.cell 0
  simp only [Nat.zero_mul, Nat.add_zero] at c0 c1
  have e : hdP w p = x := by
    unfold hdP
    rw [d0]
    simp only [List.getElem?_toArray, List.getElem?_cons_zero]
    rw [c0, c1]
  rw [e]
  exact List.mem_of_getElem? hx
theorem sum_le {α : Type} (f g : α → Nat) : ∀ (l : List α), (∀ x ∈ l, f x ≤ g x) → (l.map f).sum ≤ (l.map g).sum
  | [], _ => Nat.le_refl _
  | x :: l, h => by
    simp only [List.map_cons, List.sum_cons]
    have := h x (List.mem_cons_self ..)
    have := sum_le f g l (fun y hy => h y (List.mem_cons_of_mem _ hy))
    omega
theorem cnt_flat {α β : Type} [DecidableEq β] (f : α → List β) (y : β) : ∀ l : List α, (l.flatMap f).count y = (l.map fun x => (f x).count y).sum
  | [] => rfl
  | x :: l => by rw [List.flatMap_cons, List.count_append, cnt_flat f y l]; simp
section
variable [DecidableEq KV]
theorem weave_cnt (y : KV) : ∀ (ps : List KV) (fs : List (List KV)), (fs = [] ∨ fs.length = ps.length + 1) → (weave ps fs).count y = ps.count y + (fs.map fun f => f.count y).sum
  | ps, [], _ => by rw [weave_nil]; simp
  | [], [f], _ => by simp [weave]
  | [], _ :: _ :: _, h => by rcases h with h | h <;> simp at h
  | p :: ps, [f], h => by rcases h with h | h <;> simp at h
  | p :: ps, f :: g :: fs, h => by
    have ih := weave_cnt y ps (g :: fs) (.inr (by rcases h with h | h <;> simp at h ⊢; omega))
    show (f ++ p :: weave ps (g :: fs)).count y = _
    rw [List.count_append, List.count_cons, ih, List.count_cons]
    simp only [List.map_cons, List.sum_cons]
    omega
theorem IsN.cnt {F : Nat → Prop} (y : KV) : ∀ {h : Nat} {w : World} {x : Kid}, IsN F h w x → 1 ≤ x.n → (x.N.map (hdP w)).count y ≤ x.l.count y := by
  intro h
  induction h with
  | zero =>
    intro w x hx hn
    obtain ⟨h1, h2, h3⟩ := hx
    have hm := h1.hd (by omega)
    rw [h3]
    simp only [List.map_cons, List.map_nil, List.count_cons, List.count_nil, Nat.zero_add]
    split
    · rename_i e
      rw [beq_iff_eq] at e
      rw [← e]
      exact List.count_pos_iff.2 hm
    · exact Nat.zero_le _
  | succ h ih =>
    intro w x ⟨ps, ks, h1, h2, h3, h4, h5, h6⟩ hn
    have hm := h1.hd (by omega)
    rw [h5, h4, weave_cnt y ps _ (.inr (by simp; omega)), List.map_cons, List.count_cons, List.map_flatMap, cnt_flat, List.map_map]
    have e1 := sum_le (fun k : Kid => (k.N.map (hdP w)).count y) ((fun f : List KV => f.count y) ∘ Kid.l) ks (fun k hk => ih (h6 k hk).1 (by have := (h6 k hk).2.1; omega))
    have e2 : (if (hdP w x.p == y) = true then 1 else 0) ≤ ps.count y := by
      split
      · rename_i e
        rw [beq_iff_eq] at e
        rw [← e]
        exact List.count_pos_iff.2 hm
      · exact Nat.zero_le _
    omega
end
theorem srt_nodup {l : List KV} (h : Srt l) : l.Nodup := h.imp fun {a b} hab e => by rw [e] at hab; have := kl_irr b.k; rw [hab] at this; cases this
theorem IsN.nodup {F : Nat → Prop} {h : Nat} {w : World} {x : Kid} (hx : IsN F h w x) (hs : Srt x.l) (hn : 1 ≤ x.n) : x.N.Nodup := by
  classical
  have h1 : (x.N.map (hdP w)).Nodup := List.nodup_iff_count.2 fun y => Nat.le_trans (hx.cnt y hn) (List.nodup_iff_count.1 (srt_nodup hs) y)
  exact (List.pairwise_map.1 h1).imp fun {a b} hab e => hab (by rw [e])
theorem IsT.nodup {w : World} {T : Tre} (h : IsT w T) : T.N.Nodup := by
  obtain ⟨hs, ⟨_, _, h3, _⟩ | ⟨h', x, _, h2, h3, h4, h5, _, _⟩⟩ := h
  · rw [h3]; exact List.nodup_nil
  · rw [h4]; exact h2.nodup (h3 ▸ hs) h5
theorem nodup_le : ∀ {l m : List Nat}, l.Nodup → (∀ q ∈ l, q ∈ m) → l.length ≤ m.length
  | [], _, _, _ => Nat.zero_le _
  | a :: l, m, hn, hs => by
    obtain ⟨h1, h2⟩ := List.nodup_cons.1 hn
    have ha := hs a (List.mem_cons_self ..)
    have := nodup_le (m := m.erase a) h2 (fun q hq => (List.mem_erase_of_ne (fun e => by subst e; exact h1 hq)).2 (hs q (List.mem_cons_of_mem _ hq)))
    rw [List.length_erase_of_mem ha] at this
    have := List.length_pos_of_mem ha
    simp only [List.length_cons]
    omega
theorem split_len (B B' : Nat) (h : B ≤ B') : ∀ l : List Nat, (l.filter fun q => decide (B ≤ q)).length = (l.filter fun q => decide (B' ≤ q)).length + (l.filter fun q => decide (B ≤ q ∧ q < B')).length
  | [] => rfl
  | a :: l => by
    have ih := split_len B B' h l
    simp only [List.filter_cons]
    by_cases h1 : B' ≤ a
    · rw [if_pos (by simpa using (by omega : B ≤ a)), if_pos (by simpa using h1), if_neg (by simp; omega)]
      simp only [List.length_cons]; omega
    · by_cases h2 : B ≤ a
      · rw [if_pos (by simpa using h2), if_neg (by simpa using h1), if_pos (by simp; omega)]
        simp only [List.length_cons]; omega
      · rw [if_neg (by simpa using h2), if_neg (by simpa using h1), if_neg (by simp; omega)]
        exact ih
theorem Frm.trans {B B' c d : Nat} {N M L : List Nat} (h1 : Frm B N M c) (h2 : Frm B' M L d) (hB : B ≤ B') (hL : L.Nodup) : Frm B N L (c + d) := by
  refine ⟨fun q hq hlt => h1.1 q (h2.1 q hq (by omega)) hlt, ?_⟩
  rw [split_len B B' hB]
  have e1 : (L.filter fun q => decide (B ≤ q ∧ q < B')).length ≤ (M.filter fun q => decide (B ≤ q)).length := by
    refine nodup_le (hL.filter _) fun q hq => ?_
    obtain ⟨h3, h4⟩ := List.mem_filter.1 hq
    have h5 := of_decide_eq_true h4
    exact List.mem_filter.2 ⟨h2.1 q h3 h5.2, decide_eq_true h5.1⟩
  have := h1.2
  have := h2.2
  omega
theorem Frm.self {B : Nat} {N : List Nat} (h : ∀ q ∈ N, q < B) : Frm B N N 0 := Frm.old (fun _ h => h) h
/-- the nodes that are not among known ones -/
def frN (S N : List Nat) : Nat := (N.filter fun q => !S.contains q).length
theorem frN_self (N : List Nat) : frN N N = 0 := by
  unfold frN
  rw [List.filter_eq_nil_iff.2 fun q hq => by simp [hq]]; rfl
theorem Frm.fr {B c : Nat} {N M : List Nat} (h : Frm B N M c) : frN N M ≤ c := by
  refine Nat.le_trans ?_ h.2
  unfold frN
  have : (M.filter fun q => !N.contains q) = (M.filter fun q => !N.contains q).filter fun q => decide (B ≤ q) := by
    rw [List.filter_filter]
    refine List.filter_congr fun q hq => ?_
    by_cases h1 : B ≤ q
    · simp [h1]
    · have := h.1 q hq (by omega)
      simp [h1, this]
  rw [this, List.filter_filter]
  have e : (M.filter fun q => decide (B ≤ q) && !N.contains q) = (M.filter fun q => decide (B ≤ q)).filter fun q => !N.contains q := by
    rw [List.filter_filter]
    exact List.filter_congr fun q _ => by rw [Bool.and_comm]
  rw [e]
  exact List.length_filter_le ..
end Go.Proofs.Ytmkhnpkbaegchaa
/- A map from nodes to true: what it holds, its look-up and its store. Conditions: its keys are nodes in memory. -/
namespace Go.Proofs.Ytmkhnpkbaegchaa
open Go.RowKit

theorem infoNd : ∃ j, Try.prog.info? 94 = some j ∧ j.size = 3 := by
  have h := infoN
  cases e : Try.prog.info? 94 with
  | none => rw [e] at h; cases h
  | some j => rw [e] at h; exact ⟨j, rfl, Option.some.inj h⟩
theorem eq_same (w : World) (p : Nat) : (Op.equal 85 (ptrN p) (ptrN p)).run Try.prog w = .ok true w := by
  obtain ⟨j, hj, _⟩ := infoNd
  have h : ∀ d : Nat, (Op.equalIn (d + 1) 85 (ptrN p) (ptrN p)).run Try.prog w = .ok true w := fun d => by
    simp [Op.equalIn, run_underlying Try.underlying85, sizeOf, typeInfo, hj, run_sameAddr_same]
  exact h 9999
theorem eq_other {w : World} {p q t t' : Nat} {cs cs' : Array Value} (h : p ≠ q) (hp : Blk w p t cs) (hq : Blk w q t' cs') : (Op.equal 85 (ptrN p) (ptrN q)).run Try.prog w = .ok false w := by
  obtain ⟨j, hj, hs⟩ := infoNd
  have hne : (⟨p, 0, none⟩ : Addr) ≠ ⟨q, 0, none⟩ := fun e => h (by cases e; rfl)
  have h : ∀ d : Nat, (Op.equalIn (d + 1) 85 (ptrN p) (ptrN q)).run Try.prog w = .ok false w := fun d => by
    simp [Op.equalIn, run_underlying Try.underlying85, sizeOf, typeInfo, hj, hs, run_sameAddr_other w hne hp hq]
  exact h 9999
theorem ask_spec {w : World} {p t : Nat} {cs : Array Value} (hp : Blk w p t cs) : ∀ (l : List MapEntry) (i : Nat), (∀ x ∈ l, ∃ q t cs, x.key = ptrN q ∧ Blk w q t cs) →
    ((Instr.findAsking 85 (ptrN p) l i).run Try.prog w = .ok none w ∧ ∀ x ∈ l, x.key ≠ ptrN p) ∨ ∃ j e, (Instr.findAsking 85 (ptrN p) l i).run Try.prog w = .ok (some (i + j, e.val)) w ∧ l[j]? = some e ∧ e.key = ptrN p
  | [], i, _ => .inl ⟨by simp [Instr.findAsking], fun x hx => by cases hx⟩
  | e :: l, i, h => by
    obtain ⟨q, tq, cq, hk, hq⟩ := h e (List.mem_cons_self ..)
    by_cases hpq : p = q
    · subst hpq
      refine .inr ⟨0, e, ?_, rfl, hk⟩
      simp [Instr.findAsking, hk, eq_same, Result.andThen]
    · have he : (Op.equal 85 (ptrN p) e.key).run Try.prog w = .ok false w := by rw [hk]; exact eq_other hpq hp hq
      rcases ask_spec hp l (i + 1) (fun x hx => h x (List.mem_cons_of_mem _ hx)) with ⟨h1, h2⟩ | ⟨j, e', h1, h2, h3⟩
      · refine .inl ⟨by simp [Instr.findAsking, he, h1, Result.andThen], fun x hx => ?_⟩
        rcases List.mem_cons.1 hx with rfl | hx
        · rw [hk]; intro e; exact hpq (by cases e; rfl)
        · exact h2 x hx
      · exact .inr ⟨j + 1, e', by simp [Instr.findAsking, he, h1, Result.andThen]; omega, by simpa using h2, h3⟩
theorem key_spec {w : World} {p t : Nat} {cs : Array Value} (hp : Blk w p t cs) (l : List MapEntry) (h : ∀ x ∈ l, ∃ q t cs, x.key = ptrN q ∧ Blk w q t cs) :
    ((Instr.findKey 85 (ptrN p) l).run Try.prog w = .ok none w ∧ ∀ x ∈ l, x.key ≠ ptrN p) ∨ ∃ j e, (Instr.findKey 85 (ptrN p) l).run Try.prog w = .ok (some (j, e.val)) w ∧ l[j]? = some e ∧ e.key = ptrN p := by
  cases l with
  | nil => exact .inl ⟨by simp [Instr.findKey, run_underlying Try.underlying85, Instr.findNow, Result.andThen], fun x hx => by cases hx⟩
  | cons a l =>
    have hn : ∀ d, Instr.findNow (.pointer d) (ptrN p) (a :: l) 0 = none := fun d => by
      unfold Instr.findNow
      rfl
    have e : (Instr.findKey 85 (ptrN p) (a :: l)).run Try.prog w = (Instr.findAsking 85 (ptrN p) (a :: l)).run Try.prog w := by
      simp [Instr.findKey, run_underlying Try.underlying85, hn, Result.andThen]
    rw [e]
    rcases ask_spec hp (a :: l) 0 h with h1 | ⟨j, e', h1, h2⟩
    · exact .inl h1
    · exact .inr ⟨j, e', by simpa using h1, h2⟩
theorem ptr_check (w : World) (e : Bool) (n : Nat) (p : Nat) : (Instr.checkKey e (n + 1) 85 (ptrN p)).run Try.prog w = .ok () w := by
  unfold Instr.checkKey
  simp [run_underlying Try.underlying85, Result.andThen]
/-- the map of block b holds the nodes S -/
def PSet (w : World) (b : Nat) (S : List Nat) : Prop :=
  ∃ es clock, w.heap[b]? = some (.map es clock) ∧ (∀ x ∈ es.toList, ∃ q t cs, x.key = ptrN q ∧ x.val = .bool true ∧ Blk w q t cs) ∧ ∀ q, q ∈ S ↔ ∃ x ∈ es.toList, x.key = ptrN q
theorem PSet.lt {w : World} {b : Nat} {S : List Nat} (h : PSet w b S) : b < w.heap.size := by
  obtain ⟨es, clock, hb, _⟩ := h
  exact (Array.getElem?_eq_some_iff.1 hb).1
theorem PSet.congr {w : World} {b : Nat} {S S' : List Nat} (h : PSet w b S) (e : ∀ q, q ∈ S' ↔ q ∈ S) : PSet w b S' := by
  obtain ⟨es, clock, hb, h1, h2⟩ := h
  exact ⟨es, clock, hb, h1, fun q => (e q).trans (h2 q)⟩
theorem PSet.below {w w' : World} {b : Nat} {S : List Nat} (h : PSet w b S) (hb : Below w.heap.size w w') : PSet w' b S := by
  have hlt := h.lt
  obtain ⟨es, clock, hb', h1, h2⟩ := h
  exact ⟨es, clock, (hb.block b hlt).trans hb', fun x hx => by obtain ⟨q, t, cs, h3, h4, h5⟩ := h1 x hx; exact ⟨q, t, cs, h3, h4, h5.below hb h5.lt⟩, h2⟩
theorem PSet.made (w : World) : PSet (w.alloc (.map #[] 0)) w.heap.size [] :=
  ⟨#[], 0, (MapKept.heap_alloc w _).1, fun x hx => by simp at hx, fun q => by simp⟩
theorem PSet.lookup {w : World} {b p t : Nat} {S : List Nat} {cs : Array Value} (h : PSet w b S) (hp : Blk w p t cs) :
    (Instr.lookup 105 (.map (some b)) (ptrN p) false).run Try.prog w = .ok (.bool (decide (p ∈ S))) w := by
  obtain ⟨es, clock, hb, h1, h2⟩ := h
  rcases key_spec hp es.toList (fun x hx => by obtain ⟨q, t, cs, h3, _, h5⟩ := h1 x hx; exact ⟨q, t, cs, h3, h5⟩) with ⟨h3, h4⟩ | ⟨j, e, h3, h4, h5⟩
  · have hn : ¬ p ∈ S := fun hm => by obtain ⟨x, hx, hk⟩ := (h2 p).1 hm; exact h4 x hx hk
    rw [decide_eq_false hn]
    simp [Instr.lookup, run_underlying Try.underlying105, MapKept.run_getObj_map hb, ptr_check, h3, Result.andThen]
  · have hm : e ∈ es.toList := List.mem_of_getElem? h4
    have hn : p ∈ S := (h2 p).2 ⟨e, hm, h5⟩
    obtain ⟨_, _, _, _, hv, _⟩ := h1 e hm
    rw [decide_eq_true hn]
    simp [Instr.lookup, run_underlying Try.underlying105, MapKept.run_getObj_map hb, ptr_check, h3, hv, Result.andThen]
theorem PSet.update {w : World} {b p t : Nat} {S : List Nat} {cs : Array Value} (h : PSet w b S) (hp : Blk w p t cs) :
    ∃ w', (Instr.mapUpdate 105 (.map (some b)) (ptrN p) (.bool true)).run Try.prog w = .ok () w' ∧ PSet w' b (p :: S) ∧ w.grownBy w' (some b) := by
  obtain ⟨es, clock, hb, h1, h2⟩ := h
  have hblk : ∀ (o : Obj) {q t : Nat} {cs : Array Value}, Blk w q t cs → Blk { w with heap := w.heap.setIfInBounds b o } q t cs := fun o {q t cs} hq => by
    have hne : q ≠ b := fun e => by subst e; rw [show w.heap[q]? = some (.cells cs t (0, 0)) from hq] at hb; cases hb
    exact ((MapKept.heap_set hb).2 q hne).trans hq
  have hgr : ∀ o : Obj, w.grownBy { w with heap := w.heap.setIfInBounds b o } (some b) := fun o => ⟨rfl, rfl, rfl, by simp, fun i _ hi => (MapKept.heap_set hb).2 i (fun e => hi (by rw [e]))⟩
  rcases key_spec hp es.toList (fun x hx => by obtain ⟨q, t, cs, h3, _, h5⟩ := h1 x hx; exact ⟨q, t, cs, h3, h5⟩) with ⟨h3, h4⟩ | ⟨j, e, h3, h4, h5⟩
  · refine ⟨{ w with heap := w.heap.setIfInBounds b (.map (es.push { key := ptrN p, val := .bool true, born := clock }) (clock + 1)) }, ?_, ⟨_, _, (MapKept.heap_set hb).1, fun x hx => ?_, fun q => ?_⟩, hgr _⟩
    · simp [Instr.mapUpdate, run_underlying Try.underlying105, MapKept.run_getObj_map hb, ptr_check, h3, MapKept.run_setObj_map _ hb, Result.andThen]
    · rw [Array.toList_push] at hx
      rcases List.mem_append.1 hx with hx | hx
      · obtain ⟨q, t, cs, q1, q2, q3⟩ := h1 x hx
        exact ⟨q, t, cs, q1, q2, hblk _ q3⟩
      · rw [List.mem_singleton] at hx
        subst hx
        exact ⟨p, t, cs, rfl, rfl, hblk _ hp⟩
    · rw [Array.toList_push, List.mem_cons, h2]
      constructor
      · rintro (rfl | ⟨x, hx, hk⟩)
        · exact ⟨_, List.mem_append_right _ (List.mem_singleton.2 rfl), rfl⟩
        · exact ⟨x, List.mem_append_left _ hx, hk⟩
      · rintro ⟨x, hx, hk⟩
        rcases List.mem_append.1 hx with hx | hx
        · exact .inr ⟨x, hx, hk⟩
        · rw [List.mem_singleton] at hx
          subst hx
          exact .inl (by cases hk; rfl)
  · have hj : es[j]? = some e := by simpa using h4
    have hks : (Instr.keyThatStays (ptrN p) (ptrN p)).run Try.prog w = .ok (ptrN p) w := by simp [Instr.keyThatStays, Instr.sameBits]
    have hm : e ∈ es.toList := List.mem_of_getElem? h4
    have hkeys := MapKept.modify_keys (es := es) j (fun e => { e with key := ptrN p, val := .bool true }) (fun e' he' => by rw [hj] at he'; cases he'; exact h5.symm)
    have hmem : ∀ x, x ∈ (es.modify j fun e => { e with key := ptrN p, val := .bool true }).toList → x ∈ es.toList ∨ (x.key = ptrN p ∧ x.val = .bool true) := fun x hx => by
      obtain ⟨k, hk⟩ := List.mem_iff_getElem?.1 hx
      rw [Array.getElem?_toList, Array.getElem?_modify] at hk
      split at hk
      · cases he : es[k]? with
        | none => rw [he] at hk; cases hk
        | some y => rw [he] at hk; cases hk; exact .inr ⟨rfl, rfl⟩
      · exact .inl (List.mem_iff_getElem?.2 ⟨k, by rw [Array.getElem?_toList]; exact hk⟩)
    refine ⟨{ w with heap := w.heap.setIfInBounds b (.map (es.modify j fun e => { e with key := ptrN p, val := .bool true }) clock) }, ?_, ⟨_, _, (MapKept.heap_set hb).1, fun x hx => ?_, fun q => ?_⟩, hgr _⟩
    · simp [Instr.mapUpdate, run_underlying Try.underlying105, MapKept.run_getObj_map hb, ptr_check, h3, hj, h5, hks, MapKept.run_setObj_map _ hb, Result.andThen]
    · rcases hmem x hx with hx | ⟨q1, q2⟩
      · obtain ⟨q, t, cs, q1, q2, q3⟩ := h1 x hx
        exact ⟨q, t, cs, q1, q2, hblk _ q3⟩
      · exact ⟨p, t, cs, q1, q2, hblk _ hp⟩
    · have e1 : (∃ x ∈ (es.modify j fun e => { e with key := ptrN p, val := .bool true }).toList, x.key = ptrN q) ↔ ∃ x ∈ es.toList, x.key = ptrN q := by
        have a1 : ∀ l : List MapEntry, (∃ x ∈ l, x.key = ptrN q) ↔ ptrN q ∈ l.map (·.key) := fun l => by simp [List.mem_map]
        rw [a1, a1, hkeys]
      rw [e1, List.mem_cons, h2]
      constructor
      · rintro (rfl | h)
        · exact ⟨e, hm, h5⟩
        · exact h
      · exact .inr
/-- 'm[p] = true' at the operation, for the walk -/
theorem wpList_ptr_update {ops : Array Oper} {rest : List Oper} {o : Oper} {a : Act} {w : World} {Q : Exit → Act → World → Prop}
    (hg : o.guard = none) (m x v : Operand) (hop : o.op = Op.mapUpdate 105 m x v)
    (b p t : Nat) (cs : Array Value) (S : List Nat) (hm : a.eval m = .map (some b)) (h : PSet w b S) (hp : Blk w p t cs) (hx : a.eval x = ptrN p) (hv : a.eval v = .bool true)
    (hK : ∀ w', PSet w' b (p :: S) → w.grownBy w' (some b) → wpList Try.prog ops Q rest (a.put o.dst undef) w') :
    wpList Try.prog ops Q (o :: rest) a w := by
  refine wpList_plain hg fun K' hK' => ?_
  obtain ⟨w', hrun, r1, r2⟩ := h.update hp
  unfold Oper.wp
  simp [execOp, hop, hm, hx, hv, hrun, Result.andThen]
  exact hK' _ _ (hK w' r1 r2)
end Go.Proofs.Ytmkhnpkbaegchaa
/- The walk of the function that collects the nodes of a tree. Conditions: the tree lies in memory, the map is not among its blocks. -/
namespace Go.Proofs.Ytmkhnpkbaegchaa
open Go.RowKit

/-- the boxes that the function captures -/
def FBox (w : World) (Bk Bf b tf fn : Nat) : Prop := Blk w Bk 105 #[.map (some b)] ∧ Blk w Bf tf #[.func (.func fn) #[] #[.pointer (some ⟨Bk, 0, none⟩), .pointer (some ⟨Bf, 0, none⟩)]] ∧ Bk ≠ b ∧ Bf ≠ b
theorem FBox.kept {w w' : World} {Bk Bf b tf fn : Nat} (h : FBox w Bk Bf b tf fn) (hg : w.grownBy w' (some b)) : FBox w' Bk Bf b tf fn :=
  ⟨(hg.block Bk h.1.lt (fun e => h.2.2.1 (Option.some.inj e))).trans h.1, (hg.block Bf h.2.1.lt (fun e => h.2.2.2 (Option.some.inj e))).trans h.2.1, h.2.2⟩
def ColPost (b : Nat) (S : List Nat) (x : Kid) (w : World) (e : Ending) (w' : World) : Prop := e = .returned noResult ∧ PSet w' b (x.N ++ S) ∧ w.grownBy w' (some b)
theorem flat_snoc {ks : List Kid} {i : Nat} {y : Kid} (h : ks[i]? = some y) : (ks.take (i + 1)).flatMap Kid.N = (ks.take i).flatMap Kid.N ++ y.N := by
  rw [List.take_add_one, h]; simp
set_option maxRecDepth 100000 in
set_option maxHeartbeats 8000000 in
theorem col_step (Bk Bf b : Nat) (h : Nat) (x : Kid) (w : World) (S : List Nat) (hx : IsN (fun r => r ≠ b) h w x) (hS : PSet w b S) (hB : FBox w Bk Bf b 106 56) (hlen : x.l.length ≤ 100000)
    (hrec : ∀ h', h = h' + 1 → ∀ (y : Kid) (W : World) (S : List Nat), IsN (fun r => r ≠ b) h' W y → PSet W b S → FBox W Bk Bf b 106 56 → y.l.length ≤ 100000 →
      Calls Try.prog 56 #[ptrN y.p, .pointer (some ⟨Bk, 0, none⟩), .pointer (some ⟨Bf, 0, none⟩)] W (ColPost b S y W)) :
    Calls Try.prog 56 #[ptrN x.p, .pointer (some ⟨Bk, 0, none⟩), .pointer (some ⟨Bf, 0, none⟩)] w (ColPost b S x w) := by
  obtain ⟨ps, ks, hn⟩ := hx.node
  obtain ⟨cs, hblk⟩ := hx.blk
  obtain ⟨pa, pc, ka, kc, d0, d1, hy0, hpp, hkk⟩ := hn.at_.cells
  have hlk : ks.length ≤ 200000 := by
    have := hn.len
    rcases hn.shape with e | e
    · rw [e]; simp
    · omega
  have e0 := hB.1.cell 0
  have e1 := hB.2.1.cell 0
  simp at e0 e1
  have hpb : x.p ≠ b := by
    obtain ⟨_, _, _, _, _, h4, _⟩ := hn.at_
    exact h4
  have HX := Lib.hid hx; have HS := Lib.hid hS; have HB := Lib.hid hB; have HR := Lib.hid hrec; have HN := Lib.hid hn; have HBL := Lib.hid hblk; have HKK := Lib.hid hkk
  clear hx hS hB hrec hn hblk hpp hkk d0
  go_enter Try.func56, Try.ntmps56
  go_upto_region 2 with (at_mapUpdate; refine wpList_ptr_update rfl _ _ _ rfl b x.p _ _ S rfl HS.out HBL.out rfl rfl ?_; intro w1 hS1 hg1)
  have d1w := hg1.cell d1 (fun e => hpb (Option.some.inj e))
  have HS1 := Lib.hid hS1; have HG1 := Lib.hid hg1; have HD1 := Lib.hid d1
  clear hS1 hg1 e0 e1 d1 HS HBL
  go_wp2
  go_loopg [5, 15] ks.length (fun kx s5 s15 wr => ∃ i : Nat, s15 = .int .i64 i ∧ i ≤ ks.length ∧ ks.length - i ≤ kx ∧ Hid (PSet wr b ((ks.take i).flatMap Kid.N ++ (x.p :: S))) ∧ Hid (w.grownBy wr (some b)))
  case atStart => exact ⟨0, rfl, Nat.zero_le _, Nat.le_refl _, HS1, HG1⟩
  case round =>
    clear HS1 HG1 d1w
    obtain ⟨i, rfl, hi, hm, HSi, HG⟩ := hrel
    by_cases hlt : i < ks.length
    · obtain ⟨y, hy⟩ : ∃ y, ks[i]? = some y := ⟨_, List.getElem?_eq_getElem hlt⟩
      obtain ⟨g, o, rfl, hg, hc⟩ := HKK.out i y hy
      have hh : ∃ h', h = h' + 1 := by
        cases h with
        | zero => have := HN.out.leaf rfl; rw [this] at hlt; simp at hlt
        | succ h' => exact ⟨h', rfl⟩
      obtain ⟨h', hh'⟩ := hh
      have hyk := ((HN.out.kids h' hh').2 y (List.mem_of_getElem? hy)).1
      have hyl : y.l.length ≤ 100000 := by
        have h1 := HN.out.len
        have h2 := kidsSum_take hy
        have h3 := kidsSum_le ks (i + 1)
        omega
      have hgb : g ≠ b := by
        obtain ⟨vp, vk, b1, _, _, _, _, h6⟩ := HN.out.at_
        have q := b1.cell 1
        rw [HD1.out] at q
        simp at q
        exact h6 ⟨g, o, none⟩ _ _ q.symm (by omega)
      have c0 := HG.out.cell hc (fun e => hgb (Option.some.inj e))
      have hBw := HB.out.kept HG.out
      have e1 := hBw.2.1.cell 0
      simp at e1
      have hcall := HR.out h' hh' y wr _ (hyk.grown HG.out (fun r e hf => hf (Option.some.inj e).symm)) HSi.out hBw hyl
      have HC := Lib.hid hcall; have HY := Lib.hid hy
      clear hcall hy hc hh' hyk hBw
      go_wp2_with fail
      refine HC.out.mono ?_
      rintro e w2 ⟨rfl, hS2, hg2⟩
      have hS3 : PSet w2 b ((ks.take (i + 1)).flatMap Kid.N ++ (x.p :: S)) := hS2.congr (fun q => by
        rw [flat_snoc HY.out]
        simp only [List.mem_append]
        exact ⟨fun h => by rcases h with (h | h) | h; exact .inr (.inl h); exact .inl h; exact .inr (.inr h), fun h => by rcases h with h | h | h; exact .inl (.inr h); exact .inl (.inl h); exact .inr h⟩)
      have hg3 := HG.out.trans hg2
      have HS3 := Lib.hid hS3; have HG3 := Lib.hid hg3
      clear hS2 hg2 hS3 hg3 c0 e1
      go_wp2
      go_roundg (ks.length - (i + 1))
      case measure => omega
      case rel => exact ⟨i + 1, by go_num, by omega, Nat.le_refl _, HS3, HG3⟩
    · obtain rfl : i = ks.length := by omega
      have hS3 : PSet wr b (x.N ++ S) := HSi.out.congr (fun q => by
        rw [HN.out.N, List.take_length]
        simp only [List.mem_append, List.mem_cons]
        exact ⟨fun h => by rcases h with (h | h) | h; exact .inr (.inl h); exact .inl h; exact .inr (.inr h), fun h => by rcases h with h | h | h; exact .inl (.inr h); exact .inl (.inl h); exact .inr h⟩)
      have HS3 := Lib.hid hS3
      clear hS3
      go_wp2
      first | go_ret | go_end0 | skip
      exact ⟨rfl, HS3.out, HG.out⟩
theorem col_any (Bk Bf b : Nat) : ∀ (h : Nat) (x : Kid) (w : World) (S : List Nat), IsN (fun r => r ≠ b) h w x → PSet w b S → FBox w Bk Bf b 106 56 → x.l.length ≤ 100000 →
    Calls Try.prog 56 #[ptrN x.p, .pointer (some ⟨Bk, 0, none⟩), .pointer (some ⟨Bf, 0, none⟩)] w (ColPost b S x w)
  | 0, x, w, S, hx, hS, hB, hl => col_step Bk Bf b 0 x w S hx hS hB hl (fun h' e => by cases e)
  | h + 1, x, w, S, hx, hS, hB, hl => col_step Bk Bf b (h + 1) x w S hx hS hB hl (fun h' e => by cases e; exact fun y W S => col_any Bk Bf b h y W S)
end Go.Proofs.Ytmkhnpkbaegchaa
/- The walk of the function that counts the nodes that are not known. Conditions: the tree lies in memory. -/
namespace Go.Proofs.Ytmkhnpkbaegchaa
open Go.RowKit

theorem frN_append (S a b : List Nat) : frN S (a ++ b) = frN S a + frN S b := by unfold frN; rw [List.filter_append, List.length_append]
theorem frN_cons {S : List Nat} {q : Nat} (h : ¬ q ∈ S) (a : List Nat) : frN S (q :: a) = 1 + frN S a := by
  unfold frN
  rw [List.filter_cons_of_pos (by simpa using h), List.length_cons]
  omega
theorem frN_le (S a : List Nat) : frN S a ≤ a.length := List.length_filter_le ..
theorem len_flat (ks : List Kid) : (ks.flatMap Kid.N).length = (ks.map fun k => k.N.length).sum := by
  induction ks with
  | nil => rfl
  | cons k ks ih => rw [List.flatMap_cons, List.length_append, ih]; rfl
theorem IsN.Nlen {F : Nat → Prop} : ∀ {h : Nat} {w : World} {x : Kid}, IsN F h w x → 1 ≤ x.n → x.N.length ≤ x.l.length := by
  intro h
  induction h with
  | zero =>
    intro w x hx hn
    obtain ⟨h1, h2, h3⟩ := hx
    rw [h3]
    simp
    omega
  | succ h ih =>
    intro w x ⟨ps, ks, h1, h2, h3, h4, h5, h6⟩ hn
    rw [h5, h4, List.length_cons, len_flat, kids_len (.inr h2)]
    have := sum_le (fun k : Kid => k.N.length) (fun k => k.l.length) ks (fun k hk => ih (h6 k hk).1 (by have := (h6 k hk).2.1; omega))
    unfold kidsSum
    omega
def CntPost (S : List Nat) (x : Kid) (w : World) (e : Ending) (w' : World) : Prop := ∃ c : Nat, e = .returned (.int .i64 c) ∧ c ≤ frN S x.N ∧ (x.p ∈ S → c = 0) ∧ w' = w
set_option maxRecDepth 100000 in
set_option maxHeartbeats 8000000 in
theorem cnt_step (Bk Bf b : Nat) (h : Nat) (x : Kid) (w : World) (S : List Nat) (hx : IsN Any h w x) (hS : PSet w b S) (hB : FBox w Bk Bf b 107 57) (hlen : x.l.length ≤ 100000) (hn1 : 1 ≤ x.n)
    (hrec : ∀ h', h = h' + 1 → ∀ (y : Kid), IsN Any h' w y → y.l.length ≤ 100000 → 1 ≤ y.n →
      Calls Try.prog 57 #[ptrN y.p, .pointer (some ⟨Bk, 0, none⟩), .pointer (some ⟨Bf, 0, none⟩)] w (CntPost S y w)) :
    Calls Try.prog 57 #[ptrN x.p, .pointer (some ⟨Bk, 0, none⟩), .pointer (some ⟨Bf, 0, none⟩)] w (CntPost S x w) := by
  obtain ⟨ps, ks, hn⟩ := hx.node
  obtain ⟨cs, hblk⟩ := hx.blk
  obtain ⟨pa, pc, ka, kc, d0, d1, hy0, hpp, hkk⟩ := hn.at_.cells
  have hlk : ks.length ≤ 200000 := by
    have := hn.len
    rcases hn.shape with e | e
    · rw [e]; simp
    · omega
  have e0 := hB.1.cell 0
  have e1 := hB.2.1.cell 0
  simp at e0 e1
  have hlo := hS.lookup hblk
  have hNl := hx.Nlen hn1
  have HX := Lib.hid hx; have HS := Lib.hid hS; have HR := Lib.hid hrec; have HN := Lib.hid hn; have HKK := Lib.hid hkk
  clear hx hS hB hrec hn hblk hpp hkk d0
  by_cases hps : x.p ∈ S
  · rw [decide_eq_true hps] at hlo
    have HPS := Lib.hid hps
    clear hps
    go_enter Try.func57, Try.ntmps57
    go_wp2
    go_ret
    exact ⟨0, rfl, Nat.zero_le _, fun _ => rfl, rfl⟩
  · rw [decide_eq_false hps] at hlo
    have HPS := Lib.hid hps
    clear hps
    go_enter Try.func57, Try.ntmps57
    go_wp2
    clear hlo
    go_loopg [5, 7, 20] ks.length (fun kx s5 s7 s20 wr => ∃ i c : Nat, s20 = .int .i64 i ∧ s5 = .int .i64 c ∧ i ≤ ks.length ∧ ks.length - i ≤ kx ∧ Hid (c ≤ 1 + frN S ((ks.take i).flatMap Kid.N)) ∧ wr = w)
    case atStart => exact ⟨0, 1, rfl, rfl, Nat.zero_le _, Nat.le_refl _, Lib.hid (Nat.le_add_right ..), rfl⟩
    case round =>
      obtain ⟨i, c, rfl, rfl, hi, hm, HC, rfl⟩ := hrel
      by_cases hlt : i < ks.length
      · obtain ⟨y, hy⟩ : ∃ y, ks[i]? = some y := ⟨_, List.getElem?_eq_getElem hlt⟩
        obtain ⟨g, o, rfl, hg, c0⟩ := HKK.out i y hy
        have hh : ∃ h', h = h' + 1 := by
          cases h with
          | zero => have := HN.out.leaf rfl; rw [this] at hlt; simp at hlt
          | succ h' => exact ⟨h', rfl⟩
        obtain ⟨h', hh'⟩ := hh
        obtain ⟨hyk, hy3, _⟩ := (HN.out.kids h' hh').2 y (List.mem_of_getElem? hy)
        have hyl : y.l.length ≤ 100000 := by
          have h1 := HN.out.len
          have h2 := kidsSum_take hy
          have h3 := kidsSum_le ks (i + 1)
          omega
        have hcall := HR.out h' hh' y hyk hyl (by omega)
        have hyN := hyk.Nlen (by omega)
        have hfr := frN_le S y.N
        have hfl : frN S ((ks.take (i + 1)).flatMap Kid.N) = frN S ((ks.take i).flatMap Kid.N) + frN S y.N := by rw [flat_snoc hy, frN_append]
        have hcb : c ≤ 1000000 := by
          have h1 := HC.out
          have h2 : frN S x.N = 1 + frN S (ks.flatMap Kid.N) := by rw [HN.out.N, frN_cons HPS.out]
          have h3 := frN_le S x.N
          have h4 : frN S (ks.flatMap Kid.N) = frN S ((ks.take i).flatMap Kid.N) + frN S ((ks.drop i).flatMap Kid.N) := by rw [← frN_append, ← List.flatMap_append, List.take_append_drop]
          omega
        have HCA := Lib.hid hcall; have HFL := Lib.hid hfl
        clear hcall hy hh' hyk hfl
        go_wp2_with fail
        refine HCA.out.mono ?_
        rintro e w2 ⟨c2, rfl, hc2, _, rfl⟩
        have s1 : IntKind.i64.wrap ((c : Int) + (c2 : Int)) = ((c + c2 : Nat) : Int) := by rw [IntWalk.i64_in _ (by omega)]; rfl
        have HC2 : Hid (c + c2 ≤ 1 + frN S ((ks.take (i + 1)).flatMap Kid.N)) := Lib.hid (by rw [HFL.out]; have := HC.out; omega)
        go_wp2
        go_roundg (ks.length - (i + 1))
        case measure => omega
        case rel => exact ⟨i + 1, c + c2, by go_num, rfl, by omega, Nat.le_refl _, HC2, rfl⟩
      · obtain rfl : i = ks.length := by omega
        have hfin : c ≤ frN S x.N := by
          have := HC.out
          rw [List.take_length] at this
          rw [HN.out.N, frN_cons HPS.out]
          exact this
        have HF := Lib.hid hfin
        clear hfin
        go_wp2
        go_ret
        exact ⟨c, rfl, HF.out, fun hm => absurd hm HPS.out, rfl⟩
theorem cnt_any (Bk Bf b : Nat) (w : World) (S : List Nat) (hS : PSet w b S) (hB : FBox w Bk Bf b 107 57) : ∀ (h : Nat) (x : Kid), IsN Any h w x → x.l.length ≤ 100000 → 1 ≤ x.n →
    Calls Try.prog 57 #[ptrN x.p, .pointer (some ⟨Bk, 0, none⟩), .pointer (some ⟨Bf, 0, none⟩)] w (CntPost S x w)
  | 0, x, hx, hl, hn => cnt_step Bk Bf b 0 x w S hx hS hB hl hn (fun h' e => by cases e)
  | h + 1, x, hx, hl, hn => cnt_step Bk Bf b (h + 1) x w S hx hS hB hl hn (fun h' e => by cases e; exact fun y => cnt_any Bk Bf b w S hS hB h y)
end Go.Proofs.Ytmkhnpkbaegchaa
/- The walk of Fresh: at most as many as the second tree has nodes that the first has not. Conditions: the trees lie in memory. -/
namespace Go.Proofs.Ytmkhnpkbaegchaa
open Go.RowKit

theorem col_root (A : Tre) (w : World) (hA : IsT w A) (hl : A.l.length ≤ 100000) : ∃ rv, w.cell? ⟨A.p, 0, none⟩ = some rv ∧ ∀ (Bk Bf b : Nat) (W : World) (S : List Nat), w.heap.size ≤ b → Below w.heap.size w W → PSet W b S → FBox W Bk Bf b 106 56 →
    Calls Try.prog 56 #[rv, .pointer (some ⟨Bk, 0, none⟩), .pointer (some ⟨Bf, 0, none⟩)] W (fun e w' => e = .returned noResult ∧ PSet w' b (A.N ++ S) ∧ W.grownBy w' (some b)) := by
  obtain ⟨_, ⟨h1, _, h3, h4⟩ | ⟨h', x, h1, h2, h3, h4, _⟩⟩ := hA
  · have c0 := h4.cell 0
    refine ⟨.pointer none, by simpa using c0, fun Bk Bf b W S _ _ hS _ => ?_⟩
    rw [h3, List.nil_append]
    have HS := Lib.hid hS
    clear hS c0 h4 h3 h1
    go_enter Try.func56, Try.ntmps56
    go_wp2
    first | go_ret | go_end0 | skip
    exact ⟨rfl, HS.out, World.grownBy.refl _ _⟩
  · have c0 := h1.cell 0
    refine ⟨ptrN x.p, by simpa using c0, fun Bk Bf b W S hb hbw hS hB => ?_⟩
    rw [h4]
    exact col_any Bk Bf b h' x W S ((h2.in.mono (fun r hr => by have := hr.2; omega)).below hbw) hS hB (h3 ▸ hl)
theorem cnt_root (B : Tre) (W : World) (hT : IsT W B) (hl : B.l.length ≤ 100000) (Bk Bf b : Nat) (S : List Nat) (hS : PSet W b S) (hB : FBox W Bk Bf b 107 57) : ∃ rv, W.cell? ⟨B.p, 0, none⟩ = some rv ∧
    Calls Try.prog 57 #[rv, .pointer (some ⟨Bk, 0, none⟩), .pointer (some ⟨Bf, 0, none⟩)] W (fun e w' => ∃ c : Nat, e = .returned (.int .i64 c) ∧ c ≤ frN S B.N ∧ w' = W) := by
  obtain ⟨_, ⟨h1, _, h3, h4⟩ | ⟨h', x, h1, h2, h3, h4, h5, _⟩⟩ := hT
  · have c0 := h4.cell 0
    refine ⟨.pointer none, by simpa using c0, ?_⟩
    clear c0 h4 h3 h1 hS hB
    go_enter Try.func57, Try.ntmps57
    go_wp2
    go_ret
    exact ⟨0, rfl, Nat.zero_le _, rfl⟩
  · have c0 := h1.cell 0
    refine ⟨ptrN x.p, by simpa using c0, ?_⟩
    refine (cnt_any Bk Bf b W S hS hB h' x h2 (h3 ▸ hl) h5).mono ?_
    rintro e w' ⟨c, h6, h7, _, h8⟩
    exact ⟨c, h6, by rw [h4]; exact h7, h8⟩
def FrPost (A B : Tre) (w : World) (e : Ending) (w' : World) : Prop := ∃ c : Nat, e = .returned (.int .i64 c) ∧ c ≤ frN A.N B.N ∧ Below w.heap.size w w'
set_option maxRecDepth 100000 in
set_option maxHeartbeats 8000000 in
theorem fresh_any (A B : Tre) (w : World) (hA : IsT w A) (hB : IsT w B) (hlA : A.l.length ≤ 100000) (hlB : B.l.length ≤ 100000) :
    Calls Try.prog 36 #[ptrN A.p, ptrN B.p] w (FrPost A B w) := by
  obtain ⟨rv, hrv, hcol⟩ := col_root A w hA hlA
  have hpa := hA.lt
  have HA := Lib.hid hA; have HB := Lib.hid hB; have HCOL := Lib.hid hcol; have HRV := Lib.hid hrv
  clear hA hB hcol hrv
  have hmm := @run_makeMap Try.prog
  go_enter Try.func36, Try.ntmps36
  go_upto_region 4 with (fail)
  clear hmm
  have hW1 : ∀ b, b = w.heap.size → PSet (((w.alloc (.map #[] 0)).alloc (.cells #[.map (some b)] 105)).alloc (.cells #[.func (.func 56) #[] #[.pointer (some ⟨b + 1, 0, none⟩), .pointer (some ⟨b + 1 + 1, 0, none⟩)]] 106)) b [] ∧
      FBox (((w.alloc (.map #[] 0)).alloc (.cells #[.map (some b)] 105)).alloc (.cells #[.func (.func 56) #[] #[.pointer (some ⟨b + 1, 0, none⟩), .pointer (some ⟨b + 1 + 1, 0, none⟩)]] 106)) (b + 1) (b + 1 + 1) b 106 56 ∧
      Below w.heap.size w (((w.alloc (.map #[] 0)).alloc (.cells #[.map (some b)] 105)).alloc (.cells #[.func (.func 56) #[] #[.pointer (some ⟨b + 1, 0, none⟩), .pointer (some ⟨b + 1 + 1, 0, none⟩)]] 106)) := fun b hb => by
    subst hb
    refine ⟨((PSet.made w).below (bl_alloc _ _)).below (bl_alloc _ _), ⟨(Blk.at (by simp) _ _).alloc _, Blk.at (by simp) _ _, by omega, by omega⟩, bl_trans (bl_trans (bl_alloc _ _) (bl_alloc _ _)) (bl_alloc _ _)⟩
  obtain ⟨b, hb⟩ : ∃ b, b = w.heap.size := ⟨_, rfl⟩
  have hW := hW1 b hb
  rw [← hb]
  clear hW1
  generalize ((w.alloc (.map #[] 0)).alloc (.cells #[.map (some b)] 105)).alloc (.cells #[.func (.func 56) #[] #[.pointer (some ⟨b + 1, 0, none⟩), .pointer (some ⟨b + 1 + 1, 0, none⟩)]] 106) = W1 at *
  obtain ⟨hP1, hF1, hB1⟩ := hW
  have e1 := hF1.2.1.cell 0
  have r1 := (hB1.cell (p := ⟨A.p, 0, none⟩) hpa).trans HRV.out
  simp at e1
  have hcol := HCOL.out (b + 1) (b + 1 + 1) b W1.drew [] (by omega) (bl_trans hB1 (bl_drew _)) (hP1.below (bl_drew _)) (hF1.kept ⟨rfl, rfl, rfl, Nat.le_refl _, fun _ _ _ => rfl⟩)
  have HC := Lib.hid hcol; have HF1 := Lib.hid hF1; have HB1 := Lib.hid hB1; have HBE := Lib.hid hb
  clear hcol hP1 hF1 hB1 HCOL hb
  refine wp_region_still_tail 5 (by kernel_rfl) (by kernel_rfl) ?_
  simp only [List.take_succ_cons, List.take_zero, List.drop_succ_cons, List.drop_zero]
  change wpStill _ _ (W1.drew) (fun a' => wpList _ _ _ _ a' (W1.drew)) _ _
  iterate 5 still_step
  refine wpStill_nil ?_
  go_wp2_with fail
  refine HC.out.mono ?_
  rintro e w2 ⟨rfl, hP2, hg2⟩
  rw [List.append_nil] at hP2
  have hb2 : Below w.heap.size w w2 := (bl_trans HB1.out (bl_drew W1)).grown hg2 (bl_trans HB1.out (bl_drew W1)).size (fun k e => by rw [← HBE.out]; cases e; exact Nat.le_refl _)
  have hk2 : Blk w2 (b + 1) 105 #[.map (some b)] := (hg2.block (b + 1) HF1.out.1.lt (fun e => by have := Option.some.inj e; omega)).trans HF1.out.1
  have HP2 := Lib.hid hP2; have HB2 := Lib.hid hb2; have HK2 := Lib.hid hk2
  clear hP2 hg2 hb2 hk2 e1 r1 HC HF1 HB1 HRV
  go_upto_region 7 with (fail)
  have hbl := HP2.out.lt
  obtain ⟨G, hG⟩ : ∃ G, G = w2.heap.size := ⟨_, rfl⟩
  have hF3 : FBox (w2.alloc (.cells #[.func (.func 57) #[] #[.pointer (some ⟨b + 1, 0, none⟩), .pointer (some ⟨G, 0, none⟩)]] 107)) (b + 1) G b 107 57 := ⟨HK2.out.alloc _, Blk.at hG _ _, by omega, by omega⟩
  have hP3 := HP2.out.below (bl_alloc w2 (.cells #[.func (.func 57) #[] #[.pointer (some ⟨b + 1, 0, none⟩), .pointer (some ⟨G, 0, none⟩)]] 107))
  have hb3 := bl_trans HB2.out (bl_alloc w2 (.cells #[.func (.func 57) #[] #[.pointer (some ⟨b + 1, 0, none⟩), .pointer (some ⟨G, 0, none⟩)]] 107))
  rw [← hG]
  generalize w2.alloc (.cells #[.func (.func 57) #[] #[.pointer (some ⟨b + 1, 0, none⟩), .pointer (some ⟨G, 0, none⟩)]] 107) = W3 at *
  clear hG hbl HP2 HB2 HK2 HBE
  obtain ⟨rv2, hr2, hcnt⟩ := cnt_root B W3.drew (HB.out.below (bl_trans hb3 (bl_drew _))) hlB (b + 1) G b A.N (hP3.below (bl_drew _)) (hF3.kept ⟨rfl, rfl, rfl, Nat.le_refl _, fun _ _ _ => rfl⟩)
  have e3 := hF3.2.1.cell 0
  have r3 : W3.cell? ⟨B.p, 0, none⟩ = some rv2 := hr2
  simp at e3
  have HC := Lib.hid hcnt; have HB3 := Lib.hid hb3
  clear hcnt hr2 hF3 hP3 hb3
  refine wp_region_still_tail 5 (by kernel_rfl) (by kernel_rfl) ?_
  simp only [List.take_succ_cons, List.take_zero, List.drop_succ_cons, List.drop_zero]
  change wpStill _ _ (W3.drew) (fun a' => wpList _ _ _ _ a' (W3.drew)) _ _
  iterate 5 still_step
  refine wpStill_nil ?_
  go_wp2_with fail
  refine HC.out.mono ?_
  rintro e w4 ⟨c, rfl, hc, rfl⟩
  have HCC := Lib.hid hc
  clear hc
  go_wp2
  go_ret
  exact ⟨c, rfl, HCC.out, bl_trans HB3.out (bl_drew _)⟩
end Go.Proofs.Ytmkhnpkbaegchaa
/- The law TreeShares returns true at every input. Conditions: the numbers are ints, the list lies in memory, its elements are ops. -/
namespace Go.Proofs.Ytmkhnpkbaegchaa
open Go.RowKit

def FrLe (m : Nat) (w : World) (e : Ending) (w' : World) : Prop := ∃ c : Nat, e = .returned (.int .i64 c) ∧ c ≤ m ∧ Below w.heap.size w w'
theorem fr_mono {N M : List Nat} {B i H hi hu : Nat} (h : Frm B N M (i * (3 * hi + 2) + (3 * H + 2))) (h1 : H ≤ hi) : Frm B N M ((i + 1) * (3 * max hi hu + 2)) := by
  refine h.mono ?_
  obtain ⟨M, hM, h2⟩ : ∃ M, M = max hi hu ∧ hi ≤ M := ⟨_, rfl, by omega⟩
  rw [← hM]
  have e1 : i * (3 * hi + 2) ≤ i * (3 * M + 2) := Nat.mul_le_mul_left _ (by omega)
  have e2 : (i + 1) * (3 * M + 2) = i * (3 * M + 2) + (3 * M + 2) := Nat.succ_mul ..
  rw [e2]
  generalize i * (3 * M + 2) = a at *
  generalize i * (3 * hi + 2) = b at *
  omega
set_option maxRecDepth 100000 in
set_option maxHeartbeats 8000000 in
theorem law_shares (n s : Int) (vl : Value) (ls : List OpV) (w : World) (hn1 : -9223372036854775808 ≤ n) (hn2 : n ≤ 9223372036854775807) (hs1 : -9223372036854775808 ≤ s) (hs2 : s ≤ 9223372036854775807) (hI : IsRow 3 encO w vl ls) (hok : ∀ x ∈ ls, OpOk x) :
    Calls Try.prog 10 #[.int .i64 n, .int .i64 s, vl] w (Ret (.bool true) w) := by
  obtain ⟨m, hm⟩ : ∃ m : Nat, around n 501 = m := ⟨(around n 501).toNat, by have := around_bd n (m := 501) (by omega); omega⟩
  obtain ⟨c, hc⟩ : ∃ c : Nat, around s 3988 = c := ⟨(around s 3988).toNat, by have := around_bd s (m := 3988) (by omega); omega⟩
  have hm2 : m ≤ 500 := by have := around_bd n (m := 501) (by omega); omega
  have hc2 : c ≤ 3987 := by have := around_bd s (m := 3988) (by omega); omega
  have K1 : ∀ w, Calls Try.prog 25 #[.int .i64 n, .int .i64 501] w (Pur (.int .i64 (m : Int)) w) := fun w => by rw [← hm]; exact around02 n 501 w hn1 hn2 (by omega) (by omega)
  have K2 : ∀ w, Calls Try.prog 25 #[.int .i64 s, .int .i64 3988] w (Pur (.int .i64 (c : Int)) w) := fun w => by rw [← hc]; exact around02 s 3988 w hs1 hs2 (by omega) (by omega)
  have K4 : ∀ W, Calls Try.prog 30 #[.int .i64 m, .int .i64 ((c + 1 : Nat) : Int), .bool false] W (ManyPost m W) := fun W => many_any m (c + 1) false W (by omega) (by omega)
  have e1 : 1 + (c : Int) = ((c + 1 : Nat) : Int) := by omega
  obtain ⟨pa, cap, rfl, _, hop⟩ := hI.open
  have HK1 := Lib.hid K1; have HK2 := Lib.hid K2; have HK4 := Lib.hid K4; have HOP := Lib.hid hop; have HOK := Lib.hid hok
  clear K1 K2 K4 hm hc hn1 hn2 hs1 hs2 hop hok hI
  obtain ⟨d, hd⟩ : ∃ d, d = c + 1 := ⟨_, rfl⟩
  rw [← hd] at e1 HK4
  have hcd : (c : Int) ≤ 3987 := by omega
  clear hd
  go_enter Try.func10, Try.ntmps10
  go_wp2_with fail
  refine (HK1.out _).mono ?_
  rintro e w' ⟨rfl, rfl⟩
  go_wp2_with fail
  refine (HK2.out _).mono ?_
  rintro e w' ⟨rfl, rfl⟩
  go_wp2_with fail
  refine (HK4.out _).mono ?_
  rintro e w0 ⟨Z, v, rfl, hZ, hv, hl, hb0⟩
  obtain ⟨pv, cv, rfl⟩ := row_slice hv
  have hfz : Calls Try.prog 36 #[ptrN Z.p, ptrN Z.p] w0 (FrLe 0 w0) := (fresh_any Z Z w0 hZ hZ (by omega) (by omega)).mono fun e w' ⟨c, h1, h2, h3⟩ => ⟨c, h1, by rw [frN_self] at h2; exact h2, h3⟩
  have HFZ := Lib.hid hfz; have HZ := Lib.hid hZ; have HL := Lib.hid hl
  clear hfz hZ hv hl e1 hcd hc2
  go_wp2_with fail
  refine HFZ.out.mono ?_
  rintro e w1 ⟨c0, rfl, hc0, hb1⟩
  obtain rfl : c0 = 0 := by omega
  have hZ1 := HZ.out.below hb1
  have hH0 := hZ1.hle (by have := HL.out; omega)
  have hhe := height_any Z w1 hZ1 (by omega)
  have hB01 := bl_trans hb0 hb1
  have HZ1 := Lib.hid hZ1; have HHE := Lib.hid hhe; have HB01 := Lib.hid hB01
  clear hc0 hb1 hb0 hZ1 hhe hB01 HZ HFZ
  obtain ⟨h0, hh0⟩ : ∃ h0, h0 = Z.H := ⟨_, rfl⟩
  rw [← hh0] at HHE hH0
  have HH0 := Lib.hid hh0
  clear hh0
  go_wp2_with fail
  refine HHE.out.mono ?_
  rintro e w' ⟨rfl, rfl⟩
  go_wp2
  go_loopg [10, 11, 12, 13, 14] 20 (fun kx s10 s11 s12 s13 s14 wr => ∃ (i hi : Nat) (T : Tre), s13 = .int .i64 i ∧ s12 = .int .i64 i ∧ s10 = ptrN T.p ∧ s11 = .int .i64 hi ∧ i ≤ 20 ∧ 20 - i ≤ kx ∧ hi ≤ 9 ∧ Hid (T.H ≤ hi) ∧ Hid (IsT wr T) ∧ Hid (Frm w1.heap.size Z.N T.N (i * (3 * hi + 2))) ∧ Hid (T.l.length ≤ 500 + i) ∧ Hid (Below w1.heap.size w1 wr))
  case atStart => exact ⟨0, h0, Z, rfl, rfl, rfl, rfl, by omega, by omega, hH0, Lib.hid (by rw [HH0.out]; exact Nat.le_refl _), HZ1, Lib.hid (by rw [Nat.zero_mul]; exact Frm.self HZ1.out.isTF.Nlt), Lib.hid (by have := HL.out; omega), Lib.hid (bl_refl _)⟩
  case round =>
    obtain ⟨i, hi, T, rfl, rfl, rfl, rfl, hi1, hm3, hh9, HTH, HT, HF, HLN, HB⟩ := hrel
    rcases (show (i < ls.length ∧ i < 20) ∨ (i < ls.length ∧ ¬ i < 20) ∨ ¬ i < ls.length by omega) with ⟨hlt, hlt2⟩ | hlt
    · obtain ⟨x, hx⟩ : ∃ x, ls[i]? = some x := ⟨_, List.getElem?_eq_getElem hlt⟩
      have hxo := HOK.out x (List.mem_of_getElem? hx)
      obtain ⟨g, off, rfl, hg, hcell⟩ := HOP.out (by omega)
      have d0 := hcell i x hx 0 _ rfl
      have d1 := hcell i x hx 1 _ rfl
      have d2 := hcell i x hx 2 _ rfl
      rw [Nat.add_zero] at d0
      have hbw := bl_trans HB01.out HB.out
      have c0 := (hbw.cell (p := ⟨g, off + i * 3, none⟩) hg).trans d0
      have c1 := (hbw.cell (p := ⟨g, off + i * 3 + 1, none⟩) hg).trans d1
      have c2 := (hbw.cell (p := ⟨g, off + i * 3 + 2, none⟩) hg).trans d2
      have hch := change_any T x 4000 wr HT.out hxo (by omega) (by omega) (by have := HLN.out; omega)
      have hln := chL_len HT.out.1 x 4000
      have HCH := Lib.hid hch; have HCL := Lib.hid hln
      clear hch hcell hx d0 d1 d2 hln hxo hbw
      go_wp2_with fail
      refine HCH.out.mono ?_
      rintro e w2 ⟨U, rfl, hU, hUl, hUf, hb2⟩
      have hlU : U.l.length ≤ 500 + (i + 1) := by rw [hUl]; have := HCL.out; have := HLN.out; omega
      have hT2 := HT.out.below hb2
      have hHT : T.H ≤ 9 := hT2.hle (by have := HLN.out; omega)
      have hHU : U.H ≤ 9 := hU.hle (by omega)
      have hfr := hUf.fr
      have hfr1 : ∀ W, Below w2.heap.size w2 W → Calls Try.prog 36 #[ptrN T.p, ptrN U.p] W (FrLe (3 * T.H + 2) W) := fun W hb => (fresh_any T U W (hT2.below hb) (hU.below hb) (by have := HLN.out; omega) (by omega)).mono fun e w' ⟨c, h1, h2, h3⟩ => ⟨c, h1, Nat.le_trans h2 hfr, h3⟩
      have hfr2 : ∀ W, Below w2.heap.size w2 W → Calls Try.prog 36 #[ptrN U.p, ptrN U.p] W (FrLe 0 W) := fun W hb => (fresh_any U U W (hU.below hb) (hU.below hb) (by omega) (by omega)).mono fun e w' ⟨c, h1, h2, h3⟩ => ⟨c, h1, by rw [frN_self] at h2; exact h2, h3⟩
      have hhT : ∀ W, Below w2.heap.size w2 W → Calls Try.prog 27 #[ptrN T.p] W (Pur (.int .i64 T.H) W) := fun W hb => height_any T W (hT2.below hb) (by omega)
      have hhU : ∀ W, Below w2.heap.size w2 W → Calls Try.prog 27 #[ptrN U.p] W (Pur (.int .i64 U.H) W) := fun W hb => height_any U W (hU.below hb) (by omega)
      have hF3 := HF.out.trans hUf HB.out.size hU.nodup
      obtain ⟨tH, htH⟩ : ∃ h, h = T.H := ⟨_, rfl⟩
      obtain ⟨uH, huH⟩ : ∃ h, h = U.H := ⟨_, rfl⟩
      rw [← htH] at hfr1 hhT hHT hF3
      rw [← huH] at hhU hHU
      have hF4 := fr_mono (hu := uH) hF3 (by rw [htH]; exact HTH.out)
      have HUH : Hid (U.H ≤ max hi uH) := Lib.hid (by rw [← huH]; omega)
      have HF1 := Lib.hid hfr1; have HF2 := Lib.hid hfr2; have HH1 := Lib.hid hhT; have HH2 := Lib.hid hhU; have HF4 := Lib.hid hF4; have HU := Lib.hid hU; have HLU := Lib.hid hlU
      have hB2 := bl_trans HB.out hb2
      have HB2 := Lib.hid hB2
      clear hU hUl hUf hlU hT2 hfr hfr1 hfr2 hhT hhU hF3 htH huH hF4 hb2 hB2 c0 c1 c2 HCH HCL
      go_wp2_with fail
      refine (HF1.out _ (bl_refl _)).mono ?_
      rintro e w3 ⟨c1, rfl, hc1, hb3⟩
      go_wp2_with fail
      refine (HH1.out _ hb3).mono ?_
      rintro e w' ⟨rfl, rfl⟩
      go_wp2_with fail
      refine (HF1.out _ hb3).mono ?_
      rintro e w4 ⟨c2, rfl, hc2, hb4⟩
      have hb34 := bl_trans hb3 hb4
      clear hb3 hb4
      go_wp2_with fail
      refine (HF2.out _ hb34).mono ?_
      rintro e w5 ⟨c3, rfl, hc3, hb5⟩
      obtain rfl : c3 = 0 := by omega
      have hb35 := bl_trans hb34 hb5
      clear hb34 hb5 hc3
      go_wp2_with fail
      refine (HH2.out _ hb35).mono ?_
      rintro e w' ⟨rfl, rfl⟩
      go_upto_region 15 with (fail)
      obtain ⟨M, hM⟩ : ∃ M, M = max hi uH := ⟨_, rfl⟩
      rw [show max (hi : Int) (uH : Int) = (M : Int) by omega]
      rw [← hM] at HUH HF4
      have hM9 : M ≤ 9 := by omega
      have HB5 := Lib.hid (bl_trans HB2.out hb35)
      have HU5 := Lib.hid (HU.out.below hb35)
      clear hM hb35 hc1 hc2
      go_wp2
      go_roundg (20 - (i + 1))
      case measure => omega
      case rel => exact ⟨i + 1, M, U, by go_num, by go_num, rfl, rfl, by omega, Nat.le_refl _, hM9, HUH, HU5, HF4, HLU, HB5⟩
    · rcases hlt with ⟨hlt, hlt2⟩ | hlt
      all_goals
        have hfr : Calls Try.prog 36 #[ptrN Z.p, ptrN T.p] wr (FrLe (i * (3 * hi + 2)) wr) := (fresh_any Z T wr (HZ1.out.below HB.out) HT.out (by have := HL.out; omega) (by have := HLN.out; omega)).mono fun e w' ⟨c, h1, h2, h3⟩ => ⟨c, h1, Nat.le_trans h2 HF.out.fr, h3⟩
        have hbz : i * (3 * hi + 2) ≤ 20 * (3 * 9 + 2) := Nat.mul_le_mul hi1 (by omega)
        obtain ⟨K, hK⟩ : ∃ K, K = 3 * hi + 2 := ⟨_, rfl⟩
        rw [← hK] at hfr hbz
        have q1 : 3 * (hi : Int) + 2 = (K : Int) := by omega
        obtain ⟨B, hB⟩ : ∃ B, B = i * K := ⟨_, rfl⟩
        have q2 : (i : Int) * (K : Int) = (B : Int) := by rw [hB]; exact (Int.natCast_mul i K).symm
        rw [← hB] at hfr hbz
        have HFR := Lib.hid hfr
        clear hfr hB hK
        go_wp2_with fail
        refine HFR.out.mono ?_
        rintro e w3 ⟨c3, rfl, hc3, hb3⟩
        go_wp2_with fail
        refine (lives_any _).mono ?_
        rintro e w4 ⟨rfl, hb4⟩
        go_wp2
        go_ret
        exact ⟨rfl, bl_trans HB01.out (bl_trans HB.out (bl_trans hb3 hb4))⟩
end Go.Proofs.Ytmkhnpkbaegchaa
