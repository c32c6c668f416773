/- Plain: the members of ordered lists of pairs under a change; different keys of different numbers; odd steps reach all numbers. Conditions: stated at each. -/
import Derived.Test.YtmkhnpkbaegchaaTBnd
namespace Go.Proofs.Ytmkhnpkbaegchaa
open Go.RowKit

theorem mem_putL {l : List KV} {p x : KV} : x ∈ putL l p ↔ x = p ∨ (x ∈ l ∧ x.k ≠ p.k) := by
  unfold putL
  rw [List.mem_append, List.mem_cons, mem_lo, mem_hi]
  constructor
  · rintro (⟨h1, h2⟩ | rfl | ⟨h1, h2⟩)
    · exact .inr ⟨h1, kl_ne h2⟩
    · exact .inl rfl
    · exact .inr ⟨h1, (kl_ne h2).symm⟩
  · rintro (rfl | ⟨h1, h2⟩)
    · exact .inr (.inl rfl)
    · rcases kl_total x.k p.k with q | q | q
      · exact .inl ⟨h1, q⟩
      · exact absurd q h2
      · exact .inr (.inr ⟨h1, q⟩)
theorem mem_delL {l : List KV} {k : ByteArray} {x : KV} : x ∈ delL l k ↔ x ∈ l ∧ x.k ≠ k := by
  unfold delL
  rw [List.mem_append, mem_lo, mem_hi]
  constructor
  · rintro (⟨h1, h2⟩ | ⟨h1, h2⟩)
    · exact ⟨h1, kl_ne h2⟩
    · exact ⟨h1, (kl_ne h2).symm⟩
  · rintro ⟨h1, h2⟩
    rcases kl_total x.k k with q | q | q
    · exact .inl ⟨h1, q⟩
    · exact absurd q h2
    · exact .inr ⟨h1, q⟩
theorem putL_new {l : List KV} {p : KV} (hs : Srt l) (h : ∀ x ∈ l, x.k ≠ p.k) : (putL l p).length = l.length + 1 := by
  have h0 := congrArg List.length (srt_parts hs p.k)
  have h1 : l.filter (fun x => decide (x.k = p.k)) = [] := List.filter_eq_nil_iff.2 (fun x hx => by simp [h x hx])
  rw [h1] at h0
  unfold putL
  simp only [List.length_append, List.length_cons, List.length_nil] at h0 ⊢
  omega
/-- ordered lists with the same members are one -/
theorem srt_ext : ∀ {a b : List KV}, Srt a → Srt b → (∀ x, x ∈ a ↔ x ∈ b) → a = b
  | [], [], _, _, _ => rfl
  | [], y :: b, _, _, h => by have := (h y).2 (List.mem_cons_self ..); cases this
  | x :: a, [], _, _, h => by have := (h x).1 (List.mem_cons_self ..); cases this
  | x :: a, y :: b, ha, hb, h => by
    obtain ⟨a1, a2⟩ := srt_cons.1 ha
    obtain ⟨b1, b2⟩ := srt_cons.1 hb
    have hxy : x = y := by
      rcases List.mem_cons.1 ((h x).1 (List.mem_cons_self ..)) with e | e
      · exact e
      · rcases List.mem_cons.1 ((h y).2 (List.mem_cons_self ..)) with e2 | e2
        · exact e2.symm
        · have q1 := b1 x e
          have q2 := a1 y e2
          rw [kl_asym q1] at q2; cases q2
    subst hxy
    refine congrArg (x :: ·) (srt_ext a2 b2 (fun z => ?_))
    constructor
    · intro hz
      rcases List.mem_cons.1 ((h z).1 (List.mem_cons_of_mem _ hz)) with e | e
      · subst e; have := a1 z hz; rw [kl_irr] at this; cases this
      · exact e
    · intro hz
      rcases List.mem_cons.1 ((h z).2 (List.mem_cons_of_mem _ hz)) with e | e
      · subst e; have := b1 z hz; rw [kl_irr] at this; cases this
      · exact e
theorem let_ext : ∀ r : Nat, r < 20 → (letters.extract r (r + 1)).data.toList = [UInt8.ofNat (97 + r)] := by decide +kernel
theorem keyN_data (k : Nat) : (keyN k).data.toList = [UInt8.ofNat (97 + k % 20), UInt8.ofNat (97 + k / 20 % 20), 48 + UInt8.ofNat (k / 400)] := by
  unfold keyN
  rw [ByteArray.data_append, ByteArray.data_append, Array.toList_append, Array.toList_append, let_ext _ (by omega), let_ext _ (by omega)]
  rfl
theorem keyN_inj {i j : Nat} (hi : i < 4000) (hj : j < 4000) (h : keyN i = keyN j) : i = j := by
  have h0 := congrArg (fun b : ByteArray => b.data.toList.map UInt8.toNat) h
  simp only [keyN_data i, keyN_data j, List.map_cons, List.map_nil, List.cons.injEq, and_true] at h0
  obtain ⟨h1, h2, h3⟩ := h0
  rw [UInt8.toNat_ofNat', UInt8.toNat_ofNat'] at h1 h2
  rw [UInt8.toNat_add, UInt8.toNat_add, UInt8.toNat_ofNat', UInt8.toNat_ofNat'] at h3
  have e48 : UInt8.toNat 48 = 48 := rfl
  rw [e48] at h3
  omega
def vB : ByteArray := ⟨#[118]⟩
theorem perm_key (i : Nat) {v : ByteArray} (hv : v.size ≤ 1000) : permB ⟨keyN i, v⟩ = true := by
  have := keyN_size i
  unfold permB
  simp only [Bool.and_eq_true, decide_eq_true_eq]
  exact ⟨by omega, hv⟩
theorem putT_key (l : List KV) (i : Nat) : putT l ⟨keyN i, vB⟩ = putL l ⟨keyN i, vB⟩ := by
  unfold putT
  rw [perm_key i (by show 1 ≤ 1000; omega), if_pos rfl]
/-- the list of the first keys -/
def FstL (n : Nat) (l : List KV) : Prop := Srt l ∧ l.length = n ∧ ∀ x, x ∈ l ↔ ∃ j, j < n ∧ x = ⟨keyN j, vB⟩
theorem FstL.zero : FstL 0 [] := ⟨List.Pairwise.nil, rfl, fun x => ⟨fun h => (by cases h), fun ⟨j, h, _⟩ => (by omega)⟩⟩
theorem FstL.step {n : Nat} {l : List KV} (h : FstL n l) (hn : n < 4000) : FstL (n + 1) (putT l ⟨keyN n, vB⟩) := by
  rw [putT_key]
  have hne : ∀ x ∈ l, x.k ≠ keyN n := fun x hx e => by
    obtain ⟨j, hj, rfl⟩ := (h.2.2 x).1 hx
    have := keyN_inj (by omega) hn e
    omega
  refine ⟨srt_putL h.1, by rw [putL_new h.1 hne, h.2.1], fun x => ?_⟩
  rw [mem_putL]
  constructor
  · rintro (rfl | ⟨h1, _⟩)
    · exact ⟨n, by omega, rfl⟩
    · obtain ⟨j, hj, rfl⟩ := (h.2.2 x).1 h1
      exact ⟨j, by omega, rfl⟩
  · rintro ⟨j, hj, rfl⟩
    by_cases e : j = n
    · subst e; exact .inl rfl
    · have hm := (h.2.2 ⟨keyN j, vB⟩).2 ⟨j, by omega, rfl⟩
      exact .inr ⟨hm, hne _ hm⟩
/-- the list of the keys that a step has reached -/
def StpL (k s i : Nat) (l : List KV) : Prop := Srt l ∧ ∀ x, x ∈ l ↔ ∃ j, j < i ∧ j * s % 256 < k ∧ x = ⟨keyN (j * s % 256), vB⟩
theorem StpL.zero (k s : Nat) : StpL k s 0 [] := ⟨List.Pairwise.nil, fun x => ⟨fun h => (by cases h), fun ⟨j, h, _⟩ => (by omega)⟩⟩
theorem StpL.skip {k s i : Nat} {l : List KV} (h : StpL k s i l) (hk : ¬ i * s % 256 < k) : StpL k s (i + 1) l := by
  refine ⟨h.1, fun x => ?_⟩
  rw [h.2 x]
  constructor
  · rintro ⟨j, h1, h2, h3⟩
    exact ⟨j, by omega, h2, h3⟩
  · rintro ⟨j, h1, h2, h3⟩
    by_cases e : j = i
    · subst e; exact absurd h2 hk
    · exact ⟨j, by omega, h2, h3⟩
theorem StpL.step {k s i : Nat} {l : List KV} (h : StpL k s i l) (hk : i * s % 256 < k) : StpL k s (i + 1) (putT l ⟨keyN (i * s % 256), vB⟩) := by
  rw [putT_key]
  refine ⟨srt_putL h.1, fun x => ?_⟩
  rw [mem_putL, h.2 x]
  constructor
  · rintro (rfl | ⟨⟨j, h1, h2, h3⟩, _⟩)
    · exact ⟨i, by omega, hk, rfl⟩
    · exact ⟨j, by omega, h2, h3⟩
  · rintro ⟨j, h1, h2, rfl⟩
    by_cases e : keyN (j * s % 256) = keyN (i * s % 256)
    · exact .inl (by rw [e])
    · by_cases e2 : j = i
      · subst e2; exact absurd rfl e
      · exact .inr ⟨⟨j, by omega, h2, rfl⟩, e⟩
def inv256 (s : Nat) : Nat := ((List.range 256).find? fun u => s * u % 256 == 1).getD 0
theorem inv_ok : ∀ a, a < 60 → (1 + 2 * a) * inv256 (1 + 2 * a) % 256 = 1 := by decide +kernel
theorem odd_all {a : Nat} (ha : a < 60) (j : Nat) (hj : j < 256) : ∃ i, i < 256 ∧ i * (1 + 2 * a) % 256 = j := by
  refine ⟨j * inv256 (1 + 2 * a) % 256, Nat.mod_lt _ (by omega), ?_⟩
  rw [Nat.mod_mul_mod, Nat.mul_assoc, Nat.mul_comm (inv256 _), Nat.mul_mod, inv_ok a ha, Nat.mul_one, Nat.mod_mod, Nat.mod_eq_of_lt hj]
theorem StpL.all {k a : Nat} {l m : List KV} (ha : a < 60) (hk : k ≤ 256) (h : StpL k (1 + 2 * a) 256 l) (hm : FstL k m) : l = m := by
  refine srt_ext h.1 hm.1 (fun x => ?_)
  rw [h.2 x, hm.2.2 x]
  constructor
  · rintro ⟨j, _, h2, h3⟩
    exact ⟨_, h2, h3⟩
  · rintro ⟨j, h1, rfl⟩
    obtain ⟨i, hi, e⟩ := odd_all ha j (by omega)
    exact ⟨i, hi, by omega, by rw [e]⟩
/-- the list of the keys that a step has not yet reached -/
def LftL (k s i : Nat) (l : List KV) : Prop := Srt l ∧ l.length ≤ k ∧ ∀ x ∈ l, ∃ j, j < k ∧ x = ⟨keyN j, vB⟩ ∧ ∀ t, t < i → t * s % 256 ≠ j
theorem LftL.zero {k s : Nat} {l : List KV} (h : FstL k l) : LftL k s 0 l := ⟨h.1, by rw [h.2.1]; exact Nat.le_refl _, fun x hx => by
  obtain ⟨j, h1, h2⟩ := (h.2.2 x).1 hx
  exact ⟨j, h1, h2, fun t ht => by omega⟩⟩
theorem LftL.step {k s i : Nat} {l : List KV} (h : LftL k s i l) : LftL k s (i + 1) (delL l (keyN (i * s % 256))) := by
  refine ⟨srt_delL h.1, Nat.le_trans (delL_len h.1 _) h.2.1, fun x hx => ?_⟩
  obtain ⟨h1, h2⟩ := mem_delL.1 hx
  obtain ⟨j, e1, rfl, e3⟩ := h.2.2 x h1
  refine ⟨j, e1, rfl, fun t ht e => ?_⟩
  by_cases q : t = i
  · subst q; exact h2 (by rw [e])
  · exact e3 t (by omega) e
theorem LftL.all {k a : Nat} {l : List KV} (ha : a < 60) (hk : k ≤ 256) (h : LftL k (1 + 2 * a) 256 l) : l = [] := by
  match l, h with
  | [], _ => rfl
  | x :: l, h =>
    obtain ⟨j, h1, _, h3⟩ := h.2.2 x (List.mem_cons_self ..)
    obtain ⟨i, hi, e⟩ := odd_all ha j (by omega)
    exact absurd e (h3 i hi)
theorem fold_same : ∀ (l : List KV), Srt l → l.foldl stepD ([], l) = ([], [])
  | [], _ => rfl
  | x :: l, h => by
    have h1 : stepD ([], x :: l) x = ([], l) := by
      unfold stepD
      show (match dropL x.k (x :: l) with | [] => _ | q :: rs => _) = _
      rw [(takeL_no (kl_irr x.k)).1, (takeL_no (kl_irr x.k)).2]
      simp
    rw [List.foldl_cons, h1]
    exact fold_same l (srt_cons.1 h).2
/-- no edits between equal lists -/
theorem difF_same {l : List KV} (h : Srt l) : difF l l = [] := by
  unfold difF difS
  rw [fold_same l h]
  rfl
end Go.Proofs.Ytmkhnpkbaegchaa
