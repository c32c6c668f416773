/- Plain: the edits that turn one ordered list of pairs into another, as the program gathers them; the rest of a slice as it is read. Conditions: none. -/
import Derived.Test.YtmkhnpkbaegchaaTRow
namespace Go.Proofs.Ytmkhnpkbaegchaa
open Go.RowKit

structure Ed where
  k : ByteArray
  v : ByteArray
  d : Bool
def encE (x : Ed) : List Value := [.string x.k, .string x.v, .bool x.d]
theorem encE_len (x : Ed) : (encE x).length = 3 := rfl
theorem encE_one (x : Ed) : ∀ u ∈ encE x, u.oneCell' = true := fun u h => by simp [encE] at h; rcases h with rfl | rfl | rfl <;> rfl
def edD (q : KV) : Ed := ⟨q.k, ⟨#[]⟩, true⟩
def edP (p : KV) : Ed := ⟨p.k, p.v, false⟩
def takeL (k : ByteArray) (l : List KV) : List KV := l.takeWhile fun q => kl q.k k
def dropL (k : ByteArray) (l : List KV) : List KV := l.dropWhile fun q => kl q.k k
theorem takeL_yes {k : ByteArray} {q : KV} {l : List KV} (h : kl q.k k = true) : takeL k (q :: l) = q :: takeL k l ∧ dropL k (q :: l) = dropL k l := by
  unfold takeL dropL
  rw [List.takeWhile_cons, List.dropWhile_cons, h]
  exact ⟨rfl, rfl⟩
theorem takeL_no {k : ByteArray} {q : KV} {l : List KV} (h : kl q.k k = false) : takeL k (q :: l) = [] ∧ dropL k (q :: l) = q :: l := by
  unfold takeL dropL
  rw [List.takeWhile_cons, List.dropWhile_cons, h]
  exact ⟨rfl, rfl⟩
/-- one pair of the second list -/
def stepD (s : List Ed × List KV) (p : KV) : List Ed × List KV :=
  match dropL p.k s.2 with
  | [] => (s.1 ++ (takeL p.k s.2).map edD ++ [edP p], [])
  | q :: rs => if q.k = p.k then (if q.v = p.v then (s.1 ++ (takeL p.k s.2).map edD, rs) else (s.1 ++ (takeL p.k s.2).map edD ++ [edP p], rs)) else (s.1 ++ (takeL p.k s.2).map edD ++ [edP p], q :: rs)
def difS (A pre : List KV) : List Ed × List KV := pre.foldl stepD ([], A)
theorem difS_snoc (A pre : List KV) (p : KV) : difS A (pre ++ [p]) = stepD (difS A pre) p := by unfold difS; rw [List.foldl_append]; rfl
def difF (A B : List KV) : List Ed := (difS A B).1 ++ (difS A B).2.map edD
theorem takeL_dropL (k : ByteArray) (l : List KV) : (takeL k l).length + (dropL k l).length = l.length := by
  have := congrArg List.length (List.takeWhile_append_dropWhile (p := fun q : KV => kl q.k k) (l := l))
  rw [List.length_append] at this
  exact this
theorem stepD_len (s : List Ed × List KV) (p : KV) : (stepD s p).1.length + (stepD s p).2.length ≤ s.1.length + s.2.length + 1 ∧ (stepD s p).2.length ≤ s.2.length := by
  have h := takeL_dropL p.k s.2
  unfold stepD
  split
  · rename_i e
    rw [e] at h
    simp at h ⊢; omega
  · rename_i q rs e
    rw [e] at h
    simp at h
    split
    · split <;> simp <;> omega
    · simp; omega
theorem foldD_len : ∀ (pre : List KV) (s : List Ed × List KV), (pre.foldl stepD s).1.length + (pre.foldl stepD s).2.length ≤ s.1.length + s.2.length + pre.length ∧ (pre.foldl stepD s).2.length ≤ s.2.length
  | [], s => ⟨by simp, Nat.le_refl _⟩
  | p :: pre, s => by
    have h1 := stepD_len s p
    have h2 := foldD_len pre (stepD s p)
    rw [List.foldl_cons, List.length_cons]
    omega
theorem difS_len (A pre : List KV) : (difS A pre).1.length + (difS A pre).2.length ≤ A.length + pre.length ∧ (difS A pre).2.length ≤ A.length := by
  have := foldD_len pre ([], A)
  simpa [difS] using this
/-- the rest of the first list as a slice -/
def RowV (O Q : Nat) (W : World) (ov : Value) (rest : List KV) : Prop :=
  ∃ pa c, ov = .slice pa rest.length c ∧ rest.length ≤ c ∧ c ≤ 9223372036854775807 ∧ (rest ≠ [] → ∃ b off ty cur, pa = some ⟨b, off, none⟩ ∧ O < b ∧ b < Q ∧ Blk W b ty cur ∧ ∀ t u, (flatE encKV rest)[t]? = some u → cur[off + t]? = some u)
theorem RowV.kept {O Q : Nat} {W W' : World} {ov : Value} {rest : List KV} (h : RowV O Q W ov rest) (hk : ∀ b, O < b → b < Q → b < W.heap.size → W'.heap[b]? = W.heap[b]?) : RowV O Q W' ov rest := by
  obtain ⟨pa, c, h1, h2, h3, h4⟩ := h
  refine ⟨pa, c, h1, h2, h3, fun hn => ?_⟩
  obtain ⟨b, off, ty, cur, e1, e2, e3, e4, e5⟩ := h4 hn
  exact ⟨b, off, ty, cur, e1, e2, e3, (hk b e2 e3 e4.lt).trans e4, e5⟩
theorem RowV.of_row {O Q B : Nat} {W : World} {v : Value} {A : List KV} (h : W.ownsRow B 63 2 v A.length (flatE encKV A)) (hO : O < B) (hQ : W.heap.size ≤ Q) (hl : A.length ≤ 1000000) : RowV O Q W v A := by
  rcases h.2 with ⟨rfl, hn⟩ | ⟨g, cap, cur, rfl, hg, hh, hnc, hcm, hsz, htk⟩
  · have : A = [] := List.length_eq_zero_iff.1 hn
    subst this
    exact ⟨none, 0, rfl, Nat.le_refl _, by omega, fun h => absurd rfl h⟩
  · refine ⟨_, cap, rfl, hnc, by unfold maxLen at hcm; exact hcm, fun _ => ⟨g, 0, _, cur, rfl, by omega, by have := (Array.getElem?_eq_some_iff.1 hh).1; omega, hh, fun t u hu => ?_⟩⟩
    rw [Nat.zero_add]
    have h1 : t < (flatE encKV A).length := (List.getElem?_eq_some_iff.1 hu).1
    rw [← htk, List.getElem?_take] at hu
    split at hu
    · rw [Array.getElem?_toList] at hu; exact hu
    · cases hu
/-- its first pair, and what is left -/
theorem RowV.open {O Q : Nat} {W : World} {ov : Value} {q : KV} {rs : List KV} (h : RowV O Q W ov (q :: rs)) :
    ∃ b off c, ov = .slice (some ⟨b, off, none⟩) (rs.length + 1) c ∧ O < b ∧ b < Q ∧ rs.length + 1 ≤ c ∧ c ≤ 9223372036854775807 ∧ b < W.heap.size ∧ W.cell? ⟨b, off, none⟩ = some (.string q.k) ∧ W.cell? ⟨b, off + 1, none⟩ = some (.string q.v) ∧
      (∀ (pa' : Option Addr), (rs ≠ [] → pa' = some ⟨b, off + 2, none⟩) → RowV O Q W (.slice pa' rs.length (c - 1)) rs) := by
  obtain ⟨pa, c, h1, h2, h3, h4⟩ := h
  obtain ⟨b, off, ty, cur, rfl, e2, e3, e4, e5⟩ := h4 (by simp)
  have f0 := e5 0 (.string q.k) (by rw [flatE_cons]; rfl)
  have f1 := e5 1 (.string q.v) (by rw [flatE_cons]; rfl)
  rw [Nat.add_zero] at f0
  refine ⟨b, off, c, h1, e2, e3, h2, h3, e4.lt, by rw [e4.cell]; exact f0, by rw [e4.cell]; exact f1, fun pa' hp => ⟨pa', c - 1, rfl, by simp at h2; omega, by omega, fun hn => ⟨b, off + 2, ty, cur, hp hn, e2, e3, e4, fun t u hu => ?_⟩⟩⟩
  have := e5 (t + 2) u (by rw [flatE_cons, List.getElem?_append_right (by rw [encKV_len]; omega), encKV_len, Nat.add_sub_cancel]; exact hu)
  rw [show off + 2 + t = off + (t + 2) by omega]
  exact this
/-- a pair of it -/
theorem RowV.at {O Q : Nat} {W : World} {ov : Value} {l : List KV} (h : RowV O Q W ov l) {pa : Option Addr} {c : Nat} (hv : ov = .slice pa l.length c) {i : Nat} {q : KV} (hq : l[i]? = some q) :
    ∃ b off, pa = some ⟨b, off, none⟩ ∧ O < b ∧ b < Q ∧ b < W.heap.size ∧ W.cell? ⟨b, off + i * 2, none⟩ = some (.string q.k) ∧ W.cell? ⟨b, off + i * 2 + 1, none⟩ = some (.string q.v) := by
  obtain ⟨pa', c', h1, h2, h3, h4⟩ := h
  rw [hv] at h1
  cases h1
  obtain ⟨b, off, ty, cur, rfl, e2, e3, e4, e5⟩ := h4 (fun e => by rw [e] at hq; cases hq)
  have f0 := e5 (i * 2 + 0) _ (flatE_at encKV_len l i q hq 0 _ rfl)
  have f1 := e5 (i * 2 + 1) _ (flatE_at encKV_len l i q hq 1 _ rfl)
  exact ⟨b, off, rfl, e2, e3, e4.lt, by rw [e4.cell]; exact f0, by rw [e4.cell, Nat.add_assoc]; exact f1⟩
end Go.Proofs.Ytmkhnpkbaegchaa
