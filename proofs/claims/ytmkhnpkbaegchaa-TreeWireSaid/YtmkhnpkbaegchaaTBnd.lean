/- Plain: how many pairs a tree of a height may have; the first nine keys; the examples' lists. Conditions: stated at each. -/
import Derived.Test.YtmkhnpkbaegchaaTKey
import Derived.Test.YtmkhnpkbaegchaaTSame
import Derived.Test.YtmkhnpkbaegchaaTDelT
namespace Go.Proofs.Ytmkhnpkbaegchaa
open Go.RowKit

theorem kids_bnd {L U : Nat} : ∀ (ks : List Kid), (∀ y ∈ ks, L ≤ y.l.length + 1 ∧ y.l.length + 1 ≤ U) → ks.length * L ≤ kidsSum ks + ks.length ∧ kidsSum ks + ks.length ≤ ks.length * U
  | [], _ => by simp [kidsSum]
  | y :: ks, h => by
    have h1 := h y (List.mem_cons_self ..)
    have h2 := kids_bnd ks (fun z hz => h z (List.mem_cons_of_mem _ hz))
    have e : kidsSum (y :: ks) = y.l.length + kidsSum ks := by unfold kidsSum; simp
    rw [e, List.length_cons, Nat.add_mul, Nat.add_mul]
    omega
theorem IsN.bnd {F : Nat → Prop} : ∀ {h : Nat} {w : World} {x : Kid}, IsN F h w x → (x.n + 1) * 4 ^ h ≤ x.l.length + 1 ∧ x.l.length + 1 ≤ (x.n + 1) * 9 ^ h
  | 0, _, x, h => by rw [h.2.1]; simp
  | h + 1, _, x, ⟨ps, ks, h1, h2, h3, h4, h5, h6⟩ => by
    have hk := kids_bnd (L := 4 ^ (h + 1)) (U := 9 ^ (h + 1)) ks (fun y hy => by
      have hb := (h6 y hy).1.bnd
      obtain ⟨_, e1, e2⟩ := h6 y hy
      constructor
      · refine Nat.le_trans ?_ hb.1
        rw [Nat.pow_succ, Nat.mul_comm]; exact Nat.mul_le_mul_right _ (by omega)
      · refine Nat.le_trans hb.2 ?_
        rw [Nat.pow_succ, Nat.mul_comm (9 ^ h)]; exact Nat.mul_le_mul_right _ (by omega))
    have hl : x.l.length = ps.length + kidsSum ks := by rw [h4, kids_len (.inr h2)]
    rw [h3, hl, ← h2]
    have e1 : ks.length * 4 ^ (h + 1) ≤ kidsSum ks + ks.length := hk.1
    have e2 : kidsSum ks + ks.length ≤ ks.length * 9 ^ (h + 1) := hk.2
    have e3 : ps.length + kidsSum ks + 1 = kidsSum ks + ks.length := by omega
    rw [e3]
    exact ⟨e1, e2⟩
/-- the height of a tree, and its pairs -/
theorem IsT.bnd {w : World} {T : Tre} (h : IsT w T) : (T.H = 0 ∧ T.l.length = 0) ∨ ∃ k, T.H = k + 1 ∧ 2 * 4 ^ k ≤ T.l.length + 1 ∧ T.l.length + 1 ≤ 9 * 9 ^ k := by
  obtain ⟨_, ⟨h1, h2, _⟩ | ⟨h', x, _, h2, h3, _, h5, h6, h7⟩⟩ := h
  · exact .inl ⟨h2, by rw [h1]; rfl⟩
  · refine .inr ⟨h', h7, ?_⟩
    have hb := h2.bnd
    rw [h3]
    exact ⟨Nat.le_trans (Nat.mul_le_mul_right _ (by omega)) hb.1, Nat.le_trans hb.2 (Nat.mul_le_mul_right _ (by omega))⟩
theorem IsT.hle {w : World} {T : Tre} (h : IsT w T) (hl : T.l.length ≤ 100000) : T.H ≤ 9 := by
  rcases h.bnd with ⟨h1, _⟩ | ⟨k, h1, h2, _⟩
  · omega
  · rcases Nat.lt_or_ge k 9 with q | q
    · omega
    · have : 4 ^ 9 ≤ 4 ^ k := Nat.pow_le_pow_right (by omega) q
      have e : (4 : Nat) ^ 9 = 262144 := by decide
      omega
theorem IsT.one {w : World} {T : Tre} (h : IsT w T) (h1 : 1 ≤ T.l.length) (h2 : T.l.length ≤ 6) : T.H = 1 := by
  rcases h.bnd with ⟨_, h3⟩ | ⟨k, h3, h4, _⟩
  · omega
  · cases k with
    | zero => exact h3
    | succ k =>
      have : 4 ^ 1 ≤ 4 ^ (k + 1) := Nat.pow_le_pow_right (by omega) (by omega)
      omega
theorem IsT.two {w : World} {T : Tre} (h : IsT w T) (h1 : T.l.length = 9) : T.H = 2 := by
  rcases h.bnd with ⟨_, h3⟩ | ⟨k, h3, h4, h5⟩
  · omega
  · match k with
    | 0 => simp at h5; omega
    | 1 => exact h3
    | k + 2 =>
      have : 4 ^ 2 ≤ 4 ^ (k + 2) := Nat.pow_le_pow_right (by omega) (by omega)
      omega
theorem kl_data (a b : ByteArray) : kl a b = Op.bytesLess a.data.toList b.data.toList := by unfold kl; rw [ByteArray.toList_eq, ByteArray.toList_eq]
theorem nine_keys : ∀ i, i < 9 → ∀ j, j < i → kl (keyN j) (keyN i) = true := by
  simp only [kl_data]
  decide +kernel
def xB : ByteArray := ⟨#[120]⟩
def nineL (i : Nat) : List KV := (List.range i).map fun j => ⟨keyN j, xB⟩
theorem keyN_size (k : Nat) : (keyN k).size ≤ 3 := by
  unfold keyN
  rw [ByteArray.size_append, ByteArray.size_append, ByteArray.size_extract, ByteArray.size_extract]
  show min (k % 20 + 1) _ - k % 20 + (min (k / 20 % 20 + 1) _ - k / 20 % 20) + 1 ≤ 3
  omega
theorem nine_put {i : Nat} (h : i < 9) : putT (nineL i) ⟨keyN i, xB⟩ = nineL (i + 1) := by
  have hp : permB ⟨keyN i, xB⟩ = true := by
    have := keyN_size i
    unfold permB
    simp only [Bool.and_eq_true, decide_eq_true_eq]
    exact ⟨by omega, by show 1 ≤ 1000; omega⟩
  have hlt : ∀ x ∈ nineL i, kl x.k (keyN i) = true := fun x hx => by
    obtain ⟨j, hj, rfl⟩ := List.mem_map.1 hx
    exact nine_keys i h j (List.mem_range.1 hj)
  unfold putT
  rw [hp, if_pos rfl]
  unfold putL
  rw [(lo_all hlt).1, (lo_all hlt).2]
  unfold nineL
  rw [List.range_succ, List.map_append]; rfl
def lvA : List KV := [⟨⟨#[98]⟩, ⟨#[49]⟩⟩, ⟨⟨#[100]⟩, ⟨#[50]⟩⟩]
def lvB : List KV := [⟨⟨#[100]⟩, ⟨#[51]⟩⟩, ⟨⟨#[101]⟩, ⟨#[52]⟩⟩]
def lvE : List Ed := [⟨⟨#[98]⟩, ⟨#[]⟩, true⟩, ⟨⟨#[100]⟩, ⟨#[51]⟩, false⟩, ⟨⟨#[101]⟩, ⟨#[52]⟩, false⟩]
def putD (l : List KV) (p : KV) : List KV := if decide (p.k.size ≤ 60) && decide (p.v.size ≤ 1000) then (l.filter fun x => Op.bytesLess x.k.data.toList p.k.data.toList) ++ p :: (l.filter fun x => Op.bytesLess p.k.data.toList x.k.data.toList) else l
theorem putT_D (l : List KV) (p : KV) : putT l p = putD l p := by
  unfold putT putD putL permB lo hi
  simp only [kl_data]
theorem lv_a : putT (putT [] ⟨⟨#[100]⟩, ⟨#[50]⟩⟩) ⟨⟨#[98]⟩, ⟨#[49]⟩⟩ = lvA := by rw [putT_D, putT_D]; decide +kernel
theorem lv_b : putT (putT [] ⟨⟨#[101]⟩, ⟨#[52]⟩⟩) ⟨⟨#[100]⟩, ⟨#[51]⟩⟩ = lvB := by rw [putT_D, putT_D]; decide +kernel
theorem lv_f1 : flrL lvA ⟨#[99]⟩ = some ⟨⟨#[98]⟩, ⟨#[49]⟩⟩ := by unfold flrL; simp only [kl_data]; decide +kernel
theorem lv_f2 : flrL lvA ⟨#[97]⟩ = none := by unfold flrL; simp only [kl_data]; decide +kernel
theorem lv_r : rangeL lvA ⟨#[98]⟩ ⟨#[100]⟩ = [⟨⟨#[98]⟩, ⟨#[49]⟩⟩] := by
  unfold rangeL rngL cutB
  simp only [kl_data, ByteArray.toList_eq]
  decide +kernel
theorem lv_d : difF lvA lvB = lvE := by
  unfold difF difS stepD takeL dropL
  simp only [kl_data]
  decide +kernel
theorem putT_le (l : List KV) (p : KV) : (putT l p).length ≤ l.length * 2 + 1 := by
  unfold putT
  split
  · unfold putL lo hi
    rw [List.length_append, List.length_cons]
    have h1 := List.length_filter_le (fun x => kl x.k p.k) l
    have h2 := List.length_filter_le (fun x => kl p.k x.k) l
    omega
  · omega
theorem putT_len {l : List KV} (hs : Srt l) (p : KV) : (putT l p).length ≤ l.length + 1 := by
  unfold putT
  split
  · have h := congrArg List.length (srt_parts hs p.k)
    unfold putL
    simp only [List.length_append, List.length_cons] at h ⊢
    omega
  · omega
theorem delL_len {l : List KV} (hs : Srt l) (k : ByteArray) : (delL l k).length ≤ l.length := by
  have h := congrArg List.length (srt_parts hs k)
  unfold delL
  simp only [List.length_append] at h ⊢
  omega
theorem srt_putT {l : List KV} {p : KV} (hs : Srt l) : Srt (putT l p) := by
  unfold putT
  split
  · exact srt_putL hs
  · exact hs
end Go.Proofs.Ytmkhnpkbaegchaa
