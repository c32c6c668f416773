/- Plain: what the second loop of the law keeps, and the pairs of a tree of printed days as Range and Floor read them. Conditions: days of the range. -/
import Derived.Test.YtaiiibbnjmjamaaGreatDoorDKey
import Derived.Test.YtaiiibbnjmjamaaGreatDoorTFnd
namespace Go.Proofs.YtaiiibbnjmjamaaGreatDoor

theorem pk_size {d : Int} (h : inR d) : (pk d).size = 10 := by
  unfold pk
  rw [prS_eq h.1 h.2]
  rfl
theorem kvD_perm {d : Int} (h : inR d) : permB (kvD d) = true := by
  unfold permB kvD
  simp only [pk_size h]
  rfl
theorem putT_map {S : List Int} {d : Int} (hS : ∀ x ∈ S, inR x) (hd : inR d) : putT (S.map kvD) (kvD d) = (insD S d).map kvD := by
  unfold putT
  rw [kvD_perm hd, if_pos rfl, putL_map hS hd]
theorem bl_nil : ∀ x : List UInt8, Op.bytesLess x [] = false := fun x => by cases x <;> rfl
theorem rangeL_all (l : List KV) : rangeL l ⟨#[]⟩ ⟨#[]⟩ = l := by
  have h1 : rngL l ⟨#[]⟩ = l := List.filter_eq_self.2 fun x _ => by
    have : kl x.k ⟨#[]⟩ = false := by
      unfold kl
      rw [show (ByteArray.toList ⟨#[]⟩) = [] by rw [ByteArray.toList_eq]]
      exact bl_nil _
    rw [this]; rfl
  unfold rangeL
  rw [h1]
  have h2 : ∀ x : KV, cutB ⟨#[]⟩ x = false := fun x => by
    unfold cutB
    rw [show (ByteArray.toList ⟨#[]⟩) = [] by rw [ByteArray.toList_eq]]
    rfl
  exact take_all fun x _ => by rw [h2]; rfl
/-- the last of them, or -1 -/
def lastI (S : List Int) : Int := S.getLast?.getD (-1)
/-- the last of them up to a, or -1 -/
def bestI (S : List Int) (a : Int) : Int := lastI (S.filter fun x => decide (x ≤ a))
theorem last_snoc (S : List Int) (x : Int) : lastI (S ++ [x]) = x := by unfold lastI; simp
theorem take_snoc {S : List Int} {k : Nat} {x : Int} (h : S[k]? = some x) : S.take (k + 1) = S.take k ++ [x] := by rw [List.take_add_one, h]; rfl
theorem best_snoc (S : List Int) (a x : Int) : bestI (S ++ [x]) a = if x ≤ a then x else bestI S a := by
  unfold bestI
  rw [List.filter_append]
  by_cases h : x ≤ a
  · rw [if_pos h, List.filter_cons_of_pos (by simpa using h)]; exact last_snoc _ _
  · rw [if_neg h, List.filter_cons_of_neg (by simpa using h)]; simp
theorem last_mem {S : List Int} : lastI S = -1 ∨ lastI S ∈ S := by
  unfold lastI
  cases h : S.getLast? with
  | none => exact .inl rfl
  | some b => exact .inr (List.mem_of_getLast? h)
theorem last_lt {S : List Int} {k : Nat} {x : Int} (hs : S.Pairwise (· < ·)) (hr : ∀ x ∈ S, inR x) (h : S[k]? = some x) : lastI (S.take k) < x := by
  have hx := hr x (List.mem_of_getElem? h)
  rcases last_mem (S := S.take k) with e | e
  · rw [e]; have := hx.1; omega
  · obtain ⟨j, hj, hje⟩ := List.getElem_of_mem e
    rw [List.length_take] at hj
    rw [List.getElem_take] at hje
    obtain ⟨hk, he⟩ := List.getElem?_eq_some_iff.1 h
    rw [← hje, ← he]
    exact List.pairwise_iff_getElem.1 hs j k (by omega) hk (by omega)
theorem flr_map {S : List Int} {a : Int} (hS : ∀ x ∈ S, inR x) (ha : inR a) : flrL (S.map kvD) (pk a) = ((S.filter fun x => decide (x ≤ a)).getLast?).map kvD := by
  unfold flrL
  rw [List.filter_map, List.getLast?_map]
  congr 2
  refine List.filter_congr fun x hx => ?_
  show (!kl (pk a) (pk x)) = _
  rw [kl_pk ha (hS x hx)]
  by_cases h : x ≤ a
  · rw [decide_eq_true h, decide_eq_false (by omega)]; rfl
  · rw [decide_eq_false h, decide_eq_true (by omega)]; rfl
/-- what Floor tells, and the best of the loop -/
theorem flr_best {S : List Int} {a : Int} (hS : ∀ x ∈ S, inR x) (ha : inR a) : (flrL (S.map kvD) (pk a) = none ∧ bestI S a = -1) ∨ ∃ b, inR b ∧ flrL (S.map kvD) (pk a) = some (kvD b) ∧ bestI S a = b := by
  rw [flr_map hS ha]
  unfold bestI lastI
  cases h : (S.filter fun x => decide (x ≤ a)).getLast? with
  | none => exact .inl ⟨rfl, rfl⟩
  | some b => exact .inr ⟨b, hS b (List.mem_filter.1 (List.mem_of_getLast? h)).1, rfl, rfl⟩
end Go.Proofs.YtaiiibbnjmjamaaGreatDoor
