/- Plain: the reference's way of sorting ints; over a list without repetition it is strictly rising. No program in sight. Conditions: stated at each. -/
import Derived.Test.YtnemgohcjjhfmaaGreatDoorHLoc
namespace Go.Proofs.YtnemgohcjjhfmaaGreatDoor

def insI (L : List Int) (x : Int) : List Int := L.takeWhile (fun y => decide (y < x)) ++ x :: L.dropWhile (fun y => decide (y < x))
def srtI (zs : List Int) : List Int := zs.foldl insI []
theorem srtI_snoc (zs : List Int) (x : Int) : srtI (zs ++ [x]) = insI (srtI zs) x := by unfold srtI; rw [List.foldl_append]; rfl
theorem insI_len (L : List Int) (x : Int) : (insI L x).length = L.length + 1 := by
  unfold insI
  have := congrArg List.length (List.takeWhile_append_dropWhile (p := fun y => decide (y < x)) (l := L))
  rw [List.length_append] at this
  rw [List.length_append, List.length_cons]; omega
theorem srtI_len (zs : List Int) : (srtI zs).length = zs.length := by
  have : ∀ (Q P : List Int), (Q.foldl insI P).length = P.length + Q.length := by
    intro Q
    induction Q with
    | nil => intro P; simp
    | cons a Q ih => intro P; rw [List.foldl_cons, ih, insI_len, List.length_cons]; omega
  have h := this zs []
  simpa [srtI] using h
theorem insI_mem (L : List Int) (x y : Int) : y ∈ insI L x ↔ y = x ∨ y ∈ L := by
  unfold insI
  have h : y ∈ L ↔ y ∈ L.takeWhile (fun y => decide (y < x)) ∨ y ∈ L.dropWhile (fun y => decide (y < x)) := by
    rw [← List.mem_append, List.takeWhile_append_dropWhile]
  rw [List.mem_append, List.mem_cons, h]
  constructor
  · rintro (q | q | q)
    · exact .inr (.inl q)
    · exact .inl q
    · exact .inr (.inr q)
  · rintro (q | q | q)
    · exact .inr (.inl q)
    · exact .inl q
    · exact .inr (.inr q)
theorem srtI_mem (zs : List Int) (y : Int) : y ∈ srtI zs ↔ y ∈ zs := by
  have : ∀ (Q P : List Int), y ∈ Q.foldl insI P ↔ y ∈ P ∨ y ∈ Q := by
    intro Q
    induction Q with
    | nil => intro P; simp
    | cons a Q ih =>
      intro P
      rw [List.foldl_cons, ih, insI_mem, List.mem_cons]
      constructor
      · rintro ((q | q) | q)
        · exact .inr (.inl q)
        · exact .inl q
        · exact .inr (.inr q)
      · rintro (q | q | q)
        · exact .inl (.inr q)
        · exact .inl (.inl q)
        · exact .inr q
  have h := this zs []
  simpa [srtI] using h
theorem insI_rise {L : List Int} {x : Int} (h : L.Pairwise (· < ·)) (hx : ¬ x ∈ L) : (insI L x).Pairwise (· < ·) := by
  induction L with
  | nil => simp [insI]
  | cons a L ih =>
    rw [List.pairwise_cons] at h
    have hxL : ¬ x ∈ L := fun q => hx (List.mem_cons_of_mem _ q)
    have hxa : ¬ x = a := fun q => hx (by simp [q])
    by_cases c : a < x
    · have e : insI (a :: L) x = a :: insI L x := by unfold insI; rw [List.takeWhile_cons_of_pos (by simpa using c), List.dropWhile_cons_of_pos (by simpa using c)]; rfl
      rw [e, List.pairwise_cons]
      refine ⟨fun z hz => ?_, ih h.2 hxL⟩
      rcases (insI_mem L x z).1 hz with q | q
      · omega
      · exact h.1 z q
    · have e : insI (a :: L) x = x :: a :: L := by unfold insI; rw [List.takeWhile_cons_of_neg (by simpa using c), List.dropWhile_cons_of_neg (by simpa using c)]; rfl
      rw [e, List.pairwise_cons]
      refine ⟨fun z hz => ?_, List.pairwise_cons.2 h⟩
      rcases List.mem_cons.1 hz with q | q
      · omega
      · have := h.1 z q; omega
theorem srtI_rise {zs : List Int} (h : zs.Nodup) : (srtI zs).Pairwise (· < ·) := by
  have : ∀ (Q P : List Int), P.Pairwise (· < ·) → Q.Nodup → (∀ x, x ∈ Q → ¬ x ∈ P) → (Q.foldl insI P).Pairwise (· < ·) := by
    intro Q
    induction Q with
    | nil => intro P hP _ _; exact hP
    | cons a Q ih =>
      intro P hP hQ hd
      rw [List.nodup_cons] at hQ
      rw [List.foldl_cons]
      refine ih _ (insI_rise hP (hd a (by simp))) hQ.2 (fun x hx => ?_)
      rw [insI_mem]
      rintro (q | q)
      · subst q; exact hQ.1 hx
      · exact hd x (List.mem_cons_of_mem _ hx) q
  exact this zs [] (by simp) h (by simp)
theorem insI_of {L : List Int} {x : Int} {j : Nat} (h1 : ∀ (i : Nat) p, i < j → L[i]? = some p → p < x) (hj : j ≤ L.length) (h2 : ∀ p, L[j]? = some p → ¬ p < x) : insI L x = L.take j ++ x :: L.drop j := by
  induction L generalizing j with
  | nil => simp at hj; subst hj; rfl
  | cons a L ih =>
    cases j with
    | zero =>
      have := h2 a rfl
      unfold insI
      rw [List.takeWhile_cons_of_neg (by simpa using this), List.dropWhile_cons_of_neg (by simpa using this)]; rfl
    | succ j =>
      have h0 := h1 0 a (by omega) rfl
      have := ih (j := j) (fun i p hi hp => h1 (i + 1) p (by omega) (by simpa using hp)) (by simpa using hj) (fun p hp => h2 p (by simpa using hp))
      have e : insI (a :: L) x = a :: insI L x := by unfold insI; rw [List.takeWhile_cons_of_pos (by simpa using h0), List.dropWhile_cons_of_pos (by simpa using h0)]; rfl
      rw [e, this]; rfl
/-- gathering the days of years, each once: the reference's test by Has -/
def addU (out : List Int) (d : Int) : List Int := if d ∈ out then out else out ++ [d]
theorem addU_nodup {out : List Int} (d : Int) (h : out.Nodup) : (addU out d).Nodup := by
  unfold addU
  split
  · exact h
  · rename_i q
    rw [List.nodup_append]
    exact ⟨h, by simp, fun a ha b hb => by rw [List.mem_singleton] at hb; subst hb; exact fun e => q (e ▸ ha)⟩
theorem addU_mem (out : List Int) (d x : Int) : x ∈ addU out d ↔ x ∈ out ∨ x = d := by
  unfold addU
  split
  · rename_i q
    constructor
    · exact .inl
    · rintro (h | h)
      · exact h
      · rw [h]; exact q
  · rw [List.mem_append, List.mem_singleton]
def gatU (zs out : List Int) : List Int := zs.foldl addU out
theorem gatU_nodup : ∀ (zs out : List Int), out.Nodup → (gatU zs out).Nodup
  | [], _, h => h
  | d :: zs, out, h => gatU_nodup zs (addU out d) (addU_nodup d h)
theorem gatU_mem (x : Int) : ∀ (zs out : List Int), x ∈ gatU zs out ↔ x ∈ out ∨ x ∈ zs
  | [], out => by simp [gatU]
  | d :: zs, out => by
    have := gatU_mem x zs (addU out d)
    show x ∈ gatU zs (addU out d) ↔ _
    rw [this, addU_mem, List.mem_cons]
    constructor
    · rintro ((q | q) | q)
      · exact .inl q
      · exact .inr (.inl q)
      · exact .inr (.inr q)
    · rintro (q | q | q)
      · exact .inl (.inl q)
      · exact .inl (.inr q)
      · exact .inr q
theorem gatU_snoc (zs out : List Int) (d : Int) : gatU (zs ++ [d]) out = addU (gatU zs out) d := by unfold gatU; rw [List.foldl_append]; rfl
theorem gatU_len : ∀ (zs out : List Int), (gatU zs out).length ≤ out.length + zs.length
  | [], out => by simp [gatU]
  | d :: zs, out => by
    have h := gatU_len zs (addU out d)
    have h2 : (addU out d).length ≤ out.length + 1 := by unfold addU; split <;> simp
    show (gatU zs (addU out d)).length ≤ _
    rw [List.length_cons]; omega
end Go.Proofs.YtnemgohcjjhfmaaGreatDoor
