/- Plain: printed days as keys: their order is the order of the days; the pairs of a tree of such keys. Conditions: days of the range. -/
import Derived.Test.YtaiiibbnjmjamaaGreatDoorDRoPlain
import Derived.Test.YtaiiibbnjmjamaaGreatDoorTPl
namespace Go.Proofs.YtaiiibbnjmjamaaGreatDoor

theorem dig_lt {p q : Nat} (h : p < q) (hq : q ≤ 9) : UInt8.ofNat (48 + p) < UInt8.ofNat (48 + q) := by
  rw [UInt8.lt_iff_toNat_lt, UInt8.toNat_ofNat', UInt8.toNat_ofNat']
  omega
theorem bl_head {a b : UInt8} {x y : List UInt8} (h : a < b) : Op.bytesLess (a :: x) (b :: y) = true := by unfold Op.bytesLess; simp [h]
theorem bl_same {a : UInt8} {x y : List UInt8} : Op.bytesLess (a :: x) (a :: y) = Op.bytesLess x y := by
  conv => lhs; unfold Op.bytesLess
  have : ¬ a < a := UInt8.lt_irrefl a
  simp [this]
theorem bl_pre : ∀ (x : List UInt8) {s t : List UInt8}, Op.bytesLess (x ++ s) (x ++ t) = Op.bytesLess s t
  | [], _, _ => rfl
  | a :: x, s, t => by rw [List.cons_append, List.cons_append, bl_same, bl_pre x]
theorem bl_ext : ∀ {x y : List UInt8} {s t : List UInt8}, x.length = y.length → Op.bytesLess x y = true → Op.bytesLess (x ++ s) (y ++ t) = true
  | [], [], _, _, _, h => by cases h
  | [], _ :: _, _, _, h, _ => by simp at h
  | _ :: _, [], _, _, h, _ => by simp at h
  | a :: x, b :: y, s, t, hl, h => by
    unfold Op.bytesLess at h
    simp at h
    rcases h with h | ⟨rfl, h⟩
    · exact bl_head h
    · rw [List.cons_append, List.cons_append, bl_same]
      exact bl_ext (by simpa using hl) h
theorem d2_lt {k k' : Nat} (h : k < k') (hk : k' < 100) : Op.bytesLess (d2 k) (d2 k') = true := by
  unfold d2
  by_cases e : k / 10 = k' / 10
  · rw [e, bl_same]; exact bl_head (dig_lt (by omega) (by omega))
  · exact bl_head (dig_lt (by omega) (by omega))
theorem d4_lt {k k' : Nat} (h : k < k') (hk : k' < 10000) : Op.bytesLess (d4 k) (d4 k') = true := by
  unfold d4
  by_cases e : k / 1000 = k' / 1000
  · rw [e, bl_same]
    by_cases e2 : k / 100 % 10 = k' / 100 % 10
    · rw [e2, bl_same]
      by_cases e3 : k / 10 % 10 = k' / 10 % 10
      · rw [e3, bl_same]; exact bl_head (dig_lt (by omega) (by omega))
      · exact bl_head (dig_lt (by omega) (by omega))
    · exact bl_head (dig_lt (by omega) (by omega))
  · exact bl_head (dig_lt (by omega) (by omega))
theorem day_lex {a b : Int} (h0 : 0 ≤ a) (h : a < b) (h1 : b ≤ 3652058) : ofY a < ofY b ∨ (ofY a = ofY b ∧ (ofM a < ofM b ∨ (ofM a = ofM b ∧ ofD a < ofD b))) := by
  obtain ⟨a1, a2, a3, a4, a5, a6⟩ := valid_of h0 (by omega : a ≤ 3652058)
  obtain ⟨b1, b2, b3, b4, b5, b6⟩ := valid_of (by omega : 0 ≤ b) h1
  have ea := num_of h0 (by omega : a ≤ 3652058)
  have eb := num_of (by omega : 0 ≤ b) h1
  have ia := num_in a3 a4 a5 a6
  have ib := num_in b3 b4 b5 b6
  rcases Int.lt_trichotomy (ofY a) (ofY b) with q | q | q
  · exact .inl q
  · refine .inr ⟨q, ?_⟩
    rcases Int.lt_trichotomy (ofM a) (ofM b) with r | r | r
    · exact .inl r
    · refine .inr ⟨r, ?_⟩
      rw [num_d, q, r] at ea
      rw [num_d] at eb
      omega
    · exfalso
      have h2 := num_le_m (y := ofY b) (m := ofM b + 1) (m' := ofM a) (by omega) (by omega) a4
      have h3 := num_succ (y := ofY b) (m := ofM b) (d := 1) b3 (by omega)
      rw [num_d, q] at ea
      rw [num_d] at eb
      omega
  · exfalso
    by_cases r : ofY b + 1 < ofY a
    · have := num_jan_mono r; omega
    · have : ofY a = ofY b + 1 := by omega
      rw [this] at ia ea
      have := num_jan_mono (show ofY b < ofY b + 1 by omega)
      omega
def pk (n : Int) : ByteArray := ⟨(prS n).toArray⟩
theorem pk_lt {a b : Int} (h0 : 0 ≤ a) (h : a < b) (h1 : b ≤ 3652058) : kl (pk a) (pk b) = true := by
  obtain ⟨a1, a2, a3, a4, a5, a6⟩ := valid_of h0 (by omega : a ≤ 3652058)
  obtain ⟨b1, b2, b3, b4, b5, b6⟩ := valid_of (by omega : 0 ≤ b) h1
  have a7 := len_le (ofY a) (ofM a)
  have b7 := len_le (ofY b) (ofM b)
  unfold kl pk
  rw [ByteArray.toList_eq, ByteArray.toList_eq]
  simp only
  rw [prS_eq h0 (by omega), prS_eq (by omega : 0 ≤ b) h1]
  rcases day_lex h0 h h1 with q | ⟨q, r | ⟨r, s⟩⟩
  · simp only [List.append_assoc]
    exact bl_ext rfl (d4_lt (by omega) (by omega))
  · rw [q]
    simp only [List.append_assoc]
    rw [bl_pre, bl_pre]
    exact bl_ext rfl (d2_lt (by omega) (by omega))
  · rw [q, r]
    simp only [List.append_assoc]
    rw [bl_pre, bl_pre, bl_pre, bl_pre]
    exact d2_lt (by omega) (by omega)
def inR (n : Int) : Prop := 0 ≤ n ∧ n ≤ 3652058
theorem kl_pk {a b : Int} (ha : inR a) (hb : inR b) : kl (pk a) (pk b) = decide (a < b) := by
  rcases Int.lt_trichotomy a b with q | q | q
  · rw [pk_lt ha.1 q hb.2, decide_eq_true q]
  · rw [q, kl_irr, decide_eq_false (by omega)]
  · rw [kl_asym (pk_lt hb.1 q ha.2), decide_eq_false (by omega)]
theorem pk_inj {a b : Int} (ha : inR a) (hb : inR b) (h : pk a = pk b) : a = b := by
  rcases Int.lt_trichotomy a b with q | q | q
  · have := pk_lt ha.1 q hb.2; rw [h, kl_irr] at this; cases this
  · exact q
  · have := pk_lt hb.1 q ha.2; rw [h, kl_irr] at this; cases this
/-- days in order, one more -/
def insD (S : List Int) (d : Int) : List Int := S.filter (fun x => decide (x < d)) ++ d :: S.filter (fun x => decide (d < x))
theorem ins_parts' {S : List Int} (hs : S.Pairwise (· < ·)) (d : Int) : S = S.filter (fun x => decide (x < d)) ++ (S.filter (fun x => decide (x = d)) ++ S.filter (fun x => decide (d < x))) := by
  induction S with
  | nil => rfl
  | cons a l ih =>
    have hs' := List.pairwise_cons.1 hs
    have ih' := ih hs'.2
    rcases Int.lt_trichotomy a d with q | q | q
    · rw [List.filter_cons_of_pos (by simpa using q), List.filter_cons_of_neg (by simp; omega), List.filter_cons_of_neg (by simp; omega)]
      exact congrArg (a :: ·) ih'
    · have h1 : l.filter (fun x => decide (x < d)) = [] := List.filter_eq_nil_iff.2 fun x hx => by have := hs'.1 x hx; simp; omega
      have h2 : l.filter (fun x => decide (x = d)) = [] := List.filter_eq_nil_iff.2 fun x hx => by have := hs'.1 x hx; simp; omega
      have h3 : l.filter (fun x => decide (d < x)) = l := List.filter_eq_self.2 fun x hx => by have := hs'.1 x hx; simp; omega
      rw [List.filter_cons_of_neg (by simp; omega), List.filter_cons_of_pos (by simpa using q), List.filter_cons_of_neg (by simp; omega), h1, h2, h3]; rfl
    · have h1 : l.filter (fun x => decide (x < d)) = [] := List.filter_eq_nil_iff.2 fun x hx => by have := hs'.1 x hx; simp; omega
      have h2 : l.filter (fun x => decide (x = d)) = [] := List.filter_eq_nil_iff.2 fun x hx => by have := hs'.1 x hx; simp; omega
      have h3 : l.filter (fun x => decide (d < x)) = l := List.filter_eq_self.2 fun x hx => by have := hs'.1 x hx; simp; omega
      rw [List.filter_cons_of_neg (by simp; omega), List.filter_cons_of_neg (by simp; omega), List.filter_cons_of_pos (by simpa using q), h1, h2, h3]; rfl
theorem insD_mem {S : List Int} {d x : Int} : x ∈ insD S d ↔ x = d ∨ x ∈ S := by
  unfold insD
  simp only [List.mem_append, List.mem_cons, List.mem_filter, decide_eq_true_eq]
  constructor
  · rintro (⟨h, _⟩ | h | ⟨h, _⟩)
    · exact .inr h
    · exact .inl h
    · exact .inr h
  · rintro (h | h)
    · exact .inr (.inl h)
    · rcases Int.lt_trichotomy x d with q | q | q
      · exact .inl ⟨h, q⟩
      · exact .inr (.inl q)
      · exact .inr (.inr ⟨h, q⟩)
theorem insD_sorted {S : List Int} {d : Int} (hs : S.Pairwise (· < ·)) : (insD S d).Pairwise (· < ·) := by
  unfold insD
  rw [List.pairwise_append, List.pairwise_cons]
  refine ⟨hs.filter _, ⟨fun y hy => by simpa using (List.mem_filter.1 hy).2, hs.filter _⟩, fun x hx y hy => ?_⟩
  have h1 : x < d := by simpa using (List.mem_filter.1 hx).2
  rcases List.mem_cons.1 hy with e | e
  · rw [e]; exact h1
  · have : d < y := by simpa using (List.mem_filter.1 e).2
    omega
theorem insD_old {S : List Int} {d : Int} (hs : S.Pairwise (· < ·)) (h : d ∈ S) : insD S d = S := by
  have hp := ins_parts' hs d
  have he : S.filter (fun x => decide (x = d)) = [d] := by
    induction S with
    | nil => cases h
    | cons a l ih =>
      have hs' := List.pairwise_cons.1 hs
      by_cases e : a = d
      · rw [List.filter_cons_of_pos (by simpa using e), e]
        have : l.filter (fun x => decide (x = d)) = [] := List.filter_eq_nil_iff.2 fun x hx => by have := hs'.1 x hx; simp; omega
        rw [this]
      · rw [List.filter_cons_of_neg (by simpa using e)]
        have hm : d ∈ l := by rcases List.mem_cons.1 h with q | q; exact absurd q.symm e; exact q
        exact ih hs'.2 hm (ins_parts' hs'.2 d)
  rw [he] at hp
  exact hp.symm
theorem insD_new {S : List Int} {d : Int} (hs : S.Pairwise (· < ·)) (h : d ∉ S) : (insD S d).length = S.length + 1 := by
  have hp := congrArg List.length (ins_parts' hs d)
  have he : S.filter (fun x => decide (x = d)) = [] := List.filter_eq_nil_iff.2 fun x hx => by simp; intro e; exact h (e ▸ hx)
  rw [he] at hp
  unfold insD
  simp only [List.length_append, List.length_cons, List.length_nil] at hp ⊢
  omega
def kvD (d : Int) : KV := ⟨pk d, ⟨#[]⟩⟩
theorem lo_map {S : List Int} {d : Int} (hS : ∀ x ∈ S, inR x) (hd : inR d) : lo (pk d) (S.map kvD) = (S.filter fun x => decide (x < d)).map kvD := by
  unfold lo
  rw [List.filter_map]
  congr 1
  exact List.filter_congr fun x hx => kl_pk (hS x hx) hd
theorem hi_map {S : List Int} {d : Int} (hS : ∀ x ∈ S, inR x) (hd : inR d) : hi (pk d) (S.map kvD) = (S.filter fun x => decide (d < x)).map kvD := by
  unfold hi
  rw [List.filter_map]
  congr 1
  exact List.filter_congr fun x hx => kl_pk hd (hS x hx)
theorem putL_map {S : List Int} {d : Int} (hS : ∀ x ∈ S, inR x) (hd : inR d) : putL (S.map kvD) (kvD d) = (insD S d).map kvD := by
  unfold putL insD
  rw [show (kvD d).k = pk d from rfl, lo_map hS hd, hi_map hS hd]
  simp
/-- the days so far: as a list without repeats, and in order -/
structure DaysOk (D S : List Int) : Prop where
  mem : ∀ x, x ∈ D ↔ x ∈ S
  len : D.length = S.length
  srt : S.Pairwise (· < ·)
  rng : ∀ x ∈ S, inR x
theorem DaysOk.nil : DaysOk [] [] := ⟨fun _ => Iff.rfl, rfl, List.Pairwise.nil, fun _ h => by cases h⟩
theorem DaysOk.old {D S : List Int} {d : Int} (h : DaysOk D S) (hd : d ∈ D) : DaysOk D (insD S d) := by
  rw [insD_old h.srt ((h.mem d).1 hd)]; exact h
theorem DaysOk.new {D S : List Int} {d : Int} (h : DaysOk D S) (hr : inR d) (hd : d ∉ D) : DaysOk (D ++ [d]) (insD S d) := by
  have hn : d ∉ S := fun q => hd ((h.mem d).2 q)
  refine ⟨fun x => ?_, by rw [insD_new h.srt hn, List.length_append, h.len]; rfl, insD_sorted h.srt, fun x hx => ?_⟩
  · rw [insD_mem, List.mem_append, List.mem_singleton, h.mem]
    exact Or.comm
  · rcases insD_mem.1 hx with e | e
    · rw [e]; exact hr
    · exact h.rng x e
end Go.Proofs.YtaiiibbnjmjamaaGreatDoor
