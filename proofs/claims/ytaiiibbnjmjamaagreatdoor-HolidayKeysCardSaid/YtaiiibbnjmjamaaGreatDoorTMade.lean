/- The walk of made: a new node of the given pairs and children, its size theirs together. Conditions: the two slices read as rows, the children's sizes lie in memory. -/
import Derived.Test.YtaiiibbnjmjamaaGreatDoorTCopy
import Derived.Deep.LoopGhost
import Derived.StillTailTactics
namespace Go.Proofs.YtaiiibbnjmjamaaGreatDoor
open Go.RowKit

/-- the children's sizes -/
def SzOk (w : World) (ks : List Kid) : Prop := ∀ y ∈ ks, w.cell? ⟨y.p, 2, none⟩ = some (.int .i64 y.l.length) ∧ y.p < w.heap.size
theorem SzOk.below {w w' : World} {ks : List Kid} (h : SzOk w ks) (hb : Below w.heap.size w w') : SzOk w' ks := fun y hy => ⟨(hb.cell (p := ⟨y.p, 2, none⟩) (h y hy).2).trans (h y hy).1, Nat.lt_of_lt_of_le (h y hy).2 hb.size⟩
theorem SzOk.of {F : Nat → Prop} {h : Nat} {w : World} {ks : List Kid} (hk : ∀ y ∈ ks, IsN F h w y) : SzOk w ks := fun y hy => ⟨(hk y hy).size, (hk y hy).lt⟩
theorem kidsSum_take {ks : List Kid} {i : Nat} {y : Kid} (h : ks[i]? = some y) : kidsSum (ks.take (i + 1)) = kidsSum (ks.take i) + y.l.length := by
  unfold kidsSum
  rw [List.take_add_one, h]
  simp
theorem kidsSum_le (ks : List Kid) (i : Nat) : kidsSum (ks.take i) ≤ kidsSum ks := by
  have : kidsSum ks = kidsSum (ks.take i) + kidsSum (ks.drop i) := by
    unfold kidsSum
    rw [← List.sum_append, ← List.map_append, List.take_append_drop]
  omega
theorem Node.sz {F : Nat → Prop} {h : Nat} {w : World} {x : Kid} {ps : List KV} {ks : List Kid} (hx : Node F h w x ps ks) : SzOk w ks := by
  cases h with
  | zero => rw [hx.leaf rfl]; exact fun y hy => by cases hy
  | succ h => exact SzOk.of (fun y hy => ((hx.kids h rfl).2 y hy).1)
def MadePost (F : Nat → Prop) (ps : List KV) (ks : List Kid) (w : World) (e : Ending) (w' : World) : Prop :=
  ∃ p, e = .returned (ptrN p) ∧ w.heap.size ≤ p ∧ NodeAt F w' p ps ks (ps.length + kidsSum ks) ∧ Below w.heap.size w w'
set_option maxRecDepth 100000 in
set_option maxHeartbeats 4000000 in
theorem made_any {F : Nat → Prop} (ps : List KV) (ks : List Kid) (vp vk : Value) (w : World) (hp : IsRow 2 encKV w vp ps) (hk : IsRow 1 encK w vk ks) (hz : SzOk w ks) (hl : ps.length + kidsSum ks ≤ 1000000000) (hl2 : ks.length ≤ 1000000000) (hF : ∀ b, w.heap.size ≤ b → F b) (hF1 : InF F vp) (hF2 : InF F vk) :
    Calls Tryz.prog 22 #[vp, vk] w (MadePost F ps ks w) := by
  obtain ⟨pa, pc, rfl, _⟩ := hp.slice
  obtain ⟨ka, kc, rfl, _, hop⟩ := hk.open
  have HP := Lib.hid hp; have HK := Lib.hid hk; have HZ := Lib.hid hz; have HOP := Lib.hid hop
  have HF := Lib.hid (And.intro hF (And.intro hF1 hF2))
  clear hp hk hz hop hF hF1 hF2
  go_enter Tryz.func22, Tryz.ntmps22
  go_wp2
  obtain ⟨b, hb⟩ : ∃ b, b = w.heap.size := ⟨_, rfl⟩
  have bN := Blk.at hb 92 #[.slice pa ps.length pc, .slice ka ks.length kc, .int .i64 ps.length]
  have hB := bl_alloc w (.cells #[.slice pa ps.length pc, .slice ka ks.length kc, .int .i64 ps.length] 92)
  rw [← hb]
  obtain ⟨w1, hw1⟩ : ∃ w1, w1 = w.alloc (.cells #[.slice pa ps.length pc, .slice ka ks.length kc, .int .i64 ps.length] 92) := ⟨_, rfl⟩
  rw [← hw1] at bN hB ⊢
  have hb2 : Below w.heap.size w w1 := hB
  have hbw : w.heap.size ≤ b := by omega
  clear hw1 hB hb
  go_loopg [7, 16] ks.length (fun kx s7 s16 wr => ∃ i : Nat, s16 = .int .i64 i ∧ i ≤ ks.length ∧ ks.length - i ≤ kx ∧ Below w.heap.size w wr ∧ Blk wr b 92 #[.slice pa ps.length pc, .slice ka ks.length kc, .int .i64 ((ps.length + kidsSum (ks.take i) : Nat) : Int)])
  case atStart => exact ⟨0, rfl, Nat.zero_le _, Nat.le_refl _, hb2, bN⟩
  case round =>
    clear bN hb2
    obtain ⟨i, rfl, hi, hg, hB, bN⟩ := hrel
    by_cases hlt : i < ks.length
    · obtain ⟨g, off, rfl, hgl, hcell⟩ := HOP.out (by omega)
      obtain ⟨y, hy⟩ : ∃ y, ks[i]? = some y := ⟨_, List.getElem?_eq_getElem hlt⟩
      have c0 := (hB.cell (p := ⟨g, off + i * 1 + 0, none⟩) hgl).trans (hcell _ y hy 0 _ rfl)
      rw [Nat.add_zero, Nat.mul_one] at c0
      have hym : y ∈ ks := List.mem_of_getElem? hy
      obtain ⟨z1, z2⟩ := HZ.out y hym
      have c1 := (hB.cell (p := ⟨y.p, 2, none⟩) z2).trans z1
      have c2 := bN.cell 2
      simp at c2
      have hs := kidsSum_take hy
      have hs2 := kidsSum_le ks (i + 1)
      have hyb : y.p ≠ b := by omega
      obtain ⟨S1, hS1⟩ : ∃ S1, kidsSum (ks.take (i + 1)) = S1 := ⟨_, rfl⟩
      rw [hS1] at hs hs2
      have HS1 := Lib.hid hS1
      clear hS1
      generalize kidsSum (ks.take i) = S0 at *
      generalize y.l.length = yl at *
      have BN := Lib.hid bN
      have fz := bN.frozen 2
      clear hcell hy hym z1 bN
      have s1 : IntKind.i64.wrap (((ps.length + S0 : Nat) : Int) + (yl : Int)) = ((ps.length + S1 : Nat) : Int) := by rw [IntWalk.i64_in _ (by omega)]; omega
      go_upto_region 5 with (fail)
      refine wp_region_still_tail 11 (by kernel_rfl) (by kernel_rfl) ?_
      simp only [List.take_succ_cons, List.take_zero, List.drop_succ_cons, List.drop_zero]
      change wpStill _ _ (wr.drew) (fun a' => wpList _ _ _ _ a' (wr.drew)) _ _
      iterate 11 still_step
      refine wpStill_nil ?_
      go_wp2
      go_roundg (ks.length - (i + 1))
      case measure => omega
      case rel =>
        refine ⟨i + 1, by go_num, by omega, Nat.le_refl _, (hB.setCell (p := ⟨b, 2, none⟩) (by simp; omega) _).drew, ?_⟩
        rw [HS1.out]
        rw [show (((ps.length + S1 : Nat)) : Int) = (ps.length : Int) + S0 + yl by omega]
        have q := (BN.out.set 2 (.int .i64 ((ps.length : Int) + S0 + yl))).drew
        simpa using q
    · obtain rfl : i = ks.length := by omega
      rw [List.take_length] at bN
      have bl := bN.lt
      go_wp2
      go_ret
      exact ⟨b, rfl, by omega, ⟨_, _, bN, HP.out.below hB, HK.out.below hB, HF.out.1 _ hbw, HF.out.2.1, HF.out.2.2⟩, hB⟩
end Go.Proofs.YtaiiibbnjmjamaaGreatDoor
