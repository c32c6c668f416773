/- Several texts in one, each with its own word at its head. Conditions: stated there. -/
import Derived.Test.YtmkhnpkbaegchaaTMem
import Derived.Test.YtmkhnpkbaegchaaTCopy
import Derived.Deep.AppendLies
import Derived.Deep.LoopGhost
import Derived.Lib.AppendStr
import Derived.OwnWalk
import Derived.Lib.SlBytesRow
import Derived.WalkMore
import Derived.Test.YtmkhnpkbaegchaaTDfs
import Derived.Test.YtmkhnpkbaegchaaTLives
import Derived.Test.YtmkhnpkbaegchaaTDfA
/- The walks of a writer's Uint, Text and Done. Conditions: the writer lies in memory, its numbers are less than 128. -/
namespace Go.Proofs.Ytmkhnpkbaegchaa
open Go.RowKit

def encB (bs : List UInt8) : List Value := bs.map fun b => Value.int .u8 (b.toNat : Int)
theorem encB_len (bs : List UInt8) : (encB bs).length = bs.length := List.length_map ..
theorem encB_append (a b : List UInt8) : encB (a ++ b) = encB a ++ encB b := List.map_append ..
theorem infoB : (Try.prog.info? 5).map (fun i => (i.zero, i.size, i.bytes)) = some (some (.int .u8 0), 1, 1) := by kernel_rfl
/-- the writer that lies at Wb has collected bs -/
def WrAt (w : World) (B Wb : Nat) (bs : List UInt8) : Prop := ∃ v, Blk w Wb 75 #[v] ∧ w.ownsRow B 5 1 v bs.length (encB bs) ∧ v.ownBlock ≠ some Wb ∧ B ≤ Wb
/-- blocks of other types than a writer's stay -/
def TyKeep (w w' : World) : Prop := ∀ (k t : Nat) (cs : Array Value), Blk w k t cs → t ≠ 75 → t ≠ 5 → Blk w' k t cs
theorem TyKeep.trans {a b c : World} (h : TyKeep a b) (k : TyKeep b c) : TyKeep a c := fun i t cs hb h1 h2 => k i t cs (h i t cs hb h1 h2) h1 h2
theorem TyKeep.grown {w w1 w2 : World} {B n : Nat} {v : Value} {xs : List Value} (h1 : Below w.heap.size w w1) (ho : w.ownsRow B 5 1 v n xs) (hg : w1.grownBy w2 v.ownBlock) : TyKeep w w2 := fun k t cs hb _ h8 =>
  (hg.block k (Nat.lt_of_lt_of_le hb.lt h1.size) (fun e => by
    rcases ho.2 with ⟨rfl, _⟩ | ⟨g, cap, cur, rfl, _, hg', _⟩
    · cases e
    · have e1 : k = g := by simpa [Value.ownBlock] using e
      subst e1
      rw [show w.heap[k]? = _ from hb] at hg'
      cases hg'
      exact h8 rfl)).trans (hb.below h1 hb.lt)
theorem TyKeep.set {w : World} {Wb : Nat} {cs : Array Value} (h : Blk w Wb 75 cs) (i : Nat) (u : Value) : TyKeep w (w.setCell ⟨Wb, i, none⟩ u) := fun k t cs' hb h75 _ =>
  hb.far (p := ⟨Wb, i, none⟩) (fun (e : k = Wb) => by
    subst e
    have e2 := (show w.heap[k]? = _ from hb).symm.trans (show w.heap[k]? = _ from h)
    cases e2
    exact h75 rfl) u
def WrPost (B Wb : Nat) (bs : List UInt8) (w : World) (e : Ending) (w' : World) : Prop := e = .returned noResult ∧ WrAt w' B Wb bs ∧ Below B w w' ∧ TyKeep w w'
theorem wr_app {w w1 w2 : World} {B Wb n : Nat} {v : Value} {xs : List Value} (hb : Blk w Wb 75 #[v]) (ho : w.ownsRow B 5 1 v n xs) (hne : v.ownBlock ≠ some Wb) (hB : B ≤ Wb) (h1 : Below w.heap.size w w1) (hg : w1.grownBy w2 v.ownBlock) : Blk w2 Wb 75 #[v] ∧ w2.cell? ⟨Wb, 0, none⟩ = some v ∧ Below B w w2 := by
  have hbw : B ≤ w.heap.size := Nat.le_trans hB (Nat.le_of_lt hb.lt)
  have h : Blk w2 Wb 75 #[v] := (hg.block Wb (Nat.lt_of_lt_of_le hb.lt h1.size) (fun e => hne e.symm)).trans (hb.below h1 hb.lt)
  have c := h.cell 0
  simp at c
  exact ⟨h, c, (h1.mono hbw).grown hg (Nat.le_trans hbw h1.size) (fun k e => (ho.lt k e).1)⟩
set_option maxRecDepth 100000 in
set_option maxHeartbeats 4000000 in
theorem wuint_any (B Wb n : Nat) (bs : List UInt8) (w : World) (h : WrAt w B Wb bs) (hn : n < 128) (hl : bs.length ≤ 100000) :
    Calls Try.prog 37 #[ptrN Wb, .int .u64 n] w (WrPost B Wb (bs ++ [UInt8.ofNat n]) w) := by
  obtain ⟨i0, hi, hz0, hz1, hz2⟩ := info_parts infoB
  obtain ⟨v, hb, ho, hne, hB⟩ := h
  have hBw : B ≤ w.heap.size := Nat.le_trans hB (Nat.le_of_lt hb.lt)
  have c0 := hb.cell 0
  have f0 := hb.frozen 0
  simp at c0
  obtain ⟨pa, ca, rfl⟩ := row_slice ho
  have HB := Lib.hid hb; have HO := Lib.hid ho; have HNE := Lib.hid hne
  have hms : maxLen = 9223372036854775807 := rfl
  have HMS := Lib.hid hms
  clear hb ho hne hms
  have q1 : decide ((n : Int) ≥ 128) = false := decide_eq_false (by omega)
  go_enter Try.func37, Try.ntmps37
  go_wp2
  go_loopg [1] 0 (fun kx s1 wr => s1 = .int .u64 n ∧ wr = w)
  case atStart => exact ⟨rfl, rfl⟩
  case round =>
    obtain ⟨rfl, rfl⟩ := hrel
    go_wp2_with (at_builtin; refine wpList_append_lies _ rfl _ _ 71 rfl B 5 i0 _ 1 1 Try.underlying71 hi hz0 hz1 hz2 (by rfl) (by decide) (.slice pa bs.length ca) bs.length _ rfl (HO.out.alloc _) ⟨wr.heap.size, 0, none⟩ 1 1 [.int .u8 n] rfl rfl (World.news_of_block (cs := #[Value.int .u8 n]) (t := 5) (fr := (0, 0)) (heap_alloc_new wr _)) (by simp [Value.oneCell']) (by omega) (by have := HMS.out; omega) (by omega) (by simp; omega) _ rfl ?_; intro g d w2 ho2 hg2 hat2 hlt2; have hA := wr_app HB.out HO.out HNE.out hB (bl_alloc wr (.cells #[.int .u8 n] 5)) hg2; have c2 := hA.2.1; have f2 := hA.1.frozen 0; have HA := Lib.hid (And.intro hA (And.intro ho2 (And.intro hat2 hlt2))); have HG := Lib.hid hg2; clear hA ho2 hg2 hat2 hlt2)
    obtain ⟨⟨hW2, _, hB2⟩, ho2, hat2, _⟩ := HA.out
    have hgW : g ≠ Wb := by
      rcases hat2 with h | h
      · intro e; exact HNE.out (by rw [h, e])
      · have := HB.out.lt; rw [h]; simp; omega
    have ho3 : w2.ownsRow B 5 1 (.slice (some ⟨g, 0, none⟩) (bs.length + 1) d) (bs ++ [UInt8.ofNat n]).length (encB (bs ++ [UInt8.ofNat n])) := by
      rw [encB_append, List.length_append]
      have e : encB [UInt8.ofNat n] = [.int .u8 (n : Int)] := by
        unfold encB
        simp only [List.map_cons, List.map_nil, UInt8.toNat_ofNat']
        rw [show n % 2 ^ 8 = n by omega]
      rw [e]
      exact ho2
    first | go_ret | go_end0 | skip
    exact ⟨rfl, ⟨_, hW2.set 0 _, ownsRow_setCell_other ho3 (fun e => hgW (by simpa [Value.ownBlock] using e)) _, fun e => hgW (by simpa [Value.ownBlock] using e), hB⟩, hB2.setCell (p := ⟨Wb, 0, none⟩) hB _, (TyKeep.grown (bl_alloc wr _) HO.out HG.out).trans (TyKeep.set hW2 0 _)⟩
theorem wr_apart {w : World} {B Wb n : Nat} {v x : Value} {xs : List Value} (hb : Blk w Wb 75 #[x]) (ho : w.ownsRow B 5 1 v n xs) : v.ownBlock ≠ some Wb := fun e => by
  rcases ho.2 with ⟨rfl, _⟩ | ⟨g, cap, cur, rfl, _, hg, _⟩
  · cases e
  · have e1 : g = Wb := by simpa [Value.ownBlock] using e
    subst e1
    rw [show w.heap[g]? = _ from hb] at hg
    cases hg
theorem strCells_encB (s : ByteArray) : Lib.strCells s = encB s.data.toList := rfl
set_option maxRecDepth 100000 in
set_option maxHeartbeats 4000000 in
theorem wtext_any (B Wb : Nat) (s : ByteArray) (bs : List UInt8) (w : World) (h : WrAt w B Wb bs) (hn : s.size < 128) (hl : bs.length ≤ 90000) :
    Calls Try.prog 38 #[ptrN Wb, .string s] w (WrPost B Wb (bs ++ UInt8.ofNat s.size :: s.data.toList) w) := by
  obtain ⟨i0, hi, hz0, hz1, hz2⟩ := info_parts infoB
  have hu := wuint_any B Wb s.size bs w h hn (by omega)
  have HU := Lib.hid hu
  have hms : maxLen = 9223372036854775807 := rfl
  have HMS := Lib.hid hms
  clear h hu hms
  go_enter Try.func38, Try.ntmps38
  go_wp2_with fail
  refine HU.out.mono ?_
  rintro e w1 ⟨rfl, ⟨v, hb, ho, hne, hB⟩, hB1, hK1⟩
  have hlen : (bs ++ [UInt8.ofNat s.size]).length = bs.length + 1 := by simp
  rw [hlen] at ho
  have c0 := hb.cell 0
  simp at c0
  obtain ⟨pa, ca, rfl⟩ := row_slice ho
  have hBw : B ≤ w1.heap.size := Nat.le_trans hB (Nat.le_of_lt hb.lt)
  have HB := Lib.hid hb; have HO := Lib.hid ho; have HNE := Lib.hid hne; have HB1 := Lib.hid hB1; have HK1 := Lib.hid hK1
  generalize hbs' : bs ++ [UInt8.ofNat s.size] = bs' at *
  have HBS := Lib.hid hbs'; have HLE := Lib.hid hlen
  clear hlen hb ho hne hB1 hK1 hbs' HU
  go_wp2_with (at_builtin; go_loud (refine Lib.wpList_append_own_string _ rfl (.tmp 14) (.tmp 15) 71 9 rfl B 5 i0 Try.underlying71 Try.underlying9 hi hz0 hz1 hz2 (.slice pa (bs.length + 1) ca) (bs.length + 1) _ rfl HO.out s rfl (by have := HMS.out; omega) (by omega) hBw ?_; intro v2 w2 ho2 hg2 _; have hA := wr_app HB.out HO.out HNE.out hB (Below.refl _ _) hg2; have c2 := hA.2.1; have f2 := hA.1.frozen 0; obtain ⟨p2, k2, rfl⟩ := row_slice ho2; have HA := Lib.hid (And.intro hA ho2); have HG := Lib.hid hg2; clear hA ho2 hg2))
  obtain ⟨⟨hW2, _, hB2⟩, ho2⟩ := HA.out
  have hap := wr_apart hW2 ho2
  have hlen2 : (bs ++ UInt8.ofNat s.size :: s.data.toList).length = bs.length + 1 + s.size := by
    simp; omega
  have henc : encB (bs ++ UInt8.ofNat s.size :: s.data.toList) = encB bs' ++ Lib.strCells s := by
    rw [← HBS.out, strCells_encB, ← encB_append]; simp
  first | go_ret | go_end0 | skip
  refine ⟨rfl, ⟨_, hW2.set 0 _, ?_, hap, hB⟩, HB1.out.trans (hB2.setCell (p := ⟨Wb, 0, none⟩) hB _), HK1.out.trans ((TyKeep.grown (Below.refl _ _) HO.out HG.out).trans (TyKeep.set hW2 0 _))⟩
  rw [hlen2, henc]
  exact ownsRow_setCell_other ho2 hap _
end Go.Proofs.Ytmkhnpkbaegchaa
/- The walks of bytes.Clone, of a writer's Done, of NewReader and of a reader's Uint, length, Text and End. Conditions: the reader lies in memory, its numbers are less than 128. -/
namespace Go.Proofs.Ytmkhnpkbaegchaa
open Go.RowKit

set_option maxRecDepth 100000 in
set_option maxHeartbeats 4000000 in
theorem bclone_any (B n : Nat) (v : Value) (xs : List Value) (w : World) (hv : w.ownsRow B 5 1 v n xs) (h1 : ∀ u ∈ xs, u.oneCell' = true) (hl : n ≤ 1000000000) :
    Calls Try.prog 58 #[v] w (OwnPost 5 1 xs n w) := by
  obtain ⟨i0, hi, hz0, hz1, hz2⟩ := info_parts infoB
  have q22 : ∀ (w : World) (a : Option Addr) (n c n' c' : Nat), (binOp .eql 71 (.slice a n c) (.slice none n' c')).run Try.prog w = .ok (.bool a.isNone) w := fun w a n c n' c' => Lib.run_eql_slice_nil w _ _ a n c n' c' Try.underlying71
  have hlx := hv.1
  rcases hv.2 with ⟨rfl, rfl⟩ | ⟨g, cap, cur, rfl, hg⟩
  · have hx : xs = [] := by simpa using hlx
    subst hx
    clear hv hlx h1
    go_enter Try.func58, Try.ntmps58
    go_wp2
    go_ret
    exact ⟨_, rfl, World.ownsRow_nil .., bl_refl _⟩
  · have A := Lib.hid (hv.cells (g := g) rfl)
    have H1 := Lib.hid h1
    clear hv hg h1
    go_enter Try.func58, Try.ntmps58
    go_wp2_with (at_builtin; refine wpList_append_own _ rfl _ _ 71 rfl w.heap.size 5 i0 _ 1 1 Try.underlying71 hi hz0 hz1 hz2 (by rfl) (by decide) _ _ _ rfl (World.ownsRow_made w #[] 0 (Nat.le_refl _) (Nat.zero_le _) (by simp)) ⟨g, 0, none⟩ n cap xs rfl ?qc1 ?qc2 ?qc3 ?qc4 ?qc5 ?qc6 ?_)
    case qc1 => exact hlx
    case qc2 => exact fun j u hj => Lib.cell?_alloc_some _ (A.out j u hj)
    case qc3 => exact H1.out
    case qc4 => unfold maxLen; omega
    case qc5 => omega
    case qc6 => simp
    intro v' w1 hown hgrow hnil
    go_wp2
    go_ret
    exact ⟨v', rfl, by simpa using hown, (bl_alloc w _).grown hgrow (by simp) (by intro k hk; simp [Value.ownBlock] at hk; omega)⟩
theorem encB_one (bs : List UInt8) : ∀ u ∈ encB bs, u.oneCell' = true := fun u h => by
  unfold encB at h
  obtain ⟨b, _, rfl⟩ := List.mem_map.1 h
  rfl
set_option maxRecDepth 100000 in
set_option maxHeartbeats 4000000 in
theorem done_any (B Wb : Nat) (bs : List UInt8) (w : World) (h : WrAt w B Wb bs) (hl : bs.length ≤ 1000000) :
    Calls Try.prog 40 #[ptrN Wb] w (OwnPost 5 1 (encB bs) bs.length w) := by
  obtain ⟨v, hb, ho, hne, hB⟩ := h
  have hc := bclone_any B bs.length v (encB bs) w ho (encB_one bs) (by omega)
  have c0 := hb.cell 0
  simp at c0
  obtain ⟨pa, ca, rfl⟩ := row_slice ho
  have HC := Lib.hid hc
  clear hb ho hne hc
  go_enter Try.func40, Try.ntmps40
  go_wp2_with fail
  refine HC.out.mono ?_
  rintro e w1 ⟨v1, rfl, ho1, hb1⟩
  go_wp2
  go_ret
  exact ⟨v1, rfl, ho1, hb1⟩
/-- the reader that lies at R has bs before it -/
def RdAt (w : World) (B R : Nat) (bs : List UInt8) : Prop := ∃ g off c, Blk w R 114 #[.slice (some ⟨g, off, none⟩) bs.length c, .int .i64 0] ∧ B ≤ R ∧ g ≠ R ∧ g < w.heap.size ∧ bs.length ≤ c ∧ ∀ j b, bs[j]? = some b → w.cell? ⟨g, off + j, none⟩ = some (.int .u8 ((b.toNat : Nat) : Int))
def NewPost (bs : List UInt8) (w : World) (e : Ending) (w' : World) : Prop := ∃ R, e = .returned (ptrN R) ∧ RdAt w' w.heap.size R bs ∧ Below w.heap.size w w'
set_option maxRecDepth 100000 in
set_option maxHeartbeats 4000000 in
theorem newr_any (B : Nat) (bs : List UInt8) (v : Value) (w : World) (hv : w.ownsRow B 5 1 v bs.length (encB bs)) (hn : 1 ≤ bs.length) (hl : bs.length ≤ 1000000) :
    Calls Try.prog 39 #[v] w (NewPost bs w) := by
  have hc := bclone_any B bs.length v (encB bs) w hv (encB_one bs) (by omega)
  obtain ⟨pa, ca, rfl⟩ := row_slice hv
  have HC := Lib.hid hc
  clear hv hc
  go_enter Try.func39, Try.ntmps39
  go_wp2_with fail
  refine HC.out.mono ?_
  rintro e w1 ⟨v1, rfl, ho1, hb1⟩
  obtain ⟨g, c, rfl, hg1, hg2⟩ := ho1.form (by omega)
  have hcap : bs.length ≤ c := by
    rcases ho1.2 with ⟨h, _⟩ | ⟨g', c', cur, h, _, _, h2, _⟩
    · cases h
    · cases h; exact h2
  have HO := Lib.hid ho1; have HB := Lib.hid hb1
  clear ho1 hb1 HC
  go_wp2
  go_ret
  refine ⟨_, rfl, ⟨g, 0, c, Blk.new _ _ _, HB.out.size, by omega, by simp; omega, hcap, fun j b hb => ?_⟩, bl_trans HB.out (bl_alloc _ _)⟩
  have h := (HO.out.alloc (.cells #[.slice (some ⟨g, 0, none⟩) bs.length c, .int .i64 0] 114)).cells rfl j (.int .u8 ((b.toNat : Nat) : Int)) (by unfold encB; rw [List.getElem?_map, hb]; rfl)
  rw [Go.WideShapes.add_plain] at h
  exact h
theorem bits_and : ∀ n : Nat, n < 128 → bits BinOp.and IntKind.u8 (n : Int) 127 = n := by decide +kernel
theorem bits_or : ∀ n : Nat, n < 128 → bits BinOp.or IntKind.u64 0 (n : Int) = n := by decide +kernel
theorem grown_set (w : World) (R i : Nat) (u : Value) : w.grownBy (w.setCell ⟨R, i, none⟩ u) (some R) :=
  ⟨rfl, rfl, rfl, by simp [World.setCell], fun k _ hk => by show (w.heap.modify R _)[k]? = _; rw [Array.getElem?_modify, if_neg (fun e => hk (by rw [e]))]⟩
def RdPost (B R : Nat) (v : Value) (bs : List UInt8) (w : World) (e : Ending) (w' : World) : Prop := e = .returned v ∧ RdAt w' B R bs ∧ w.grownBy w' (some R)
set_option maxRecDepth 100000 in
set_option maxHeartbeats 4000000 in
theorem ruint_any (B R : Nat) (b : UInt8) (bs : List UInt8) (w : World) (h : RdAt w B R (b :: bs)) (hb : b.toNat < 128) (hl : bs.length ≤ 1000000) :
    Calls Try.prog 41 #[ptrN R] w (RdPost B R (.int .u64 b.toNat) bs w) := by
  obtain ⟨g, off, c, hb0, hB, hgR, hgl, hc, hcell⟩ := h
  have c0 := hb0.cell 0
  have c1 := hb0.cell 1
  have k0 := hcell 0 b rfl
  rw [Nat.add_zero] at k0
  have f0 := hb0.frozen 0
  simp only [List.length_cons] at c0 hc
  simp at c0 c1
  have HB0 := Lib.hid hb0; have HC := Lib.hid hcell
  clear hb0 hcell
  obtain ⟨n, hn⟩ : ∃ n, b.toNat = n := ⟨_, rfl⟩
  rw [hn] at k0 hb ⊢
  clear hn
  have q1 := bits_and n hb
  have q2 := bits_or n hb
  go_enter Try.func41, Try.ntmps41
  go_wp2
  go_step3
  go_wp2
  go_step3
  go_wp2
  go_loopg [3, 4, 5, 12, 19] 1 (fun kx s3 s4 s5 s12 s19 wr => s3 = .int .u64 0 ∧ s4 = .int .i64 0 ∧ wr = w)
  case atStart => exact ⟨rfl, rfl, rfl⟩
  case round =>
    obtain ⟨rfl, rfl, rfl⟩ := hrel
    go_wp2
    all_goals go_ret
    · obtain rfl : bs = [] := List.length_eq_zero_iff.1 (by omega)
      exact ⟨rfl, ⟨g, off, 0, HB0.out.set 0 _, hB, hgR, by simpa using hgl, by simp, fun j x hx => by simp at hx⟩, grown_set wr R 0 _⟩
    · refine ⟨rfl, ⟨g, off + 1, c - 1, HB0.out.set 0 _, hB, hgR, by simpa using hgl, by omega, fun j x hx => ?_⟩, grown_set wr R 0 _⟩
      rw [cell_other hgR, show off + 1 + j = off + (j + 1) by omega]
      exact HC.out (j + 1) x hx
set_option maxRecDepth 100000 in
set_option maxHeartbeats 4000000 in
theorem rlen_any (B R most : Nat) (b : UInt8) (bs : List UInt8) (w : World) (h : RdAt w B R (b :: bs)) (hb : b.toNat < 128) (hl : bs.length ≤ 1000000) (hm : b.toNat ≤ most) (hm2 : most ≤ 100000) :
    Calls Try.prog 60 #[ptrN R, .int .i64 most] w (RdPost B R (.int .i64 b.toNat) bs w) := by
  have hu := ruint_any B R b bs w h hb hl
  obtain ⟨n, hn⟩ : ∃ n, b.toNat = n := ⟨_, rfl⟩
  rw [hn] at hb hm hu ⊢
  have HU := Lib.hid hu
  clear hn h hu
  go_enter Try.func60, Try.ntmps60
  go_wp2_with fail
  refine HU.out.mono ?_
  rintro e w1 ⟨rfl, ⟨g, off, c, hb0, hB, hgR, hgl, hc, hcell⟩, hB1⟩
  have c1 := hb0.cell 1
  simp at c1
  have HH := Lib.hid (And.intro (show RdAt w1 B R bs from ⟨g, off, c, hb0, hB, hgR, hgl, hc, hcell⟩) hB1)
  clear hb0 hcell hB1 HU hgl hc hgR hB
  go_wp2
  go_ret
  exact ⟨rfl, HH.out.1, HH.out.2⟩
theorem bytes_of {w : World} {g off : Nat} {s : ByteArray} {rest : List UInt8} (h : ∀ j b, (s.data.toList ++ rest)[j]? = some b → w.cell? ⟨g, off + j, none⟩ = some (.int .u8 ((b.toNat : Nat) : Int))) : Lib.Bytes w g off s := fun i hi => by
  refine h i s[i] ?_
  rw [List.getElem?_append_left (by simpa using hi)]
  rw [List.getElem?_eq_getElem (by simpa using hi), Array.getElem_toList]
  rfl
set_option maxRecDepth 100000 in
set_option maxHeartbeats 4000000 in
theorem rtext_any (B R most : Nat) (s : ByteArray) (rest : List UInt8) (w : World) (h : RdAt w B R (UInt8.ofNat s.size :: (s.data.toList ++ rest))) (h1 : 1 ≤ s.size) (h2 : s.size < 128) (hl : rest.length ≤ 100000) (hm : s.size ≤ most) (hm2 : most ≤ 100000) :
    Calls Try.prog 42 #[ptrN R, .int .i64 most] w (RdPost B R (.string s) rest w) := by
  have hsz : (UInt8.ofNat s.size).toNat = s.size := by rw [UInt8.toNat_ofNat']; omega
  have hlen : (s.data.toList ++ rest).length = s.size + rest.length := by rw [List.length_append]; simp
  have hu := rlen_any B R most (UInt8.ofNat s.size) (s.data.toList ++ rest) w h (by omega) (by rw [hlen]; omega) (by omega) hm2
  rw [hsz] at hu
  have HU := Lib.hid hu; have HLE := Lib.hid hlen
  clear h hu hsz hlen
  go_enter Try.func42, Try.ntmps42
  go_wp2_with fail
  refine HU.out.mono ?_
  rintro e w1 ⟨rfl, ⟨g, off, c, hb0, hB, hgR, hgl, hc, hcell⟩, hB1⟩
  rw [HLE.out] at hb0 hc
  have c0 := hb0.cell 0
  have c1 := hb0.cell 1
  have f0 := hb0.frozen 0
  simp at c0 c1
  have hcv := fun cap => Lib.run_convert_whole (P := Try.prog) w1 71 5 9 Try.underlying71 Try.underlying5 Try.underlying9 g off s (bytes_of hcell) cap
  have HB0 := Lib.hid hb0; have HC := Lib.hid hcell; have HB1 := Lib.hid hB1
  obtain ⟨n, hn⟩ : ∃ n, n = s.size := ⟨_, rfl⟩
  rw [← hn] at h1 h2 hm c0 hc hcv ⊢
  have HN := Lib.hid hn
  clear hb0 hcell hB1 HU hn
  go_wp2
  all_goals go_ret
  · obtain rfl : rest = [] := List.length_eq_zero_iff.1 (by omega)
    exact ⟨rfl, ⟨g, off, 0, HB0.out.set 0 _, hB, hgR, by simpa using hgl, by simp, fun j x hx => by simp at hx⟩, HB1.out.trans (grown_set w1 R 0 _)⟩
  · refine ⟨rfl, ⟨g, off + n, c - n, HB0.out.set 0 _, hB, hgR, by simpa using hgl, by omega, fun j x hx => ?_⟩, HB1.out.trans (grown_set w1 R 0 _)⟩
    rw [cell_other hgR, show off + n + j = off + (n + j) by omega]
    refine HC.out (n + j) x ?_
    rw [List.getElem?_append_right (by rw [HN.out]; simp), HN.out]
    simpa using hx
theorem rend_any (B R : Nat) (w : World) (h : RdAt w B R []) : Calls Try.prog 43 #[ptrN R] w (Pur (.int .i64 0) w) := by
  obtain ⟨g, off, c, hb0, _⟩ := h
  have c0 := hb0.cell 0
  have c1 := hb0.cell 1
  simp at c0 c1
  clear hb0
  go_enter Try.func43, Try.ntmps43
  go_wp2
  go_ret
  exact ⟨rfl, rfl⟩
end Go.Proofs.Ytmkhnpkbaegchaa
/- The walk of built, and what the sizes of its pairs are; plain words on their encoding. Conditions: the list of changes lies in memory. -/
namespace Go.Proofs.Ytmkhnpkbaegchaa
open Go.RowKit

def KvOk (x : KV) : Prop := (1 ≤ x.k.size ∧ x.k.size ≤ 60) ∧ (1 ≤ x.v.size ∧ x.v.size ≤ 100)
theorem keyF_ok (z : Int) : 1 ≤ (keyF z).size ∧ (keyF z).size ≤ 60 := by
  have h := keyN_size (around z 4000).toNat
  refine ⟨?_, by show (keyN _).size ≤ 60; omega⟩
  show 1 ≤ (keyN _).size
  unfold keyN
  rw [ByteArray.size_append]
  show 1 ≤ _ + 1
  omega
theorem valF_ok (v : Nat) : 1 ≤ (valF v).size ∧ (valF v).size ≤ 100 := by
  have e : (valF v).size = 2 := by
    unfold valF
    rw [dec1 (show v % 8 < 10 by omega), ByteArray.size_append]
    rfl
  omega
theorem chL_ok {L : List KV} (h : ∀ x ∈ L, KvOk x) (o : OpV) (most : Int) : ∀ x ∈ chL L o most, KvOk x := by
  intro x hx
  unfold chL at hx
  split at hx
  · unfold delL at hx
    rcases List.mem_append.1 hx with hx | hx
    · exact h x (List.mem_filter.1 hx).1
    · exact h x (List.mem_filter.1 hx).1
  · unfold putT at hx
    split at hx
    · unfold putL at hx
      rcases List.mem_append.1 hx with hx | hx
      · exact h x (List.mem_filter.1 hx).1
      · rcases List.mem_cons.1 hx with rfl | hx
        · exact ⟨keyF_ok _, valF_ok _⟩
        · exact h x (List.mem_filter.1 hx).1
    · exact h x hx
def BuiltPost (m : Nat) (w : World) (e : Ending) (w' : World) : Prop := ∃ T v, e = .returned (.tuple #[ptrN T.p, v, .bool true]) ∧ IsT w' T ∧ RowA w' v T.l ∧ T.l.length ≤ m ∧ (∀ x ∈ T.l, KvOk x) ∧ Below w.heap.size w w'
/-- the bytes of a pair -/
def encX (x : KV) : List UInt8 := (UInt8.ofNat x.k.size :: x.k.data.toList) ++ (UInt8.ofNat x.v.size :: x.v.data.toList)
def encXs (L : List KV) : List UInt8 := L.flatMap encX
theorem encXs_len : ∀ {L : List KV}, (∀ x ∈ L, KvOk x) → (encXs L).length ≤ 200 * L.length
  | [], _ => Nat.zero_le _
  | x :: L, h => by
    have ih := encXs_len (L := L) (fun y hy => h y (List.mem_cons_of_mem _ hy))
    obtain ⟨⟨_, h1⟩, _, h2⟩ := h x (List.mem_cons_self ..)
    have e : (encX x).length = x.k.size + x.v.size + 2 := by unfold encX; simp; omega
    show (encX x ++ encXs L).length ≤ _
    rw [List.length_append, e, List.length_cons]
    omega
theorem drop_rev {L : List KV} {k : Nat} {x : KV} (h : L[k]? = some x) : encXs (L.drop k).reverse = encXs (L.drop (k + 1)).reverse ++ encX x := by
  obtain ⟨hk, rfl⟩ := List.getElem?_eq_some_iff.1 h
  rw [List.drop_eq_getElem_cons hk, List.reverse_cons]
  unfold encXs
  rw [List.flatMap_append]; simp
theorem take_rev {L : List KV} {k : Nat} {x : KV} (h : L[k]? = some x) : encXs (L.take (k + 1)).reverse = encX x ++ encXs (L.take k).reverse := by
  rw [List.take_add_one, h]
  simp [encXs]
theorem put_front {L : List KV} {k : Nat} {x : KV} (hs : Srt L) (h : L[k]? = some x) (hx : KvOk x) : putT (L.drop (k + 1)) x = L.drop k := by
  obtain ⟨hk, rfl⟩ := List.getElem?_eq_some_iff.1 h
  have hp : permB L[k] = true := by
    obtain ⟨⟨_, h1⟩, _, h2⟩ := hx
    unfold permB
    simp; omega
  unfold putT
  rw [if_pos hp, List.drop_eq_getElem_cons hk]
  have hs2 : Srt (L.drop k) := List.Pairwise.sublist (List.drop_sublist ..) hs
  rw [List.drop_eq_getElem_cons hk] at hs2
  have h2 := (srt_cons.1 hs2).1
  have := putL_mid (a := []) (b := []) (c := L.drop (k + 1)) (p := L[k]) (fun x hx => by cases hx) h2
  rw [List.nil_append, List.nil_append, putL_nil] at this
  rw [this]; rfl
set_option maxRecDepth 100000 in
set_option maxHeartbeats 8000000 in
theorem builtQ_any (vl : Value) (ls : List OpV) (most : Int) (w : World) (hI : IsRow 3 encO w vl ls) (hok : ∀ x ∈ ls, OpOk x) (hn : ls.length ≤ 1000) (hm1 : 1 ≤ most) (hm2 : most ≤ 4000) :
    Calls Try.prog 18 #[vl, .int .i64 most] w (BuiltPost ls.length w) := by
  obtain ⟨pa, cap, rfl, _, hop⟩ := hI.open
  have HOP := Lib.hid hop; have HOK := Lib.hid hok
  clear hop hok hI
  go_enter Try.func18, Try.ntmps18
  go_wp2_with fail
  refine (new_any _).mono ?_
  rintro e w1 ⟨p, rfl, hT1, hp, hb1⟩
  clear hp
  have HT1 := Lib.hid hT1
  clear hT1
  go_wp2
  go_loopg [7, 8, 9] ls.length (fun kx s7 s8 s9 wr => ∃ (i : Nat) (T : Tre), s9 = .int .i64 i ∧ s7 = ptrN T.p ∧ i ≤ ls.length ∧ ls.length - i ≤ kx ∧ Hid (IsT wr T) ∧ Hid (RowA wr s8 T.l) ∧ Hid (T.l.length ≤ i) ∧ Hid (Below w.heap.size w wr) ∧ Hid (∀ x ∈ T.l, KvOk x))
  case atStart => exact ⟨0, ⟨p, [], 0, []⟩, rfl, rfl, by omega, Nat.le_refl _, HT1, Lib.hid (World.ownsRow_nil _ _ _ _), Lib.hid (Nat.le_refl _), Lib.hid hb1, Lib.hid (fun x hx => by cases hx)⟩
  case round =>
    clear HT1 hb1
    obtain ⟨i, T, rfl, rfl, hi, hm, HT, HV, HL, HB, HQ⟩ := hrel
    obtain ⟨pv, cv, rfl⟩ := row_slice HV.out
    by_cases hlt : i < ls.length
    · obtain ⟨x, hx⟩ : ∃ x, ls[i]? = some x := ⟨_, List.getElem?_eq_getElem hlt⟩
      have hxo := HOK.out x (List.mem_of_getElem? hx)
      obtain ⟨g, off, rfl, hg, hcell⟩ := HOP.out (by omega)
      have d0 := hcell i x hx 0 _ rfl
      have d1 := hcell i x hx 1 _ rfl
      have d2 := hcell i x hx 2 _ rfl
      rw [Nat.add_zero] at d0
      have c0 := (HB.out.cell (p := ⟨g, off + i * 3, none⟩) hg).trans d0
      have c1 := (HB.out.cell (p := ⟨g, off + i * 3 + 1, none⟩) hg).trans d1
      have c2 := (HB.out.cell (p := ⟨g, off + i * 3 + 2, none⟩) hg).trans d2
      have hch := change_any T x most wr HT.out hxo hm1 hm2 (by have := HL.out; omega)
      have hp1 : ∀ W, Below wr.heap.size wr W → Calls Try.prog 19 #[.slice pv T.l.length cv, .agg #[.int .u8 (x.a : Int), .int .i64 x.k, .int .u8 (x.v : Int)], .int .i64 most] W (RowPost (chL T.l x most) W) := fun W hb => put1_any T.l _ x most W (row_below HV.out hb) HT.out.1 hxo hm1 hm2 (by have := HL.out; omega)
      have hln := chL_len HT.out.1 x most
      have hqn := chL_ok HQ.out x most
      have HQN := Lib.hid hqn
      clear hqn
      have HCH := Lib.hid hch; have HP1 := Lib.hid hp1; have HD := Lib.hid (And.intro d0 (And.intro d1 d2)); have HLN := Lib.hid hln
      clear hch hp1 hcell hx d0 d1 d2 hln
      go_wp2_with fail
      refine HCH.out.mono ?_
      rintro e w2 ⟨T', rfl, hT', hl', _, hb2⟩
      have HT' := Lib.hid hT'; have HL' := Lib.hid hl'; have HB2 := Lib.hid hb2
      have hB2 := bl_trans HB.out hb2
      have e0 := (hB2.cell (p := ⟨g, off + i * 3, none⟩) hg).trans HD.out.1
      have e1 := (hB2.cell (p := ⟨g, off + i * 3 + 1, none⟩) hg).trans HD.out.2.1
      have e2 := (hB2.cell (p := ⟨g, off + i * 3 + 2, none⟩) hg).trans HD.out.2.2
      have HBW2 := Lib.hid hB2
      clear hT' hl' hb2 hB2 c0 c1 c2 HCH
      go_wp2_with fail
      refine (HP1.out _ HB2.out).mono ?_
      rintro e w3 ⟨v', rfl, hv', hb3⟩
      have HV' := Lib.hid hv'
      have hT3 := HT'.out.below hb3
      have HT3 := Lib.hid hT3
      have HB3 := Lib.hid (bl_trans HBW2.out hb3)
      clear hv' hb3 hT3 e0 e1 e2
      go_wp2
      go_roundg (ls.length - (i + 1))
      case measure => omega
      case rel => exact ⟨i + 1, T', by go_num, rfl, by omega, Nat.le_refl _, HT3, Lib.hid (by rw [HL'.out]; exact HV'.out), Lib.hid (by rw [HL'.out]; have := HLN.out; have := HL.out; omega), HB3, Lib.hid (by rw [HL'.out]; exact HQN.out)⟩
    · obtain rfl : i = ls.length := by omega
      go_wp2
      go_ret3
      exact ⟨T, _, rfl, HT.out, HV.out, HL.out, HQ.out, HB.out⟩
end Go.Proofs.Ytmkhnpkbaegchaa
/- The law TreeWire returns true at every input. Conditions: the list lies in memory, its elements are ops. -/
namespace Go.Proofs.Ytmkhnpkbaegchaa
open Go.RowKit

theorem RdAt.below {w w' : World} {B R : Nat} {bs : List UInt8} (h : RdAt w B R bs) (hb : Below w.heap.size w w') : RdAt w' B R bs := by
  obtain ⟨g, off, c, h1, h2, h3, h4, h5, h6⟩ := h
  exact ⟨g, off, c, h1.below hb h1.lt, h2, h3, Nat.lt_of_lt_of_le h4 hb.size, h5, fun j b hj => (hb.cell (p := ⟨g, off + j, none⟩) h4).trans (h6 j b hj)⟩
theorem wr_start {w w' : World} {Wb : Nat} (hW : Wb = w.heap.size) (h : Below (w.alloc (.cells #[.slice none 0 0] 75)).heap.size (w.alloc (.cells #[.slice none 0 0] 75)) w') : WrAt w' w.heap.size Wb [] := by
  subst hW
  exact ⟨.slice none 0 0, (Blk.new w _ _).below h (by simp), World.ownsRow_nil _ _ _ _, (fun e => by cases e), Nat.le_refl _⟩
theorem toNat_of {n : Nat} (h : n < 128) : (UInt8.ofNat n).toNat = n := by rw [UInt8.toNat_ofNat']; omega
set_option maxRecDepth 100000 in
set_option maxHeartbeats 8000000 in
theorem law_wire (vl : Value) (ls : List OpV) (w : World) (hI : IsRow 3 encO w vl ls) (hok : ∀ x ∈ ls, OpOk x) (hcap : ∃ a c, vl = .slice a ls.length c ∧ ls.length ≤ c) :
    Calls Try.prog 11 #[vl] w (Ret (.bool true) w) := by
  obtain ⟨pa, cap, rfl, hc⟩ := hcap
  have hlm : ls.length ≤ maxLen := hI.slice.choose_spec.choose_spec.2
  have hms : maxLen = 9223372036854775807 := rfl
  have hlm2 : ls.length ≤ 9223372036854775807 := by rw [← hms]; exact hlm
  obtain ⟨j, hj⟩ : ∃ j : Nat, j = min ls.length 20 := ⟨_, rfl⟩
  have hjl : j ≤ ls.length := by omega
  have hmin : min (ls.length : Int) 20 = (j : Int) := by omega
  have K3 : Calls Try.prog 18 #[.slice pa j cap, .int .i64 20] w (BuiltPost (ls.take j).length w) := builtQ_any _ (ls.take j) 20 w (hI.take hjl hlm) (fun x hx => hok x (List.mem_of_mem_take hx)) (by rw [List.length_take]; omega) (by omega) (by omega)
  have hjc : j ≤ cap := by omega
  have hj20 : (ls.take j).length ≤ 20 := by rw [List.length_take]; omega
  have HK3 := Lib.hid K3
  clear K3 hI hok hj hms hlm
  go_enter Try.func11, Try.ntmps11
  go_wp2_with fail
  refine HK3.out.mono ?_
  rintro e w1 ⟨T, v, rfl, hT, hvv, hl, hq, hb1⟩
  obtain ⟨pv, cv, rfl⟩ := row_slice hvv
  obtain ⟨N, hN⟩ : ∃ N, N = T.l.length := ⟨_, rfl⟩
  have hN20 : N ≤ 20 := by omega
  obtain ⟨L, hL⟩ : ∃ L, L = T.l := ⟨_, rfl⟩
  have hs : Srt L := by rw [hL]; exact hT.1
  have hrg : ∀ W, Below w1.heap.size w1 W → Calls Try.prog 13 #[ptrN T.p, .string ⟨#[]⟩, .string ⟨#[]⟩] W (OwnPost 63 2 (flatE encKV L) N W) := fun W hb => by
    have := range_any T ⟨#[]⟩ ⟨#[]⟩ W (hT.below hb) (by omega)
    rw [rangeL_all, ← hL, ← show N = L.length by rw [hL]; exact hN] at this
    exact this
  have hNL : N = L.length := by rw [hL]; exact hN
  rw [← hL] at hq
  obtain ⟨Wb, hWb⟩ : ∃ Wb, Wb = w1.heap.size := ⟨_, rfl⟩
  have HT := Lib.hid hT; have HLT := Lib.hid hL; have HQ := Lib.hid hq; have HB1 := Lib.hid hb1; have HRG := Lib.hid hrg; have HS := Lib.hid hs; have HNL := Lib.hid hNL; have HWB := Lib.hid hWb
  rw [← hN]
  clear hT hvv hl hq hb1 hrg hs hNL hN hL hj20 hc hjl hmin hjc hlm2 HK3
  go_upto_region 5 with (fail)
  rw [← HWB.out]
  clear hWb
  go_wp2_with fail
  refine (HRG.out _ (bl_alloc _ _)).mono ?_
  rintro e w2 ⟨pr, rfl, hpr, hb2⟩
  have hA := wr_start HWB.out hb2
  have hB2 : Below w1.heap.size w1 w2 := bl_trans (bl_alloc w1 _) hb2
  obtain ⟨pp, cp, rfl⟩ := row_slice hpr
  have hu := wuint_any w1.heap.size Wb N [] w2 hA (by omega) (by simp)
  have hcells : ∀ W i x, TyKeep w2 W → L[i]? = some x → ∃ g, pp = some ⟨g, 0, none⟩ ∧ W.cell? ⟨g, i * 2, none⟩ = some (.string x.k) ∧ W.cell? ⟨g, i * 2 + 1, none⟩ = some (.string x.v) := fun W i x hW hx => by
    have hr : RowA w2 (.slice pp N cp) L := by
      have := row_base hpr (Nat.zero_le _)
      rwa [HNL.out] at this ⊢
    obtain ⟨pa, c, e, _, _, ho⟩ := RowA.open hr
    cases e
    obtain ⟨g, cur, rfl, _, hblk, _, hce⟩ := ho (by have := (List.getElem?_eq_some_iff.1 hx).1; omega)
    obtain ⟨h1, h2⟩ := hce i x hx
    have hb := hW g _ _ hblk (by decide) (by decide)
    exact ⟨g, rfl, (hb.cell _).trans ((hblk.cell _).symm.trans h1), (hb.cell _).trans ((hblk.cell _).symm.trans h2)⟩
  have HU := Lib.hid hu; have HCE := Lib.hid hcells; have HB2 := Lib.hid hB2
  clear hA hb2 hB2 hpr hu hcells HRG
  go_wp2_with fail
  refine HU.out.mono ?_
  rintro e w3 ⟨rfl, hA3, hB3, hK3⟩
  have HA3 := Lib.hid hA3; have HB3 := Lib.hid (HB2.out.trans hB3); have HK3 := Lib.hid hK3
  clear hA3 hB3 hK3 HU
  go_wp2
  go_loopg [8] N (fun kx s8 wr => ∃ (k : Nat) (z : Int), s8 = .int .i64 z ∧ z + 1 = (k : Int) ∧ k ≤ N ∧ k ≤ kx ∧ Hid (WrAt wr w1.heap.size Wb (UInt8.ofNat N :: encXs (L.drop k).reverse)) ∧ Hid (Below w1.heap.size w1 wr) ∧ Hid (TyKeep w2 wr))
  case atStart =>
    refine ⟨N, (N : Int) - 1, by go_num, by omega, Nat.le_refl _, Nat.le_refl _, Lib.hid ?_, HB3, HK3⟩
    rw [List.drop_eq_nil_of_le (by rw [HNL.out]; exact Nat.le_refl _)]
    exact HA3.out
  case round =>
    clear HA3 HB3 HK3
    obtain ⟨k, z, rfl, hz, hk, hm, HA, HB, HK⟩ := hrel
    by_cases hz0 : 0 ≤ z
    · obtain ⟨i, rfl⟩ : ∃ i : Nat, z = (i : Int) := ⟨z.toNat, by omega⟩
      obtain rfl : k = i + 1 := by omega
      obtain ⟨x, hx⟩ : ∃ x, L[i]? = some x := ⟨_, List.getElem?_eq_getElem (by have := HNL.out; omega)⟩
      obtain ⟨g, rfl, c0, c1⟩ := HCE.out wr i x HK.out hx
      have hxo := HQ.out x (List.mem_of_getElem? hx)
      have hbl : (UInt8.ofNat N :: encXs (L.drop (i + 1)).reverse).length ≤ 5000 := by
        have := encXs_len (L := (L.drop (i + 1)).reverse) (fun y hy => HQ.out y (List.mem_of_mem_drop (List.mem_reverse.1 hy)))
        rw [List.length_reverse, List.length_drop] at this
        rw [List.length_cons]
        have := HNL.out
        omega
      have hk1 := wtext_any w1.heap.size Wb x.k _ wr HA.out (by have := hxo.1.2; omega) (by omega)
      have HK1 := Lib.hid hk1; have HX := Lib.hid hx; have HXO := Lib.hid hxo; have HBL := Lib.hid hbl
      clear hk1 hx hxo hbl
      go_wp2_with fail
      refine HK1.out.mono ?_
      rintro e w4 ⟨rfl, hA4, hB4, hK4⟩
      have hk4 := HK.out.trans hK4
      obtain ⟨g', e', d0, d1⟩ := HCE.out w4 i x hk4 HX.out
      obtain rfl : g = g' := by cases e'; rfl
      have hk2 := wtext_any w1.heap.size Wb x.v _ w4 hA4 (by have := HXO.out.2.2; omega) (by
        have h1 := HBL.out
        have h2 : x.k.data.toList.length = x.k.size := by simp
        rw [List.length_append, List.length_cons (a := UInt8.ofNat x.k.size), h2]
        have := HXO.out.1.2
        omega)
      have HK2 := Lib.hid hk2; have HB4 := Lib.hid (HB.out.trans hB4); have HK4 := Lib.hid hk4
      clear hA4 hB4 hK4 hk4 hk2 c0 c1 e' HK1
      go_wp2_with fail
      refine HK2.out.mono ?_
      rintro e w5 ⟨rfl, hA5, hB5, hK5⟩
      have hA6 : WrAt w5 w1.heap.size Wb (UInt8.ofNat N :: encXs (L.drop i).reverse) := by
        rw [drop_rev HX.out]
        have e : UInt8.ofNat N :: (encXs (L.drop (i + 1)).reverse ++ encX x) = ((UInt8.ofNat N :: encXs (L.drop (i + 1)).reverse) ++ UInt8.ofNat x.k.size :: x.k.data.toList) ++ UInt8.ofNat x.v.size :: x.v.data.toList := by
          unfold encX
          simp
        rw [e]
        exact hA5
      have HA6 := Lib.hid hA6; have HB6 := Lib.hid (HB4.out.trans hB5); have HK6 := Lib.hid (HK4.out.trans hK5)
      clear hA5 hB5 hK5 hA6 d0 d1 HK2
      go_wp2
      go_roundg i
      case measure => omega
      case rel => exact ⟨i, (i : Int) - 1, by go_num, by omega, by omega, Nat.le_refl _, HA6, HB6, HK6⟩
    · obtain rfl : k = 0 := by omega
      rw [List.drop_zero] at HA
      have hbl : (UInt8.ofNat N :: encXs L.reverse).length ≤ 5000 := by
        have := encXs_len (L := L.reverse) (fun y hy => HQ.out y (List.mem_reverse.1 hy))
        rw [List.length_reverse] at this
        rw [List.length_cons]
        have := HNL.out
        omega
      have hd := done_any w1.heap.size Wb _ wr HA.out (by omega)
      have HD := Lib.hid hd; have HBL := Lib.hid hbl
      clear hd hbl
      go_wp2_with fail
      refine HD.out.mono ?_
      rintro e w4 ⟨v4, rfl, ho4, hb4⟩
      have hnr := newr_any _ _ v4 w4 ho4 (by simp) (by have := HBL.out; omega)
      obtain ⟨p4, c4, rfl⟩ := row_slice ho4
      have HNR := Lib.hid hnr; have HB4 := Lib.hid (HB.out.trans (hb4.mono HB.out.size))
      clear ho4 hb4 hnr HD HA
      go_wp2_with fail
      refine HNR.out.mono ?_
      rintro e w5 ⟨R, rfl, hR, hb5⟩
      have hRB : w1.heap.size ≤ R := by
        obtain ⟨_, _, _, _, h, _⟩ := hR
        exact Nat.le_trans HB4.out.size h
      have HR := Lib.hid hR; have HB5 := Lib.hid (HB4.out.trans (hb5.mono HB4.out.size))
      clear hR hb5 HNR HB
      go_wp2_with fail
      refine (new_any _).mono ?_
      rintro e w6 ⟨q, rfl, hU, hq5, hb6⟩
      have hR6 := HR.out.below hb6
      have hRq : q ≠ R := by
        obtain ⟨_, _, _, h, _⟩ := HR.out
        have := h.lt
        omega
      have hru := ruint_any w4.heap.size R (UInt8.ofNat N) _ w6 hR6 (by rw [toNat_of (by omega)]; omega) (by have := HBL.out; rw [List.length_cons] at this; omega)
      rw [toNat_of (by omega)] at hru
      have q1 : ((N : Nat) : Int).tmod 100 = (N : Int) := by rw [Int.tmod_eq_emod_of_nonneg (by omega)]; omega
      have hUF : IsTF (fun r => r ≠ R) w6 ⟨q, [], 0, []⟩ := by
        obtain ⟨h1, h2 | ⟨_, _, _, _, _, _, _, _, h⟩⟩ := hU
        · exact ⟨hRq, h1, .inl h2⟩
        · cases h
      have HUF := Lib.hid hUF; have HRU := Lib.hid hru; have HB6 := Lib.hid (HB5.out.trans (hb6.mono HB5.out.size))
      clear hR6 hRq hru hUF hU hb6 hq5 HR HB5 HB4
      go_wp2_with fail
      refine HRU.out.mono ?_
      rintro e w7 ⟨rfl, hR7, hg7⟩
      have hU7 := HUF.out.grown hg7 (fun r e hf => hf (Option.some.inj e).symm)
      have hB7 : Below w1.heap.size w1 w7 := HB6.out.grown hg7 HB6.out.size (fun k e => by cases e; exact hRB)
      have HU7 := Lib.hid hU7; have HR7 := Lib.hid hR7; have HB7 := Lib.hid hB7
      clear hU7 hR7 hB7 hg7 HUF HRU HB6
      go_wp2
      go_loopg [10, 12, 13] N (fun kx s10 s12 s13 wr => ∃ (i : Nat) (U : Tre), s12 = .int .i64 i ∧ s10 = ptrN U.p ∧ i ≤ N ∧ N - i ≤ kx ∧ Hid (IsTF (fun r => r ≠ R) wr U) ∧ Hid (U.l = L.drop (N - i)) ∧ Hid (RdAt wr w4.heap.size R (encXs (L.take (N - i)).reverse)) ∧ Hid (Below w1.heap.size w1 wr))
      case atStart =>
        refine ⟨0, ⟨q, [], 0, []⟩, rfl, rfl, Nat.zero_le _, Nat.le_refl _, HU7, Lib.hid (by show [] = _; rw [Nat.sub_zero, List.drop_eq_nil_of_le (by rw [HNL.out]; exact Nat.le_refl _)]), Lib.hid ?_, HB7⟩
        rw [Nat.sub_zero, List.take_of_length_le (by rw [HNL.out]; exact Nat.le_refl _)]
        exact HR7.out
      case round =>
        clear HU7 HR7 HB7 q1
        obtain ⟨i, U, rfl, rfl, hi, hm3, HU, HUL, HR, HB⟩ := hrel
        by_cases hin : i < N
        · obtain ⟨m, hm⟩ : ∃ m, N - i = m + 1 := ⟨N - i - 1, by omega⟩
          obtain ⟨x, hx⟩ : ∃ x, L[m]? = some x := ⟨_, List.getElem?_eq_getElem (by have := HNL.out; omega)⟩
          have hxo := HQ.out x (List.mem_of_getElem? hx)
          rw [hm, take_rev hx] at HR
          rw [hm] at HUL
          have hel := encXs_len (L := (L.take m).reverse) (fun y hy => HQ.out y (List.mem_of_mem_take (List.mem_reverse.1 hy)))
          rw [List.length_reverse, List.length_take] at hel
          have e1 : encX x ++ encXs (L.take m).reverse = UInt8.ofNat x.k.size :: (x.k.data.toList ++ (UInt8.ofNat x.v.size :: (x.v.data.toList ++ encXs (L.take m).reverse))) := by unfold encX; simp
          rw [e1] at HR
          have hvl : x.v.data.toList.length = x.v.size := by simp
          have ht1 := rtext_any w4.heap.size R 60 x.k _ wr HR.out hxo.1.1 (by have := hxo.1.2; omega) (by rw [List.length_cons, List.length_append, hvl]; have := hxo.2.2; omega) hxo.1.2 (by omega)
          have HT1 := Lib.hid ht1; have HX := Lib.hid hx; have HXO := Lib.hid hxo; have HM := Lib.hid hm
          have hel2 : (encXs (L.take m).reverse).length ≤ 5000 := by omega
          clear ht1 hx hxo hm e1 hvl hel
          go_wp2_with fail
          refine HT1.out.mono ?_
          rintro e w8 ⟨rfl, hR8, hg8⟩
          have hU8 := HU.out.grown hg8 (fun r e hf => hf (Option.some.inj e).symm)
          have hB8 : Below w1.heap.size w1 w8 := HB.out.grown hg8 HB.out.size (fun k e => by cases e; exact hRB)
          have ht2 := rtext_any w4.heap.size R 1000 x.v _ w8 hR8 HXO.out.2.1 (by have := HXO.out.2.2; omega) (by omega) (by have := HXO.out.2.2; omega) (by omega)
          have HT2 := Lib.hid ht2; have HU8 := Lib.hid hU8; have HB8 := Lib.hid hB8
          clear ht2 hU8 hB8 hR8 hg8 HT1 hel2
          go_wp2_with fail
          refine HT2.out.mono ?_
          rintro e w9 ⟨rfl, hR9, hg9⟩
          have hU9 := HU8.out.grown hg9 (fun r e hf => hf (Option.some.inj e).symm)
          have hB9 : Below w1.heap.size w1 w9 := HB8.out.grown hg9 HB8.out.size (fun k e => by cases e; exact hRB)
          have hRl : R < w9.heap.size := by
            obtain ⟨_, _, _, h, _⟩ := hR9
            exact h.lt
          have hput := tputF_any U x w9 hU9 (fun b hb => by omega) (by rw [HUL.out, List.length_drop]; have := HNL.out; omega)
          have HP := Lib.hid hput; have HR9 := Lib.hid hR9; have HB9 := Lib.hid hB9
          clear hU9 hB9 hRl hput hR9 hg9 HT2 HU8 HB8
          go_wp2_with fail
          refine HP.out.mono ?_
          rintro e w10 ⟨U', rfl, hU', hl', _, _, hb10⟩
          have hl2 : U'.l = L.drop (N - (i + 1)) := by
            rw [hl', HUL.out, put_front HS.out HX.out HXO.out]
            congr 1
            have := HM.out
            omega
          have hR10 : RdAt w10 w4.heap.size R (encXs (L.take (N - (i + 1))).reverse) := by
            have e : N - (i + 1) = m := by have := HM.out; omega
            rw [e]
            exact HR9.out.below hb10
          have HL2 := Lib.hid hl2; have HR10 := Lib.hid hR10; have HU10 := Lib.hid hU'; have HB10 := Lib.hid (HB9.out.trans (hb10.mono HB9.out.size))
          clear hl2 hR10 hU' hl' hb10
          go_wp2
          go_roundg (N - (i + 1))
          case measure => omega
          case rel => exact ⟨i + 1, U', by go_num, rfl, by omega, Nat.le_refl _, HU10, HL2, HR10, HB10⟩
        · obtain rfl : i = N := by omega
          rw [Nat.sub_self, List.drop_zero] at HUL
          rw [Nat.sub_self, List.take_zero] at HR
          have hend := rend_any w4.heap.size R wr HR.out
          have hTw := HT.out.below HB.out
          have hUT := HU.out.isT
          have hdf := diff_any T U wr hTw hUT (by rw [← HLT.out, ← HNL.out]; omega) (by rw [HUL.out, ← HNL.out]; omega)
          rw [HUL.out, HLT.out, difF_same hTw.1] at hdf
          have hle : ∀ W, Below wr.heap.size wr W → Calls Try.prog 16 #[ptrN U.p] W (Pur (.int .i64 i) W) := fun W hb => by
            have := len_any U W (hUT.below hb)
            rwa [HUL.out, ← HNL.out] at this
          have HE := Lib.hid hend; have HDF := Lib.hid hdf; have HLE := Lib.hid hle
          clear hend hTw hUT hdf hle
          go_wp2_with fail
          refine HE.out.mono ?_
          rintro e w' ⟨rfl, rfl⟩
          go_wp2_with fail
          refine HDF.out.mono ?_
          rintro e w11 ⟨v11, rfl, ho11, hb11⟩
          obtain ⟨p11, c11, rfl⟩ := row_slice ho11
          have HB11 := Lib.hid hb11
          clear ho11 hb11
          go_wp2_with fail
          refine (HLE.out _ HB11.out).mono ?_
          rintro e w' ⟨rfl, rfl⟩
          go_wp2_with fail
          refine (lives_any _).mono ?_
          rintro e w12 ⟨rfl, hb12⟩
          go_wp2
          go_ret
          exact ⟨rfl, bl_trans HB1.out (HB.out.trans ((HB11.out.mono HB.out.size).trans (hb12.mono (Nat.le_trans HB.out.size HB11.out.size))))⟩
end Go.Proofs.Ytmkhnpkbaegchaa
