/- The iterator over the days that are looked at. Conditions: the steps are of at most one day. -/
import Derived.Test.YtiilljcnikgeaaaDoorCMem
import Derived.Test.YtiilljcnikgeaaaDoorKItM
namespace Go.Proofs.YtiilljcnikgeaaaDoor
open Go.RowKit
attribute [local go_sem] Oper.semAt_some

abbrev daysF (Bd Bs : Nat) : Value := .func (.func 75) #[] #[.pointer (some ⟨Bd, 0, none⟩), .pointer (some ⟨Bs, 0, none⟩)]
set_option maxHeartbeats 1000000 in
theorem days_any (n : Nat) (d s : Int) (w : World) :
    CallsIn Fence.wide n Tryd.prog 55 #[.int .i64 d, .int .i64 s] w fun e w' => e = .returned (daysF w.heap.size (w.heap.size + 1)) ∧ w' = (w.alloc (.cells #[.int .i64 d] 3)).alloc (.cells #[.int .i64 s] 3) := by
  refine callsIn_of_wp Tryd.func55 rfl trivial ?_ rfl
  simp only [Tryd.ntmps55, List.size_toArray, List.length_cons, List.length_nil, Nat.reduceAdd, Nat.reduceSub, Array.replicate_succ, Array.replicate_zero, List.push_toArray, List.append_toArray, List.nil_append, List.cons_append]
  gi_wp2
  go_ret
  exact ⟨rfl, rfl⟩
def encD (x : Int) : Array Value := #[.int .i64 x]
theorem AbidesM.set {β : Type} {M : Nat → Prop} {J : β → World → Prop} {s : β} {w : World} {g : Nat} (hJ : AbidesM M J) (hs : J s w) (hM : M g) (i : Nat) (v : Value) : J s (w.setCell ⟨g, i, none⟩ v) :=
  hJ _ _ _ _ hs (grown_setAt w g i v) (fun r e => by cases e; exact hM)
theorem daysL_yes {n : Nat} {d s : Int} (h : inD d = true) (hn : 0 < n) : daysL n d s = d :: daysL (n - 1) (d + s) s := by
  match n, hn with
  | n + 1, _ => show (if inD d then d :: daysL n (d + s) s else []) = _; rw [if_pos h]; rfl
theorem daysL_no {n : Nat} {d s : Int} (h : inD d = false) : daysL n d s = [] := by
  cases n with
  | zero => rfl
  | succ n => show (if inD d then d :: daysL n (d + s) s else []) = _; rw [if_neg (by simp [h])]
set_option maxRecDepth 100000 in
set_option maxHeartbeats 4000000 in
theorem days1_in (n : Nat) (_hn : 1 ≤ n) (l Bd Bs : Nat) (d0 s : Int) (hs1 : -1 ≤ s) (hs2 : s ≤ 1) (hne : Bd ≠ Bs) (J Jx : List Int → World → Prop) (p : Int → Prop) (hp : ∀ x, x ∈ daysL 1001 d0 s → p x)
    (W : World) (hJ : AbidesM (fun r => r = Bd) J)
    (hY : ∀ pre x W1, J pre W1 → p x → pre.length < 1001 → YieldAt Fence.wide (n - 1) Tryd.prog l (encD x) W1 fun e W' =>
      (e = .returned (.bool true) ∧ J (pre ++ [x]) W' ∧ KeepM (fun r => r = Bd ∨ r = Bs) W1 W') ∨ (e = .returned (.bool false) ∧ Jx (pre ++ [x]) W'))
    (hd0 : -1000000000000 ≤ d0) (hd1 : d0 ≤ 1000000000000)
    (bD : Blk W Bd 3 #[.int .i64 d0]) (bS : Blk W Bs 3 #[.int .i64 s]) (h0 : J [] W) :
    CallsIn Fence.wide n Tryd.prog 75 #[.func (.yield l) #[] #[], .pointer (some ⟨Bd, 0, none⟩), .pointer (some ⟨Bs, 0, none⟩)] W fun e W' => (∃ v, e = .returned v) ∧
      ((∃ ys, ys = daysL 1001 d0 s ∧ J ys W') ∨ (∃ pre, pre <+: daysL 1001 d0 s ∧ Jx pre W')) := by
  refine callsIn_of_wp Tryd.func75 rfl trivial ?_ rfl
  simp only [Tryd.ntmps75, List.size_toArray, List.length_cons, List.length_nil, Nat.reduceAdd, Nat.reduceSub, Array.replicate_succ, Array.replicate_zero, List.push_toArray, List.append_toArray, List.nil_append, List.cons_append]
  gi_wp2
  gi_loopw [4] (fun i wr => ∃ (k : Nat) (pre : List Int) (d : Int), k ≤ 1001 ∧ i = .int .i64 k ∧ Hid (pre.length = k) ∧ Hid (daysL 1001 d0 s = pre ++ daysL (1001 - k) d s) ∧ -1000000000001 ≤ d ∧ d ≤ 1000000000001 ∧ Blk wr Bd 3 #[.int .i64 d] ∧ Blk wr Bs 3 #[.int .i64 s] ∧ J pre wr)
    (fun i _ => 1001 - (intOf i).toNat)
  case atStart => exact ⟨0, [], d0, Nat.zero_le _, rfl, rfl, rfl, by omega, by omega, bD, bS, h0⟩
  case round =>
    obtain ⟨k, pre, d, hk, rfl, hpre, hseg, hd1, hd2, bD', bS', hJs⟩ := hrel
    have c0 := bD'.cell 0
    have c1 := bS'.cell 0
    have f0 := bD'.frozen 0
    simp at c0 c1
    have hwi : ∀ w, Calls Tryd.prog 30 #[.int .i64 d] w (Pur (.bool (inD d)) w) := fun w => cwithin_any d w
    by_cases hlt : k ≤ 1000
    · cases hin : inD d
      · rw [hin] at hwi
        have hend := daysL_no (n := 1001 - k) (s := s) hin
        have HE := Lib.hid hend; have HW := Lib.hid hwi
        clear hend hwi hin
        gi_wp2_with (refine ⟨trivial, ?_⟩; gi_at_call 30; refine (callsIn_wide.2 (HW.out _)).mono ?_; rintro e w' ⟨rfl, rfl⟩)
        go_end0
        exact ⟨⟨_, rfl⟩, .inl ⟨pre, by rw [hseg.out, HE.out, List.append_nil], hJs⟩⟩
      · rw [hin] at hwi
        have hnx := daysL_yes (n := 1001 - k) (s := s) hin (by omega)
        have hdd := inD_iff.1 hin
        obtain ⟨hd3, hd4⟩ := hdd
        have hpl : pre.length < 1001 := by rw [hpre.out]; omega
        have hmem : d ∈ daysL 1001 d0 s := by rw [hseg.out, hnx]; simp
        obtain ⟨fn, tmps, assign, body, hy, hR⟩ := hY pre d _ hJs (hp _ hmem) hpl
        dsimp only [encD] at hy
        have HN := Lib.hid hnx; have HW := Lib.hid hwi
        clear hnx hwi hin hJs hpl hmem
        gi_wp2_with (refine ⟨trivial, ?_⟩; gi_at_call 30; refine (callsIn_wide.2 (HW.out _)).mono ?_; rintro e w' ⟨rfl, rfl⟩)
        refine hR.mono ?_
        rintro e W3 (⟨rfl, hJ3, hk3⟩ | ⟨rfl, hJx3⟩)
        · have bD3 : Blk W3 Bd 3 #[.int .i64 d] := (hk3.2 Bd (.inl rfl)).trans bD'
          have bS3 : Blk W3 Bs 3 #[.int .i64 s] := (hk3.2 Bs (.inr rfl)).trans bS'
          clear c0 c1 f0 hy hR
          have c0 := bD3.cell 0
          have c1 := bS3.cell 0
          have f0 := bD3.frozen 0
          simp at c0 c1
          gi_wp2
          go_roundw
          case rel =>
            refine ⟨k + 1, pre ++ [d], d + s, by omega, by go_num, ?_, ?_, by omega, by omega, bD3.set 0 _, bS3.far (fun e => hne e.symm) _, hJ.set hJ3 rfl 0 _⟩
            · show _ = _; rw [List.length_append, hpre.out]; rfl
            · show _ = _; rw [hseg.out, HN.out, List.append_assoc]; rfl
          case measure => simp [intOf]; omega
        · gi_wp2
          refine bodyPost_ret (results_none rfl _ _ _) rfl ?_
          exact ⟨⟨_, rfl⟩, .inr ⟨pre ++ [d], by rw [hseg.out, HN.out]; exact ⟨daysL (1001 - k - 1) (d + s) s, by simp⟩, hJx3⟩⟩
    · have hk9 : 1001 - k = 0 := by omega
      have HK := Lib.hid hk9
      have e1 : decide ((k : Int) ≤ 1000) = false := decide_eq_false (by omega)
      clear hwi hk9
      gi_wp2
      refine ⟨trivial, ?_⟩
      gi_wp2
      go_end0
      exact ⟨⟨_, rfl⟩, .inl ⟨pre, by rw [hseg.out, HK.out]; exact (List.append_nil _).symm, hJs⟩⟩
/-- **days(d, s) hands back a value that stops**: all of the days in order, or a prefix of them -/
theorem days_stops (n : Nat) (hn : 1 ≤ n) (Bd Bs : Nat) (d s : Int) (hs1 : -1 ≤ s) (hs2 : s ≤ 1) (hne : Bd ≠ Bs) (hd0 : -1000000000000 ≤ d) (hd1 : d ≤ 1000000000000) (w : World) (bD : Blk w Bd 3 #[.int .i64 d]) (bS : Blk w Bs 3 #[.int .i64 s]) (p : Int → Prop) (hp : ∀ x, x ∈ daysL 1001 d s → p x) :
    SeqStopsM (fun r => r = Bd ∨ r = Bs) p Fence.wide n Tryd.prog 75 #[.pointer (some ⟨Bd, 0, none⟩), .pointer (some ⟨Bs, 0, none⟩)] encD (KeepM (fun r => r = Bd ∨ r = Bs)) (fun ys => ys = daysL 1001 d s) (fun pre => pre <+: daysL 1001 d s) 1001 w := fun l J Jx W hW _ hJ _ hY h0 =>
  days1_in n hn l Bd Bs d s hs1 hs2 hne J Jx p hp W (fun s' A B row h1 h2 h3 => hJ s' A B row h1 h2 (fun r e => .inl (h3 r e))) hY hd0 hd1 ((hW Bd (.inl rfl)).trans bD) ((hW Bs (.inr rfl)).trans bS) h0
end Go.Proofs.YtiilljcnikgeaaaDoor
