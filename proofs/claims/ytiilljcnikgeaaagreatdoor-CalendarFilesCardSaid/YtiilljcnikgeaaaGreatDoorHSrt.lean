/- slices.SortStableFunc on a row of kept days that the call has made. Conditions: fewer than 20 of them. -/
import Derived.Test.YtiilljcnikgeaaaGreatDoorKSrt
import Derived.Test.YtiilljcnikgeaaaGreatDoorHArr
namespace Go.Proofs.YtiilljcnikgeaaaGreatDoor
open Go.RowKit Go.Sort Go.Lib Go.Shelf

def insRen : Ren := ⟨fun | 20 => 116 | n => n, fun | 0 => 0 | 3 => 3 | 4 => 4 | 22 => 108 | 24 => 111 | 25 => 125 | n => n, fun | n => n⟩
theorem insLays : SlLaysF0.n20 Tryz.prog insRen := {
  mixed := by kernel_rfl
  f20 := ⟨ "slices.insertionSortCmpFunc[rollbook/api.Named]", by decide, Tryz.func116.trans (congrArg some (by kernel_rfl))⟩
  t0 := Tryz.underlying0
  a0 := Tryz.isAgg0
  z0 := Tryz.sizeOf0
  v0 := Tryz.zeroValue0
  t3 := Tryz.underlying3
  a3 := Tryz.isAgg3
  z3 := Tryz.sizeOf3
  v3 := Tryz.zeroValue3
  t4 := Tryz.underlying4
  a4 := Tryz.isAgg4
  z4 := Tryz.sizeOf4
  v4 := Tryz.zeroValue4
  t22 := Tryz.underlying108
  a22 := Tryz.isAgg108
  z22 := Tryz.sizeOf108
  v22 := Tryz.zeroValue108
  t25 := Tryz.underlying125
  a25 := Tryz.isAgg125
  z25 := Tryz.sizeOf125
  v25 := Tryz.zeroValue125 }

/-- cmp.Compare on ints -/
def cmpI (x y : Int) : Int := if x < y then -1 else if y < x then 1 else 0
set_option maxHeartbeats 400000 in
theorem isnan_any (x : Int) (w : World) : Calls Tryz.prog 108 #[.int .i64 x] w (Pur (.bool false) w) := by
  have h : (x != x) = false := by simp
  go_enter Tryz.func108, Tryz.ntmps108
  go_wp2
  go_ret
  exact ⟨ret_bool (by simp), rfl⟩
set_option maxHeartbeats 1000000 in
theorem compare_any (x y : Int) (w : World) : Calls Tryz.prog 111 #[.int .i64 x, .int .i64 y] w (Pur (.int .i64 (cmpI x y)) w) := by
  by_cases h1 : x < y
  · have e : cmpI x y = -1 := by unfold cmpI; rw [if_pos h1]
    have H := Lib.hid e; clear e
    go_enter Tryz.func111, Tryz.ntmps111
    go_wp2_with fail
    refine (isnan_any _ _).mono ?_
    rintro e w' ⟨rfl, rfl⟩
    go_wp2_with fail
    refine (isnan_any _ _).mono ?_
    rintro e w' ⟨rfl, rfl⟩
    go_wp2
    go_ret
    exact ⟨ret_int H.out.symm, rfl⟩
  · by_cases h2 : y < x
    · have e : cmpI x y = 1 := by unfold cmpI; rw [if_neg h1, if_pos h2]
      have H := Lib.hid e; clear e
      go_enter Tryz.func111, Tryz.ntmps111
      go_wp2_with fail
      refine (isnan_any _ _).mono ?_
      rintro e w' ⟨rfl, rfl⟩
      go_wp2_with fail
      refine (isnan_any _ _).mono ?_
      rintro e w' ⟨rfl, rfl⟩
      go_wp2
      go_ret
      exact ⟨ret_int H.out.symm, rfl⟩
    · have e : cmpI x y = 0 := by unfold cmpI; rw [if_neg h1, if_neg h2]
      have H := Lib.hid e; clear e
      go_enter Tryz.func111, Tryz.ntmps111
      go_wp2_with fail
      refine (isnan_any _ _).mono ?_
      rintro e w' ⟨rfl, rfl⟩
      go_wp2_with fail
      refine (isnan_any _ _).mono ?_
      rintro e w' ⟨rfl, rfl⟩
      go_wp2
      go_ret
      exact ⟨ret_int H.out.symm, rfl⟩
set_option maxHeartbeats 1000000 in
theorem cmpN_any (x y : Int × Int) (W : World) : Calls Tryz.prog 110 #[.agg #[.int .i64 x.1, .int .i64 x.2], .agg #[.int .i64 y.1, .int .i64 y.2]] W fun e w' => e = .returned (.int .i64 (cmpI x.1 y.1)) ∧ ∃ q os', w' = grow (W.drewN q) os' := by
  have hcon := fun W' => compare_any x.1 y.1 W'
  generalize cmpI x.1 y.1 = r at hcon ⊢
  have HC := Lib.hid hcon; clear hcon
  go_enter Tryz.func110, Tryz.ntmps110
  go_wp2_with fail
  refine (HC.out _).mono ?_
  rintro e w' ⟨rfl, rfl⟩
  go_wp2
  go_ret
  exact ⟨rfl, 0, _, by rw [alloc_eq_grow, alloc_eq_grow, grow_grow]; rfl⟩
theorem ltN (x y : Int × Int) : ltOf (fun x y : Int × Int => cmpI x.1 y.1) x y = decide (x.1 < y.1) := by
  unfold ltOf cmpI
  by_cases h1 : x.1 < y.1
  · simp [h1]
  · by_cases h2 : y.1 < x.1 <;> simp [h1, h2]
def SortNPost (B : Nat) (v : Value) (l : List (Int × Int)) (w : World) (e : Ending) (w' : World) : Prop :=
  e = .returned (.tuple #[]) ∧ w'.ownsRow B 111 2 v l.length (flatE encN (stab (fun p : Int × Int => p.1) l)) ∧ w.grownBy w' v.ownBlock
theorem ins_row {B g cap : Nat} {cur : Array Value} {l : List (Int × Int)} {w : World} (hg : B ≤ g) (hh : w.heap[g]? = some (.cells cur 111 (0, 0))) (hn : l.length ≤ cap) (hcap : cap ≤ maxLen) (hsz : cur.size = cap * 2) (htake : cur.toList.take (l.length * 2) = flatE encN l) (hl : l.length < 4611686018427387904) :
    Calls Tryz.prog 116 #[.slice (some ⟨g, 0, none⟩) l.length cap, .int .i64 0, .int .i64 l.length, .func (.func 110) #[] #[]] w (SortNPost B (.slice (some ⟨g, 0, none⟩) l.length cap) l w) := by
  have eg : ∀ args w, (callFunc 110 args).run Tryz.prog w = .ok (.enter 110 args) w := enters_of Tryz.func110 (by kernel_rfl) rfl
  have hcon := AnyQ.insertionSortCmpFunc insLays 2 Tryz.isAgg111 Tryz.sizeOf111 encN (fun _ => rfl) (fun x v hv => by simp [encN] at hv; rcases hv with rfl | rfl <;> rfl) (fun x y => cmpI x.1 y.1) 110 #[] g 0 cap 0 l.length l.toArray w eg
    (fun m os dk hs x y => cmpN_any x y _) (holdsK_of_row encN_len hh htake) (Array.getElem?_eq_some_iff.1 hh).1 (Nat.zero_le _) (by simp) (by simpa using hl)
  refine Calls.mono hcon ?_
  rintro e w' ⟨rfl, n, os, rfl⟩
  have e0 : ltOf (fun x y : Int × Int => cmpI x.1 y.1) = fun a b => decide (a.1 < b.1) := by funext x y; exact ltN x y
  have e1 : (Sort.insertionSort (ltOf fun x y : Int × Int => cmpI x.1 y.1) l.toArray 0 l.length) = (stab (fun p : Int × Int => p.1) l).toArray := by
    apply Array.toList_inj.1
    rw [e0]
    have := sort_stab (fun p : Int × Int => p.1) l.toArray
    simpa using this
  rw [e1]
  exact ⟨rfl, ownsRow_sortK encN_len (stab_len _ l) hg hh hn hcap hsz, grownBy_sortK _⟩
set_option maxHeartbeats 1000000 in
theorem ins_none (p : Option Addr) (cap : Nat) (fv : Value) (w : World) : Calls Tryz.prog 116 #[.slice p 0 cap, .int .i64 0, .int .i64 0, fv] w (Pur (.tuple #[]) w) := by
  go_enter Tryz.func116, Tryz.ntmps116
  go_wp2
  go_loop [8] (fun i => i = .int .i64 1) (fun _ => 0)
  case atStart => rfl
  case round =>
    subst hrel
    go_wp2
    go_end0
    exact ⟨rfl, rfl⟩
def StEnd (Q : Ending → World → Prop) (e : Ending) (w' : World) : Prop := Q e w'
set_option maxHeartbeats 2000000 in
theorem stable_of {v : Value} {n : Nat} {fv : Value} {w : World} {Q : World → Prop} (hn : n < 20) (h : Calls Tryz.prog 116 #[v, .int .i64 0, .int .i64 n, fv] w fun e w' => e = .returned (.tuple #[]) ∧ Q w') :
    Calls Tryz.prog 115 #[v, .int .i64 n, fv] w fun e w' => e = .returned (.tuple #[]) ∧ Q w' := by
  have HC := Lib.hid h; clear h
  have n1 : ¬ (20 : Int) ≤ n := by omega
  have n2 : ¬ (20 : Int) < n := by omega
  go_enter Tryz.func115, Tryz.ntmps115
  go_wp2
  go_loop [7, 8] (fun a b => a = .int .i64 0 ∧ b = .int .i64 20) (fun _ _ => 0)
  case atStart => exact ⟨rfl, rfl⟩
  case round =>
    obtain ⟨rfl, rfl⟩ := hrel
    go_wp2_with fail
    refine HC.out.mono ?_
    rintro e w' ⟨rfl, hQ⟩
    have HQ := Lib.hid hQ; clear hQ
    go_wp2
    go_loop [6] (fun a => a = .int .i64 20) (fun _ => 0)
    case atStart => rfl
    case round =>
      subst hrel
      go_wp2
      go_end0
      exact ⟨rfl, HQ.out⟩
theorem SortNPost.split {B : Nat} {v : Value} {l : List (Int × Int)} {w : World} {e : Ending} {w' : World} : SortNPost B v l w e w' ↔ e = .returned (.tuple #[]) ∧ (w'.ownsRow B 111 2 v l.length (flatE encN (stab (fun p : Int × Int => p.1) l)) ∧ w.grownBy w' v.ownBlock) := Iff.rfl
set_option maxHeartbeats 1000000 in
theorem sortst_of {a : Option Addr} {n cap : Nat} {fv : Value} {w : World} {Q : World → Prop} (h : Calls Tryz.prog 115 #[.slice a n cap, .int .i64 n, fv] w fun e w' => e = .returned (.tuple #[]) ∧ Q w') :
    Calls Tryz.prog 109 #[.slice a n cap, fv] w fun e w' => e = .returned (.tuple #[]) ∧ Q w' := by
  have HC := Lib.hid h; clear h
  go_enter Tryz.func109, Tryz.ntmps109
  go_wp2_with fail
  refine HC.out.mono ?_
  rintro e w' ⟨rfl, hQ⟩
  have HQ := Lib.hid hQ; clear hQ
  go_wp2
  go_end0
  exact ⟨rfl, HQ.out⟩
theorem sortst_row {B : Nat} {v : Value} {l : List (Int × Int)} {w : World} (hrow : w.ownsRow B 111 2 v l.length (flatE encN l)) (hl : l.length < 20) :
    Calls Tryz.prog 109 #[v, .func (.func 110) #[] #[]] w (SortNPost B v l w) := by
  rcases hrow.2 with ⟨h1, h2⟩ | ⟨g, cap', cur, h1, hg, hh, hn, hcap, hsz, htake⟩
  · obtain rfl : l = [] := List.length_eq_zero_iff.1 h2
    subst h1
    refine (sortst_of (n := 0) (Q := fun w' => w = w') (stable_of (by omega) (ins_none _ _ _ _))).mono ?_
    rintro e w' ⟨rfl, rfl⟩
    exact ⟨rfl, hrow, ⟨rfl, rfl, rfl, Nat.le_refl _, fun _ _ _ => rfl⟩⟩
  · subst h1
    exact sortst_of (stable_of hl (ins_row hg hh hn hcap hsz htake (by omega)))
end Go.Proofs.YtiilljcnikgeaaaGreatDoor
