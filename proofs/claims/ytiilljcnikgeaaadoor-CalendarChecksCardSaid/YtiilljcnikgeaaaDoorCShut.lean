/- The walks of shut, of the function that it hands back, and of Open. Conditions: the calendar lies in memory, its rules are valid; the listed tables lie in memory. -/
import Derived.Test.YtiilljcnikgeaaaDoorCMem
import Derived.Test.YtiilljcnikgeaaaDoorHBtw
namespace Go.Proofs.YtiilljcnikgeaaaDoor
open Go.RowKit

/-- the function value that shut hands back -/
abbrev shutF (Bc Bk : Nat) : Value := .func (.func 53) #[] #[.pointer (some ⟨Bc, 0, none⟩), .pointer (some ⟨Bk, 0, none⟩)]
def ShutPost (c : Cal) (vh vc vs : Value) (k : Int) (w : World) (e : Ending) (w' : World) : Prop :=
  e = .returned (shutF w.heap.size (w.heap.size + 1)) ∧ w' = (w.alloc (.cells (cellsC c vh vc vs) 30)).alloc (.cells #[.int .i64 k] 3)
set_option maxHeartbeats 1000000 in
theorem shut_any (c : Cal) (vh vc vs : Value) (k : Int) (w : World) : Calls Tryd.prog 38 #[aggC c vh vc vs, .int .i64 k] w (ShutPost c vh vc vs k w) := by
  go_enter Tryd.func38, Tryd.ntmps38
  go_wp2
  go_ret
  exact ⟨rfl, rfl⟩
/-- the boxes that the function captures -/
def ShutBox (w : World) (Bc Bk : Nat) (c : Cal) (vh vc vs : Value) (k : Int) : Prop := Blk w Bc 30 (cellsC c vh vc vs) ∧ Blk w Bk 3 #[.int .i64 k]
theorem ShutBox.below {w w' : World} {Bc Bk : Nat} {c : Cal} {vh vc vs : Value} {k : Int} (h : ShutBox w Bc Bk c vh vc vs k) (hb : Below w.heap.size w w') : ShutBox w' Bc Bk c vh vc vs k := ⟨h.1.below hb h.1.lt, h.2.below hb h.2.lt⟩
theorem closB_take {l : List Clo} {k d : Int} {j : Nat} {x : Clo} (h : l[j]? = some x) : closB (l.take (j + 1)) k d = (closB (l.take j) k d || cloB k d x) := by
  unfold closB
  rw [List.take_add_one, h, List.any_append]; simp
set_option maxRecDepth 100000 in
set_option maxHeartbeats 4000000 in
theorem shut1_any (c : Cal) (vh vc vs : Value) (k d : Int) (Bc Bk : Nat) (w : World) (hG : GoodH w) (hc : CalIn w vh vc vs c) (hB : ShutBox w Bc Bk c vh vc vs k) :
    Calls Tryd.prog 53 #[.int .i64 d, .pointer (some ⟨Bc, 0, none⟩), .pointer (some ⟨Bk, 0, none⟩)] w (Ret (.bool (shutB c k d)) w) := by
  obtain ⟨pa, cap, rfl, hm, hcl⟩ := hc.ic.open
  unfold maxLen at hm
  obtain ⟨bC, bK⟩ := hB
  have b7 := bC.cell 7
  have b8 := bC.cell 8
  have bw := (bC.cell (d % 7).toNat).trans (we_cell c vh _ vs d)
  simp at b7 b8
  have hwd : ∀ w, Calls Tryd.prog 25 #[.int .i64 d] w (Pur (.int .i64 (d % 7)) w) := fun w => weekday_any d w
  have q0 : 0 ≤ d % 7 := by omega
  have q1 : d % 7 < 7 := by omega
  have hs : shutB c k d = (c.we (d % 7).toNat || (closB c.cl k d || isB c.hs d)) := rfl
  have his := fun w hG hh => is_any vh d c.hs w hG hh hc.hl hc.hv
  have HCL := Lib.hid hcl; have HC := Lib.hid hc; have HIS := Lib.hid his
  have bCl := bC.lt
  have bKl := bK.lt
  generalize c.we (d % 7).toNat = wd at *
  generalize hq : d % 7 = q at *
  have HS := Lib.hid hs; have HW := Lib.hid hwd
  clear hs hwd hq hcl hc his
  cases wd
  · go_enter Tryd.func53, Tryd.ntmps53
    go_wp2_with fail
    refine (HW.out _).mono ?_
    rintro e w1 ⟨rfl, rfl⟩
    obtain ⟨W1, rfl⟩ : ∃ W1, W1 = w := ⟨_, rfl⟩
    have hb1 := bl_refl W1
    go_wp2
    clear bw
    have hbz := hb1.size
    go_loopw [15] (fun i wr => ∃ j : Nat, j ≤ c.cl.length ∧ i = .int .i64 j ∧ Hid (closB (c.cl.take j) k d = false) ∧ Below W1.heap.size W1 wr) (fun i _ => c.cl.length - (intOf i).toNat)
    case atStart => exact ⟨0, Nat.zero_le _, rfl, rfl, bl_refl _⟩
    case round =>
      obtain ⟨j, hj, rfl, hn, hbw⟩ := hrel
      have hBw := hb1.trans (hbw.mono hbz)
      clear b7 b8
      by_cases hlt : j < c.cl.length
      · obtain ⟨x, hx⟩ : ∃ x, c.cl[j]? = some x := ⟨_, List.getElem?_eq_getElem hlt⟩
        obtain ⟨b, off, rfl, hbl, hcc⟩ := HCL.out (by omega)
        have hbl2 : b < wr.heap.size := Nat.lt_of_lt_of_le hbl hBw.size
        have hcw : ∀ j x, c.cl[j]? = some x → ∀ i u, (encC x)[i]? = some u → wr.cell? ⟨b, off + j * 3 + i, none⟩ = some u := fun j x hx i u hu => (hBw.cell (p := ⟨b, off + j * 3 + i, none⟩) hbl).trans (hcc j x hx i u hu)
        obtain ⟨c0, c1, c2⟩ := IsClos.at hcw hx
        have htk := closB_take (k := k) (d := d) hx
        rw [hn.out, Bool.false_or] at htk
        have hany : cloB k d x = true → closB c.cl k d = true := fun h => by
          unfold closB; exact List.any_eq_true.2 ⟨x, List.mem_of_getElem? hx, h⟩
        have hcb : cloB k d x = (decide (x.kn ≤ k) && (decide (x.fr ≤ d) && decide (d ≤ x.un))) := rfl
        have HT := Lib.hid htk; have HA := Lib.hid hany; have HCB := Lib.hid hcb
        have k0 := (bK.below hBw bKl).cell 0
        simp at k0
        clear hx hcw htk hany hcb hcc
        go_upto_region 6 with (fail)
        have bX := Blk.new wr 36 #[.int .i64 x.fr, .int .i64 x.un, .int .i64 x.kn]
        obtain ⟨B, hB⟩ : ∃ B, B = wr.heap.size := ⟨_, rfl⟩
        rw [← hB] at bX ⊢
        have hbw2 : Below W1.heap.size W1 (wr.alloc (.cells #[.int .i64 x.fr, .int .i64 x.un, .int .i64 x.kn] 36)) := hbw.trans ((bl_alloc _ _).mono hbw.size)
        have k1 := ((bK.below hBw bKl).alloc (.cells #[.int .i64 x.fr, .int .i64 x.un, .int .i64 x.kn] 36)).cell 0
        simp at k1
        obtain ⟨W2, hW2⟩ : ∃ W2, W2 = wr.alloc (.cells #[.int .i64 x.fr, .int .i64 x.un, .int .i64 x.kn] 36) := ⟨_, rfl⟩
        rw [← hW2] at bX hbw2 k1 ⊢
        have x0 := bX.cell 0
        have x1 := bX.cell 1
        have x2 := bX.cell 2
        simp at x0 x1 x2
        clear hB hW2 c0 c1 c2 k0
        have hno : ∀ h : cloB k d x = false, Hid (closB (c.cl.take (j + 1)) k d = false) := fun h => by rw [h] at HT; exact HT.out
        by_cases g1 : x.kn ≤ k
        · have e1 : decide (x.kn ≤ k) = true := decide_eq_true g1
          by_cases g2 : x.fr ≤ d
          · have e2 : decide (x.fr ≤ d) = true := decide_eq_true g2
            by_cases g3 : d ≤ x.un
            · have e3 : decide (d ≤ x.un) = true := decide_eq_true g3
              have hyes : shutB c k d = true := by rw [HS.out, HA.out (by rw [HCB.out, e1, e2, e3]; rfl)]; simp
              have HY := Lib.hid hyes
              clear hyes
              go_wp2
              go_ret
              exact ⟨ret_bool (by rw [HY.out]), hb1.trans (hbw2.mono hbz)⟩
            · have e3 : decide (d ≤ x.un) = false := decide_eq_false g3
              have HN := Lib.hid (hno (by rw [HCB.out, e1, e2, e3]; rfl))
              go_wp2
              go_roundw
              case rel => exact ⟨j + 1, by omega, by go_num, HN.out, hbw2⟩
              case measure => simp [intOf]; omega
          · have e2 : decide (x.fr ≤ d) = false := decide_eq_false g2
            have HN := Lib.hid (hno (by rw [HCB.out, e1, e2]; rfl))
            go_wp2
            go_roundw
            case rel => exact ⟨j + 1, by omega, by go_num, HN.out, hbw2⟩
            case measure => simp [intOf]; omega
        · have e1 : decide (x.kn ≤ k) = false := decide_eq_false g1
          have HN := Lib.hid (hno (by rw [HCB.out, e1]; rfl))
          go_wp2
          go_roundw
          case rel => exact ⟨j + 1, by omega, by go_num, HN.out, hbw2⟩
          case measure => simp [intOf]; omega
      · obtain rfl : j = c.cl.length := by omega
        have hn0 := hn.out
        rw [List.take_length] at hn0
        have hfin : shutB c k d = isB c.hs d := by rw [HS.out, hn0]; simp
        have HF := Lib.hid hfin
        have b7 := (bC.below hBw bCl).cell 7
        simp at b7
        clear hn hn0 hfin
        go_wp2_with fail
        refine (HIS.out _ (hG.below hBw) (HC.out.ih.below hBw)).mono ?_
        rintro e w3 ⟨rfl, hb3⟩
        go_wp2
        go_ret
        exact ⟨ret_bool (by rw [HF.out]), bl_trans hBw hb3⟩
  · go_enter Tryd.func53, Tryd.ntmps53
    go_wp2_with fail
    refine (HW.out _).mono ?_
    rintro e w1 ⟨rfl, rfl⟩
    go_wp2
    go_ret
    exact ⟨ret_bool (by rw [HS.out]; rfl), bl_refl _⟩
end Go.Proofs.YtiilljcnikgeaaaDoor
