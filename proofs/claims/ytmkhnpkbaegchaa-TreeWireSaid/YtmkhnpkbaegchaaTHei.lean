/- The walks of Len and Height. Conditions: the tree lies in memory. -/
import Derived.Test.YtmkhnpkbaegchaaTFind
import Derived.Deep.LoopGhost
namespace Go.Proofs.Ytmkhnpkbaegchaa
open Go.RowKit

set_option maxHeartbeats 1000000 in
theorem len_any (T : Tre) (w : World) (h : IsT w T) : Calls Try.prog 16 #[ptrN T.p] w (Pur (.int .i64 T.l.length) w) := by
  obtain ⟨_, ⟨h1, _, _, h4⟩ | ⟨h', x, h1, h2, h3, _⟩⟩ := h
  · have c0 := h4.cell 0
    simp at c0
    rw [h1]
    go_enter Try.func16, Try.ntmps16
    go_wp2
    go_ret
    exact ⟨rfl, rfl⟩
  · have c0 := h1.cell 0
    have c1 := h2.size
    simp at c0
    rw [h3]
    go_enter Try.func16, Try.ntmps16
    go_wp2
    go_ret
    exact ⟨rfl, rfl⟩
set_option maxRecDepth 100000 in
set_option maxHeartbeats 4000000 in
theorem height_any (T : Tre) (w : World) (h : IsT w T) (hH : T.H ≤ 1000000) : Calls Try.prog 27 #[ptrN T.p] w (Pur (.int .i64 T.H) w) := by
  obtain ⟨hs, ⟨_, h1, _, h4⟩ | ⟨h', x, h1, h2, h3, _, _, _, h7⟩⟩ := h
  · have c0 := h4.cell 0
    simp at c0
    rw [h1]
    clear h1 h4 hs
    go_enter Try.func27, Try.ntmps27
    go_wp2
    go_loopg [3, 4] 0 (fun kx s3 s4 wr => s3 = .int .i64 0 ∧ s4 = .pointer none ∧ wr = w)
    case atStart => exact ⟨rfl, rfl, rfl⟩
    case round =>
      obtain ⟨rfl, rfl, rfl⟩ := hrel
      go_wp2
      go_ret
      exact ⟨rfl, rfl⟩
  · have c0 := h1.cell 0
    simp at c0
    obtain ⟨H, hHH⟩ : ∃ H, H = T.H := ⟨_, rfl⟩
    rw [← hHH] at h7 hH ⊢
    have S0 := Lib.hid h2
    clear h1 hs h2 h3 hHH
    go_enter Try.func27, Try.ntmps27
    go_wp2
    go_loopg [3, 4] h' (fun kx s3 s4 wr => ∃ (c j : Nat) (y : Kid), s3 = .int .i64 c ∧ s4 = ptrN y.p ∧ j ≤ kx ∧ c + (j + 1) = H ∧ wr = w ∧ Hid (IsN Any j w y))
    case atStart => exact ⟨0, h', x, rfl, rfl, Nat.le_refl _, by omega, rfl, S0⟩
    case round =>
      clear S0
      obtain ⟨c, j, y, rfl, rfl, hj, hc, rfl, S⟩ := hrel
      obtain ⟨ps, ks, hn⟩ := S.out.node
      obtain ⟨pa, pc, ka, kc, d0, d1, hy0, hpp, hkk⟩ := hn.at_.cells
      have HN := Lib.hid hn; have HKK := Lib.hid hkk
      clear hn hpp hkk
      by_cases hk0 : ks.length = 0
      · obtain rfl : j = 0 := by
          cases j with
          | zero => rfl
          | succ j' => have := (HN.out.kids j' rfl).1; omega
        have hcH : (c : Int) + 1 = (H : Int) := by omega
        have hc1 : (c : Int) ≤ 1000000 := by omega
        have HCH := Lib.hid hcH
        clear hc hcH h7
        go_wp2
        go_ret
        exact ⟨ret_int HCH.out, rfl⟩
      · obtain ⟨j', rfl⟩ : ∃ j', j = j' + 1 := by
          cases j with
          | zero => exact absurd (by rw [HN.out.leaf rfl]; rfl) hk0
          | succ j' => exact ⟨j', rfl⟩
        obtain ⟨z, hz⟩ : ∃ z, ks[0]? = some z := ⟨_, List.getElem?_eq_getElem (by omega)⟩
        obtain ⟨g, og, rfl, hg, hcl⟩ := HKK.out 0 z hz
        have hzm : z ∈ ks := List.mem_of_getElem? hz
        have hnew := Lib.hid ((HN.out.kids j' rfl).2 z hzm).1
        have f0 := hcl
        rw [Nat.add_zero] at f0
        clear hcl
        have hk1 : 0 < ks.length := by omega
        have hc1 : (c : Int) ≤ 1000000 := by omega
        have hcn : c + 1 + (j' + 1) = H := by omega
        have HC := Lib.hid hcn
        clear hz hzm hc hcn h7
        go_wp2
        go_roundg j'
        case measure => omega
        case rel => exact ⟨c + 1, j', z, by go_num, rfl, Nat.le_refl _, HC.out, rfl, hnew⟩
end Go.Proofs.Ytmkhnpkbaegchaa
