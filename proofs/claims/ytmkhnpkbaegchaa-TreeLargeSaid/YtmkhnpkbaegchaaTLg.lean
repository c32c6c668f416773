/- The walk of the law TreeLarge. Conditions: none. -/
import Derived.Test.YtmkhnpkbaegchaaTRfs
namespace Go.Proofs.Ytmkhnpkbaegchaa
open Go.RowKit

set_option maxRecDepth 100000 in
set_option maxHeartbeats 8000000 in
theorem law_large (n s : Int) (thin : Bool) (k : Int) (w : World) (hn1 : -9223372036854775808 ≤ n) (hn2 : n ≤ 9223372036854775807) (hs1 : -9223372036854775808 ≤ s) (hs2 : s ≤ 9223372036854775807) (hk1 : -9223372036854775808 ≤ k) (hk2 : k ≤ 9223372036854775807) :
    Calls Try.prog 7 #[.int .i64 n, .int .i64 s, .bool thin, .int .i64 k] w (Ret (.bool true) w) := by
  obtain ⟨m, hm⟩ : ∃ m : Nat, around n 901 = m := ⟨(around n 901).toNat, by have := around_bd n (m := 901) (by omega); omega⟩
  obtain ⟨c, hc⟩ : ∃ c : Nat, around s 3988 = c := ⟨(around s 3988).toNat, by have := around_bd s (m := 3988) (by omega); omega⟩
  have hm2 : m ≤ 900 := by have := around_bd n (m := 901) (by omega); omega
  have hc2 : c ≤ 3987 := by have := around_bd s (m := 3988) (by omega); omega
  have K1 : ∀ w, Calls Try.prog 25 #[.int .i64 n, .int .i64 901] w (Pur (.int .i64 (m : Int)) w) := fun w => by rw [← hm]; exact around02 n 901 w hn1 hn2 (by omega) (by omega)
  have K2 : ∀ w, Calls Try.prog 25 #[.int .i64 s, .int .i64 3988] w (Pur (.int .i64 (c : Int)) w) := fun w => by rw [← hc]; exact around02 s 3988 w hs1 hs2 (by omega) (by omega)
  have K3 : ∀ W, Calls Try.prog 26 #[.int .i64 k] W (Ret (.string (keyF k)) W) := fun W => key_any k W hk1 hk2
  have K4 : ∀ W, Calls Try.prog 30 #[.int .i64 m, .int .i64 ((c + 1 : Nat) : Int), .bool thin] W (ManyPost m W) := fun W => many_any m (c + 1) thin W (by omega) (by omega)
  have e1 : 1 + (c : Int) = ((c + 1 : Nat) : Int) := by omega
  generalize keyF k = KK at *
  have HK1 := Lib.hid K1; have HK2 := Lib.hid K2; have HK3 := Lib.hid K3; have HK4 := Lib.hid K4
  clear K1 K2 K3 K4 hm hc hn1 hn2 hs1 hs2 hk1 hk2
  obtain ⟨d, hd⟩ : ∃ d, d = c + 1 := ⟨_, rfl⟩
  rw [← hd] at e1 HK4
  have hcd : (c : Int) ≤ 3987 := by omega
  clear hd
  go_enter Try.func7, Try.ntmps7
  go_wp2_with fail
  refine (HK1.out _).mono ?_
  rintro e w' ⟨rfl, rfl⟩
  go_wp2_with fail
  refine (HK2.out _).mono ?_
  rintro e w' ⟨rfl, rfl⟩
  go_wp2_with fail
  refine (HK4.out _).mono ?_
  rintro e w1 ⟨T, v, rfl, hT, hv, hl, hb1⟩
  have hh : T.H ≤ 9 := hT.hle (by omega)
  have hhei : ∀ W, Below w1.heap.size w1 W → Calls Try.prog 27 #[ptrN T.p] W (Pur (.int .i64 T.H) W) := fun W hb => height_any T W (hT.below hb) (by omega)
  have hle : ∀ W, Below w1.heap.size w1 W → Calls Try.prog 16 #[ptrN T.p] W (Pur (.int .i64 T.l.length) W) := fun W hb => len_any T W (hT.below hb)
  have hag : ∀ W key u, Below w1.heap.size w1 W → Calls Try.prog 29 #[ptrN T.p, v, .string key, .string u] W (Ret (.bool true) W) := fun W key u hb => agrees_any T v key u W (hT.below hb) (row_below hv hb) (by omega)
  have hwi : ∀ W, Calls Try.prog 31 #[.int .i64 T.H, .int .i64 T.l.length] W (Pur (.bool true) W) := fun W => within_any T.H T.l.length W hh (by omega) hT.bnd
  have HHE := Lib.hid hhei; have HLE := Lib.hid hle; have HAG := Lib.hid hag; have HWI := Lib.hid hwi
  obtain ⟨pv, cv, rfl⟩ := row_slice hv
  clear hhei hle hag hwi hT hv
  go_wp2_with fail
  refine (HK3.out _).mono ?_
  rintro e w2 ⟨rfl, hb2⟩
  go_wp2_with fail
  refine (HAG.out _ _ _ hb2).mono ?_
  rintro e w3 ⟨rfl, hb3⟩
  have hb13 := bl_trans hb2 hb3
  clear hb2 hb3
  go_wp2_with fail
  refine (HAG.out _ _ _ hb13).mono ?_
  rintro e w4 ⟨rfl, hb4⟩
  have hb14 := bl_trans hb13 hb4
  clear hb13 hb4
  go_wp2_with fail
  refine (HHE.out _ hb14).mono ?_
  rintro e w' ⟨rfl, rfl⟩
  go_wp2_with fail
  refine (HLE.out _ hb14).mono ?_
  rintro e w' ⟨rfl, rfl⟩
  go_wp2_with fail
  refine (HWI.out _).mono ?_
  rintro e w' ⟨rfl, rfl⟩
  go_wp2_with fail
  refine (lives_any _).mono ?_
  rintro e w5 ⟨rfl, hb5⟩
  go_wp2
  go_ret
  exact ⟨rfl, bl_trans hb1 (bl_trans hb14 hb5)⟩
end Go.Proofs.Ytmkhnpkbaegchaa
