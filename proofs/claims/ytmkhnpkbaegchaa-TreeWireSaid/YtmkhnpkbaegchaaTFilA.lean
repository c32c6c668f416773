/- The walk of filled, where the child has enough. Conditions: the two slices are rows of the caller's own, the children lie in memory. -/
import Derived.Test.YtmkhnpkbaegchaaTFil
import Derived.Deep.RegionHeld3
import Derived.BigQuiet
import Derived.Deep.AppendLies
namespace Go.Proofs.Ytmkhnpkbaegchaa
open Go.RowKit

/-- how filled is called -/
structure FIn (F : Nat → Prop) (h B g1 c1 n1 g2 c2 n2 i : Nat) (ps : List KV) (ks : List Kid) (w : World) : Prop where
  st : FSt B g1 c1 n1 g2 c2 n2 w w ps ks
  hB : B ≤ w.heap.size
  hF : ∀ b, B ≤ b → F b
  len : n2 = n1 + 1
  n0 : 1 ≤ n1
  n8 : n1 ≤ 8
  hi : i ≤ n1
  sum : n1 + kidsSum ks ≤ 100000
  kid : ∀ t y, ks[t]? = some y → IsN (offG F g1 g2) h w y ∧ 2 ≤ y.n ∧ y.n ≤ 8 ∧ (t ≠ i → 3 ≤ y.n)
theorem FIn.klen {F : Nat → Prop} {h B g1 c1 n1 g2 c2 n2 i : Nat} {ps : List KV} {ks : List Kid} {w : World} (hin : FIn F h B g1 c1 n1 g2 c2 n2 i ps ks w) : ks.length = ps.length + 1 := by rw [hin.st.lk, hin.st.lp, hin.len]
theorem FIn.wlen {F : Nat → Prop} {h B g1 c1 n1 g2 c2 n2 i : Nat} {ps : List KV} {ks : List Kid} {w : World} (hin : FIn F h B g1 c1 n1 g2 c2 n2 i ps ks w) : (weave ps (ks.map Kid.l)).length ≤ 100000 := by
  rw [kids_len (.inr hin.klen), hin.st.lp]; exact hin.sum
set_option maxRecDepth 100000 in
set_option maxHeartbeats 16000000 in
theorem fil_ok {F : Nat → Prop} (h B g1 c1 n1 g2 c2 n2 i : Nat) (ps : List KV) (ks : List Kid) (w : World) (hin : FIn F h B g1 c1 n1 g2 c2 n2 i ps ks w) (x : Kid) (hx : ks[i]? = some x) (hx3 : 3 ≤ x.n) :
    Calls Try.prog 66 #[.slice (some ⟨g1, 0, none⟩) n1 c1, .slice (some ⟨g2, 0, none⟩) n2 c2, .int .i64 i] w (FilPost F h ps ks g1 g2 w) := by
  obtain ⟨pb, kb, hnb⟩ := (hin.kid i x hx).1.node
  have hend := fun W (hb : Kep g1 g2 w W) (st : FSt B g1 c1 n1 g2 c2 n2 w W ps ks) => fil_end (F := F) (h := h) (ps := ps) (ks := ks) st hin.hB hin.hF (fun t ht => by
    obtain ⟨k, hk⟩ := List.mem_iff_getElem?.1 ht
    obtain ⟨h1, h2, h3, h4⟩ := hin.kid k t hk
    refine ⟨hb.kid h1, ?_, h3⟩
    by_cases e : k = i
    · subst e
      have : t = x := by rw [hk] at hx; exact Option.some.inj hx
      subst this; omega
    · exact h4 e) hin.len hin.n8 rfl hin.wlen (by have := st.lp; omega) (by have := st.lp; omega) (fun B0 N0 c _ hf => hf.mono (by omega))
  have k0 := hin.st.k0 hx
  obtain ⟨xa, xc, _, _, x0, _, hxl, _, _⟩ := hnb.at_.cells
  have hxn : 3 ≤ pb.length := by rw [← hnb.n]; exact hx3
  have hST := Lib.hid hin.st
  have HEND := Lib.hid hend
  have hl := hin.len
  have hii := hin.hi
  have hn8 := hin.n8
  subst hl
  clear hin hend hx hx3 hnb
  go_enter Try.func66, Try.ntmps66
  go_wp2_with fail
  refine (HEND.out _ (Kep.refl _ _ _) hST.out).mono ?_
  rintro e w' ⟨y, rfl, hy⟩
  have HY := Lib.hid hy
  clear hy
  go_wp2
  go_ret
  exact ⟨y, rfl, HY.out⟩
end Go.Proofs.Ytmkhnpkbaegchaa
