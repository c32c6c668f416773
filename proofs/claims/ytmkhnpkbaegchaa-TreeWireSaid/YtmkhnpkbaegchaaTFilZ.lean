/- The walk of filled, whole. Conditions: the two slices are rows of the caller's own, the children lie in memory. -/
import Derived.Test.YtmkhnpkbaegchaaTFilB
import Derived.Test.YtmkhnpkbaegchaaTFilC
import Derived.Test.YtmkhnpkbaegchaaTFilD
import Derived.Test.YtmkhnpkbaegchaaTFilE
import Derived.Test.YtmkhnpkbaegchaaTFilG
import Derived.Test.YtmkhnpkbaegchaaTFilH
import Derived.Test.YtmkhnpkbaegchaaTFilI
import Derived.Test.YtmkhnpkbaegchaaTFilJ
namespace Go.Proofs.Ytmkhnpkbaegchaa
open Go.RowKit

theorem filled_any {F : Nat → Prop} (h B g1 c1 n1 g2 c2 n2 i : Nat) (ps : List KV) (ks : List Kid) (w : World) (hin : FIn F h B g1 c1 n1 g2 c2 n2 i ps ks w) :
    Calls Try.prog 66 #[.slice (some ⟨g1, 0, none⟩) n1 c1, .slice (some ⟨g2, 0, none⟩) n2 c2, .int .i64 i] w (FilPost F h ps ks g1 g2 w) := by
  have hkl := hin.klen
  have hlp := hin.st.lp
  have hi := hin.hi
  have hn0 := hin.n0
  obtain ⟨x, hx⟩ : ∃ x, ks[i]? = some x := ⟨_, List.getElem?_eq_getElem (by omega)⟩
  by_cases hx3 : 3 ≤ x.n
  · exact fil_ok h B g1 c1 n1 g2 c2 n2 i ps ks w hin x hx hx3
  have hx3' : x.n < 3 := by omega
  rcases Nat.eq_zero_or_pos i with h0 | h0
  · obtain ⟨b, hb⟩ : ∃ b, ks[i + 1]? = some b := ⟨_, List.getElem?_eq_getElem (by omega)⟩
    obtain ⟨m, hm⟩ : ∃ m, ps[i]? = some m := ⟨_, List.getElem?_eq_getElem (by omega)⟩
    by_cases hb3 : 3 < b.n
    · rcases Nat.eq_zero_or_pos h with e | e
      · exact fil_right3 h B g1 c1 n1 g2 c2 n2 i ps ks w hin x b m hx hb hm hx3' hb3 (by omega) e
      · exact fil_right1 h B g1 c1 n1 g2 c2 n2 i ps ks w hin x b m hx hb hm hx3' hb3 (by omega) e
    · rcases Nat.eq_zero_or_pos h with e | e
      · exact fil_joinB0 h B g1 c1 n1 g2 c2 n2 i ps ks w hin x b m hx hb hm hx3' (by omega) (by omega) e
      · exact fil_joinB h B g1 c1 n1 g2 c2 n2 i ps ks w hin x b m hx hb hm hx3' (by omega) (by omega) e
  · obtain ⟨j, rfl⟩ : ∃ j, i = j + 1 := ⟨i - 1, by omega⟩
    obtain ⟨a, ha⟩ : ∃ a, ks[j]? = some a := ⟨_, List.getElem?_eq_getElem (by omega)⟩
    obtain ⟨m, hm⟩ : ∃ m, ps[j]? = some m := ⟨_, List.getElem?_eq_getElem (by omega)⟩
    by_cases ha3 : 3 < a.n
    · rw [show ((j + 1 : Nat) : Int) = (j : Int) + 1 by omega]
      rcases Nat.eq_zero_or_pos h with e | e
      · exact fil_left0 h B g1 c1 n1 g2 c2 n2 j ps ks w hin x a m hx ha hm hx3' ha3 e
      · exact fil_left h B g1 c1 n1 g2 c2 n2 j ps ks w hin x a m hx ha hm hx3' ha3 e
    · by_cases hlast : j + 1 < n1
      · obtain ⟨b, hb⟩ : ∃ b, ks[j + 1 + 1]? = some b := ⟨_, List.getElem?_eq_getElem (by omega)⟩
        obtain ⟨m', hm'⟩ : ∃ m, ps[j + 1]? = some m := ⟨_, List.getElem?_eq_getElem (by omega)⟩
        by_cases hb3 : 3 < b.n
        · rcases Nat.eq_zero_or_pos h with e | e
          · exact fil_right4 h B g1 c1 n1 g2 c2 n2 (j + 1) ps ks w hin x b m' hx hb hm' hx3' hb3 j a rfl ha (by omega) e
          · exact fil_right2 h B g1 c1 n1 g2 c2 n2 (j + 1) ps ks w hin x b m' hx hb hm' hx3' hb3 j a rfl ha (by omega) e
        · rcases Nat.eq_zero_or_pos h with e | e
          · exact fil_joinC0 h B g1 c1 n1 g2 c2 n2 (j + 1) ps ks w hin x b m' hx hb hm' hx3' (by omega) j a rfl ha (by omega) e
          · exact fil_joinC h B g1 c1 n1 g2 c2 n2 (j + 1) ps ks w hin x b m' hx hb hm' hx3' (by omega) j a rfl ha (by omega) e
      · obtain rfl : n1 = j + 1 := by omega
        rcases Nat.eq_zero_or_pos h with e | e
        · exact fil_joinA0 h B g1 c1 g2 c2 n2 (j + 1) j ps ks w hin rfl a x m hx ha hm hx3' (by omega) e
        · exact fil_joinA h B g1 c1 g2 c2 n2 (j + 1) j ps ks w hin rfl a x m hx ha hm hx3' (by omega) e
end Go.Proofs.Ytmkhnpkbaegchaa
