/- The walk of put, whole: by induction on the height. Conditions: the tree below the node lies in memory, its pairs are in order. -/
import Derived.Test.YtaiiibbnjmjamaaGreatDoorTPutW
namespace Go.Proofs.YtaiiibbnjmjamaaGreatDoor
open Go.RowKit

theorem put_any : ∀ (h : Nat) (F : Nat → Prop) (x : Kid) (p : KV) (w : World), IsN F h w x → Srt x.l → x.l.length ≤ 100000 → 1 ≤ x.n → x.n ≤ 8 → (∀ b, w.heap.size ≤ b → F b) →
    Calls Tryz.prog 21 #[ptrN x.p, aggP p] w (PutPost F h x p w)
  | 0, F, x, p, w, hx, hs, hl, h1, h8, hF => put_step 0 x p w hx hs hl h1 h8 hF (fun h' e => by cases e)
  | h + 1, F, x, p, w, hx, hs, hl, h1, h8, hF => put_step (h + 1) x p w hx hs hl h1 h8 hF (fun h' e G y W hy hys hyl hy3 hy8 hG => by
      cases e
      exact put_any h G y p W hy hys hyl (by omega) hy8 hG)
end Go.Proofs.YtaiiibbnjmjamaaGreatDoor
