/- A region that draws its order, in a round of a range over a function: what the plain laws say of it holds there too. Conditions: it holds no defer. -/
import Derived.Test.YtmkhnpkbaegchaaTDiffP
import Derived.OrdersIn
import Derived.OrdersHeld
import Derived.Deep.Quiet
namespace Go.Proofs.Ytmkhnpkbaegchaa
open Go.RowKit

def noDefer (ops : Array Oper) : Bool := ops.toList.all fun o => match o.op with | .defer _ => false | _ => true
theorem noDefer_spec {ops : Array Oper} (h : noDefer ops = true) (i : Nat) (o : Oper) (ho : ops[i]? = some o) (c) : o.op ≠ .defer c := fun e => by
  have hm : o ∈ ops.toList := by
    have := Array.mem_of_getElem? ho
    exact Array.mem_def.1 this
  have := List.all_eq_true.1 h o hm
  rw [e] at this
  cases this
/-- the region comes to its end -/
def NormQ (Q : Exit → Act → World → Prop) : Exit → Act → World → Prop := fun e a w => e = .normal ∧ Q .normal a w
section
variable {P : Program} {l n : Nat} {Q : Exit → Act → World → Prop}
theorem normQ_no (Q : Exit → Act → World → Prop) : ¬ LetsOut (NormQ Q) := fun ⟨_, _, h, _⟩ => by cases h
theorem rnd_upon {o : Oper} {a : Act} {K K' : Act → World → Prop} {r : Result Next} (hK : ∀ a w, K a w → K' a w) (h : o.upon P a K (NormQ Q) r) : o.uponIn (Fence.wide.inRound l) n P a K' Q r := by
  unfold Oper.upon at h
  unfold Oper.uponIn
  split at h
  · exact hK _ _ h
  · exact hK _ _ h
  · exact hK _ _ h
  · refine ⟨fun h0 => by simp [Fence.wide] at h0, CallsIn.inRound l (callsIn_wide.2 (h.mono ?_))⟩
    rintro e w' h'
    cases e with
    | returned v => exact hK _ _ h'
    | panicked chain => exact absurd h'.1 (by simp)
    | outgrown => exact absurd h' (normQ_no Q)
  · refine ⟨fun h0 => by simp [Fence.wide] at h0, fun c cs _ => ?_⟩
    obtain ⟨v, w', h1, h2⟩ := h c cs
    exact ⟨v, w', hK _ _ h1, stepsIn_wide.2 h2⟩
  · exact absurd h.1 (by simp)
  · exact h.elim
theorem rnd_op {ops : Array Oper} {i : Nat} (hnd : ∀ (i : Nat) o, ops[i]? = some o → ∀ c, o.op ≠ .defer c) {a : Act} {w : World} {K K' : Act → World → Prop} (hK : ∀ a w, K a w → K' a w) (h : wpOp P ops (NormQ Q) i K a w) : wpOpIn (Fence.wide.inRound l) n P ops Q i K' a w := by
  unfold wpOp at h
  unfold wpOpIn
  cases ho : ops[i]? with
  | none => rw [ho] at h; exact hK _ _ h
  | some o =>
    rw [ho] at h
    simp only at h ⊢
    split at h
    · rename_i hw
      rw [if_pos hw]
      rcases h with h | h
      · unfold Oper.wp at h
        unfold Oper.wpIn
        rw [Oper.semAt_eq _ _ _ (hnd i o ho)]
        exact ⟨fun f _ => trivial, rnd_upon hK h⟩
      · exact absurd h.2 (normQ_no Q)
    · rename_i hw
      rw [if_neg hw]
      exact ⟨fun f _ => trivial, hK _ _ h⟩
theorem rnd_any {ops : Array Oper} {md : Region.Mode} (hnd : ∀ (i : Nat) o, ops[i]? = some o → ∀ c, o.op ≠ .defer c) : ∀ (fuel : Nat) (listed : Array Bool) (a : Act) (w : World), wpAny P md ops (NormQ Q) fuel listed a w → wpAnyIn (Fence.wide.inRound l) n P md ops Q fuel listed a w
  | 0, _, _, _, h => ⟨h.1, h.2.2⟩
  | fuel + 1, _, _, _, h => ⟨fun h0 => (h.1 h0).2, fun i hi => rnd_op hnd (fun a w h' => rnd_any hnd fuel _ a w h') (h.2 i hi)⟩
/-- THE BRIDGE -/
theorem wpIn_round_region {ops : Array Oper} {id : Nat} {a : Act} {w : World} (hm : P.follows .mixedOrders = true) (hnd : noDefer ops = true)
    (h : wpAny P .any ops (NormQ Q) ops.size (Array.replicate ops.size false) a w.drew) : (Code.region id ops true).wpIn (Fence.wide.inRound l) n P Q a w :=
  wpIn_region_any hm (rnd_any (noDefer_spec hnd) _ _ _ _ h)
/-- operations that read alone -/
theorem wpIn_round_quiet {L : List Oper} {id : Nat} {a : Act} {w : World} (hm : P.follows .mixedOrders = true) (hB : Region.lexB .any L.toArray = true) (hnd : noDefer L.toArray = true)
    (h : wpQuiet P L.toArray (fun w' => ∃ n, w' = w.drewN n) (fun a' => ∀ w', (∃ n, w' = w.drewN n) → Q .normal a' w') L a) : (Code.region id L.toArray true).wpIn (Fence.wide.inRound l) n P Q a w := by
  simp only [Region.lexB, Bool.and_eq_true] at hB
  refine wpIn_round_region hm hnd (wpAny_of_quiet (C := fun w' => ∃ n, w' = w.drewN n) (Q := fun a' => ∀ w', (∃ n, w' = w.drewN n) → Q .normal a' w') (fun _ w' hw' h => ⟨rfl, h w' hw'⟩) _ _ _ _ ⟨1, rfl⟩ ?_)
  have := wpAnyQ_lex (C := fun w' => ∃ n, w' = w.drewN n) (md := .any) hB.1 L 0 (Array.replicate L.toArray.size false) a (by simp) (by simpa using hB.2) h
  simpa using this
/-- operations that are taken first where they yield in every world that meets S -/
theorem wpIn_round_held {S : World → Prop} {ops : Array Oper} {id : Nat} {a : Act} {w : World} (hm : P.follows .mixedOrders = true) (hnd : noDefer ops = true)
    (h : wpAnyH P .any ops (NormQ Q) S ops.size (Array.replicate ops.size false) a w.drew) : (Code.region id ops true).wpIn (Fence.wide.inRound l) n P Q a w :=
  wpIn_round_region hm hnd (wpAny_of_held _ _ _ _ h)
end
end Go.Proofs.Ytmkhnpkbaegchaa
