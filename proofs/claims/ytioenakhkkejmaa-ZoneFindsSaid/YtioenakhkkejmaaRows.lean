/-
  No cell of these rows narrows 'for every input' (looked for: loops, veiled, ifaces, maps, wideKeys, modest, calm, conditions, laid).
  DERIVED. THE GIVEN ROWS OF THIS SEAT. 8 by the template 'for every input the law returns true; each argument reads behind the call as it read before'; 0 by the template 'total and deterministic' (their statements: YtioenakhkkejmaaTotals.lean).
  GIVEN WITH THE SEED: the statements are not yours to turn. If you find one false, say at which input.
  Laid BY PROGRAM, IN A SANDBOX (cutbox-rows.mjs): the forced cells as the released guide's own fill.sh prints them over the translation e43c192481c1d303… (all of the seat's roots in one cut). By AI agents, Wed Nov 11 2026. No macro, syntax, notation, axiom, sorry.
-/
import Derived.Test.YtioenakhkkejmaaChecked
import GoSem.Claim
import GoSem.ClaimJoined
import GoSem.ClaimMapViews
import Derived.JoinedTies
import Derived.KernelRfl
namespace Go.Proofs.Ytioenakhkkejmaa
/- THE CELL 'sum', in the pinned program and in every row, IS THE sha256 OF THE DUMP (.gsa) THAT YtioenakhkkejmaaProg.lean LOADS. Nothing in Lean hashes anything: it is a label: what it is worth is what the hold of that sum in a sandbox is worth. -/
noncomputable def Try.pinned : Pinned := { name := "ytioenakhkkejmaa", sum := "e43c192481c1d3032fb443a0d5acaa99f7f6fd517735a1614b6a9734944082ab", checked := Try.checked }
namespace Rows
def none {H : Type} : Left H := { results := [], args := [] }

/-- 'rollbooklaw09.ZoneChecks': WHATEVER THE INPUT: true; the input reads as it did. -/
def zoneChecksSpec : ChangeSpec := { name := "zoneChecks", fn := fun _ => fun
  | [d1, d2] => { results := [.lit (.bool true)], args := [d1, d2] }
  | _ => none }
def zoneChecksRow : OpenClaim := { program := "ytioenakhkkejmaa", sum := "e43c192481c1d3032fb443a0d5acaa99f7f6fd517735a1614b6a9734944082ab", func := "rollbook/rollbooklaw09.ZoneChecks", spec := "zoneChecks", unfollowed := true, recurses := true, apart := false }
def ZoneChecksSaid : Prop := zoneChecksRow.holds Try.pinned (OpenSpec.ofChange zoneChecksSpec)

/-- ITS FALSE NEIGHBOUR: 'it returns false'. Refute it at one input. -/
def zoneChecksWrong : ChangeSpec := { name := "zoneChecks", fn := fun _ => fun
  | [d1, d2] => { results := [.lit (.bool false)], args := [d1, d2] }
  | _ => none }
def ZoneChecksWrongFalsely : Prop := zoneChecksRow.holds Try.pinned (OpenSpec.ofChange zoneChecksWrong)

/-- 'rollbooklaw09.ZoneConverts': WHATEVER THE INPUT: true; the input reads as it did. -/
def zoneConvertsSpec : ChangeSpec := { name := "zoneConverts", fn := fun _ => fun
  | [d1, d2, d3] => { results := [.lit (.bool true)], args := [d1, d2, d3] }
  | _ => none }
def zoneConvertsRow : OpenClaim := { program := "ytioenakhkkejmaa", sum := "e43c192481c1d3032fb443a0d5acaa99f7f6fd517735a1614b6a9734944082ab", func := "rollbook/rollbooklaw09.ZoneConverts", spec := "zoneConverts", unfollowed := true, recurses := true, apart := false }
def ZoneConvertsSaid : Prop := zoneConvertsRow.holds Try.pinned (OpenSpec.ofChange zoneConvertsSpec)

/-- ITS FALSE NEIGHBOUR: 'it returns false'. Refute it at one input. -/
def zoneConvertsWrong : ChangeSpec := { name := "zoneConverts", fn := fun _ => fun
  | [d1, d2, d3] => { results := [.lit (.bool false)], args := [d1, d2, d3] }
  | _ => none }
def ZoneConvertsWrongFalsely : Prop := zoneConvertsRow.holds Try.pinned (OpenSpec.ofChange zoneConvertsWrong)

/-- 'rollbooklaw09.ZoneFinds': WHATEVER THE INPUT: true; the input reads as it did. -/
def zoneFindsSpec : ChangeSpec := { name := "zoneFinds", fn := fun _ => fun
  | [d1, d2, d3] => { results := [.lit (.bool true)], args := [d1, d2, d3] }
  | _ => none }
def zoneFindsRow : OpenClaim := { program := "ytioenakhkkejmaa", sum := "e43c192481c1d3032fb443a0d5acaa99f7f6fd517735a1614b6a9734944082ab", func := "rollbook/rollbooklaw09.ZoneFinds", spec := "zoneFinds", unfollowed := true, recurses := true, apart := false }
def ZoneFindsSaid : Prop := zoneFindsRow.holds Try.pinned (OpenSpec.ofChange zoneFindsSpec)

/-- ITS FALSE NEIGHBOUR: 'it returns false'. Refute it at one input. -/
def zoneFindsWrong : ChangeSpec := { name := "zoneFinds", fn := fun _ => fun
  | [d1, d2, d3] => { results := [.lit (.bool false)], args := [d1, d2, d3] }
  | _ => none }
def ZoneFindsWrongFalsely : Prop := zoneFindsRow.holds Try.pinned (OpenSpec.ofChange zoneFindsWrong)

/-- 'rollbooklaw09.ZoneGaps': WHATEVER THE INPUT: true; the input reads as it did. -/
def zoneGapsSpec : ChangeSpec := { name := "zoneGaps", fn := fun _ => fun
  | [d1, d2, d3] => { results := [.lit (.bool true)], args := [d1, d2, d3] }
  | _ => none }
def zoneGapsRow : OpenClaim := { program := "ytioenakhkkejmaa", sum := "e43c192481c1d3032fb443a0d5acaa99f7f6fd517735a1614b6a9734944082ab", func := "rollbook/rollbooklaw09.ZoneGaps", spec := "zoneGaps", unfollowed := true, recurses := true, apart := false }
def ZoneGapsSaid : Prop := zoneGapsRow.holds Try.pinned (OpenSpec.ofChange zoneGapsSpec)

/-- ITS FALSE NEIGHBOUR: 'it returns false'. Refute it at one input. -/
def zoneGapsWrong : ChangeSpec := { name := "zoneGaps", fn := fun _ => fun
  | [d1, d2, d3] => { results := [.lit (.bool false)], args := [d1, d2, d3] }
  | _ => none }
def ZoneGapsWrongFalsely : Prop := zoneGapsRow.holds Try.pinned (OpenSpec.ofChange zoneGapsWrong)

/-- 'rollbooklaw09.ZoneOrders': WHATEVER THE INPUT: true; the input reads as it did. -/
def zoneOrdersSpec : ChangeSpec := { name := "zoneOrders", fn := fun _ => fun
  | [d1, d2, d3, d4] => { results := [.lit (.bool true)], args := [d1, d2, d3, d4] }
  | _ => none }
def zoneOrdersRow : OpenClaim := { program := "ytioenakhkkejmaa", sum := "e43c192481c1d3032fb443a0d5acaa99f7f6fd517735a1614b6a9734944082ab", func := "rollbook/rollbooklaw09.ZoneOrders", spec := "zoneOrders", unfollowed := true, recurses := true, apart := false }
def ZoneOrdersSaid : Prop := zoneOrdersRow.holds Try.pinned (OpenSpec.ofChange zoneOrdersSpec)

/-- ITS FALSE NEIGHBOUR: 'it returns false'. Refute it at one input. -/
def zoneOrdersWrong : ChangeSpec := { name := "zoneOrders", fn := fun _ => fun
  | [d1, d2, d3, d4] => { results := [.lit (.bool false)], args := [d1, d2, d3, d4] }
  | _ => none }
def ZoneOrdersWrongFalsely : Prop := zoneOrdersRow.holds Try.pinned (OpenSpec.ofChange zoneOrdersWrong)

/-- 'rollbooklaw09.ZoneSteps': WHATEVER THE INPUT: true; the input reads as it did. -/
def zoneStepsSpec : ChangeSpec := { name := "zoneSteps", fn := fun _ => fun
  | [d1, d2, d3] => { results := [.lit (.bool true)], args := [d1, d2, d3] }
  | _ => none }
def zoneStepsRow : OpenClaim := { program := "ytioenakhkkejmaa", sum := "e43c192481c1d3032fb443a0d5acaa99f7f6fd517735a1614b6a9734944082ab", func := "rollbook/rollbooklaw09.ZoneSteps", spec := "zoneSteps", unfollowed := true, recurses := true, apart := false }
def ZoneStepsSaid : Prop := zoneStepsRow.holds Try.pinned (OpenSpec.ofChange zoneStepsSpec)

/-- ITS FALSE NEIGHBOUR: 'it returns false'. Refute it at one input. -/
def zoneStepsWrong : ChangeSpec := { name := "zoneSteps", fn := fun _ => fun
  | [d1, d2, d3] => { results := [.lit (.bool false)], args := [d1, d2, d3] }
  | _ => none }
def ZoneStepsWrongFalsely : Prop := zoneStepsRow.holds Try.pinned (OpenSpec.ofChange zoneStepsWrong)

/-- 'rollbooklaw09.ZoneMoves': WHATEVER THE INPUT: true; the input reads as it did. -/
def zoneMovesSpec : ChangeSpec := { name := "zoneMoves", fn := fun _ => fun
  | [d1, d2, d3] => { results := [.lit (.bool true)], args := [d1, d2, d3] }
  | _ => none }
def zoneMovesRow : OpenClaim := { program := "ytioenakhkkejmaa", sum := "e43c192481c1d3032fb443a0d5acaa99f7f6fd517735a1614b6a9734944082ab", func := "rollbook/rollbooklaw09.ZoneMoves", spec := "zoneMoves", unfollowed := true, recurses := true, apart := false }
def ZoneMovesSaid : Prop := zoneMovesRow.holds Try.pinned (OpenSpec.ofChange zoneMovesSpec)

/-- ITS FALSE NEIGHBOUR: 'it returns false'. Refute it at one input. -/
def zoneMovesWrong : ChangeSpec := { name := "zoneMoves", fn := fun _ => fun
  | [d1, d2, d3] => { results := [.lit (.bool false)], args := [d1, d2, d3] }
  | _ => none }
def ZoneMovesWrongFalsely : Prop := zoneMovesRow.holds Try.pinned (OpenSpec.ofChange zoneMovesWrong)

/-- 'rollbooklaw09.ZoneFixed': WHATEVER THE INPUT: true; the input reads as it did. -/
def zoneFixedSpec : ChangeSpec := { name := "zoneFixed", fn := fun _ => fun
  | [d1, d2, d3] => { results := [.lit (.bool true)], args := [d1, d2, d3] }
  | _ => none }
def zoneFixedRow : OpenClaim := { program := "ytioenakhkkejmaa", sum := "e43c192481c1d3032fb443a0d5acaa99f7f6fd517735a1614b6a9734944082ab", func := "rollbook/rollbooklaw09.ZoneFixed", spec := "zoneFixed", unfollowed := true, recurses := true, apart := false }
def ZoneFixedSaid : Prop := zoneFixedRow.holds Try.pinned (OpenSpec.ofChange zoneFixedSpec)

/-- ITS FALSE NEIGHBOUR: 'it returns false'. Refute it at one input. -/
def zoneFixedWrong : ChangeSpec := { name := "zoneFixed", fn := fun _ => fun
  | [d1, d2, d3] => { results := [.lit (.bool false)], args := [d1, d2, d3] }
  | _ => none }
def ZoneFixedWrongFalsely : Prop := zoneFixedRow.holds Try.pinned (OpenSpec.ofChange zoneFixedWrong)

/- THE SECOND FORM. 'bulk': how many values and letters a reading holds, each counted each time it is reached (what is shared counts as often as it is met; a slice's spare places count too). A statement '..UptoSaid' is the law's where the arguments, and the package variables that the reading takes, are together of bulk at most 1048576: NARROWER than '..Said'. Prove '..Said' where nothing that the law and all that it calls make is longer than what came in: it says more and counts as full. Else prove '..UptoSaid'. A law counts once. -/
mutual
def uptoBulk {H : Type} : DataW H → Nat
  | .lit (.string bytes) => bytes.length + 1
  | .lit _ => 1
  | .nil => 1
  | .ptr d => uptoBulk d + 1
  | .slice elems spare => uptoBulkAll elems + uptoBulkAll spare + 1
  | .agg parts => uptoBulkAll parts + 1
  | .iface _ d => uptoBulk d + 1
  | .map entries => uptoBulkEntries entries + 1
  | .held _ => 1
def uptoBulkAll {H : Type} : List (DataW H) → Nat
  | [] => 0
  | d :: r => uptoBulk d + uptoBulkAll r
def uptoBulkEntries {H : Type} : List (Lit × DataW H) → Nat
  | [] => 0
  | x :: r => uptoBulkEntry x + uptoBulkEntries r
def uptoBulkEntry {H : Type} : Lit × DataW H → Nat
  | (.string bytes, d) => bytes.length + uptoBulk d + 1
  | (_, d) => uptoBulk d + 1
 end
def uptoSmall : (H : Type) → List (DataW H) → Bool := fun _ ds => decide (uptoBulkAll ds ≤ 1048576)
def OpenSpec.upto (s : _root_.Go.ChangeSpec) : _root_.Go.OpenSpec := { _root_.Go.OpenSpec.ofChange s with cond := some uptoSmall }

/-- 'rollbooklaw09.ZoneChecks', WHERE WHAT IT READS IS OF BULK AT MOST 1048576: true; the input reads as it did. -/
def zoneChecksUptoRow : OpenClaim := { program := "ytioenakhkkejmaa", sum := "e43c192481c1d3032fb443a0d5acaa99f7f6fd517735a1614b6a9734944082ab", func := "rollbook/rollbooklaw09.ZoneChecks", spec := "zoneChecks", unfollowed := true, recurses := true, apart := false, narrowed := true }
def ZoneChecksUptoSaid : Prop := zoneChecksUptoRow.holds Try.pinned (OpenSpec.upto zoneChecksSpec)

/-- 'rollbooklaw09.ZoneConverts', WHERE WHAT IT READS IS OF BULK AT MOST 1048576: true; the input reads as it did. -/
def zoneConvertsUptoRow : OpenClaim := { program := "ytioenakhkkejmaa", sum := "e43c192481c1d3032fb443a0d5acaa99f7f6fd517735a1614b6a9734944082ab", func := "rollbook/rollbooklaw09.ZoneConverts", spec := "zoneConverts", unfollowed := true, recurses := true, apart := false, narrowed := true }
def ZoneConvertsUptoSaid : Prop := zoneConvertsUptoRow.holds Try.pinned (OpenSpec.upto zoneConvertsSpec)

/-- 'rollbooklaw09.ZoneFinds', WHERE WHAT IT READS IS OF BULK AT MOST 1048576: true; the input reads as it did. -/
def zoneFindsUptoRow : OpenClaim := { program := "ytioenakhkkejmaa", sum := "e43c192481c1d3032fb443a0d5acaa99f7f6fd517735a1614b6a9734944082ab", func := "rollbook/rollbooklaw09.ZoneFinds", spec := "zoneFinds", unfollowed := true, recurses := true, apart := false, narrowed := true }
def ZoneFindsUptoSaid : Prop := zoneFindsUptoRow.holds Try.pinned (OpenSpec.upto zoneFindsSpec)

/-- 'rollbooklaw09.ZoneGaps', WHERE WHAT IT READS IS OF BULK AT MOST 1048576: true; the input reads as it did. -/
def zoneGapsUptoRow : OpenClaim := { program := "ytioenakhkkejmaa", sum := "e43c192481c1d3032fb443a0d5acaa99f7f6fd517735a1614b6a9734944082ab", func := "rollbook/rollbooklaw09.ZoneGaps", spec := "zoneGaps", unfollowed := true, recurses := true, apart := false, narrowed := true }
def ZoneGapsUptoSaid : Prop := zoneGapsUptoRow.holds Try.pinned (OpenSpec.upto zoneGapsSpec)

/-- 'rollbooklaw09.ZoneOrders', WHERE WHAT IT READS IS OF BULK AT MOST 1048576: true; the input reads as it did. -/
def zoneOrdersUptoRow : OpenClaim := { program := "ytioenakhkkejmaa", sum := "e43c192481c1d3032fb443a0d5acaa99f7f6fd517735a1614b6a9734944082ab", func := "rollbook/rollbooklaw09.ZoneOrders", spec := "zoneOrders", unfollowed := true, recurses := true, apart := false, narrowed := true }
def ZoneOrdersUptoSaid : Prop := zoneOrdersUptoRow.holds Try.pinned (OpenSpec.upto zoneOrdersSpec)

/-- 'rollbooklaw09.ZoneSteps', WHERE WHAT IT READS IS OF BULK AT MOST 1048576: true; the input reads as it did. -/
def zoneStepsUptoRow : OpenClaim := { program := "ytioenakhkkejmaa", sum := "e43c192481c1d3032fb443a0d5acaa99f7f6fd517735a1614b6a9734944082ab", func := "rollbook/rollbooklaw09.ZoneSteps", spec := "zoneSteps", unfollowed := true, recurses := true, apart := false, narrowed := true }
def ZoneStepsUptoSaid : Prop := zoneStepsUptoRow.holds Try.pinned (OpenSpec.upto zoneStepsSpec)

/-- 'rollbooklaw09.ZoneMoves', WHERE WHAT IT READS IS OF BULK AT MOST 1048576: true; the input reads as it did. -/
def zoneMovesUptoRow : OpenClaim := { program := "ytioenakhkkejmaa", sum := "e43c192481c1d3032fb443a0d5acaa99f7f6fd517735a1614b6a9734944082ab", func := "rollbook/rollbooklaw09.ZoneMoves", spec := "zoneMoves", unfollowed := true, recurses := true, apart := false, narrowed := true }
def ZoneMovesUptoSaid : Prop := zoneMovesUptoRow.holds Try.pinned (OpenSpec.upto zoneMovesSpec)

/-- 'rollbooklaw09.ZoneFixed', WHERE WHAT IT READS IS OF BULK AT MOST 1048576: true; the input reads as it did. -/
def zoneFixedUptoRow : OpenClaim := { program := "ytioenakhkkejmaa", sum := "e43c192481c1d3032fb443a0d5acaa99f7f6fd517735a1614b6a9734944082ab", func := "rollbook/rollbooklaw09.ZoneFixed", spec := "zoneFixed", unfollowed := true, recurses := true, apart := false, narrowed := true }
def ZoneFixedUptoSaid : Prop := zoneFixedUptoRow.holds Try.pinned (OpenSpec.upto zoneFixedSpec)

end Rows
end Go.Proofs.Ytioenakhkkejmaa
