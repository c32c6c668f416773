/-
  No cell of these rows narrows 'for every input' (looked for: loops, veiled, ifaces, maps, wideKeys, modest, calm, conditions, laid).
  DERIVED. THE GIVEN ROWS OF THIS SEAT. 9 by the template 'for every input the law returns true; each argument reads behind the call as it read before'; 0 by the template 'total and deterministic' (their statements: YtmkhnpkbaegchaaTotals.lean).
  GIVEN WITH THE SEED: the statements are not yours to turn. If you find one false, say at which input.
  Laid BY PROGRAM, IN A SANDBOX (cutbox-rows.mjs): the forced cells as the released guide's own fill.sh prints them over the translation cd1d62121f5d2e00… (all of the seat's roots in one cut). By AI agents, Wed Nov 11 2026. No macro, syntax, notation, axiom, sorry.
-/
import Derived.Test.YtmkhnpkbaegchaaChecked
import GoSem.Claim
import GoSem.ClaimJoined
import GoSem.ClaimMapViews
import Derived.JoinedTies
import Derived.KernelRfl
namespace Go.Proofs.Ytmkhnpkbaegchaa
/- THE CELL 'sum', in the pinned program and in every row, IS THE sha256 OF THE DUMP (.gsa) THAT YtmkhnpkbaegchaaProg.lean LOADS. Nothing in Lean hashes anything: it is a label: what it is worth is what the hold of that sum in a sandbox is worth. -/
noncomputable def Try.pinned : Pinned := { name := "ytmkhnpkbaegchaa", sum := "cd1d62121f5d2e00eb48be2db24368a5a21adc5c3c22bdf38a7a4ddf063b6c67", checked := Try.checked }
namespace Rows
def none {H : Type} : Left H := { results := [], args := [] }

/-- 'rollbooklaw05.TreeKeeps': WHATEVER THE INPUT: true; the input reads as it did. -/
def treeKeepsSpec : ChangeSpec := { name := "treeKeeps", fn := fun _ => fun
  | [d] => { results := [.lit (.bool true)], args := [d] }
  | _ => none }
def treeKeepsRow : OpenClaim := { program := "ytmkhnpkbaegchaa", sum := "cd1d62121f5d2e00eb48be2db24368a5a21adc5c3c22bdf38a7a4ddf063b6c67", func := "rollbook/rollbooklaw05.TreeKeeps", spec := "treeKeeps", inPlace := ["internal/bytealg.abigen_runtime_cmpstring", "slices.overlaps[rollbook/api.Pair]", "slices.overlaps[*rollbook/tree.node]"], unfollowed := true, recurses := true, apart := false }
def TreeKeepsSaid : Prop := treeKeepsRow.holds Try.pinned (OpenSpec.ofChange treeKeepsSpec)

/-- ITS FALSE NEIGHBOUR: 'it returns false'. Refute it at one input. -/
def treeKeepsWrong : ChangeSpec := { name := "treeKeeps", fn := fun _ => fun
  | [d] => { results := [.lit (.bool false)], args := [d] }
  | _ => none }
def TreeKeepsWrongFalsely : Prop := treeKeepsRow.holds Try.pinned (OpenSpec.ofChange treeKeepsWrong)

/-- 'rollbooklaw05.TreeDiffs': WHATEVER THE INPUT: true; the input reads as it did. -/
def treeDiffsSpec : ChangeSpec := { name := "treeDiffs", fn := fun _ => fun
  | [d1, d2, d3] => { results := [.lit (.bool true)], args := [d1, d2, d3] }
  | _ => none }
def treeDiffsRow : OpenClaim := { program := "ytmkhnpkbaegchaa", sum := "cd1d62121f5d2e00eb48be2db24368a5a21adc5c3c22bdf38a7a4ddf063b6c67", func := "rollbook/rollbooklaw05.TreeDiffs", spec := "treeDiffs", inPlace := ["internal/bytealg.abigen_runtime_cmpstring", "slices.overlaps[rollbook/api.Pair]", "slices.overlaps[*rollbook/tree.node]"], unfollowed := true, recurses := true, apart := false }
def TreeDiffsSaid : Prop := treeDiffsRow.holds Try.pinned (OpenSpec.ofChange treeDiffsSpec)

/-- ITS FALSE NEIGHBOUR: 'it returns false'. Refute it at one input. -/
def treeDiffsWrong : ChangeSpec := { name := "treeDiffs", fn := fun _ => fun
  | [d1, d2, d3] => { results := [.lit (.bool false)], args := [d1, d2, d3] }
  | _ => none }
def TreeDiffsWrongFalsely : Prop := treeDiffsRow.holds Try.pinned (OpenSpec.ofChange treeDiffsWrong)

/-- 'rollbooklaw05.TreeOrders': WHATEVER THE INPUT: true; the input reads as it did. -/
def treeOrdersSpec : ChangeSpec := { name := "treeOrders", fn := fun _ => fun
  | [d1, d2, d3] => { results := [.lit (.bool true)], args := [d1, d2, d3] }
  | _ => none }
def treeOrdersRow : OpenClaim := { program := "ytmkhnpkbaegchaa", sum := "cd1d62121f5d2e00eb48be2db24368a5a21adc5c3c22bdf38a7a4ddf063b6c67", func := "rollbook/rollbooklaw05.TreeOrders", spec := "treeOrders", inPlace := ["internal/bytealg.abigen_runtime_cmpstring", "slices.overlaps[rollbook/api.Pair]", "slices.overlaps[*rollbook/tree.node]"], unfollowed := true, recurses := true, apart := false }
def TreeOrdersSaid : Prop := treeOrdersRow.holds Try.pinned (OpenSpec.ofChange treeOrdersSpec)

/-- ITS FALSE NEIGHBOUR: 'it returns false'. Refute it at one input. -/
def treeOrdersWrong : ChangeSpec := { name := "treeOrders", fn := fun _ => fun
  | [d1, d2, d3] => { results := [.lit (.bool false)], args := [d1, d2, d3] }
  | _ => none }
def TreeOrdersWrongFalsely : Prop := treeOrdersRow.holds Try.pinned (OpenSpec.ofChange treeOrdersWrong)

/-- 'rollbooklaw05.TreeModel': WHATEVER THE INPUT: true; the input reads as it did. -/
def treeModelSpec : ChangeSpec := { name := "treeModel", fn := fun _ => fun
  | [d1, d2, d3] => { results := [.lit (.bool true)], args := [d1, d2, d3] }
  | _ => none }
def treeModelRow : OpenClaim := { program := "ytmkhnpkbaegchaa", sum := "cd1d62121f5d2e00eb48be2db24368a5a21adc5c3c22bdf38a7a4ddf063b6c67", func := "rollbook/rollbooklaw05.TreeModel", spec := "treeModel", inPlace := ["internal/bytealg.abigen_runtime_cmpstring", "slices.overlaps[rollbook/api.Pair]", "slices.overlaps[*rollbook/tree.node]"], unfollowed := true, recurses := true, apart := false }
def TreeModelSaid : Prop := treeModelRow.holds Try.pinned (OpenSpec.ofChange treeModelSpec)

/-- ITS FALSE NEIGHBOUR: 'it returns false'. Refute it at one input. -/
def treeModelWrong : ChangeSpec := { name := "treeModel", fn := fun _ => fun
  | [d1, d2, d3] => { results := [.lit (.bool false)], args := [d1, d2, d3] }
  | _ => none }
def TreeModelWrongFalsely : Prop := treeModelRow.holds Try.pinned (OpenSpec.ofChange treeModelWrong)

/-- 'rollbooklaw05.TreeLarge': WHATEVER THE INPUT: true; the input reads as it did. -/
def treeLargeSpec : ChangeSpec := { name := "treeLarge", fn := fun _ => fun
  | [d1, d2, d3, d4] => { results := [.lit (.bool true)], args := [d1, d2, d3, d4] }
  | _ => none }
def treeLargeRow : OpenClaim := { program := "ytmkhnpkbaegchaa", sum := "cd1d62121f5d2e00eb48be2db24368a5a21adc5c3c22bdf38a7a4ddf063b6c67", func := "rollbook/rollbooklaw05.TreeLarge", spec := "treeLarge", inPlace := ["internal/bytealg.abigen_runtime_cmpstring", "slices.overlaps[rollbook/api.Pair]", "slices.overlaps[*rollbook/tree.node]"], unfollowed := true, recurses := true, apart := false }
def TreeLargeSaid : Prop := treeLargeRow.holds Try.pinned (OpenSpec.ofChange treeLargeSpec)

/-- ITS FALSE NEIGHBOUR: 'it returns false'. Refute it at one input. -/
def treeLargeWrong : ChangeSpec := { name := "treeLarge", fn := fun _ => fun
  | [d1, d2, d3, d4] => { results := [.lit (.bool false)], args := [d1, d2, d3, d4] }
  | _ => none }
def TreeLargeWrongFalsely : Prop := treeLargeRow.holds Try.pinned (OpenSpec.ofChange treeLargeWrong)

/-- 'rollbooklaw05.TreePermits': WHATEVER THE INPUT: true; the input reads as it did. -/
def treePermitsSpec : ChangeSpec := { name := "treePermits", fn := fun _ => fun
  | [d1, d2, d3, d4] => { results := [.lit (.bool true)], args := [d1, d2, d3, d4] }
  | _ => none }
def treePermitsRow : OpenClaim := { program := "ytmkhnpkbaegchaa", sum := "cd1d62121f5d2e00eb48be2db24368a5a21adc5c3c22bdf38a7a4ddf063b6c67", func := "rollbook/rollbooklaw05.TreePermits", spec := "treePermits", inPlace := ["internal/bytealg.abigen_runtime_cmpstring", "slices.overlaps[rollbook/api.Pair]", "slices.overlaps[*rollbook/tree.node]"], unfollowed := true, recurses := true, apart := false }
def TreePermitsSaid : Prop := treePermitsRow.holds Try.pinned (OpenSpec.ofChange treePermitsSpec)

/-- ITS FALSE NEIGHBOUR: 'it returns false'. Refute it at one input. -/
def treePermitsWrong : ChangeSpec := { name := "treePermits", fn := fun _ => fun
  | [d1, d2, d3, d4] => { results := [.lit (.bool false)], args := [d1, d2, d3, d4] }
  | _ => none }
def TreePermitsWrongFalsely : Prop := treePermitsRow.holds Try.pinned (OpenSpec.ofChange treePermitsWrong)

/-- 'rollbooklaw05.TreeRanges': WHATEVER THE INPUT: true; the input reads as it did. -/
def treeRangesSpec : ChangeSpec := { name := "treeRanges", fn := fun _ => fun
  | [d1, d2, d3, d4] => { results := [.lit (.bool true)], args := [d1, d2, d3, d4] }
  | _ => none }
def treeRangesRow : OpenClaim := { program := "ytmkhnpkbaegchaa", sum := "cd1d62121f5d2e00eb48be2db24368a5a21adc5c3c22bdf38a7a4ddf063b6c67", func := "rollbook/rollbooklaw05.TreeRanges", spec := "treeRanges", inPlace := ["internal/bytealg.abigen_runtime_cmpstring", "slices.overlaps[rollbook/api.Pair]", "slices.overlaps[*rollbook/tree.node]"], unfollowed := true, recurses := true, apart := false }
def TreeRangesSaid : Prop := treeRangesRow.holds Try.pinned (OpenSpec.ofChange treeRangesSpec)

/-- ITS FALSE NEIGHBOUR: 'it returns false'. Refute it at one input. -/
def treeRangesWrong : ChangeSpec := { name := "treeRanges", fn := fun _ => fun
  | [d1, d2, d3, d4] => { results := [.lit (.bool false)], args := [d1, d2, d3, d4] }
  | _ => none }
def TreeRangesWrongFalsely : Prop := treeRangesRow.holds Try.pinned (OpenSpec.ofChange treeRangesWrong)

/-- 'rollbooklaw05.TreeShares': WHATEVER THE INPUT: true; the input reads as it did. -/
def treeSharesSpec : ChangeSpec := { name := "treeShares", fn := fun _ => fun
  | [d1, d2, d3] => { results := [.lit (.bool true)], args := [d1, d2, d3] }
  | _ => none }
def treeSharesRow : OpenClaim := { program := "ytmkhnpkbaegchaa", sum := "cd1d62121f5d2e00eb48be2db24368a5a21adc5c3c22bdf38a7a4ddf063b6c67", func := "rollbook/rollbooklaw05.TreeShares", spec := "treeShares", inPlace := ["internal/bytealg.abigen_runtime_cmpstring", "slices.overlaps[rollbook/api.Pair]", "slices.overlaps[*rollbook/tree.node]"], unfollowed := true, recurses := true, apart := false }
def TreeSharesSaid : Prop := treeSharesRow.holds Try.pinned (OpenSpec.ofChange treeSharesSpec)

/-- ITS FALSE NEIGHBOUR: 'it returns false'. Refute it at one input. -/
def treeSharesWrong : ChangeSpec := { name := "treeShares", fn := fun _ => fun
  | [d1, d2, d3] => { results := [.lit (.bool false)], args := [d1, d2, d3] }
  | _ => none }
def TreeSharesWrongFalsely : Prop := treeSharesRow.holds Try.pinned (OpenSpec.ofChange treeSharesWrong)

/-- 'rollbooklaw05.TreeWire': WHATEVER THE INPUT: true; the input reads as it did. -/
def treeWireSpec : ChangeSpec := { name := "treeWire", fn := fun _ => fun
  | [d] => { results := [.lit (.bool true)], args := [d] }
  | _ => none }
def treeWireRow : OpenClaim := { program := "ytmkhnpkbaegchaa", sum := "cd1d62121f5d2e00eb48be2db24368a5a21adc5c3c22bdf38a7a4ddf063b6c67", func := "rollbook/rollbooklaw05.TreeWire", spec := "treeWire", inPlace := ["internal/bytealg.abigen_runtime_cmpstring", "slices.overlaps[rollbook/api.Pair]", "slices.overlaps[*rollbook/tree.node]"], unfollowed := true, recurses := true, apart := false }
def TreeWireSaid : Prop := treeWireRow.holds Try.pinned (OpenSpec.ofChange treeWireSpec)

/-- ITS FALSE NEIGHBOUR: 'it returns false'. Refute it at one input. -/
def treeWireWrong : ChangeSpec := { name := "treeWire", fn := fun _ => fun
  | [d] => { results := [.lit (.bool false)], args := [d] }
  | _ => none }
def TreeWireWrongFalsely : Prop := treeWireRow.holds Try.pinned (OpenSpec.ofChange treeWireWrong)

/- THE SECOND FORM. 'bulk': how many values and letters a reading holds, each counted each time it is reached (what is shared counts as often as it is met; a slice's spare places count too). A statement '..UptoSaid' is the law's where the arguments, and the package variables that the reading takes, are together of bulk at most 1048576: NARROWER than '..Said'. Prove '..Said' where nothing that the law and all that it calls make is longer than what came in: it says more and counts as full. Else prove '..UptoSaid'. A law counts once. -/
mutual
def uptoBulk {H : Type} : DataW H → Nat
  | .lit (.string bytes) => bytes.length + 1
  | .lit _ => 1
  | .nil => 1
  | .ptr d => uptoBulk d + 1
  | .slice elems spare => uptoBulkAll elems + uptoBulkAll spare + 1
  | .agg parts => uptoBulkAll parts + 1
  | .iface _ d => uptoBulk d + 1
  | .map entries => uptoBulkEntries entries + 1
  | .held _ => 1
def uptoBulkAll {H : Type} : List (DataW H) → Nat
  | [] => 0
  | d :: r => uptoBulk d + uptoBulkAll r
def uptoBulkEntries {H : Type} : List (Lit × DataW H) → Nat
  | [] => 0
  | x :: r => uptoBulkEntry x + uptoBulkEntries r
def uptoBulkEntry {H : Type} : Lit × DataW H → Nat
  | (.string bytes, d) => bytes.length + uptoBulk d + 1
  | (_, d) => uptoBulk d + 1
 end
def uptoSmall : (H : Type) → List (DataW H) → Bool := fun _ ds => decide (uptoBulkAll ds ≤ 1048576)
def OpenSpec.upto (s : _root_.Go.ChangeSpec) : _root_.Go.OpenSpec := { _root_.Go.OpenSpec.ofChange s with cond := some uptoSmall }

/-- 'rollbooklaw05.TreeKeeps', WHERE WHAT IT READS IS OF BULK AT MOST 1048576: true; the input reads as it did. -/
def treeKeepsUptoRow : OpenClaim := { program := "ytmkhnpkbaegchaa", sum := "cd1d62121f5d2e00eb48be2db24368a5a21adc5c3c22bdf38a7a4ddf063b6c67", func := "rollbook/rollbooklaw05.TreeKeeps", spec := "treeKeeps", inPlace := ["internal/bytealg.abigen_runtime_cmpstring", "slices.overlaps[rollbook/api.Pair]", "slices.overlaps[*rollbook/tree.node]"], unfollowed := true, recurses := true, apart := false, narrowed := true }
def TreeKeepsUptoSaid : Prop := treeKeepsUptoRow.holds Try.pinned (OpenSpec.upto treeKeepsSpec)

/-- 'rollbooklaw05.TreeDiffs', WHERE WHAT IT READS IS OF BULK AT MOST 1048576: true; the input reads as it did. -/
def treeDiffsUptoRow : OpenClaim := { program := "ytmkhnpkbaegchaa", sum := "cd1d62121f5d2e00eb48be2db24368a5a21adc5c3c22bdf38a7a4ddf063b6c67", func := "rollbook/rollbooklaw05.TreeDiffs", spec := "treeDiffs", inPlace := ["internal/bytealg.abigen_runtime_cmpstring", "slices.overlaps[rollbook/api.Pair]", "slices.overlaps[*rollbook/tree.node]"], unfollowed := true, recurses := true, apart := false, narrowed := true }
def TreeDiffsUptoSaid : Prop := treeDiffsUptoRow.holds Try.pinned (OpenSpec.upto treeDiffsSpec)

/-- 'rollbooklaw05.TreeOrders', WHERE WHAT IT READS IS OF BULK AT MOST 1048576: true; the input reads as it did. -/
def treeOrdersUptoRow : OpenClaim := { program := "ytmkhnpkbaegchaa", sum := "cd1d62121f5d2e00eb48be2db24368a5a21adc5c3c22bdf38a7a4ddf063b6c67", func := "rollbook/rollbooklaw05.TreeOrders", spec := "treeOrders", inPlace := ["internal/bytealg.abigen_runtime_cmpstring", "slices.overlaps[rollbook/api.Pair]", "slices.overlaps[*rollbook/tree.node]"], unfollowed := true, recurses := true, apart := false, narrowed := true }
def TreeOrdersUptoSaid : Prop := treeOrdersUptoRow.holds Try.pinned (OpenSpec.upto treeOrdersSpec)

/-- 'rollbooklaw05.TreeModel', WHERE WHAT IT READS IS OF BULK AT MOST 1048576: true; the input reads as it did. -/
def treeModelUptoRow : OpenClaim := { program := "ytmkhnpkbaegchaa", sum := "cd1d62121f5d2e00eb48be2db24368a5a21adc5c3c22bdf38a7a4ddf063b6c67", func := "rollbook/rollbooklaw05.TreeModel", spec := "treeModel", inPlace := ["internal/bytealg.abigen_runtime_cmpstring", "slices.overlaps[rollbook/api.Pair]", "slices.overlaps[*rollbook/tree.node]"], unfollowed := true, recurses := true, apart := false, narrowed := true }
def TreeModelUptoSaid : Prop := treeModelUptoRow.holds Try.pinned (OpenSpec.upto treeModelSpec)

/-- 'rollbooklaw05.TreeLarge', WHERE WHAT IT READS IS OF BULK AT MOST 1048576: true; the input reads as it did. -/
def treeLargeUptoRow : OpenClaim := { program := "ytmkhnpkbaegchaa", sum := "cd1d62121f5d2e00eb48be2db24368a5a21adc5c3c22bdf38a7a4ddf063b6c67", func := "rollbook/rollbooklaw05.TreeLarge", spec := "treeLarge", inPlace := ["internal/bytealg.abigen_runtime_cmpstring", "slices.overlaps[rollbook/api.Pair]", "slices.overlaps[*rollbook/tree.node]"], unfollowed := true, recurses := true, apart := false, narrowed := true }
def TreeLargeUptoSaid : Prop := treeLargeUptoRow.holds Try.pinned (OpenSpec.upto treeLargeSpec)

/-- 'rollbooklaw05.TreePermits', WHERE WHAT IT READS IS OF BULK AT MOST 1048576: true; the input reads as it did. -/
def treePermitsUptoRow : OpenClaim := { program := "ytmkhnpkbaegchaa", sum := "cd1d62121f5d2e00eb48be2db24368a5a21adc5c3c22bdf38a7a4ddf063b6c67", func := "rollbook/rollbooklaw05.TreePermits", spec := "treePermits", inPlace := ["internal/bytealg.abigen_runtime_cmpstring", "slices.overlaps[rollbook/api.Pair]", "slices.overlaps[*rollbook/tree.node]"], unfollowed := true, recurses := true, apart := false, narrowed := true }
def TreePermitsUptoSaid : Prop := treePermitsUptoRow.holds Try.pinned (OpenSpec.upto treePermitsSpec)

/-- 'rollbooklaw05.TreeRanges', WHERE WHAT IT READS IS OF BULK AT MOST 1048576: true; the input reads as it did. -/
def treeRangesUptoRow : OpenClaim := { program := "ytmkhnpkbaegchaa", sum := "cd1d62121f5d2e00eb48be2db24368a5a21adc5c3c22bdf38a7a4ddf063b6c67", func := "rollbook/rollbooklaw05.TreeRanges", spec := "treeRanges", inPlace := ["internal/bytealg.abigen_runtime_cmpstring", "slices.overlaps[rollbook/api.Pair]", "slices.overlaps[*rollbook/tree.node]"], unfollowed := true, recurses := true, apart := false, narrowed := true }
def TreeRangesUptoSaid : Prop := treeRangesUptoRow.holds Try.pinned (OpenSpec.upto treeRangesSpec)

/-- 'rollbooklaw05.TreeShares', WHERE WHAT IT READS IS OF BULK AT MOST 1048576: true; the input reads as it did. -/
def treeSharesUptoRow : OpenClaim := { program := "ytmkhnpkbaegchaa", sum := "cd1d62121f5d2e00eb48be2db24368a5a21adc5c3c22bdf38a7a4ddf063b6c67", func := "rollbook/rollbooklaw05.TreeShares", spec := "treeShares", inPlace := ["internal/bytealg.abigen_runtime_cmpstring", "slices.overlaps[rollbook/api.Pair]", "slices.overlaps[*rollbook/tree.node]"], unfollowed := true, recurses := true, apart := false, narrowed := true }
def TreeSharesUptoSaid : Prop := treeSharesUptoRow.holds Try.pinned (OpenSpec.upto treeSharesSpec)

/-- 'rollbooklaw05.TreeWire', WHERE WHAT IT READS IS OF BULK AT MOST 1048576: true; the input reads as it did. -/
def treeWireUptoRow : OpenClaim := { program := "ytmkhnpkbaegchaa", sum := "cd1d62121f5d2e00eb48be2db24368a5a21adc5c3c22bdf38a7a4ddf063b6c67", func := "rollbook/rollbooklaw05.TreeWire", spec := "treeWire", inPlace := ["internal/bytealg.abigen_runtime_cmpstring", "slices.overlaps[rollbook/api.Pair]", "slices.overlaps[*rollbook/tree.node]"], unfollowed := true, recurses := true, apart := false, narrowed := true }
def TreeWireUptoSaid : Prop := treeWireUptoRow.holds Try.pinned (OpenSpec.upto treeWireSpec)

end Rows
end Go.Proofs.Ytmkhnpkbaegchaa
