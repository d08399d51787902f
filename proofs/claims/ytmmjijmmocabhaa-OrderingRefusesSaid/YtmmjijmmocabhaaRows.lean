/-
  No cell of these rows narrows 'for every input' (looked for: loops, veiled, ifaces, maps, wideKeys, modest, calm, conditions, laid).
  DERIVED. THE GIVEN ROWS OF THIS SEAT. 9 by the template 'for every input the law returns true; each argument reads behind the call as it read before'; 0 by the template 'total and deterministic' (their statements: YtmmjijmmocabhaaTotals.lean).
  GIVEN WITH THE SEED: the statements are not yours to turn. If you find one false, say at which input.
  Laid BY PROGRAM, IN A SANDBOX (cutbox-rows.mjs): the forced cells as the released guide's own fill.sh prints them over the translation 3fc73230967c96fa… (all of the seat's roots in one cut). By AI agents, Wed Nov 11 2026. No macro, syntax, notation, axiom, sorry.
-/
import Derived.Test.YtmmjijmmocabhaaChecked
import GoSem.Claim
import GoSem.ClaimJoined
import GoSem.ClaimMapViews
import Derived.JoinedTies
import Derived.KernelRfl
namespace Go.Proofs.Ytmmjijmmocabhaa
/- THE CELL 'sum', in the pinned program and in every row, IS THE sha256 OF THE DUMP (.gsa) THAT YtmmjijmmocabhaaProg.lean LOADS. Nothing in Lean hashes anything: it is a label: what it is worth is what the hold of that sum in a sandbox is worth. -/
noncomputable def Try.pinned : Pinned := { name := "ytmmjijmmocabhaa", sum := "3fc73230967c96fa34619266bd9f912f0fa827c4f8029eb15ac91e1b3dc35a43", checked := Try.checked }
namespace Rows
def none {H : Type} : Left H := { results := [], args := [] }

/-- 'overseerlaw12.OrderingForces': WHATEVER THE INPUT: true; the input reads as it did. -/
def orderingForcesSpec : ChangeSpec := { name := "orderingForces", fn := fun _ => fun
  | [d1, d2, d3] => { results := [.lit (.bool true)], args := [d1, d2, d3] }
  | _ => none }
def orderingForcesRow : OpenClaim := { program := "ytmmjijmmocabhaa", sum := "3fc73230967c96fa34619266bd9f912f0fa827c4f8029eb15ac91e1b3dc35a43", func := "overseer/overseerlaw12.OrderingForces", spec := "orderingForces", inPlace := ["slices.overlaps[int]"], unfollowed := true, recurses := true, plainKeys := false, apart := false }
def OrderingForcesSaid : Prop := orderingForcesRow.holds Try.pinned (OpenSpec.ofChange orderingForcesSpec)

/-- ITS FALSE NEIGHBOUR: 'it returns false'. Refute it at one input. -/
def orderingForcesWrong : ChangeSpec := { name := "orderingForces", fn := fun _ => fun
  | [d1, d2, d3] => { results := [.lit (.bool false)], args := [d1, d2, d3] }
  | _ => none }
def OrderingForcesWrongFalsely : Prop := orderingForcesRow.holds Try.pinned (OpenSpec.ofChange orderingForcesWrong)

/-- 'overseerlaw12.OrderingPermutes': WHATEVER THE INPUT: true; the input reads as it did. -/
def orderingPermutesSpec : ChangeSpec := { name := "orderingPermutes", fn := fun _ => fun
  | [d] => { results := [.lit (.bool true)], args := [d] }
  | _ => none }
def orderingPermutesRow : OpenClaim := { program := "ytmmjijmmocabhaa", sum := "3fc73230967c96fa34619266bd9f912f0fa827c4f8029eb15ac91e1b3dc35a43", func := "overseer/overseerlaw12.OrderingPermutes", spec := "orderingPermutes", inPlace := ["slices.overlaps[int]"], unfollowed := true, recurses := true, plainKeys := false, apart := false }
def OrderingPermutesSaid : Prop := orderingPermutesRow.holds Try.pinned (OpenSpec.ofChange orderingPermutesSpec)

/-- ITS FALSE NEIGHBOUR: 'it returns false'. Refute it at one input. -/
def orderingPermutesWrong : ChangeSpec := { name := "orderingPermutes", fn := fun _ => fun
  | [d] => { results := [.lit (.bool false)], args := [d] }
  | _ => none }
def OrderingPermutesWrongFalsely : Prop := orderingPermutesRow.holds Try.pinned (OpenSpec.ofChange orderingPermutesWrong)

/-- 'overseerlaw12.OrderingChecks': WHATEVER THE INPUT: true; the input reads as it did. -/
def orderingChecksSpec : ChangeSpec := { name := "orderingChecks", fn := fun _ => fun
  | [d1, d2, d3] => { results := [.lit (.bool true)], args := [d1, d2, d3] }
  | _ => none }
def orderingChecksRow : OpenClaim := { program := "ytmmjijmmocabhaa", sum := "3fc73230967c96fa34619266bd9f912f0fa827c4f8029eb15ac91e1b3dc35a43", func := "overseer/overseerlaw12.OrderingChecks", spec := "orderingChecks", inPlace := ["slices.overlaps[int]"], unfollowed := true, recurses := true, plainKeys := false, apart := false }
def OrderingChecksSaid : Prop := orderingChecksRow.holds Try.pinned (OpenSpec.ofChange orderingChecksSpec)

/-- ITS FALSE NEIGHBOUR: 'it returns false'. Refute it at one input. -/
def orderingChecksWrong : ChangeSpec := { name := "orderingChecks", fn := fun _ => fun
  | [d1, d2, d3] => { results := [.lit (.bool false)], args := [d1, d2, d3] }
  | _ => none }
def OrderingChecksWrongFalsely : Prop := orderingChecksRow.holds Try.pinned (OpenSpec.ofChange orderingChecksWrong)

/-- 'overseerlaw12.OrderingSpans': WHATEVER THE INPUT: true; the input reads as it did. -/
def orderingSpansSpec : ChangeSpec := { name := "orderingSpans", fn := fun _ => fun
  | [d1, d2] => { results := [.lit (.bool true)], args := [d1, d2] }
  | _ => none }
def orderingSpansRow : OpenClaim := { program := "ytmmjijmmocabhaa", sum := "3fc73230967c96fa34619266bd9f912f0fa827c4f8029eb15ac91e1b3dc35a43", func := "overseer/overseerlaw12.OrderingSpans", spec := "orderingSpans", inPlace := ["slices.overlaps[int]"], unfollowed := true, recurses := true, plainKeys := false, apart := false }
def OrderingSpansSaid : Prop := orderingSpansRow.holds Try.pinned (OpenSpec.ofChange orderingSpansSpec)

/-- ITS FALSE NEIGHBOUR: 'it returns false'. Refute it at one input. -/
def orderingSpansWrong : ChangeSpec := { name := "orderingSpans", fn := fun _ => fun
  | [d1, d2] => { results := [.lit (.bool false)], args := [d1, d2] }
  | _ => none }
def OrderingSpansWrongFalsely : Prop := orderingSpansRow.holds Try.pinned (OpenSpec.ofChange orderingSpansWrong)

/-- 'overseerlaw12.OrderingShared': WHATEVER THE INPUT: true; the input reads as it did. -/
def orderingSharedSpec : ChangeSpec := { name := "orderingShared", fn := fun _ => fun
  | [d] => { results := [.lit (.bool true)], args := [d] }
  | _ => none }
def orderingSharedRow : OpenClaim := { program := "ytmmjijmmocabhaa", sum := "3fc73230967c96fa34619266bd9f912f0fa827c4f8029eb15ac91e1b3dc35a43", func := "overseer/overseerlaw12.OrderingShared", spec := "orderingShared", inPlace := ["slices.overlaps[int]"], unfollowed := true, recurses := true, plainKeys := false, apart := false }
def OrderingSharedSaid : Prop := orderingSharedRow.holds Try.pinned (OpenSpec.ofChange orderingSharedSpec)

/-- ITS FALSE NEIGHBOUR: 'it returns false'. Refute it at one input. -/
def orderingSharedWrong : ChangeSpec := { name := "orderingShared", fn := fun _ => fun
  | [d] => { results := [.lit (.bool false)], args := [d] }
  | _ => none }
def OrderingSharedWrongFalsely : Prop := orderingSharedRow.holds Try.pinned (OpenSpec.ofChange orderingSharedWrong)

/-- 'overseerlaw12.OrderingLeast': WHATEVER THE INPUT: true; the input reads as it did. -/
def orderingLeastSpec : ChangeSpec := { name := "orderingLeast", fn := fun _ => fun
  | [d] => { results := [.lit (.bool true)], args := [d] }
  | _ => none }
def orderingLeastRow : OpenClaim := { program := "ytmmjijmmocabhaa", sum := "3fc73230967c96fa34619266bd9f912f0fa827c4f8029eb15ac91e1b3dc35a43", func := "overseer/overseerlaw12.OrderingLeast", spec := "orderingLeast", inPlace := ["slices.overlaps[int]"], unfollowed := true, recurses := true, plainKeys := false, apart := false }
def OrderingLeastSaid : Prop := orderingLeastRow.holds Try.pinned (OpenSpec.ofChange orderingLeastSpec)

/-- ITS FALSE NEIGHBOUR: 'it returns false'. Refute it at one input. -/
def orderingLeastWrong : ChangeSpec := { name := "orderingLeast", fn := fun _ => fun
  | [d] => { results := [.lit (.bool false)], args := [d] }
  | _ => none }
def OrderingLeastWrongFalsely : Prop := orderingLeastRow.holds Try.pinned (OpenSpec.ofChange orderingLeastWrong)

/-- 'overseerlaw12.OrderingSifts': WHATEVER THE INPUT: true; the input reads as it did. -/
def orderingSiftsSpec : ChangeSpec := { name := "orderingSifts", fn := fun _ => fun
  | [d] => { results := [.lit (.bool true)], args := [d] }
  | _ => none }
def orderingSiftsRow : OpenClaim := { program := "ytmmjijmmocabhaa", sum := "3fc73230967c96fa34619266bd9f912f0fa827c4f8029eb15ac91e1b3dc35a43", func := "overseer/overseerlaw12.OrderingSifts", spec := "orderingSifts", inPlace := ["slices.overlaps[int]"], unfollowed := true, recurses := true, plainKeys := false, apart := false }
def OrderingSiftsSaid : Prop := orderingSiftsRow.holds Try.pinned (OpenSpec.ofChange orderingSiftsSpec)

/-- ITS FALSE NEIGHBOUR: 'it returns false'. Refute it at one input. -/
def orderingSiftsWrong : ChangeSpec := { name := "orderingSifts", fn := fun _ => fun
  | [d] => { results := [.lit (.bool false)], args := [d] }
  | _ => none }
def OrderingSiftsWrongFalsely : Prop := orderingSiftsRow.holds Try.pinned (OpenSpec.ofChange orderingSiftsWrong)

/-- 'overseerlaw12.OrderingRefuses': WHATEVER THE INPUT: true; the input reads as it did. -/
def orderingRefusesSpec : ChangeSpec := { name := "orderingRefuses", fn := fun _ => fun
  | [d1, d2] => { results := [.lit (.bool true)], args := [d1, d2] }
  | _ => none }
def orderingRefusesRow : OpenClaim := { program := "ytmmjijmmocabhaa", sum := "3fc73230967c96fa34619266bd9f912f0fa827c4f8029eb15ac91e1b3dc35a43", func := "overseer/overseerlaw12.OrderingRefuses", spec := "orderingRefuses", inPlace := ["slices.overlaps[int]"], unfollowed := true, recurses := true, plainKeys := false, apart := false }
def OrderingRefusesSaid : Prop := orderingRefusesRow.holds Try.pinned (OpenSpec.ofChange orderingRefusesSpec)

/-- ITS FALSE NEIGHBOUR: 'it returns false'. Refute it at one input. -/
def orderingRefusesWrong : ChangeSpec := { name := "orderingRefuses", fn := fun _ => fun
  | [d1, d2] => { results := [.lit (.bool false)], args := [d1, d2] }
  | _ => none }
def OrderingRefusesWrongFalsely : Prop := orderingRefusesRow.holds Try.pinned (OpenSpec.ofChange orderingRefusesWrong)

/-- 'overseerlaw12.OrderingReturns': WHATEVER THE INPUT: true; the input reads as it did. -/
def orderingReturnsSpec : ChangeSpec := { name := "orderingReturns", fn := fun _ => fun
  | [d] => { results := [.lit (.bool true)], args := [d] }
  | _ => none }
def orderingReturnsRow : OpenClaim := { program := "ytmmjijmmocabhaa", sum := "3fc73230967c96fa34619266bd9f912f0fa827c4f8029eb15ac91e1b3dc35a43", func := "overseer/overseerlaw12.OrderingReturns", spec := "orderingReturns", inPlace := ["slices.overlaps[int]"], unfollowed := true, recurses := true, plainKeys := false, apart := false }
def OrderingReturnsSaid : Prop := orderingReturnsRow.holds Try.pinned (OpenSpec.ofChange orderingReturnsSpec)

/-- ITS FALSE NEIGHBOUR: 'it returns false'. Refute it at one input. -/
def orderingReturnsWrong : ChangeSpec := { name := "orderingReturns", fn := fun _ => fun
  | [d] => { results := [.lit (.bool false)], args := [d] }
  | _ => none }
def OrderingReturnsWrongFalsely : Prop := orderingReturnsRow.holds Try.pinned (OpenSpec.ofChange orderingReturnsWrong)

/- THE SECOND FORM. 'bulk': how many values and letters a reading holds, each counted each time it is reached (what is shared counts as often as it is met; a slice's spare places count too). A statement '..UptoSaid' is the law's where the arguments, and the package variables that the reading takes, are together of bulk at most 1048576: NARROWER than '..Said'. Prove '..Said' where nothing that the law and all that it calls make is longer than what came in: it says more and counts as full. Else prove '..UptoSaid'. A law counts once. -/
mutual
def uptoBulk {H : Type} : DataW H → Nat
  | .lit (.string bytes) => bytes.length + 1
  | .lit _ => 1
  | .nil => 1
  | .ptr d => uptoBulk d + 1
  | .slice elems spare => uptoBulkAll elems + uptoBulkAll spare + 1
  | .agg parts => uptoBulkAll parts + 1
  | .iface _ d => uptoBulk d + 1
  | .map entries => uptoBulkEntries entries + 1
  | .held _ => 1
def uptoBulkAll {H : Type} : List (DataW H) → Nat
  | [] => 0
  | d :: r => uptoBulk d + uptoBulkAll r
def uptoBulkEntries {H : Type} : List (Lit × DataW H) → Nat
  | [] => 0
  | x :: r => uptoBulkEntry x + uptoBulkEntries r
def uptoBulkEntry {H : Type} : Lit × DataW H → Nat
  | (.string bytes, d) => bytes.length + uptoBulk d + 1
  | (_, d) => uptoBulk d + 1
 end
def uptoSmall : (H : Type) → List (DataW H) → Bool := fun _ ds => decide (uptoBulkAll ds ≤ 1048576)
def OpenSpec.upto (s : _root_.Go.ChangeSpec) : _root_.Go.OpenSpec := { _root_.Go.OpenSpec.ofChange s with cond := some uptoSmall }

/-- 'overseerlaw12.OrderingForces', WHERE WHAT IT READS IS OF BULK AT MOST 1048576: true; the input reads as it did. -/
def orderingForcesUptoRow : OpenClaim := { program := "ytmmjijmmocabhaa", sum := "3fc73230967c96fa34619266bd9f912f0fa827c4f8029eb15ac91e1b3dc35a43", func := "overseer/overseerlaw12.OrderingForces", spec := "orderingForces", inPlace := ["slices.overlaps[int]"], unfollowed := true, recurses := true, plainKeys := false, apart := false, narrowed := true }
def OrderingForcesUptoSaid : Prop := orderingForcesUptoRow.holds Try.pinned (OpenSpec.upto orderingForcesSpec)

/-- 'overseerlaw12.OrderingPermutes', WHERE WHAT IT READS IS OF BULK AT MOST 1048576: true; the input reads as it did. -/
def orderingPermutesUptoRow : OpenClaim := { program := "ytmmjijmmocabhaa", sum := "3fc73230967c96fa34619266bd9f912f0fa827c4f8029eb15ac91e1b3dc35a43", func := "overseer/overseerlaw12.OrderingPermutes", spec := "orderingPermutes", inPlace := ["slices.overlaps[int]"], unfollowed := true, recurses := true, plainKeys := false, apart := false, narrowed := true }
def OrderingPermutesUptoSaid : Prop := orderingPermutesUptoRow.holds Try.pinned (OpenSpec.upto orderingPermutesSpec)

/-- 'overseerlaw12.OrderingChecks', WHERE WHAT IT READS IS OF BULK AT MOST 1048576: true; the input reads as it did. -/
def orderingChecksUptoRow : OpenClaim := { program := "ytmmjijmmocabhaa", sum := "3fc73230967c96fa34619266bd9f912f0fa827c4f8029eb15ac91e1b3dc35a43", func := "overseer/overseerlaw12.OrderingChecks", spec := "orderingChecks", inPlace := ["slices.overlaps[int]"], unfollowed := true, recurses := true, plainKeys := false, apart := false, narrowed := true }
def OrderingChecksUptoSaid : Prop := orderingChecksUptoRow.holds Try.pinned (OpenSpec.upto orderingChecksSpec)

/-- 'overseerlaw12.OrderingSpans', WHERE WHAT IT READS IS OF BULK AT MOST 1048576: true; the input reads as it did. -/
def orderingSpansUptoRow : OpenClaim := { program := "ytmmjijmmocabhaa", sum := "3fc73230967c96fa34619266bd9f912f0fa827c4f8029eb15ac91e1b3dc35a43", func := "overseer/overseerlaw12.OrderingSpans", spec := "orderingSpans", inPlace := ["slices.overlaps[int]"], unfollowed := true, recurses := true, plainKeys := false, apart := false, narrowed := true }
def OrderingSpansUptoSaid : Prop := orderingSpansUptoRow.holds Try.pinned (OpenSpec.upto orderingSpansSpec)

/-- 'overseerlaw12.OrderingShared', WHERE WHAT IT READS IS OF BULK AT MOST 1048576: true; the input reads as it did. -/
def orderingSharedUptoRow : OpenClaim := { program := "ytmmjijmmocabhaa", sum := "3fc73230967c96fa34619266bd9f912f0fa827c4f8029eb15ac91e1b3dc35a43", func := "overseer/overseerlaw12.OrderingShared", spec := "orderingShared", inPlace := ["slices.overlaps[int]"], unfollowed := true, recurses := true, plainKeys := false, apart := false, narrowed := true }
def OrderingSharedUptoSaid : Prop := orderingSharedUptoRow.holds Try.pinned (OpenSpec.upto orderingSharedSpec)

/-- 'overseerlaw12.OrderingLeast', WHERE WHAT IT READS IS OF BULK AT MOST 1048576: true; the input reads as it did. -/
def orderingLeastUptoRow : OpenClaim := { program := "ytmmjijmmocabhaa", sum := "3fc73230967c96fa34619266bd9f912f0fa827c4f8029eb15ac91e1b3dc35a43", func := "overseer/overseerlaw12.OrderingLeast", spec := "orderingLeast", inPlace := ["slices.overlaps[int]"], unfollowed := true, recurses := true, plainKeys := false, apart := false, narrowed := true }
def OrderingLeastUptoSaid : Prop := orderingLeastUptoRow.holds Try.pinned (OpenSpec.upto orderingLeastSpec)

/-- 'overseerlaw12.OrderingSifts', WHERE WHAT IT READS IS OF BULK AT MOST 1048576: true; the input reads as it did. -/
def orderingSiftsUptoRow : OpenClaim := { program := "ytmmjijmmocabhaa", sum := "3fc73230967c96fa34619266bd9f912f0fa827c4f8029eb15ac91e1b3dc35a43", func := "overseer/overseerlaw12.OrderingSifts", spec := "orderingSifts", inPlace := ["slices.overlaps[int]"], unfollowed := true, recurses := true, plainKeys := false, apart := false, narrowed := true }
def OrderingSiftsUptoSaid : Prop := orderingSiftsUptoRow.holds Try.pinned (OpenSpec.upto orderingSiftsSpec)

/-- 'overseerlaw12.OrderingRefuses', WHERE WHAT IT READS IS OF BULK AT MOST 1048576: true; the input reads as it did. -/
def orderingRefusesUptoRow : OpenClaim := { program := "ytmmjijmmocabhaa", sum := "3fc73230967c96fa34619266bd9f912f0fa827c4f8029eb15ac91e1b3dc35a43", func := "overseer/overseerlaw12.OrderingRefuses", spec := "orderingRefuses", inPlace := ["slices.overlaps[int]"], unfollowed := true, recurses := true, plainKeys := false, apart := false, narrowed := true }
def OrderingRefusesUptoSaid : Prop := orderingRefusesUptoRow.holds Try.pinned (OpenSpec.upto orderingRefusesSpec)

/-- 'overseerlaw12.OrderingReturns', WHERE WHAT IT READS IS OF BULK AT MOST 1048576: true; the input reads as it did. -/
def orderingReturnsUptoRow : OpenClaim := { program := "ytmmjijmmocabhaa", sum := "3fc73230967c96fa34619266bd9f912f0fa827c4f8029eb15ac91e1b3dc35a43", func := "overseer/overseerlaw12.OrderingReturns", spec := "orderingReturns", inPlace := ["slices.overlaps[int]"], unfollowed := true, recurses := true, plainKeys := false, apart := false, narrowed := true }
def OrderingReturnsUptoSaid : Prop := orderingReturnsUptoRow.holds Try.pinned (OpenSpec.upto orderingReturnsSpec)

end Rows
end Go.Proofs.Ytmmjijmmocabhaa
