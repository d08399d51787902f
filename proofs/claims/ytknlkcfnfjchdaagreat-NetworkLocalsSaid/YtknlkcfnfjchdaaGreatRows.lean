/-
  No cell of these rows narrows 'for every input' (looked for: loops, veiled, ifaces, maps, wideKeys, modest, calm, conditions, laid).
  DERIVED. THE GIVEN ROWS OF THIS SEAT. 10 by the template 'for every input the law returns true; each argument reads behind the call as it read before'; 0 by the template 'total and deterministic' (their statements: YtknlkcfnfjchdaaGreatTotals.lean).
  GIVEN WITH THE SEED: the statements are not yours to turn. If you find one false, say at which input.
  Laid BY PROGRAM, IN A SANDBOX (cutbox-rows.mjs): the forced cells as the released guide's own fill.sh prints them over the translation 6fba51c683a6e0d1… (all of the seat's roots in one cut). By AI agents, Wed Nov 11 2026. No macro, syntax, notation, axiom, sorry.
-/
import Derived.Test.YtknlkcfnfjchdaaGreatChecked
import GoSem.Claim
import GoSem.ClaimJoined
import GoSem.ClaimMapViews
import Derived.JoinedTies
import Derived.KernelRfl
namespace Go.Proofs.YtknlkcfnfjchdaaGreat
/- THE CELL 'sum', in the pinned program and in every row, IS THE sha256 OF THE DUMP (.gsa) THAT YtknlkcfnfjchdaaGreatProg.lean LOADS. Nothing in Lean hashes anything: it is a label: what it is worth is what the hold of that sum in a sandbox is worth. -/
noncomputable def Tryz.pinned : Pinned := { name := "ytknlkcfnfjchdaagreat", sum := "6fba51c683a6e0d141edea7f184aa8f6173d0c762eeb94347559b1e545acf77d", checked := Tryz.checked }
namespace Rows
def none {H : Type} : Left H := { results := [], args := [] }

/-- 'overseerlaw13.NetworkChecks': WHATEVER THE INPUT: true; the input reads as it did. -/
def networkChecksSpec : ChangeSpec := { name := "networkChecks", fn := fun _ => fun
  | [d1, d2, d3] => { results := [.lit (.bool true)], args := [d1, d2, d3] }
  | _ => none }
def networkChecksRow : OpenClaim := { program := "ytknlkcfnfjchdaagreat", sum := "6fba51c683a6e0d141edea7f184aa8f6173d0c762eeb94347559b1e545acf77d", func := "overseer/overseerlaw13.NetworkChecks", spec := "networkChecks", inPlace := ["slices.overlaps[int]"], unfollowed := true, recurses := true, plainKeys := false, apart := false }
def NetworkChecksSaid : Prop := networkChecksRow.holds Tryz.pinned (OpenSpec.ofChange networkChecksSpec)

/-- ITS FALSE NEIGHBOUR: 'it returns false'. Refute it at one input. -/
def networkChecksWrong : ChangeSpec := { name := "networkChecks", fn := fun _ => fun
  | [d1, d2, d3] => { results := [.lit (.bool false)], args := [d1, d2, d3] }
  | _ => none }
def NetworkChecksWrongFalsely : Prop := networkChecksRow.holds Tryz.pinned (OpenSpec.ofChange networkChecksWrong)

/-- 'overseerlaw13.NetworkSteps': WHATEVER THE INPUT: true; the input reads as it did. -/
def networkStepsSpec : ChangeSpec := { name := "networkSteps", fn := fun _ => fun
  | [d1, d2] => { results := [.lit (.bool true)], args := [d1, d2] }
  | _ => none }
def networkStepsRow : OpenClaim := { program := "ytknlkcfnfjchdaagreat", sum := "6fba51c683a6e0d141edea7f184aa8f6173d0c762eeb94347559b1e545acf77d", func := "overseer/overseerlaw13.NetworkSteps", spec := "networkSteps", inPlace := ["slices.overlaps[int]"], unfollowed := true, recurses := true, plainKeys := false, apart := false }
def NetworkStepsSaid : Prop := networkStepsRow.holds Tryz.pinned (OpenSpec.ofChange networkStepsSpec)

/-- ITS FALSE NEIGHBOUR: 'it returns false'. Refute it at one input. -/
def networkStepsWrong : ChangeSpec := { name := "networkSteps", fn := fun _ => fun
  | [d1, d2] => { results := [.lit (.bool false)], args := [d1, d2] }
  | _ => none }
def NetworkStepsWrongFalsely : Prop := networkStepsRow.holds Tryz.pinned (OpenSpec.ofChange networkStepsWrong)

/-- 'overseerlaw13.NetworkOrders': WHATEVER THE INPUT: true; the input reads as it did. -/
def networkOrdersSpec : ChangeSpec := { name := "networkOrders", fn := fun _ => fun
  | [d1, d2] => { results := [.lit (.bool true)], args := [d1, d2] }
  | _ => none }
def networkOrdersRow : OpenClaim := { program := "ytknlkcfnfjchdaagreat", sum := "6fba51c683a6e0d141edea7f184aa8f6173d0c762eeb94347559b1e545acf77d", func := "overseer/overseerlaw13.NetworkOrders", spec := "networkOrders", inPlace := ["slices.overlaps[int]"], unfollowed := true, recurses := true, plainKeys := false, apart := false }
def NetworkOrdersSaid : Prop := networkOrdersRow.holds Tryz.pinned (OpenSpec.ofChange networkOrdersSpec)

/-- ITS FALSE NEIGHBOUR: 'it returns false'. Refute it at one input. -/
def networkOrdersWrong : ChangeSpec := { name := "networkOrders", fn := fun _ => fun
  | [d1, d2] => { results := [.lit (.bool false)], args := [d1, d2] }
  | _ => none }
def NetworkOrdersWrongFalsely : Prop := networkOrdersRow.holds Tryz.pinned (OpenSpec.ofChange networkOrdersWrong)

/-- 'overseerlaw13.NetworkUnions': WHATEVER THE INPUT: true; the input reads as it did. -/
def networkUnionsSpec : ChangeSpec := { name := "networkUnions", fn := fun _ => fun
  | [d1, d2, d3] => { results := [.lit (.bool true)], args := [d1, d2, d3] }
  | _ => none }
def networkUnionsRow : OpenClaim := { program := "ytknlkcfnfjchdaagreat", sum := "6fba51c683a6e0d141edea7f184aa8f6173d0c762eeb94347559b1e545acf77d", func := "overseer/overseerlaw13.NetworkUnions", spec := "networkUnions", inPlace := ["slices.overlaps[int]"], unfollowed := true, recurses := true, plainKeys := false, apart := false }
def NetworkUnionsSaid : Prop := networkUnionsRow.holds Tryz.pinned (OpenSpec.ofChange networkUnionsSpec)

/-- ITS FALSE NEIGHBOUR: 'it returns false'. Refute it at one input. -/
def networkUnionsWrong : ChangeSpec := { name := "networkUnions", fn := fun _ => fun
  | [d1, d2, d3] => { results := [.lit (.bool false)], args := [d1, d2, d3] }
  | _ => none }
def NetworkUnionsWrongFalsely : Prop := networkUnionsRow.holds Tryz.pinned (OpenSpec.ofChange networkUnionsWrong)

/-- 'overseerlaw13.NetworkCodes': WHATEVER THE INPUT: true; the input reads as it did. -/
def networkCodesSpec : ChangeSpec := { name := "networkCodes", fn := fun _ => fun
  | [d1, d2, d3] => { results := [.lit (.bool true)], args := [d1, d2, d3] }
  | _ => none }
def networkCodesRow : OpenClaim := { program := "ytknlkcfnfjchdaagreat", sum := "6fba51c683a6e0d141edea7f184aa8f6173d0c762eeb94347559b1e545acf77d", func := "overseer/overseerlaw13.NetworkCodes", spec := "networkCodes", inPlace := ["slices.overlaps[int]"], unfollowed := true, recurses := true, plainKeys := false, apart := false }
def NetworkCodesSaid : Prop := networkCodesRow.holds Tryz.pinned (OpenSpec.ofChange networkCodesSpec)

/-- ITS FALSE NEIGHBOUR: 'it returns false'. Refute it at one input. -/
def networkCodesWrong : ChangeSpec := { name := "networkCodes", fn := fun _ => fun
  | [d1, d2, d3] => { results := [.lit (.bool false)], args := [d1, d2, d3] }
  | _ => none }
def NetworkCodesWrongFalsely : Prop := networkCodesRow.holds Tryz.pinned (OpenSpec.ofChange networkCodesWrong)

/-- 'overseerlaw13.NetworkEnables': WHATEVER THE INPUT: true; the input reads as it did. -/
def networkEnablesSpec : ChangeSpec := { name := "networkEnables", fn := fun _ => fun
  | [d1, d2] => { results := [.lit (.bool true)], args := [d1, d2] }
  | _ => none }
def networkEnablesRow : OpenClaim := { program := "ytknlkcfnfjchdaagreat", sum := "6fba51c683a6e0d141edea7f184aa8f6173d0c762eeb94347559b1e545acf77d", func := "overseer/overseerlaw13.NetworkEnables", spec := "networkEnables", inPlace := ["slices.overlaps[int]"], unfollowed := true, recurses := true, plainKeys := false, apart := false }
def NetworkEnablesSaid : Prop := networkEnablesRow.holds Tryz.pinned (OpenSpec.ofChange networkEnablesSpec)

/-- ITS FALSE NEIGHBOUR: 'it returns false'. Refute it at one input. -/
def networkEnablesWrong : ChangeSpec := { name := "networkEnables", fn := fun _ => fun
  | [d1, d2] => { results := [.lit (.bool false)], args := [d1, d2] }
  | _ => none }
def NetworkEnablesWrongFalsely : Prop := networkEnablesRow.holds Tryz.pinned (OpenSpec.ofChange networkEnablesWrong)

/-- 'overseerlaw13.NetworkLocals': WHATEVER THE INPUT: true; the input reads as it did. -/
def networkLocalsSpec : ChangeSpec := { name := "networkLocals", fn := fun _ => fun
  | [d1, d2, d3] => { results := [.lit (.bool true)], args := [d1, d2, d3] }
  | _ => none }
def networkLocalsRow : OpenClaim := { program := "ytknlkcfnfjchdaagreat", sum := "6fba51c683a6e0d141edea7f184aa8f6173d0c762eeb94347559b1e545acf77d", func := "overseer/overseerlaw13.NetworkLocals", spec := "networkLocals", inPlace := ["slices.overlaps[int]"], unfollowed := true, recurses := true, plainKeys := false, apart := false }
def NetworkLocalsSaid : Prop := networkLocalsRow.holds Tryz.pinned (OpenSpec.ofChange networkLocalsSpec)

/-- ITS FALSE NEIGHBOUR: 'it returns false'. Refute it at one input. -/
def networkLocalsWrong : ChangeSpec := { name := "networkLocals", fn := fun _ => fun
  | [d1, d2, d3] => { results := [.lit (.bool false)], args := [d1, d2, d3] }
  | _ => none }
def NetworkLocalsWrongFalsely : Prop := networkLocalsRow.holds Tryz.pinned (OpenSpec.ofChange networkLocalsWrong)

/-- 'overseerlaw11.RelationStates': WHATEVER THE INPUT: true; the input reads as it did. -/
def relationStatesSpec : ChangeSpec := { name := "relationStates", fn := fun _ => fun
  | [d1, d2, d3] => { results := [.lit (.bool true)], args := [d1, d2, d3] }
  | _ => none }
def relationStatesRow : OpenClaim := { program := "ytknlkcfnfjchdaagreat", sum := "6fba51c683a6e0d141edea7f184aa8f6173d0c762eeb94347559b1e545acf77d", func := "overseer/overseerlaw11.RelationStates", spec := "relationStates", unfollowed := true, recurses := true, plainKeys := false, apart := false }
def RelationStatesSaid : Prop := relationStatesRow.holds Tryz.pinned (OpenSpec.ofChange relationStatesSpec)

/-- ITS FALSE NEIGHBOUR: 'it returns false'. Refute it at one input. -/
def relationStatesWrong : ChangeSpec := { name := "relationStates", fn := fun _ => fun
  | [d1, d2, d3] => { results := [.lit (.bool false)], args := [d1, d2, d3] }
  | _ => none }
def RelationStatesWrongFalsely : Prop := relationStatesRow.holds Tryz.pinned (OpenSpec.ofChange relationStatesWrong)

/-- 'overseerlaw13.NetworkRefuses': WHATEVER THE INPUT: true; the input reads as it did. -/
def networkRefusesSpec : ChangeSpec := { name := "networkRefuses", fn := fun _ => fun
  | [d1, d2, d3] => { results := [.lit (.bool true)], args := [d1, d2, d3] }
  | _ => none }
def networkRefusesRow : OpenClaim := { program := "ytknlkcfnfjchdaagreat", sum := "6fba51c683a6e0d141edea7f184aa8f6173d0c762eeb94347559b1e545acf77d", func := "overseer/overseerlaw13.NetworkRefuses", spec := "networkRefuses", inPlace := ["slices.overlaps[int]"], unfollowed := true, recurses := true, plainKeys := false, apart := false }
def NetworkRefusesSaid : Prop := networkRefusesRow.holds Tryz.pinned (OpenSpec.ofChange networkRefusesSpec)

/-- ITS FALSE NEIGHBOUR: 'it returns false'. Refute it at one input. -/
def networkRefusesWrong : ChangeSpec := { name := "networkRefuses", fn := fun _ => fun
  | [d1, d2, d3] => { results := [.lit (.bool false)], args := [d1, d2, d3] }
  | _ => none }
def NetworkRefusesWrongFalsely : Prop := networkRefusesRow.holds Tryz.pinned (OpenSpec.ofChange networkRefusesWrong)

/-- 'overseerlaw13.NetworkSets': WHATEVER THE INPUT: true; the input reads as it did. -/
def networkSetsSpec : ChangeSpec := { name := "networkSets", fn := fun _ => fun
  | [d1, d2] => { results := [.lit (.bool true)], args := [d1, d2] }
  | _ => none }
def networkSetsRow : OpenClaim := { program := "ytknlkcfnfjchdaagreat", sum := "6fba51c683a6e0d141edea7f184aa8f6173d0c762eeb94347559b1e545acf77d", func := "overseer/overseerlaw13.NetworkSets", spec := "networkSets", inPlace := ["slices.overlaps[int]"], unfollowed := true, recurses := true, plainKeys := false, apart := false }
def NetworkSetsSaid : Prop := networkSetsRow.holds Tryz.pinned (OpenSpec.ofChange networkSetsSpec)

/-- ITS FALSE NEIGHBOUR: 'it returns false'. Refute it at one input. -/
def networkSetsWrong : ChangeSpec := { name := "networkSets", fn := fun _ => fun
  | [d1, d2] => { results := [.lit (.bool false)], args := [d1, d2] }
  | _ => none }
def NetworkSetsWrongFalsely : Prop := networkSetsRow.holds Tryz.pinned (OpenSpec.ofChange networkSetsWrong)

/- THE SECOND FORM. 'bulk': how many values and letters a reading holds, each counted each time it is reached (what is shared counts as often as it is met; a slice's spare places count too). A statement '..UptoSaid' is the law's where the arguments, and the package variables that the reading takes, are together of bulk at most 1048576: NARROWER than '..Said'. Prove '..Said' where nothing that the law and all that it calls make is longer than what came in: it says more and counts as full. Else prove '..UptoSaid'. A law counts once. -/
mutual
def uptoBulk {H : Type} : DataW H → Nat
  | .lit (.string bytes) => bytes.length + 1
  | .lit _ => 1
  | .nil => 1
  | .ptr d => uptoBulk d + 1
  | .slice elems spare => uptoBulkAll elems + uptoBulkAll spare + 1
  | .agg parts => uptoBulkAll parts + 1
  | .iface _ d => uptoBulk d + 1
  | .map entries => uptoBulkEntries entries + 1
  | .held _ => 1
def uptoBulkAll {H : Type} : List (DataW H) → Nat
  | [] => 0
  | d :: r => uptoBulk d + uptoBulkAll r
def uptoBulkEntries {H : Type} : List (Lit × DataW H) → Nat
  | [] => 0
  | x :: r => uptoBulkEntry x + uptoBulkEntries r
def uptoBulkEntry {H : Type} : Lit × DataW H → Nat
  | (.string bytes, d) => bytes.length + uptoBulk d + 1
  | (_, d) => uptoBulk d + 1
 end
def uptoSmall : (H : Type) → List (DataW H) → Bool := fun _ ds => decide (uptoBulkAll ds ≤ 1048576)
def OpenSpec.upto (s : _root_.Go.ChangeSpec) : _root_.Go.OpenSpec := { _root_.Go.OpenSpec.ofChange s with cond := some uptoSmall }

/-- 'overseerlaw13.NetworkChecks', WHERE WHAT IT READS IS OF BULK AT MOST 1048576: true; the input reads as it did. -/
def networkChecksUptoRow : OpenClaim := { program := "ytknlkcfnfjchdaagreat", sum := "6fba51c683a6e0d141edea7f184aa8f6173d0c762eeb94347559b1e545acf77d", func := "overseer/overseerlaw13.NetworkChecks", spec := "networkChecks", inPlace := ["slices.overlaps[int]"], unfollowed := true, recurses := true, plainKeys := false, apart := false, narrowed := true }
def NetworkChecksUptoSaid : Prop := networkChecksUptoRow.holds Tryz.pinned (OpenSpec.upto networkChecksSpec)

/-- 'overseerlaw13.NetworkSteps', WHERE WHAT IT READS IS OF BULK AT MOST 1048576: true; the input reads as it did. -/
def networkStepsUptoRow : OpenClaim := { program := "ytknlkcfnfjchdaagreat", sum := "6fba51c683a6e0d141edea7f184aa8f6173d0c762eeb94347559b1e545acf77d", func := "overseer/overseerlaw13.NetworkSteps", spec := "networkSteps", inPlace := ["slices.overlaps[int]"], unfollowed := true, recurses := true, plainKeys := false, apart := false, narrowed := true }
def NetworkStepsUptoSaid : Prop := networkStepsUptoRow.holds Tryz.pinned (OpenSpec.upto networkStepsSpec)

/-- 'overseerlaw13.NetworkOrders', WHERE WHAT IT READS IS OF BULK AT MOST 1048576: true; the input reads as it did. -/
def networkOrdersUptoRow : OpenClaim := { program := "ytknlkcfnfjchdaagreat", sum := "6fba51c683a6e0d141edea7f184aa8f6173d0c762eeb94347559b1e545acf77d", func := "overseer/overseerlaw13.NetworkOrders", spec := "networkOrders", inPlace := ["slices.overlaps[int]"], unfollowed := true, recurses := true, plainKeys := false, apart := false, narrowed := true }
def NetworkOrdersUptoSaid : Prop := networkOrdersUptoRow.holds Tryz.pinned (OpenSpec.upto networkOrdersSpec)

/-- 'overseerlaw13.NetworkUnions', WHERE WHAT IT READS IS OF BULK AT MOST 1048576: true; the input reads as it did. -/
def networkUnionsUptoRow : OpenClaim := { program := "ytknlkcfnfjchdaagreat", sum := "6fba51c683a6e0d141edea7f184aa8f6173d0c762eeb94347559b1e545acf77d", func := "overseer/overseerlaw13.NetworkUnions", spec := "networkUnions", inPlace := ["slices.overlaps[int]"], unfollowed := true, recurses := true, plainKeys := false, apart := false, narrowed := true }
def NetworkUnionsUptoSaid : Prop := networkUnionsUptoRow.holds Tryz.pinned (OpenSpec.upto networkUnionsSpec)

/-- 'overseerlaw13.NetworkCodes', WHERE WHAT IT READS IS OF BULK AT MOST 1048576: true; the input reads as it did. -/
def networkCodesUptoRow : OpenClaim := { program := "ytknlkcfnfjchdaagreat", sum := "6fba51c683a6e0d141edea7f184aa8f6173d0c762eeb94347559b1e545acf77d", func := "overseer/overseerlaw13.NetworkCodes", spec := "networkCodes", inPlace := ["slices.overlaps[int]"], unfollowed := true, recurses := true, plainKeys := false, apart := false, narrowed := true }
def NetworkCodesUptoSaid : Prop := networkCodesUptoRow.holds Tryz.pinned (OpenSpec.upto networkCodesSpec)

/-- 'overseerlaw13.NetworkEnables', WHERE WHAT IT READS IS OF BULK AT MOST 1048576: true; the input reads as it did. -/
def networkEnablesUptoRow : OpenClaim := { program := "ytknlkcfnfjchdaagreat", sum := "6fba51c683a6e0d141edea7f184aa8f6173d0c762eeb94347559b1e545acf77d", func := "overseer/overseerlaw13.NetworkEnables", spec := "networkEnables", inPlace := ["slices.overlaps[int]"], unfollowed := true, recurses := true, plainKeys := false, apart := false, narrowed := true }
def NetworkEnablesUptoSaid : Prop := networkEnablesUptoRow.holds Tryz.pinned (OpenSpec.upto networkEnablesSpec)

/-- 'overseerlaw13.NetworkLocals', WHERE WHAT IT READS IS OF BULK AT MOST 1048576: true; the input reads as it did. -/
def networkLocalsUptoRow : OpenClaim := { program := "ytknlkcfnfjchdaagreat", sum := "6fba51c683a6e0d141edea7f184aa8f6173d0c762eeb94347559b1e545acf77d", func := "overseer/overseerlaw13.NetworkLocals", spec := "networkLocals", inPlace := ["slices.overlaps[int]"], unfollowed := true, recurses := true, plainKeys := false, apart := false, narrowed := true }
def NetworkLocalsUptoSaid : Prop := networkLocalsUptoRow.holds Tryz.pinned (OpenSpec.upto networkLocalsSpec)

/-- 'overseerlaw11.RelationStates', WHERE WHAT IT READS IS OF BULK AT MOST 1048576: true; the input reads as it did. -/
def relationStatesUptoRow : OpenClaim := { program := "ytknlkcfnfjchdaagreat", sum := "6fba51c683a6e0d141edea7f184aa8f6173d0c762eeb94347559b1e545acf77d", func := "overseer/overseerlaw11.RelationStates", spec := "relationStates", unfollowed := true, recurses := true, plainKeys := false, apart := false, narrowed := true }
def RelationStatesUptoSaid : Prop := relationStatesUptoRow.holds Tryz.pinned (OpenSpec.upto relationStatesSpec)

/-- 'overseerlaw13.NetworkRefuses', WHERE WHAT IT READS IS OF BULK AT MOST 1048576: true; the input reads as it did. -/
def networkRefusesUptoRow : OpenClaim := { program := "ytknlkcfnfjchdaagreat", sum := "6fba51c683a6e0d141edea7f184aa8f6173d0c762eeb94347559b1e545acf77d", func := "overseer/overseerlaw13.NetworkRefuses", spec := "networkRefuses", inPlace := ["slices.overlaps[int]"], unfollowed := true, recurses := true, plainKeys := false, apart := false, narrowed := true }
def NetworkRefusesUptoSaid : Prop := networkRefusesUptoRow.holds Tryz.pinned (OpenSpec.upto networkRefusesSpec)

/-- 'overseerlaw13.NetworkSets', WHERE WHAT IT READS IS OF BULK AT MOST 1048576: true; the input reads as it did. -/
def networkSetsUptoRow : OpenClaim := { program := "ytknlkcfnfjchdaagreat", sum := "6fba51c683a6e0d141edea7f184aa8f6173d0c762eeb94347559b1e545acf77d", func := "overseer/overseerlaw13.NetworkSets", spec := "networkSets", inPlace := ["slices.overlaps[int]"], unfollowed := true, recurses := true, plainKeys := false, apart := false, narrowed := true }
def NetworkSetsUptoSaid : Prop := networkSetsUptoRow.holds Tryz.pinned (OpenSpec.upto networkSetsSpec)

end Rows
end Go.Proofs.YtknlkcfnfjchdaaGreat
