/-
  No cell of these rows narrows 'for every input' (looked for: loops, veiled, ifaces, maps, wideKeys, modest, calm, conditions, laid).
  DERIVED. THE GIVEN ROWS OF THIS SEAT. 11 by the template 'for every input the law returns true; each argument reads behind the call as it read before'; 0 by the template 'total and deterministic' (their statements: YtcdkklddingfpaaGreatTotals.lean).
  GIVEN WITH THE SEED: the statements are not yours to turn. If you find one false, say at which input.
  Laid BY PROGRAM, IN A SANDBOX (cutbox-rows.mjs): the forced cells as the released guide's own fill.sh prints them over the translation 6edca0240041b35f… (all of the seat's roots in one cut). By AI agents, Wed Nov 11 2026. No macro, syntax, notation, axiom, sorry.
-/
import Derived.Test.YtcdkklddingfpaaGreatChecked
import GoSem.Claim
import GoSem.ClaimJoined
import GoSem.ClaimMapViews
import Derived.JoinedTies
import Derived.KernelRfl
namespace Go.Proofs.YtcdkklddingfpaaGreat
/- THE CELL 'sum', in the pinned program and in every row, IS THE sha256 OF THE DUMP (.gsa) THAT YtcdkklddingfpaaGreatProg.lean LOADS. Nothing in Lean hashes anything: it is a label: what it is worth is what the hold of that sum in a sandbox is worth. -/
noncomputable def Tryz.pinned : Pinned := { name := "ytcdkklddingfpaagreat", sum := "6edca0240041b35ff6f02ecdb6ed3a6b23f9b3e7753323adf9c5b43c97ef362b", checked := Tryz.checked }
namespace Rows
def none {H : Type} : Left H := { results := [], args := [] }

/-- 'overseerlaw11.RelationFrom': WHATEVER THE INPUT: true; the input reads as it did. -/
def relationFromSpec : ChangeSpec := { name := "relationFrom", fn := fun _ => fun
  | [d1, d2] => { results := [.lit (.bool true)], args := [d1, d2] }
  | _ => none }
def relationFromRow : OpenClaim := { program := "ytcdkklddingfpaagreat", sum := "6edca0240041b35ff6f02ecdb6ed3a6b23f9b3e7753323adf9c5b43c97ef362b", func := "overseer/overseerlaw11.RelationFrom", spec := "relationFrom", unfollowed := true, recurses := true, plainKeys := false, apart := false }
def RelationFromSaid : Prop := relationFromRow.holds Tryz.pinned (OpenSpec.ofChange relationFromSpec)

/-- ITS FALSE NEIGHBOUR: 'it returns false'. Refute it at one input. -/
def relationFromWrong : ChangeSpec := { name := "relationFrom", fn := fun _ => fun
  | [d1, d2] => { results := [.lit (.bool false)], args := [d1, d2] }
  | _ => none }
def RelationFromWrongFalsely : Prop := relationFromRow.holds Tryz.pinned (OpenSpec.ofChange relationFromWrong)

/-- 'overseerlaw11.RelationCloses': WHATEVER THE INPUT: true; the input reads as it did. -/
def relationClosesSpec : ChangeSpec := { name := "relationCloses", fn := fun _ => fun
  | [d1, d2, d3] => { results := [.lit (.bool true)], args := [d1, d2, d3] }
  | _ => none }
def relationClosesRow : OpenClaim := { program := "ytcdkklddingfpaagreat", sum := "6edca0240041b35ff6f02ecdb6ed3a6b23f9b3e7753323adf9c5b43c97ef362b", func := "overseer/overseerlaw11.RelationCloses", spec := "relationCloses", unfollowed := true, recurses := true, plainKeys := false, apart := false }
def RelationClosesSaid : Prop := relationClosesRow.holds Tryz.pinned (OpenSpec.ofChange relationClosesSpec)

/-- ITS FALSE NEIGHBOUR: 'it returns false'. Refute it at one input. -/
def relationClosesWrong : ChangeSpec := { name := "relationCloses", fn := fun _ => fun
  | [d1, d2, d3] => { results := [.lit (.bool false)], args := [d1, d2, d3] }
  | _ => none }
def RelationClosesWrongFalsely : Prop := relationClosesRow.holds Tryz.pinned (OpenSpec.ofChange relationClosesWrong)

/-- 'overseerlaw11.RelationBits': WHATEVER THE INPUT: true; the input reads as it did. -/
def relationBitsSpec : ChangeSpec := { name := "relationBits", fn := fun _ => fun
  | [d1, d2, d3] => { results := [.lit (.bool true)], args := [d1, d2, d3] }
  | _ => none }
def relationBitsRow : OpenClaim := { program := "ytcdkklddingfpaagreat", sum := "6edca0240041b35ff6f02ecdb6ed3a6b23f9b3e7753323adf9c5b43c97ef362b", func := "overseer/overseerlaw11.RelationBits", spec := "relationBits", unfollowed := true, recurses := true, plainKeys := false, apart := false }
def RelationBitsSaid : Prop := relationBitsRow.holds Tryz.pinned (OpenSpec.ofChange relationBitsSpec)

/-- ITS FALSE NEIGHBOUR: 'it returns false'. Refute it at one input. -/
def relationBitsWrong : ChangeSpec := { name := "relationBits", fn := fun _ => fun
  | [d1, d2, d3] => { results := [.lit (.bool false)], args := [d1, d2, d3] }
  | _ => none }
def RelationBitsWrongFalsely : Prop := relationBitsRow.holds Tryz.pinned (OpenSpec.ofChange relationBitsWrong)

/-- 'overseerlaw11.RelationComposes': WHATEVER THE INPUT: true; the input reads as it did. -/
def relationComposesSpec : ChangeSpec := { name := "relationComposes", fn := fun _ => fun
  | [d1, d2, d3] => { results := [.lit (.bool true)], args := [d1, d2, d3] }
  | _ => none }
def relationComposesRow : OpenClaim := { program := "ytcdkklddingfpaagreat", sum := "6edca0240041b35ff6f02ecdb6ed3a6b23f9b3e7753323adf9c5b43c97ef362b", func := "overseer/overseerlaw11.RelationComposes", spec := "relationComposes", unfollowed := true, recurses := true, plainKeys := false, apart := false }
def RelationComposesSaid : Prop := relationComposesRow.holds Tryz.pinned (OpenSpec.ofChange relationComposesSpec)

/-- ITS FALSE NEIGHBOUR: 'it returns false'. Refute it at one input. -/
def relationComposesWrong : ChangeSpec := { name := "relationComposes", fn := fun _ => fun
  | [d1, d2, d3] => { results := [.lit (.bool false)], args := [d1, d2, d3] }
  | _ => none }
def RelationComposesWrongFalsely : Prop := relationComposesRow.holds Tryz.pinned (OpenSpec.ofChange relationComposesWrong)

/-- 'overseerlaw11.RelationSets': WHATEVER THE INPUT: true; the input reads as it did. -/
def relationSetsSpec : ChangeSpec := { name := "relationSets", fn := fun _ => fun
  | [d1, d2] => { results := [.lit (.bool true)], args := [d1, d2] }
  | _ => none }
def relationSetsRow : OpenClaim := { program := "ytcdkklddingfpaagreat", sum := "6edca0240041b35ff6f02ecdb6ed3a6b23f9b3e7753323adf9c5b43c97ef362b", func := "overseer/overseerlaw11.RelationSets", spec := "relationSets", unfollowed := true, recurses := true, plainKeys := false, apart := false }
def RelationSetsSaid : Prop := relationSetsRow.holds Tryz.pinned (OpenSpec.ofChange relationSetsSpec)

/-- ITS FALSE NEIGHBOUR: 'it returns false'. Refute it at one input. -/
def relationSetsWrong : ChangeSpec := { name := "relationSets", fn := fun _ => fun
  | [d1, d2] => { results := [.lit (.bool false)], args := [d1, d2] }
  | _ => none }
def RelationSetsWrongFalsely : Prop := relationSetsRow.holds Tryz.pinned (OpenSpec.ofChange relationSetsWrong)

/-- 'overseerlaw11.RelationPairs': WHATEVER THE INPUT: true; the input reads as it did. -/
def relationPairsSpec : ChangeSpec := { name := "relationPairs", fn := fun _ => fun
  | [d1, d2, d3] => { results := [.lit (.bool true)], args := [d1, d2, d3] }
  | _ => none }
def relationPairsRow : OpenClaim := { program := "ytcdkklddingfpaagreat", sum := "6edca0240041b35ff6f02ecdb6ed3a6b23f9b3e7753323adf9c5b43c97ef362b", func := "overseer/overseerlaw11.RelationPairs", spec := "relationPairs", unfollowed := true, recurses := true, plainKeys := false, apart := false }
def RelationPairsSaid : Prop := relationPairsRow.holds Tryz.pinned (OpenSpec.ofChange relationPairsSpec)

/-- ITS FALSE NEIGHBOUR: 'it returns false'. Refute it at one input. -/
def relationPairsWrong : ChangeSpec := { name := "relationPairs", fn := fun _ => fun
  | [d1, d2, d3] => { results := [.lit (.bool false)], args := [d1, d2, d3] }
  | _ => none }
def RelationPairsWrongFalsely : Prop := relationPairsRow.holds Tryz.pinned (OpenSpec.ofChange relationPairsWrong)

/-- 'overseerlaw11.RelationStates': WHATEVER THE INPUT: true; the input reads as it did. -/
def relationStatesSpec : ChangeSpec := { name := "relationStates", fn := fun _ => fun
  | [d1, d2, d3] => { results := [.lit (.bool true)], args := [d1, d2, d3] }
  | _ => none }
def relationStatesRow : OpenClaim := { program := "ytcdkklddingfpaagreat", sum := "6edca0240041b35ff6f02ecdb6ed3a6b23f9b3e7753323adf9c5b43c97ef362b", func := "overseer/overseerlaw11.RelationStates", spec := "relationStates", unfollowed := true, recurses := true, plainKeys := false, apart := false }
def RelationStatesSaid : Prop := relationStatesRow.holds Tryz.pinned (OpenSpec.ofChange relationStatesSpec)

/-- ITS FALSE NEIGHBOUR: 'it returns false'. Refute it at one input. -/
def relationStatesWrong : ChangeSpec := { name := "relationStates", fn := fun _ => fun
  | [d1, d2, d3] => { results := [.lit (.bool false)], args := [d1, d2, d3] }
  | _ => none }
def RelationStatesWrongFalsely : Prop := relationStatesRow.holds Tryz.pinned (OpenSpec.ofChange relationStatesWrong)

/-- 'overseerlaw11.RelationImages': WHATEVER THE INPUT: true; the input reads as it did. -/
def relationImagesSpec : ChangeSpec := { name := "relationImages", fn := fun _ => fun
  | [d1, d2, d3] => { results := [.lit (.bool true)], args := [d1, d2, d3] }
  | _ => none }
def relationImagesRow : OpenClaim := { program := "ytcdkklddingfpaagreat", sum := "6edca0240041b35ff6f02ecdb6ed3a6b23f9b3e7753323adf9c5b43c97ef362b", func := "overseer/overseerlaw11.RelationImages", spec := "relationImages", unfollowed := true, recurses := true, plainKeys := false, apart := false }
def RelationImagesSaid : Prop := relationImagesRow.holds Tryz.pinned (OpenSpec.ofChange relationImagesSpec)

/-- ITS FALSE NEIGHBOUR: 'it returns false'. Refute it at one input. -/
def relationImagesWrong : ChangeSpec := { name := "relationImages", fn := fun _ => fun
  | [d1, d2, d3] => { results := [.lit (.bool false)], args := [d1, d2, d3] }
  | _ => none }
def RelationImagesWrongFalsely : Prop := relationImagesRow.holds Tryz.pinned (OpenSpec.ofChange relationImagesWrong)

/-- 'overseerlaw11.RelationSizes': WHATEVER THE INPUT: true; the input reads as it did. -/
def relationSizesSpec : ChangeSpec := { name := "relationSizes", fn := fun _ => fun
  | [d1, d2] => { results := [.lit (.bool true)], args := [d1, d2] }
  | _ => none }
def relationSizesRow : OpenClaim := { program := "ytcdkklddingfpaagreat", sum := "6edca0240041b35ff6f02ecdb6ed3a6b23f9b3e7753323adf9c5b43c97ef362b", func := "overseer/overseerlaw11.RelationSizes", spec := "relationSizes", unfollowed := true, recurses := true, plainKeys := false, apart := false }
def RelationSizesSaid : Prop := relationSizesRow.holds Tryz.pinned (OpenSpec.ofChange relationSizesSpec)

/-- ITS FALSE NEIGHBOUR: 'it returns false'. Refute it at one input. -/
def relationSizesWrong : ChangeSpec := { name := "relationSizes", fn := fun _ => fun
  | [d1, d2] => { results := [.lit (.bool false)], args := [d1, d2] }
  | _ => none }
def RelationSizesWrongFalsely : Prop := relationSizesRow.holds Tryz.pinned (OpenSpec.ofChange relationSizesWrong)

/-- 'overseerlaw11.RelationLaws': WHATEVER THE INPUT: true; the input reads as it did. -/
def relationLawsSpec : ChangeSpec := { name := "relationLaws", fn := fun _ => fun
  | [d1, d2, d3] => { results := [.lit (.bool true)], args := [d1, d2, d3] }
  | _ => none }
def relationLawsRow : OpenClaim := { program := "ytcdkklddingfpaagreat", sum := "6edca0240041b35ff6f02ecdb6ed3a6b23f9b3e7753323adf9c5b43c97ef362b", func := "overseer/overseerlaw11.RelationLaws", spec := "relationLaws", unfollowed := true, recurses := true, plainKeys := false, apart := false }
def RelationLawsSaid : Prop := relationLawsRow.holds Tryz.pinned (OpenSpec.ofChange relationLawsSpec)

/-- ITS FALSE NEIGHBOUR: 'it returns false'. Refute it at one input. -/
def relationLawsWrong : ChangeSpec := { name := "relationLaws", fn := fun _ => fun
  | [d1, d2, d3] => { results := [.lit (.bool false)], args := [d1, d2, d3] }
  | _ => none }
def RelationLawsWrongFalsely : Prop := relationLawsRow.holds Tryz.pinned (OpenSpec.ofChange relationLawsWrong)

/-- 'overseerlaw11.RelationReaches': WHATEVER THE INPUT: true; the input reads as it did. -/
def relationReachesSpec : ChangeSpec := { name := "relationReaches", fn := fun _ => fun
  | [d1, d2, d3] => { results := [.lit (.bool true)], args := [d1, d2, d3] }
  | _ => none }
def relationReachesRow : OpenClaim := { program := "ytcdkklddingfpaagreat", sum := "6edca0240041b35ff6f02ecdb6ed3a6b23f9b3e7753323adf9c5b43c97ef362b", func := "overseer/overseerlaw11.RelationReaches", spec := "relationReaches", unfollowed := true, recurses := true, plainKeys := false, apart := false }
def RelationReachesSaid : Prop := relationReachesRow.holds Tryz.pinned (OpenSpec.ofChange relationReachesSpec)

/-- ITS FALSE NEIGHBOUR: 'it returns false'. Refute it at one input. -/
def relationReachesWrong : ChangeSpec := { name := "relationReaches", fn := fun _ => fun
  | [d1, d2, d3] => { results := [.lit (.bool false)], args := [d1, d2, d3] }
  | _ => none }
def RelationReachesWrongFalsely : Prop := relationReachesRow.holds Tryz.pinned (OpenSpec.ofChange relationReachesWrong)

/- THE SECOND FORM. 'bulk': how many values and letters a reading holds, each counted each time it is reached (what is shared counts as often as it is met; a slice's spare places count too). A statement '..UptoSaid' is the law's where the arguments, and the package variables that the reading takes, are together of bulk at most 1048576: NARROWER than '..Said'. Prove '..Said' where nothing that the law and all that it calls make is longer than what came in: it says more and counts as full. Else prove '..UptoSaid'. A law counts once. -/
mutual
def uptoBulk {H : Type} : DataW H → Nat
  | .lit (.string bytes) => bytes.length + 1
  | .lit _ => 1
  | .nil => 1
  | .ptr d => uptoBulk d + 1
  | .slice elems spare => uptoBulkAll elems + uptoBulkAll spare + 1
  | .agg parts => uptoBulkAll parts + 1
  | .iface _ d => uptoBulk d + 1
  | .map entries => uptoBulkEntries entries + 1
  | .held _ => 1
def uptoBulkAll {H : Type} : List (DataW H) → Nat
  | [] => 0
  | d :: r => uptoBulk d + uptoBulkAll r
def uptoBulkEntries {H : Type} : List (Lit × DataW H) → Nat
  | [] => 0
  | x :: r => uptoBulkEntry x + uptoBulkEntries r
def uptoBulkEntry {H : Type} : Lit × DataW H → Nat
  | (.string bytes, d) => bytes.length + uptoBulk d + 1
  | (_, d) => uptoBulk d + 1
 end
def uptoSmall : (H : Type) → List (DataW H) → Bool := fun _ ds => decide (uptoBulkAll ds ≤ 1048576)
def OpenSpec.upto (s : _root_.Go.ChangeSpec) : _root_.Go.OpenSpec := { _root_.Go.OpenSpec.ofChange s with cond := some uptoSmall }

/-- 'overseerlaw11.RelationFrom', WHERE WHAT IT READS IS OF BULK AT MOST 1048576: true; the input reads as it did. -/
def relationFromUptoRow : OpenClaim := { program := "ytcdkklddingfpaagreat", sum := "6edca0240041b35ff6f02ecdb6ed3a6b23f9b3e7753323adf9c5b43c97ef362b", func := "overseer/overseerlaw11.RelationFrom", spec := "relationFrom", unfollowed := true, recurses := true, plainKeys := false, apart := false, narrowed := true }
def RelationFromUptoSaid : Prop := relationFromUptoRow.holds Tryz.pinned (OpenSpec.upto relationFromSpec)

/-- 'overseerlaw11.RelationCloses', WHERE WHAT IT READS IS OF BULK AT MOST 1048576: true; the input reads as it did. -/
def relationClosesUptoRow : OpenClaim := { program := "ytcdkklddingfpaagreat", sum := "6edca0240041b35ff6f02ecdb6ed3a6b23f9b3e7753323adf9c5b43c97ef362b", func := "overseer/overseerlaw11.RelationCloses", spec := "relationCloses", unfollowed := true, recurses := true, plainKeys := false, apart := false, narrowed := true }
def RelationClosesUptoSaid : Prop := relationClosesUptoRow.holds Tryz.pinned (OpenSpec.upto relationClosesSpec)

/-- 'overseerlaw11.RelationBits', WHERE WHAT IT READS IS OF BULK AT MOST 1048576: true; the input reads as it did. -/
def relationBitsUptoRow : OpenClaim := { program := "ytcdkklddingfpaagreat", sum := "6edca0240041b35ff6f02ecdb6ed3a6b23f9b3e7753323adf9c5b43c97ef362b", func := "overseer/overseerlaw11.RelationBits", spec := "relationBits", unfollowed := true, recurses := true, plainKeys := false, apart := false, narrowed := true }
def RelationBitsUptoSaid : Prop := relationBitsUptoRow.holds Tryz.pinned (OpenSpec.upto relationBitsSpec)

/-- 'overseerlaw11.RelationComposes', WHERE WHAT IT READS IS OF BULK AT MOST 1048576: true; the input reads as it did. -/
def relationComposesUptoRow : OpenClaim := { program := "ytcdkklddingfpaagreat", sum := "6edca0240041b35ff6f02ecdb6ed3a6b23f9b3e7753323adf9c5b43c97ef362b", func := "overseer/overseerlaw11.RelationComposes", spec := "relationComposes", unfollowed := true, recurses := true, plainKeys := false, apart := false, narrowed := true }
def RelationComposesUptoSaid : Prop := relationComposesUptoRow.holds Tryz.pinned (OpenSpec.upto relationComposesSpec)

/-- 'overseerlaw11.RelationSets', WHERE WHAT IT READS IS OF BULK AT MOST 1048576: true; the input reads as it did. -/
def relationSetsUptoRow : OpenClaim := { program := "ytcdkklddingfpaagreat", sum := "6edca0240041b35ff6f02ecdb6ed3a6b23f9b3e7753323adf9c5b43c97ef362b", func := "overseer/overseerlaw11.RelationSets", spec := "relationSets", unfollowed := true, recurses := true, plainKeys := false, apart := false, narrowed := true }
def RelationSetsUptoSaid : Prop := relationSetsUptoRow.holds Tryz.pinned (OpenSpec.upto relationSetsSpec)

/-- 'overseerlaw11.RelationPairs', WHERE WHAT IT READS IS OF BULK AT MOST 1048576: true; the input reads as it did. -/
def relationPairsUptoRow : OpenClaim := { program := "ytcdkklddingfpaagreat", sum := "6edca0240041b35ff6f02ecdb6ed3a6b23f9b3e7753323adf9c5b43c97ef362b", func := "overseer/overseerlaw11.RelationPairs", spec := "relationPairs", unfollowed := true, recurses := true, plainKeys := false, apart := false, narrowed := true }
def RelationPairsUptoSaid : Prop := relationPairsUptoRow.holds Tryz.pinned (OpenSpec.upto relationPairsSpec)

/-- 'overseerlaw11.RelationStates', WHERE WHAT IT READS IS OF BULK AT MOST 1048576: true; the input reads as it did. -/
def relationStatesUptoRow : OpenClaim := { program := "ytcdkklddingfpaagreat", sum := "6edca0240041b35ff6f02ecdb6ed3a6b23f9b3e7753323adf9c5b43c97ef362b", func := "overseer/overseerlaw11.RelationStates", spec := "relationStates", unfollowed := true, recurses := true, plainKeys := false, apart := false, narrowed := true }
def RelationStatesUptoSaid : Prop := relationStatesUptoRow.holds Tryz.pinned (OpenSpec.upto relationStatesSpec)

/-- 'overseerlaw11.RelationImages', WHERE WHAT IT READS IS OF BULK AT MOST 1048576: true; the input reads as it did. -/
def relationImagesUptoRow : OpenClaim := { program := "ytcdkklddingfpaagreat", sum := "6edca0240041b35ff6f02ecdb6ed3a6b23f9b3e7753323adf9c5b43c97ef362b", func := "overseer/overseerlaw11.RelationImages", spec := "relationImages", unfollowed := true, recurses := true, plainKeys := false, apart := false, narrowed := true }
def RelationImagesUptoSaid : Prop := relationImagesUptoRow.holds Tryz.pinned (OpenSpec.upto relationImagesSpec)

/-- 'overseerlaw11.RelationSizes', WHERE WHAT IT READS IS OF BULK AT MOST 1048576: true; the input reads as it did. -/
def relationSizesUptoRow : OpenClaim := { program := "ytcdkklddingfpaagreat", sum := "6edca0240041b35ff6f02ecdb6ed3a6b23f9b3e7753323adf9c5b43c97ef362b", func := "overseer/overseerlaw11.RelationSizes", spec := "relationSizes", unfollowed := true, recurses := true, plainKeys := false, apart := false, narrowed := true }
def RelationSizesUptoSaid : Prop := relationSizesUptoRow.holds Tryz.pinned (OpenSpec.upto relationSizesSpec)

/-- 'overseerlaw11.RelationLaws', WHERE WHAT IT READS IS OF BULK AT MOST 1048576: true; the input reads as it did. -/
def relationLawsUptoRow : OpenClaim := { program := "ytcdkklddingfpaagreat", sum := "6edca0240041b35ff6f02ecdb6ed3a6b23f9b3e7753323adf9c5b43c97ef362b", func := "overseer/overseerlaw11.RelationLaws", spec := "relationLaws", unfollowed := true, recurses := true, plainKeys := false, apart := false, narrowed := true }
def RelationLawsUptoSaid : Prop := relationLawsUptoRow.holds Tryz.pinned (OpenSpec.upto relationLawsSpec)

/-- 'overseerlaw11.RelationReaches', WHERE WHAT IT READS IS OF BULK AT MOST 1048576: true; the input reads as it did. -/
def relationReachesUptoRow : OpenClaim := { program := "ytcdkklddingfpaagreat", sum := "6edca0240041b35ff6f02ecdb6ed3a6b23f9b3e7753323adf9c5b43c97ef362b", func := "overseer/overseerlaw11.RelationReaches", spec := "relationReaches", unfollowed := true, recurses := true, plainKeys := false, apart := false, narrowed := true }
def RelationReachesUptoSaid : Prop := relationReachesUptoRow.holds Tryz.pinned (OpenSpec.upto relationReachesSpec)

end Rows
end Go.Proofs.YtcdkklddingfpaaGreat
