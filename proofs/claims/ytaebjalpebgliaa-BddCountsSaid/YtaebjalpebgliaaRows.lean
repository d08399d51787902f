/-
  No cell of these rows narrows 'for every input' (looked for: loops, veiled, ifaces, maps, wideKeys, modest, calm, conditions, laid).
  DERIVED. THE GIVEN ROWS OF THIS SEAT. 9 by the template 'for every input the law returns true; each argument reads behind the call as it read before'; 0 by the template 'total and deterministic' (their statements: YtaebjalpebgliaaTotals.lean).
  GIVEN WITH THE SEED: the statements are not yours to turn. If you find one false, say at which input.
  Laid BY PROGRAM, IN A SANDBOX (cutbox-rows.mjs): the forced cells as the released guide's own fill.sh prints them over the translation 960f09894a912a52… (all of the seat's roots in one cut). By AI agents, Wed Nov 11 2026. No macro, syntax, notation, axiom, sorry.
-/
import Derived.Test.YtaebjalpebgliaaChecked
import GoSem.Claim
import GoSem.ClaimJoined
import GoSem.ClaimMapViews
import Derived.JoinedTies
import Derived.KernelRfl
namespace Go.Proofs.Ytaebjalpebgliaa
/- THE CELL 'sum', in the pinned program and in every row, IS THE sha256 OF THE DUMP (.gsa) THAT YtaebjalpebgliaaProg.lean LOADS. Nothing in Lean hashes anything: it is a label: what it is worth is what the hold of that sum in a sandbox is worth. -/
noncomputable def Try.pinned : Pinned := { name := "ytaebjalpebgliaa", sum := "960f09894a912a529b9b91e13ac5366f8e19d21d88faa07a3aa1915b59a23b81", checked := Try.checked }
namespace Rows
def none {H : Type} : Left H := { results := [], args := [] }

/-- 'overseerlaw10.BddCombines': WHATEVER THE INPUT: true; the input reads as it did. -/
def bddCombinesSpec : ChangeSpec := { name := "bddCombines", fn := fun _ => fun
  | [d1, d2, d3] => { results := [.lit (.bool true)], args := [d1, d2, d3] }
  | _ => none }
def bddCombinesRow : OpenClaim := { program := "ytaebjalpebgliaa", sum := "960f09894a912a529b9b91e13ac5366f8e19d21d88faa07a3aa1915b59a23b81", func := "overseer/overseerlaw10.BddCombines", spec := "bddCombines", unfollowed := true, recurses := true, plainKeys := false, apart := false }
def BddCombinesSaid : Prop := bddCombinesRow.holds Try.pinned (OpenSpec.ofChange bddCombinesSpec)

/-- ITS FALSE NEIGHBOUR: 'it returns false'. Refute it at one input. -/
def bddCombinesWrong : ChangeSpec := { name := "bddCombines", fn := fun _ => fun
  | [d1, d2, d3] => { results := [.lit (.bool false)], args := [d1, d2, d3] }
  | _ => none }
def BddCombinesWrongFalsely : Prop := bddCombinesRow.holds Try.pinned (OpenSpec.ofChange bddCombinesWrong)

/-- 'overseerlaw10.BddRenames': WHATEVER THE INPUT: true; the input reads as it did. -/
def bddRenamesSpec : ChangeSpec := { name := "bddRenames", fn := fun _ => fun
  | [d1, d2, d3] => { results := [.lit (.bool true)], args := [d1, d2, d3] }
  | _ => none }
def bddRenamesRow : OpenClaim := { program := "ytaebjalpebgliaa", sum := "960f09894a912a529b9b91e13ac5366f8e19d21d88faa07a3aa1915b59a23b81", func := "overseer/overseerlaw10.BddRenames", spec := "bddRenames", unfollowed := true, recurses := true, plainKeys := false, apart := false }
def BddRenamesSaid : Prop := bddRenamesRow.holds Try.pinned (OpenSpec.ofChange bddRenamesSpec)

/-- ITS FALSE NEIGHBOUR: 'it returns false'. Refute it at one input. -/
def bddRenamesWrong : ChangeSpec := { name := "bddRenames", fn := fun _ => fun
  | [d1, d2, d3] => { results := [.lit (.bool false)], args := [d1, d2, d3] }
  | _ => none }
def BddRenamesWrongFalsely : Prop := bddRenamesRow.holds Try.pinned (OpenSpec.ofChange bddRenamesWrong)

/-- 'overseerlaw10.BddTables': WHATEVER THE INPUT: true; the input reads as it did. -/
def bddTablesSpec : ChangeSpec := { name := "bddTables", fn := fun _ => fun
  | [d1, d2, d3] => { results := [.lit (.bool true)], args := [d1, d2, d3] }
  | _ => none }
def bddTablesRow : OpenClaim := { program := "ytaebjalpebgliaa", sum := "960f09894a912a529b9b91e13ac5366f8e19d21d88faa07a3aa1915b59a23b81", func := "overseer/overseerlaw10.BddTables", spec := "bddTables", unfollowed := true, recurses := true, plainKeys := false, apart := false }
def BddTablesSaid : Prop := bddTablesRow.holds Try.pinned (OpenSpec.ofChange bddTablesSpec)

/-- ITS FALSE NEIGHBOUR: 'it returns false'. Refute it at one input. -/
def bddTablesWrong : ChangeSpec := { name := "bddTables", fn := fun _ => fun
  | [d1, d2, d3] => { results := [.lit (.bool false)], args := [d1, d2, d3] }
  | _ => none }
def BddTablesWrongFalsely : Prop := bddTablesRow.holds Try.pinned (OpenSpec.ofChange bddTablesWrong)

/-- 'overseerlaw10.BddRefuses': WHATEVER THE INPUT: true; the input reads as it did. -/
def bddRefusesSpec : ChangeSpec := { name := "bddRefuses", fn := fun _ => fun
  | [d1, d2] => { results := [.lit (.bool true)], args := [d1, d2] }
  | _ => none }
def bddRefusesRow : OpenClaim := { program := "ytaebjalpebgliaa", sum := "960f09894a912a529b9b91e13ac5366f8e19d21d88faa07a3aa1915b59a23b81", func := "overseer/overseerlaw10.BddRefuses", spec := "bddRefuses", unfollowed := true, recurses := true, plainKeys := false, apart := false }
def BddRefusesSaid : Prop := bddRefusesRow.holds Try.pinned (OpenSpec.ofChange bddRefusesSpec)

/-- ITS FALSE NEIGHBOUR: 'it returns false'. Refute it at one input. -/
def bddRefusesWrong : ChangeSpec := { name := "bddRefuses", fn := fun _ => fun
  | [d1, d2] => { results := [.lit (.bool false)], args := [d1, d2] }
  | _ => none }
def BddRefusesWrongFalsely : Prop := bddRefusesRow.holds Try.pinned (OpenSpec.ofChange bddRefusesWrong)

/-- 'overseerlaw10.BddLarge': WHATEVER THE INPUT: true; the input reads as it did. -/
def bddLargeSpec : ChangeSpec := { name := "bddLarge", fn := fun _ => fun
  | [d1, d2] => { results := [.lit (.bool true)], args := [d1, d2] }
  | _ => none }
def bddLargeRow : OpenClaim := { program := "ytaebjalpebgliaa", sum := "960f09894a912a529b9b91e13ac5366f8e19d21d88faa07a3aa1915b59a23b81", func := "overseer/overseerlaw10.BddLarge", spec := "bddLarge", unfollowed := true, recurses := true, plainKeys := false, apart := false }
def BddLargeSaid : Prop := bddLargeRow.holds Try.pinned (OpenSpec.ofChange bddLargeSpec)

/-- ITS FALSE NEIGHBOUR: 'it returns false'. Refute it at one input. -/
def bddLargeWrong : ChangeSpec := { name := "bddLarge", fn := fun _ => fun
  | [d1, d2] => { results := [.lit (.bool false)], args := [d1, d2] }
  | _ => none }
def BddLargeWrongFalsely : Prop := bddLargeRow.holds Try.pinned (OpenSpec.ofChange bddLargeWrong)

/-- 'overseerlaw10.BddQuantifies': WHATEVER THE INPUT: true; the input reads as it did. -/
def bddQuantifiesSpec : ChangeSpec := { name := "bddQuantifies", fn := fun _ => fun
  | [d1, d2, d3] => { results := [.lit (.bool true)], args := [d1, d2, d3] }
  | _ => none }
def bddQuantifiesRow : OpenClaim := { program := "ytaebjalpebgliaa", sum := "960f09894a912a529b9b91e13ac5366f8e19d21d88faa07a3aa1915b59a23b81", func := "overseer/overseerlaw10.BddQuantifies", spec := "bddQuantifies", unfollowed := true, recurses := true, plainKeys := false, apart := false }
def BddQuantifiesSaid : Prop := bddQuantifiesRow.holds Try.pinned (OpenSpec.ofChange bddQuantifiesSpec)

/-- ITS FALSE NEIGHBOUR: 'it returns false'. Refute it at one input. -/
def bddQuantifiesWrong : ChangeSpec := { name := "bddQuantifies", fn := fun _ => fun
  | [d1, d2, d3] => { results := [.lit (.bool false)], args := [d1, d2, d3] }
  | _ => none }
def BddQuantifiesWrongFalsely : Prop := bddQuantifiesRow.holds Try.pinned (OpenSpec.ofChange bddQuantifiesWrong)

/-- 'overseerlaw10.BddLaws': WHATEVER THE INPUT: true; the input reads as it did. -/
def bddLawsSpec : ChangeSpec := { name := "bddLaws", fn := fun _ => fun
  | [d1, d2, d3] => { results := [.lit (.bool true)], args := [d1, d2, d3] }
  | _ => none }
def bddLawsRow : OpenClaim := { program := "ytaebjalpebgliaa", sum := "960f09894a912a529b9b91e13ac5366f8e19d21d88faa07a3aa1915b59a23b81", func := "overseer/overseerlaw10.BddLaws", spec := "bddLaws", unfollowed := true, recurses := true, plainKeys := false, apart := false }
def BddLawsSaid : Prop := bddLawsRow.holds Try.pinned (OpenSpec.ofChange bddLawsSpec)

/-- ITS FALSE NEIGHBOUR: 'it returns false'. Refute it at one input. -/
def bddLawsWrong : ChangeSpec := { name := "bddLaws", fn := fun _ => fun
  | [d1, d2, d3] => { results := [.lit (.bool false)], args := [d1, d2, d3] }
  | _ => none }
def BddLawsWrongFalsely : Prop := bddLawsRow.holds Try.pinned (OpenSpec.ofChange bddLawsWrong)

/-- 'overseerlaw10.BddCounts': WHATEVER THE INPUT: true; the input reads as it did. -/
def bddCountsSpec : ChangeSpec := { name := "bddCounts", fn := fun _ => fun
  | [d1, d2] => { results := [.lit (.bool true)], args := [d1, d2] }
  | _ => none }
def bddCountsRow : OpenClaim := { program := "ytaebjalpebgliaa", sum := "960f09894a912a529b9b91e13ac5366f8e19d21d88faa07a3aa1915b59a23b81", func := "overseer/overseerlaw10.BddCounts", spec := "bddCounts", unfollowed := true, recurses := true, plainKeys := false, apart := false }
def BddCountsSaid : Prop := bddCountsRow.holds Try.pinned (OpenSpec.ofChange bddCountsSpec)

/-- ITS FALSE NEIGHBOUR: 'it returns false'. Refute it at one input. -/
def bddCountsWrong : ChangeSpec := { name := "bddCounts", fn := fun _ => fun
  | [d1, d2] => { results := [.lit (.bool false)], args := [d1, d2] }
  | _ => none }
def BddCountsWrongFalsely : Prop := bddCountsRow.holds Try.pinned (OpenSpec.ofChange bddCountsWrong)

/-- 'overseerlaw10.BddChecks': WHATEVER THE INPUT: true; the input reads as it did. -/
def bddChecksSpec : ChangeSpec := { name := "bddChecks", fn := fun _ => fun
  | [d1, d2] => { results := [.lit (.bool true)], args := [d1, d2] }
  | _ => none }
def bddChecksRow : OpenClaim := { program := "ytaebjalpebgliaa", sum := "960f09894a912a529b9b91e13ac5366f8e19d21d88faa07a3aa1915b59a23b81", func := "overseer/overseerlaw10.BddChecks", spec := "bddChecks", unfollowed := true, recurses := true, plainKeys := false, apart := false }
def BddChecksSaid : Prop := bddChecksRow.holds Try.pinned (OpenSpec.ofChange bddChecksSpec)

/-- ITS FALSE NEIGHBOUR: 'it returns false'. Refute it at one input. -/
def bddChecksWrong : ChangeSpec := { name := "bddChecks", fn := fun _ => fun
  | [d1, d2] => { results := [.lit (.bool false)], args := [d1, d2] }
  | _ => none }
def BddChecksWrongFalsely : Prop := bddChecksRow.holds Try.pinned (OpenSpec.ofChange bddChecksWrong)

/- THE SECOND FORM. 'bulk': how many values and letters a reading holds, each counted each time it is reached (what is shared counts as often as it is met; a slice's spare places count too). A statement '..UptoSaid' is the law's where the arguments, and the package variables that the reading takes, are together of bulk at most 1048576: NARROWER than '..Said'. Prove '..Said' where nothing that the law and all that it calls make is longer than what came in: it says more and counts as full. Else prove '..UptoSaid'. A law counts once. -/
mutual
def uptoBulk {H : Type} : DataW H → Nat
  | .lit (.string bytes) => bytes.length + 1
  | .lit _ => 1
  | .nil => 1
  | .ptr d => uptoBulk d + 1
  | .slice elems spare => uptoBulkAll elems + uptoBulkAll spare + 1
  | .agg parts => uptoBulkAll parts + 1
  | .iface _ d => uptoBulk d + 1
  | .map entries => uptoBulkEntries entries + 1
  | .held _ => 1
def uptoBulkAll {H : Type} : List (DataW H) → Nat
  | [] => 0
  | d :: r => uptoBulk d + uptoBulkAll r
def uptoBulkEntries {H : Type} : List (Lit × DataW H) → Nat
  | [] => 0
  | x :: r => uptoBulkEntry x + uptoBulkEntries r
def uptoBulkEntry {H : Type} : Lit × DataW H → Nat
  | (.string bytes, d) => bytes.length + uptoBulk d + 1
  | (_, d) => uptoBulk d + 1
 end
def uptoSmall : (H : Type) → List (DataW H) → Bool := fun _ ds => decide (uptoBulkAll ds ≤ 1048576)
def OpenSpec.upto (s : _root_.Go.ChangeSpec) : _root_.Go.OpenSpec := { _root_.Go.OpenSpec.ofChange s with cond := some uptoSmall }

/-- 'overseerlaw10.BddCombines', WHERE WHAT IT READS IS OF BULK AT MOST 1048576: true; the input reads as it did. -/
def bddCombinesUptoRow : OpenClaim := { program := "ytaebjalpebgliaa", sum := "960f09894a912a529b9b91e13ac5366f8e19d21d88faa07a3aa1915b59a23b81", func := "overseer/overseerlaw10.BddCombines", spec := "bddCombines", unfollowed := true, recurses := true, plainKeys := false, apart := false, narrowed := true }
def BddCombinesUptoSaid : Prop := bddCombinesUptoRow.holds Try.pinned (OpenSpec.upto bddCombinesSpec)

/-- 'overseerlaw10.BddRenames', WHERE WHAT IT READS IS OF BULK AT MOST 1048576: true; the input reads as it did. -/
def bddRenamesUptoRow : OpenClaim := { program := "ytaebjalpebgliaa", sum := "960f09894a912a529b9b91e13ac5366f8e19d21d88faa07a3aa1915b59a23b81", func := "overseer/overseerlaw10.BddRenames", spec := "bddRenames", unfollowed := true, recurses := true, plainKeys := false, apart := false, narrowed := true }
def BddRenamesUptoSaid : Prop := bddRenamesUptoRow.holds Try.pinned (OpenSpec.upto bddRenamesSpec)

/-- 'overseerlaw10.BddTables', WHERE WHAT IT READS IS OF BULK AT MOST 1048576: true; the input reads as it did. -/
def bddTablesUptoRow : OpenClaim := { program := "ytaebjalpebgliaa", sum := "960f09894a912a529b9b91e13ac5366f8e19d21d88faa07a3aa1915b59a23b81", func := "overseer/overseerlaw10.BddTables", spec := "bddTables", unfollowed := true, recurses := true, plainKeys := false, apart := false, narrowed := true }
def BddTablesUptoSaid : Prop := bddTablesUptoRow.holds Try.pinned (OpenSpec.upto bddTablesSpec)

/-- 'overseerlaw10.BddRefuses', WHERE WHAT IT READS IS OF BULK AT MOST 1048576: true; the input reads as it did. -/
def bddRefusesUptoRow : OpenClaim := { program := "ytaebjalpebgliaa", sum := "960f09894a912a529b9b91e13ac5366f8e19d21d88faa07a3aa1915b59a23b81", func := "overseer/overseerlaw10.BddRefuses", spec := "bddRefuses", unfollowed := true, recurses := true, plainKeys := false, apart := false, narrowed := true }
def BddRefusesUptoSaid : Prop := bddRefusesUptoRow.holds Try.pinned (OpenSpec.upto bddRefusesSpec)

/-- 'overseerlaw10.BddLarge', WHERE WHAT IT READS IS OF BULK AT MOST 1048576: true; the input reads as it did. -/
def bddLargeUptoRow : OpenClaim := { program := "ytaebjalpebgliaa", sum := "960f09894a912a529b9b91e13ac5366f8e19d21d88faa07a3aa1915b59a23b81", func := "overseer/overseerlaw10.BddLarge", spec := "bddLarge", unfollowed := true, recurses := true, plainKeys := false, apart := false, narrowed := true }
def BddLargeUptoSaid : Prop := bddLargeUptoRow.holds Try.pinned (OpenSpec.upto bddLargeSpec)

/-- 'overseerlaw10.BddQuantifies', WHERE WHAT IT READS IS OF BULK AT MOST 1048576: true; the input reads as it did. -/
def bddQuantifiesUptoRow : OpenClaim := { program := "ytaebjalpebgliaa", sum := "960f09894a912a529b9b91e13ac5366f8e19d21d88faa07a3aa1915b59a23b81", func := "overseer/overseerlaw10.BddQuantifies", spec := "bddQuantifies", unfollowed := true, recurses := true, plainKeys := false, apart := false, narrowed := true }
def BddQuantifiesUptoSaid : Prop := bddQuantifiesUptoRow.holds Try.pinned (OpenSpec.upto bddQuantifiesSpec)

/-- 'overseerlaw10.BddLaws', WHERE WHAT IT READS IS OF BULK AT MOST 1048576: true; the input reads as it did. -/
def bddLawsUptoRow : OpenClaim := { program := "ytaebjalpebgliaa", sum := "960f09894a912a529b9b91e13ac5366f8e19d21d88faa07a3aa1915b59a23b81", func := "overseer/overseerlaw10.BddLaws", spec := "bddLaws", unfollowed := true, recurses := true, plainKeys := false, apart := false, narrowed := true }
def BddLawsUptoSaid : Prop := bddLawsUptoRow.holds Try.pinned (OpenSpec.upto bddLawsSpec)

/-- 'overseerlaw10.BddCounts', WHERE WHAT IT READS IS OF BULK AT MOST 1048576: true; the input reads as it did. -/
def bddCountsUptoRow : OpenClaim := { program := "ytaebjalpebgliaa", sum := "960f09894a912a529b9b91e13ac5366f8e19d21d88faa07a3aa1915b59a23b81", func := "overseer/overseerlaw10.BddCounts", spec := "bddCounts", unfollowed := true, recurses := true, plainKeys := false, apart := false, narrowed := true }
def BddCountsUptoSaid : Prop := bddCountsUptoRow.holds Try.pinned (OpenSpec.upto bddCountsSpec)

/-- 'overseerlaw10.BddChecks', WHERE WHAT IT READS IS OF BULK AT MOST 1048576: true; the input reads as it did. -/
def bddChecksUptoRow : OpenClaim := { program := "ytaebjalpebgliaa", sum := "960f09894a912a529b9b91e13ac5366f8e19d21d88faa07a3aa1915b59a23b81", func := "overseer/overseerlaw10.BddChecks", spec := "bddChecks", unfollowed := true, recurses := true, plainKeys := false, apart := false, narrowed := true }
def BddChecksUptoSaid : Prop := bddChecksUptoRow.holds Try.pinned (OpenSpec.upto bddChecksSpec)

end Rows
end Go.Proofs.Ytaebjalpebgliaa
