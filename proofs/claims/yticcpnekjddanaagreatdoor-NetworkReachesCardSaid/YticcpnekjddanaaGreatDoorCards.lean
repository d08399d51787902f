/-
  DERIVED. GIVEN WITH THE SEED: THE CARDS: each row of YticcpnekjddanaaGreatDoorRows.lean that lists a variable, with what it lists TIED to the program's text (the seventh form; the later family's looks); each row that meets fmt, with fmt's text TOLD by the authors' own Lean function (tested against real Go, not proved from fmt's source: count such statements apart). THE CARD IS WHAT COUNTS. Prove the row's statement (the work); the ties are given (YticcpnekjddanaaGreatDoorTie.lean); close each card by the builder's one call (the guide's Derived/Test/ToyasCard.lean, 'card_holds'). Laid BY PROGRAM, IN A SANDBOX (cutbox-door.mjs). By AI agents, Wed Nov 11 2026. No macro, syntax, notation, axiom, sorry.
-/
import Derived.Test.YticcpnekjddanaaGreatDoorRows
import GoSem.ClaimSeven
namespace Go.Proofs.YticcpnekjddanaaGreatDoor
namespace Rows

/-- THE TIED CARD OF 'overseerlaw13.NetworkReaches'. -/
def networkReachesCard : Claim7 := { stood := { row := networkReachesRow, standIns := [], harness := (true, "56dc70c26cda9e3eba35c6c96b3c1fbdf277f11a7a087253bdeb6343e032095b"), looks := false }, kinds := [], alts := [], laidByText := true, laidKinds := [.data, .data, .data], laidTests := true, laidLooks := .later }
def NetworkReachesCardSaid : Prop := Claim7.holds Tryz.pinned (.plain (OpenSpec.ofChange networkReachesSpec)) networkReachesCard

/-- THE SECOND FORM's CARD OF 'overseerlaw13.NetworkReaches'. -/
def networkReachesUptoCard : Claim7 := { stood := { row := networkReachesUptoRow, standIns := [], harness := (true, "56dc70c26cda9e3eba35c6c96b3c1fbdf277f11a7a087253bdeb6343e032095b"), looks := false }, kinds := [], alts := [], laidByText := true, laidKinds := [.data, .data, .data], laidTests := true, laidLooks := .later }
def NetworkReachesUptoCardSaid : Prop := Claim7.holds Tryz.pinned (.plain (OpenSpec.upto networkReachesSpec)) networkReachesUptoCard
end Rows
end Go.Proofs.YticcpnekjddanaaGreatDoor
