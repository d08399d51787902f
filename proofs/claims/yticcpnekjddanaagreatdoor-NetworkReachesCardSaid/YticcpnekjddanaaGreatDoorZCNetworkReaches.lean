/- NetworkReaches: the given card: the row's statement with its variables tied to the program's text. -/
import Derived.Test.YticcpnekjddanaaGreatDoorZRNetworkReaches
import Derived.Test.YticcpnekjddanaaGreatDoorCards
import Derived.Test.YticcpnekjddanaaGreatDoorTie
set_option linter.unusedVariables false
namespace Go.Proofs.YticcpnekjddanaaGreatDoor
theorem networkReaches_card : Rows.NetworkReachesCardSaid :=
 Claim7.holds_tied_plain_at .later [] [.data, .data, .data] true _ false
  qcf (fun _ h => by cases h) (by kernel_rfl) (fun _ h => by cases h) networkReaches_row_tie rfl ⟨rfl, rfl⟩ (by kernel_rfl) rfl
  (fun f fn hf hfn => by
   obtain rfl : f = 3 := Option.some.inj ((show Tryz.prog.funcNamed "overseer/overseerlaw13.NetworkReaches" = some 3 by kernel_rfl).symm.trans hf) |>.symm
   obtain rfl : fn = Tryz.f3 := (Option.some.inj (Tryz.func3.symm.trans hfn)).symm
   exact ⟨by kernel_rfl, fun j t ht => by
    rw [Tryz.params3] at ht
    have hm : t ∈ [30] := by simpa using Array.mem_of_getElem? ht
    have hall : ([30].all fun u => !Tryz.prog.wantsStandIn u) = true := by kernel_rfl
    exact (show Tryz.prog.wantsStandIn t = false by simpa using List.all_eq_true.1 hall t hm)⟩)
  (by kernel_rfl)
#print axioms networkReaches_card
end Go.Proofs.YticcpnekjddanaaGreatDoor
