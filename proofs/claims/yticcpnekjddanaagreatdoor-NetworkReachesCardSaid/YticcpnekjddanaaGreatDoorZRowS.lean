/-  -/
import Derived.Test.YticcpnekjddanaaGreatDoorZRowK
import Derived.Test.YticcpnekjddanaaGreatDoorZTable
import Derived.Carry
import Derived.ChangeSlices
import Derived.Deep.Grids
set_option linter.unusedVariables false
namespace Go.Proofs.YticcpnekjddanaaGreatDoor
open Go.ChangeShapes Go.WideShapes Go.ChangeAt Go.RowKit Go.Joins Go.Deep
theorem laid : laidOutB Tryz.prog = true := by kernel_rfl
theorem stays {H : Type} {enc : TypeId × Value → H} {t : TypeId} {W W' : World} {sp : Nat → Bool} {v : Value} {d : DataW H} {ps : List MemPlace} (hr : Tryz.prog.readableRec t = true) (hrow : t < Tryz.prog.types.size)
 (h : DataW.Trod enc Tryz.prog W 0 (fun _ => true) true t v d ps) (hs : qad W W') (hlt : ∀ x ∈ ps, x.block < W.heap.size) (hsp : ∀ p ∈ ps, sp p.block = true) : DataW.Trod enc Tryz.prog W' 0 sp true t v d ps :=
 WideElems.Trod_stays laid hr hrow h (fun x hx => (Fr.below hs).same (hlt x hx)) hsp
end Go.Proofs.YticcpnekjddanaaGreatDoor
