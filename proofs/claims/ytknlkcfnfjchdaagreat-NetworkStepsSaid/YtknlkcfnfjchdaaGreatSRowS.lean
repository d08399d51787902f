/- The rows of the laws: a slice of bools or ints as an argument, opened, and read again behind the call. -/
import Derived.Test.YtknlkcfnfjchdaaGreatSRowK
import Derived.Test.YtknlkcfnfjchdaaGreatSTable
import Derived.Carry
import Derived.ChangeSlices
import Derived.Deep.Grids
namespace Go.Proofs.YtknlkcfnfjchdaaGreat
open Go.ChangeShapes Go.WideShapes Go.ChangeAt Go.RowKit Go.Joins Go.Deep
set_option linter.unusedVariables false

theorem laid : laidOutB Tryz.prog = true := by kernel_rfl

/-- An argument reads behind the call as it did. -/
theorem stays {H : Type} {enc : TypeId × Value → H} {t : TypeId} {W W' : World} {sp : Nat → Bool} {v : Value} {d : DataW H} {ps : List MemPlace} (hr : Tryz.prog.readableRec t = true) (hrow : t < Tryz.prog.types.size)
    (h : DataW.Trod enc Tryz.prog W 0 (fun _ => true) true t v d ps) (hs : Same W W') (hlt : ∀ x ∈ ps, x.block < W.heap.size) (hsp : ∀ p ∈ ps, sp p.block = true) : DataW.Trod enc Tryz.prog W' 0 sp true t v d ps :=
  WideElems.Trod_stays laid hr hrow h (fun x hx => (Fr.below hs).same (hlt x hx)) hsp
end Go.Proofs.YtknlkcfnfjchdaaGreat
