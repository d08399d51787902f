/- A region walked over a frame under one name: only the slots that it reads are laid. -/
import Derived.Test.YtaebjalpebgliaaLex
import Derived.Lib.Hide
namespace Go.Proofs.Ytaebjalpebgliaa
open Go.RowKit
set_option linter.unusedVariables false

theorem gen_frame {P : Program} {c : Code} {Q : Exit → Act → World → Prop} {T0 : Array Value} {d : _} {w : World} (h : ∀ T, T.size = T0.size → Hid (T = T0) → Code.wp P c Q ⟨T, d⟩ w) : Code.wp P c Q ⟨T0, d⟩ w := h T0 rfl (Lib.hid rfl)

@[go_sem] theorem gs_get (T : Array Value) (i j : Nat) (v : Value) : (T.setIfInBounds i v)[j]? = if i = j then (if i < T.size then some v else none) else T[j]? := Array.getElem?_setIfInBounds
end Go.Proofs.Ytaebjalpebgliaa
