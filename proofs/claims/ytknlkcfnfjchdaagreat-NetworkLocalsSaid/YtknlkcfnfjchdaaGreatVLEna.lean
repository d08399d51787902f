/- NetworkEnables walked. -/
import Derived.Test.YtknlkcfnfjchdaaGreatVLStpM
import Derived.Test.YtknlkcfnfjchdaaGreatVLIs
namespace Go.Proofs.YtknlkcfnfjchdaaGreat
open Go.RowKit
set_option linter.unusedVariables false
set_option linter.unusedSimpArgs false

theorem GrpN.tl {N : Nw} (h : GrpN N) : ∀ i, i ≤ N.As.length → (tupsF (N.ns.take i)).length ≤ 100000 := fun i _ => by
  have h1 := tups_len (N.ns.take i) 5 (fun n hn => by
    have hm := List.mem_of_mem_take hn
    obtain ⟨j, hj, rfl⟩ := List.mem_iff_getElem.1 hm
    have := h.grp.ns j
    simpa [List.getD, hj] using this)
  have h2 : (N.ns.take i).length ≤ 3 := by rw [List.length_take, N.ns_len]; have := h.m3; omega
  have h3 : 5 ^ (N.ns.take i).length ≤ 5 ^ 3 := Nat.pow_le_pow_right (by omega) h2
  have : (5 : Nat) ^ 3 = 125 := by decide
  omega
theorem GrpN.t1000 {N : Nw} (h : GrpN N) : ∀ A ∈ N.As, A.n ≤ 1000 := fun A hA => by have := h.grp.n5 A hA; omega

end Go.Proofs.YtknlkcfnfjchdaaGreat
