/- NetworkEnables walked. The law of package network: possible walked. -/
import Derived.Test.YtknlkcfnfjchdaaGreatCLStpM
import Derived.Test.YtknlkcfnfjchdaaGreatCLTup
import Derived.Test.YtknlkcfnfjchdaaGreatCLCod
import Derived.Test.YtknlkcfnfjchdaaGreatCChgP
import Derived.Test.YtknlkcfnfjchdaaGreatCAny
import Derived.Test.YtknlkcfnfjchdaaGreatCMade
import Derived.Test.YtknlkcfnfjchdaaGreatCFrom
import Derived.Test.YtknlkcfnfjchdaaGreatCRowAt
import Derived.Test.YtknlkcfnfjchdaaGreatCOpsR
import Derived.Test.YtknlkcfnfjchdaaGreatCLNetC
namespace Go.Proofs.YtknlkcfnfjchdaaGreat
open Go.RowKit
set_option linter.unusedVariables false
set_option linter.unusedSimpArgs false

theorem tup_lt {N : Nw} {x : List Nat} (hx : x ∈ tupsF N.ns) : x.length = N.As.length ∧ ∀ i (hi : i < N.As.length), x.getD i 0 < N.As[i].n.toNat := by
  obtain ⟨h1, h2⟩ := tups_iff.1 hx
  refine ⟨by rw [h1, N.ns_len], fun i hi => ?_⟩
  have := okT_iff.1 h2 i (by rw [N.ns_len]; exact hi)
  rw [N.ns_get hi] at this
  exact this

theorem GrpN.tl {N : Nw} (h : GrpN N) : ∀ i, i ≤ N.As.length → (tupsF (N.ns.take i)).length ≤ 100000 := fun i _ => by
  have h1 := tups_len (N.ns.take i) 5 (fun n hn => by
    have hm := List.mem_of_mem_take hn
    obtain ⟨j, hj, rfl⟩ := List.mem_iff_getElem.1 hm
    have := h.grp.ns j
    simpa [List.getD, hj] using this)
  have h2 : (N.ns.take i).length ≤ 3 := by rw [List.length_take, N.ns_len]; have := h.m3; omega
  have h3 : 5 ^ (N.ns.take i).length ≤ 5 ^ 3 := Nat.pow_le_pow_right (by omega) h2
  have : (5 : Nat) ^ 3 = 125 := by decide
  omega
theorem GrpN.t1000 {N : Nw} (h : GrpN N) : ∀ A ∈ N.As, A.n ≤ 1000 := fun A hA => by have := h.grp.n5 A hA; omega

end Go.Proofs.YtknlkcfnfjchdaaGreat
