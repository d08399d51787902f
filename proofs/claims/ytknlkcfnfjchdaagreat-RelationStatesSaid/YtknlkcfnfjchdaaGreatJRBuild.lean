/- The reference's Build and Diagram. -/
import Derived.Test.YtknlkcfnfjchdaaGreatJT1
import Derived.Test.YtknlkcfnfjchdaaGreatJTable
import Derived.Test.YtknlkcfnfjchdaaGreatJCheck
namespace Go.Proofs.YtknlkcfnfjchdaaGreat
open Go.RowKit
set_option linter.unusedVariables false
set_option linter.unusedSimpArgs false
theorem own_keep {w W : World} {a : Option Addr} {cap n : Nat} {v' : Value} {m : Nat} {aS : Option Addr} {cS B : Nat} {cells : List Value} (h : RowAt w (.slice aS m cS) m cells) (hg : Grew (fun _ => False) w W (.slice a n cap) v')
    {TT : TypeId} {ss : Nat} {cc : List Value} (ho : w.ownsRow B TT ss (.slice a n cap) n cc) (hS : ∀ k, (Value.slice aS m cS).ownBlock = some k → k < B) : RowAt W (.slice aS m cS) m cells := by
  refine h.keep hg.1.size (fun b hb hlt0 => hg.1.block b hlt0 ?_)
  rintro (h' | h')
  · have hlt := hS b hb
    rcases ho.2 with ⟨h0, _⟩ | ⟨g, c, cu, h0, hbg, _⟩
    · rw [h0] at h'; simp [Value.ownBlock] at h'
    · rw [h0] at h'; simp [Value.ownBlock] at h'; omega
  · exact h'

end Go.Proofs.YtknlkcfnfjchdaaGreat
