/- trial walks -/
import Derived.Test.YtknlkcfnfjchdaaGreatRows
import Derived.WalkKit
import Derived.WalkSpells
import Derived.WalkLawsBesides
import Derived.Deep.QuietTactic
import Derived.BigQuiet
import Derived.Test.YtknlkcfnfjchdaaGreatJFacts
import Derived.Lib.Hide
namespace Go.Proofs.YtknlkcfnfjchdaaGreat
open Go.RowKit

def pow2 : Nat → Int
  | 0 => 1
  | n + 1 => 2 * pow2 n

theorem pow2_pos (n : Nat) : 1 ≤ pow2 n := by
  induction n with
  | zero => simp [pow2]
  | succ n ih => simp [pow2]; omega

theorem pow2_le (n m : Nat) (h : n ≤ m) : pow2 n ≤ pow2 m := by
  induction h with
  | refl => omega
  | step h ih => simp [pow2]; have := pow2_pos ‹Nat›; omega

end Go.Proofs.YtknlkcfnfjchdaaGreat
