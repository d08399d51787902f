/- trial walks -/
import Derived.Test.YtaebjalpebgliaaRows
import Derived.WalkKit
import Derived.WalkSpells
import Derived.WalkLawsBesides
import Derived.Deep.QuietTactic
import Derived.BigQuiet
namespace Go.Proofs.Ytaebjalpebgliaa
open Go.RowKit

def pow2 : Nat → Int
  | 0 => 1
  | n + 1 => 2 * pow2 n

theorem pow2_pos (n : Nat) : 1 ≤ pow2 n := by
  induction n with
  | zero => simp [pow2]
  | succ n ih => simp [pow2]; omega

theorem pow2_le (n m : Nat) (h : n ≤ m) : pow2 n ≤ pow2 m := by
  induction h with
  | refl => omega
  | step h ih => simp [pow2]; have := pow2_pos ‹Nat›; omega

set_option maxHeartbeats 400000 in
theorem power_any (n : Nat) (w : World) (hn : n ≤ 60) :
    Calls Try.prog 32 #[.int .i64 n] w fun e w' => e = .returned (.int .i64 (pow2 n)) ∧ w = w' := by
  go_enter Try.func32, Try.ntmps32
  go_wp2
  go_loop [3, 4] (fun k i => ∃ j : Nat, j ≤ n ∧ i = .int .i64 j ∧ k = .int .i64 (pow2 j)) (fun _ i => n - (intOf i).toNat)
  case atStart => exact ⟨0, by omega, rfl, rfl⟩
  case round =>
    obtain ⟨j, hj, rfl, rfl⟩ := hrel
    have h1 := pow2_le j 60 (by omega)
    have h2 : pow2 60 = 1152921504606846976 := by decide
    have h3 := pow2_pos j
    rw [h2] at h1
    clear h2
    go_wp2
    · go_round
      case rel => exact ⟨j + 1, by omega, by go_num, by simp [pow2]⟩
      case measure => simp [intOf]; omega
    · go_ret
      have : j = n := by omega
      subst this
      exact ⟨rfl, rfl⟩

end Go.Proofs.Ytaebjalpebgliaa
