/- trial walks -/
import Derived.Test.YtaebjalpebgliaaRows
import Derived.WalkKit
import Derived.WalkSpells
import Derived.WalkLawsBesides
import Derived.Deep.QuietTactic
import Derived.BigQuiet
import Derived.Test.YtaebjalpebgliaaFacts
import Derived.Lib.Hide
namespace Go.Proofs.Ytaebjalpebgliaa
open Go.RowKit

def pow2 : Nat → Int
  | 0 => 1
  | n + 1 => 2 * pow2 n

theorem pow2_pos (n : Nat) : 1 ≤ pow2 n := by
  induction n with
  | zero => simp [pow2]
  | succ n ih => simp [pow2]; omega

theorem pow2_le (n m : Nat) (h : n ≤ m) : pow2 n ≤ pow2 m := by
  induction h with
  | refl => omega
  | step h ih => simp [pow2]; have := pow2_pos ‹Nat›; omega

set_option maxHeartbeats 400000 in
theorem power_any (n : Nat) (w : World) (hn : n ≤ 60) :
    Calls Try.prog 32 #[.int .i64 n] w fun e w' => e = .returned (.int .i64 (pow2 n)) ∧ w = w' := by
  go_enter Try.func32, Try.ntmps32
  go_wp2
  go_loop [3, 4] (fun k i => ∃ j : Nat, j ≤ n ∧ i = .int .i64 j ∧ k = .int .i64 (pow2 j)) (fun _ i => n - (intOf i).toNat)
  case atStart => exact ⟨0, by omega, rfl, rfl⟩
  case round =>
    obtain ⟨j, hj, rfl, rfl⟩ := hrel
    have h1 := pow2_le j 60 (by omega)
    have h2 : pow2 60 = 1152921504606846976 := by decide
    have h3 := pow2_pos j
    rw [h2] at h1
    clear h2
    go_wp2
    · go_round
      case rel => exact ⟨j + 1, by omega, by go_num, by simp [pow2]⟩
      case measure => simp [intOf]; omega
    · go_ret
      have : j = n := by omega
      subst this
      exact ⟨rfl, rfl⟩
set_option maxHeartbeats 400000 in
theorem find_any (a : Option Addr) (cap : Nat) (L : List Nd) (x : Nd) (w : World) (h : SliceAt w 83 3 (.slice a L.length cap) L.length (ndCells L)) (hL : L.length ≤ 1000000000) :
    Calls Try.prog 73 #[.slice a L.length cap, .agg #[.int .i64 x.1, .int .i64 x.2.1, .int .i64 x.2.2]] w fun e w' => e = .returned (.int .i64 (findFrom L x 2)) ∧ Same w w' := by
  go_enter Try.func73, Try.ntmps73
  go_wp2
  go_loopw [5] (fun i wr => ∃ k : Nat, k ≤ L.length ∧ i = .int .i64 k ∧ findFrom L x 2 = findFrom (L.drop k) x (k + 2) ∧ ∃ n, wr = (w.alloc (.cells #[.int .i64 x.1, .int .i64 x.2.1, .int .i64 x.2.2] 83)).drewN n) (fun i _ => L.length - (intOf i).toNat)
  case atStart => exact ⟨0, by omega, rfl, rfl, 0, rfl⟩
  case round =>
    obtain ⟨k, hk, rfl, hf, n, rfl⟩ := hrel
    replace hf := Lib.hid hf
    by_cases hlt : k < L.length
    · obtain ⟨b, off, rfl, hb, h1, h2, h3⟩ := h.node hlt
      clear h
      by_cases hx : L[k] = x
      · have hn := nde_true hx
        replace hx := Lib.hid hx
        go_wp2
        go_quiet (fail)
        go_wp2
        go_ret
        refine ⟨?_, ((Fr.refl _ _).alloc _).drewN _⟩
        rw [hf.out, findFrom_hit L x k hlt hx.out]
        rfl
      · have hn := nde_false hx
        replace hx := Lib.hid hx
        go_wp2
        go_quiet (fail)
        go_wp2
        go_roundw
        case rel => exact ⟨k + 1, by omega, by go_num, by rw [hf.out, findFrom_drop L x k hlt hx.out]; congr 1, _, rfl⟩
        case measure => simp [intOf]; omega
    · go_wp2
      go_ret
      refine ⟨?_, ((Fr.refl _ _).alloc _).drewN _⟩
      rw [hf.out, List.drop_eq_nil_of_le (by omega)]
      rfl
end Go.Proofs.Ytaebjalpebgliaa
