/- The reference's Find. -/
import Derived.Test.YtaebjalpebgliaaRows
import Derived.Test.YtaebjalpebgliaaFacts
import Derived.Deep.QuietTactic
import Derived.BigQuiet
import Derived.Lib.Hide
namespace Go.Proofs.Ytaebjalpebgliaa
open Go.RowKit
set_option maxHeartbeats 400000 in
theorem find_any (a : Option Addr) (cap : Nat) (L : List Nd) (x : Nd) (w : World) (h : SliceAt w 83 3 (.slice a L.length cap) L.length (ndCells L)) (hL : L.length ≤ 1000000000) :
    Calls Try.prog 73 #[.slice a L.length cap, .agg #[.int .i64 x.1, .int .i64 x.2.1, .int .i64 x.2.2]] w fun e w' => e = .returned (.int .i64 (findFrom L x 2)) ∧ Same w w' := by
  go_enter Try.func73, Try.ntmps73
  go_wp2
  go_loopw [5] (fun i wr => ∃ k : Nat, k ≤ L.length ∧ i = .int .i64 k ∧ findFrom L x 2 = findFrom (L.drop k) x (k + 2) ∧ ∃ n, wr = (w.alloc (.cells #[.int .i64 x.1, .int .i64 x.2.1, .int .i64 x.2.2] 83)).drewN n) (fun i _ => L.length - (intOf i).toNat)
  case atStart => exact ⟨0, by omega, rfl, rfl, 0, rfl⟩
  case round =>
    obtain ⟨k, hk, rfl, hf, n, rfl⟩ := hrel
    replace hf := Lib.hid hf
    by_cases hlt : k < L.length
    · obtain ⟨b, off, rfl, hb, h1, h2, h3⟩ := h.node hlt
      clear h
      by_cases hx : L[k] = x
      · have hn := nde_true hx
        replace hx := Lib.hid hx
        go_wp2
        go_quiet (fail)
        go_wp2
        go_ret
        refine ⟨?_, ((Fr.refl _ _).alloc _).drewN _⟩
        rw [hf.out, findFrom_hit L x k hlt hx.out]
        rfl
      · have hn := nde_false hx
        replace hx := Lib.hid hx
        go_wp2
        go_quiet (fail)
        go_wp2
        go_roundw
        case rel => exact ⟨k + 1, by omega, by go_num, by rw [hf.out, findFrom_drop L x k hlt hx.out]; congr 1, _, rfl⟩
        case measure => simp [intOf]; omega
    · go_wp2
      go_ret
      refine ⟨?_, ((Fr.refl _ _).alloc _).drewN _⟩
      rw [hf.out, List.drop_eq_nil_of_le (by omega)]
      rfl
end Go.Proofs.Ytaebjalpebgliaa
