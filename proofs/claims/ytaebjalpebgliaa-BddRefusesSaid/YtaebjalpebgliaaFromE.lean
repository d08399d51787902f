/- bdd.FromTable's errors. -/
import Derived.Test.YtaebjalpebgliaaFrom
namespace Go.Proofs.Ytaebjalpebgliaa
open Go.RowKit
set_option linter.unusedVariables false
set_option linter.unusedSimpArgs false

set_option maxRecDepth 100000 in
theorem fromTable_range (n : Int) (aT : Option Addr) (m capT : Nat) (w : World) (h : n < 0 ∨ 40 < n) :
    Calls Try.prog 25 #[.int .i64 n, .slice aT m capT] w (DErr w 2) := by
  go_enter Try.func25, Try.ntmps25
  go_wp2_with fail
  refine (count_bad n _ h).mono ?_
  rintro e w' ⟨rfl, rfl⟩
  go_wp2_with fail
  refine bodyPost_ret (v := .tuple #[.agg #[.int .i64 0, .slice none 0 0, .int .i64 0], .int .i64 2]) (by simp [results, Try.results25, go_sem]) rfl ?_
  exact ⟨rfl, (by repeat (first | exact Fr.refl _ _ | apply Fr.alloc | apply Fr.drewN | apply Fr.drew))⟩

set_option maxRecDepth 100000 in
theorem fromTable_limit (n : Int) (aT : Option Addr) (m capT : Nat) (w : World) (h : 10 < n ∧ n ≤ 40) :
    Calls Try.prog 25 #[.int .i64 n, .slice aT m capT] w (DErr w 3) := by
  have h1 : ¬ n ≤ 10 := by omega
  have h2 : 10 < n := h.1
  go_enter Try.func25, Try.ntmps25
  go_wp2_with fail
  refine (count_ok n _ (by omega)).mono ?_
  rintro e w' ⟨rfl, rfl⟩
  go_wp2_with fail
  refine bodyPost_ret (v := .tuple #[.agg #[.int .i64 0, .slice none 0 0, .int .i64 0], .int .i64 3]) (by simp [results, Try.results25, go_sem]) rfl ?_
  exact ⟨rfl, (by repeat (first | exact Fr.refl _ _ | apply Fr.alloc | apply Fr.drewN | apply Fr.drew))⟩

set_option maxRecDepth 100000 in
theorem fromTable_size (n : Nat) (aT : Option Addr) (m capT : Nat) (w : World) (hn : n ≤ 10) (hm : m ≠ 2 ^ n) :
    Calls Try.prog 25 #[.int .i64 n, .slice aT m capT] w (DErr w 4) := by
  have h1 : (0 : Int) ≤ n := by omega
  have h2 : (n : Int) ≤ 10 := by omega
  have hq : ((m : Int) != wrap64 (2 ^ n)) = true := by
    rw [wrap_pow n (by omega)]
    simp only [bne_iff_ne, ne_eq]
    intro hc
    exact hm (by exact_mod_cast hc)
  clear hm
  go_enter Try.func25, Try.ntmps25
  go_wp2_with fail
  refine (count_ok n _ (by omega)).mono ?_
  rintro e w' ⟨rfl, rfl⟩
  go_wp2_with fail
  refine bodyPost_ret (v := .tuple #[.agg #[.int .i64 0, .slice none 0 0, .int .i64 0], .int .i64 4]) (by simp [results, Try.results25, go_sem]) rfl ?_
  exact ⟨rfl, (by repeat (first | exact Fr.refl _ _ | apply Fr.alloc | apply Fr.drewN | apply Fr.drew))⟩
end Go.Proofs.Ytaebjalpebgliaa
