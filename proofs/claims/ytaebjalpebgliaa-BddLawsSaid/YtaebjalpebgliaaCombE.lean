/- combine whose check fails. -/
import Derived.Test.YtaebjalpebgliaaComb
namespace Go.Proofs.Ytaebjalpebgliaa
open Go.RowKit
set_option linter.unusedVariables false
set_option linter.unusedSimpArgs false

set_option maxRecDepth 100000 in
set_option maxHeartbeats 1000000 in
theorem comb_err (v : Value) (a : Option Addr) (cap n : Nat) (E : Int) (hE : E ≠ 0) (w : World)
    (hc : ∀ W, Same w W → Calls Try.prog 76 #[.slice a n cap] W fun e w' => e = .returned (.int .i64 E) ∧ Same W w') :
    Calls Try.prog 48 #[v, .slice a n cap] w (DErr w E) := by
  have hb : (E != 0) = true := by simpa using hE
  replace hE := Lib.hid hE
  replace hc := Lib.hid hc
  go_enter Try.func48, Try.ntmps48
  go_wp2_with fail
  refine (hc.out _ (by repeat (first | exact Fr.refl _ _ | apply Fr.alloc | apply Fr.drewN | apply Fr.drew))).mono ?_
  rintro e w1 ⟨rfl, hs1⟩
  have kt := hs1.at (heap_new w _) id
  have t0 := cell_at kt 0
  have t1 := cell_at kt 1
  have t2 := cell_at kt 2
  have f0 := free_at kt 0
  have f1 := free_at kt 1
  have f2 := free_at kt 2
  have tb := lt_of_heap kt
  have kF := stored3 (a := .int .i64 0) (c := .slice none 0 0) (d := .int .i64 0) kt
  have d0 := cell_at kF 0
  have d1 := cell_at kF 1
  have d2 := cell_at kF 2
  have hF := ((show Same w _ from (by repeat (first | exact Fr.refl _ _ | apply Fr.alloc | apply Fr.drewN | apply Fr.drew))).same hs1).trans (stored3_fr (w := w1) (b := w.heap.size) (a := .int .i64 0) (c := .slice none 0 0) (d := .int .i64 0)) (fun i hi h => by omega)
  replace hF := Lib.hid hF
  clear kF kt
  replace hs1 := Lib.hid hs1
  go_wp2_with fail
  refine bodyPost_ret (v := .tuple #[.agg #[.int .i64 0, .slice none 0 0, .int .i64 0], .int .i64 E]) (by simp [results, Try.results48, go_sem, d0, d1, d2]) rfl ?_
  exact ⟨rfl, hF.out⟩
end Go.Proofs.Ytaebjalpebgliaa
