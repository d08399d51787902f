/- Not, And, Or, Xor, Ite over a contract of combine. Printed by wip/mkops.py. -/
import Derived.Test.YtaebjalpebgliaaCombE
namespace Go.Proofs.Ytaebjalpebgliaa
open Go.RowKit
set_option linter.unusedVariables false
set_option linter.unusedSimpArgs false

/-- A call returns a diagram and an error. -/
def DOut (w : World) (n : Int) (O : List Nd) (r c : Int) (e : Ending) (w' : World) : Prop :=
  ∃ ao co, e = .returned (.tuple #[.agg #[.int .i64 n, .slice ao O.length co, .int .i64 r], .int .i64 c]) ∧ SliceAt w' 80 3 (.slice ao O.length co) O.length (ndCells O) ∧ Same w w'
theorem DRet.out {w w' : World} {n : Int} {O : List Nd} {r : Int} {e : Ending} (h : DRet w n O r e w') : DOut w n O r 0 e w' := h
theorem DErr.out {w w' : World} {c : Int} {e : Ending} (h : DErr w c e w') : DOut w 0 [] 0 c e w' := ⟨none, 0, h.1, SliceAt.nil _ _ _, h.2⟩

theorem dgs_of_block {w : World} {g : Nat} {l : List Dg} (h : w.heap[g]? = some (.cells (dgCells l).toArray 31 (0, 0))) (hm : l.length ≤ maxLen) : DgsAt w (some ⟨g, 0, none⟩) l.length l :=
  SliceAt.of_owns (own_of_block (base := 0) h (Nat.zero_le _) (dgCells_length l) rfl hm)

set_option maxRecDepth 100000 in
set_option maxHeartbeats 1000000 in
theorem not_call (d1 : Dg) (n : Int) (O : List Nd) (r c : Int) (w : World)
    (hc : ∀ W a, Same w W → DgsAt W a 1 [d1] → Calls Try.prog 48 #[.func (.func 49) #[] #[], .slice a 1 1] W (DOut W n O r c)) :
    Calls Try.prog 15 #[d1.v] w (DOut w n O r c) := by
  simp only [Dg.v]
  replace hc := Lib.hid hc
  go_enter Try.func15, Try.ntmps15
  go_wp2_with fail
  refine (hc.out _ _ (by repeat (first | exact Fr.refl _ _ | apply Fr.alloc | apply Fr.drewN | apply Fr.drew)) (dgs_of_block (l := [d1]) (heap_new_at (by simp) _) (by simp [maxLen]))).mono ?_
  rintro e w1 ⟨ao, co, rfl, hO, hs⟩
  have kt := hs.at (heap_old (heap_new_at (k := w.heap.size + 1) (by simp) _) _) id
  have t0 := cell_at kt 0
  have t1 := cell_at kt 1
  have t2 := cell_at kt 2
  have f0 := free_at kt 0
  have f1 := free_at kt 1
  have f2 := free_at kt 2
  have tb := lt_of_heap kt
  have kF := stored3 (a := .int .i64 n) (c := .slice ao O.length co) (d := .int .i64 r) kt
  have d0 := cell_at kF 0
  have d1' := cell_at kF 1
  have d2' := cell_at kF 2
  have hF := ((show Same w _ from (by repeat (first | exact Fr.refl _ _ | apply Fr.alloc | apply Fr.drewN | apply Fr.drew))).same hs).trans (stored3_fr (w := w1) (b := w.heap.size + 1) (a := .int .i64 n) (c := .slice ao O.length co) (d := .int .i64 r)) (fun i hi h => by omega)
  have hOF := hO.fr (stored3_fr (w := w1) (b := w.heap.size + 1) (a := .int .i64 n) (c := .slice ao O.length co) (d := .int .i64 r)) (fun k cur hk h => by rw [h, kt] at hk; simp at hk)
  replace hF := Lib.hid hF
  replace hOF := Lib.hid hOF
  clear kF kt hO
  replace hs := Lib.hid hs
  go_wp2_with fail
  refine bodyPost_ret (v := .tuple #[.agg #[.int .i64 n, .slice ao O.length co, .int .i64 r], .int .i64 c]) (by simp [results, Try.results15, go_sem, d0, d1', d2']) rfl ?_
  exact ⟨ao, co, rfl, hOF.out, hF.out⟩

set_option maxRecDepth 100000 in
set_option maxHeartbeats 1000000 in
theorem and_call (d1 d2 : Dg) (n : Int) (O : List Nd) (r c : Int) (w : World)
    (hc : ∀ W a, Same w W → DgsAt W a 2 [d1, d2] → Calls Try.prog 48 #[.func (.func 51) #[] #[], .slice a 2 2] W (DOut W n O r c)) :
    Calls Try.prog 16 #[d1.v, d2.v] w (DOut w n O r c) := by
  simp only [Dg.v]
  replace hc := Lib.hid hc
  go_enter Try.func16, Try.ntmps16
  go_wp2_with fail
  refine (hc.out _ _ (by repeat (first | exact Fr.refl _ _ | apply Fr.alloc | apply Fr.drewN | apply Fr.drew)) (dgs_of_block (l := [d1, d2]) (heap_new_at (by simp) _) (by simp [maxLen]))).mono ?_
  rintro e w1 ⟨ao, co, rfl, hO, hs⟩
  have kt := hs.at (heap_old (heap_new_at (k := w.heap.size + 1 + 1) (by simp) _) _) id
  have t0 := cell_at kt 0
  have t1 := cell_at kt 1
  have t2 := cell_at kt 2
  have f0 := free_at kt 0
  have f1 := free_at kt 1
  have f2 := free_at kt 2
  have tb := lt_of_heap kt
  have kF := stored3 (a := .int .i64 n) (c := .slice ao O.length co) (d := .int .i64 r) kt
  have d0 := cell_at kF 0
  have d1' := cell_at kF 1
  have d2' := cell_at kF 2
  have hF := ((show Same w _ from (by repeat (first | exact Fr.refl _ _ | apply Fr.alloc | apply Fr.drewN | apply Fr.drew))).same hs).trans (stored3_fr (w := w1) (b := w.heap.size + 1 + 1) (a := .int .i64 n) (c := .slice ao O.length co) (d := .int .i64 r)) (fun i hi h => by omega)
  have hOF := hO.fr (stored3_fr (w := w1) (b := w.heap.size + 1 + 1) (a := .int .i64 n) (c := .slice ao O.length co) (d := .int .i64 r)) (fun k cur hk h => by rw [h, kt] at hk; simp at hk)
  replace hF := Lib.hid hF
  replace hOF := Lib.hid hOF
  clear kF kt hO
  replace hs := Lib.hid hs
  go_wp2_with fail
  refine bodyPost_ret (v := .tuple #[.agg #[.int .i64 n, .slice ao O.length co, .int .i64 r], .int .i64 c]) (by simp [results, Try.results16, go_sem, d0, d1', d2']) rfl ?_
  exact ⟨ao, co, rfl, hOF.out, hF.out⟩

set_option maxRecDepth 100000 in
set_option maxHeartbeats 1000000 in
theorem or_call (d1 d2 : Dg) (n : Int) (O : List Nd) (r c : Int) (w : World)
    (hc : ∀ W a, Same w W → DgsAt W a 2 [d1, d2] → Calls Try.prog 48 #[.func (.func 52) #[] #[], .slice a 2 2] W (DOut W n O r c)) :
    Calls Try.prog 17 #[d1.v, d2.v] w (DOut w n O r c) := by
  simp only [Dg.v]
  replace hc := Lib.hid hc
  go_enter Try.func17, Try.ntmps17
  go_wp2_with fail
  refine (hc.out _ _ (by repeat (first | exact Fr.refl _ _ | apply Fr.alloc | apply Fr.drewN | apply Fr.drew)) (dgs_of_block (l := [d1, d2]) (heap_new_at (by simp) _) (by simp [maxLen]))).mono ?_
  rintro e w1 ⟨ao, co, rfl, hO, hs⟩
  have kt := hs.at (heap_old (heap_new_at (k := w.heap.size + 1 + 1) (by simp) _) _) id
  have t0 := cell_at kt 0
  have t1 := cell_at kt 1
  have t2 := cell_at kt 2
  have f0 := free_at kt 0
  have f1 := free_at kt 1
  have f2 := free_at kt 2
  have tb := lt_of_heap kt
  have kF := stored3 (a := .int .i64 n) (c := .slice ao O.length co) (d := .int .i64 r) kt
  have d0 := cell_at kF 0
  have d1' := cell_at kF 1
  have d2' := cell_at kF 2
  have hF := ((show Same w _ from (by repeat (first | exact Fr.refl _ _ | apply Fr.alloc | apply Fr.drewN | apply Fr.drew))).same hs).trans (stored3_fr (w := w1) (b := w.heap.size + 1 + 1) (a := .int .i64 n) (c := .slice ao O.length co) (d := .int .i64 r)) (fun i hi h => by omega)
  have hOF := hO.fr (stored3_fr (w := w1) (b := w.heap.size + 1 + 1) (a := .int .i64 n) (c := .slice ao O.length co) (d := .int .i64 r)) (fun k cur hk h => by rw [h, kt] at hk; simp at hk)
  replace hF := Lib.hid hF
  replace hOF := Lib.hid hOF
  clear kF kt hO
  replace hs := Lib.hid hs
  go_wp2_with fail
  refine bodyPost_ret (v := .tuple #[.agg #[.int .i64 n, .slice ao O.length co, .int .i64 r], .int .i64 c]) (by simp [results, Try.results17, go_sem, d0, d1', d2']) rfl ?_
  exact ⟨ao, co, rfl, hOF.out, hF.out⟩

set_option maxRecDepth 100000 in
set_option maxHeartbeats 1000000 in
theorem xor_call (d1 d2 : Dg) (n : Int) (O : List Nd) (r c : Int) (w : World)
    (hc : ∀ W a, Same w W → DgsAt W a 2 [d1, d2] → Calls Try.prog 48 #[.func (.func 53) #[] #[], .slice a 2 2] W (DOut W n O r c)) :
    Calls Try.prog 18 #[d1.v, d2.v] w (DOut w n O r c) := by
  simp only [Dg.v]
  replace hc := Lib.hid hc
  go_enter Try.func18, Try.ntmps18
  go_wp2_with fail
  refine (hc.out _ _ (by repeat (first | exact Fr.refl _ _ | apply Fr.alloc | apply Fr.drewN | apply Fr.drew)) (dgs_of_block (l := [d1, d2]) (heap_new_at (by simp) _) (by simp [maxLen]))).mono ?_
  rintro e w1 ⟨ao, co, rfl, hO, hs⟩
  have kt := hs.at (heap_old (heap_new_at (k := w.heap.size + 1 + 1) (by simp) _) _) id
  have t0 := cell_at kt 0
  have t1 := cell_at kt 1
  have t2 := cell_at kt 2
  have f0 := free_at kt 0
  have f1 := free_at kt 1
  have f2 := free_at kt 2
  have tb := lt_of_heap kt
  have kF := stored3 (a := .int .i64 n) (c := .slice ao O.length co) (d := .int .i64 r) kt
  have d0 := cell_at kF 0
  have d1' := cell_at kF 1
  have d2' := cell_at kF 2
  have hF := ((show Same w _ from (by repeat (first | exact Fr.refl _ _ | apply Fr.alloc | apply Fr.drewN | apply Fr.drew))).same hs).trans (stored3_fr (w := w1) (b := w.heap.size + 1 + 1) (a := .int .i64 n) (c := .slice ao O.length co) (d := .int .i64 r)) (fun i hi h => by omega)
  have hOF := hO.fr (stored3_fr (w := w1) (b := w.heap.size + 1 + 1) (a := .int .i64 n) (c := .slice ao O.length co) (d := .int .i64 r)) (fun k cur hk h => by rw [h, kt] at hk; simp at hk)
  replace hF := Lib.hid hF
  replace hOF := Lib.hid hOF
  clear kF kt hO
  replace hs := Lib.hid hs
  go_wp2_with fail
  refine bodyPost_ret (v := .tuple #[.agg #[.int .i64 n, .slice ao O.length co, .int .i64 r], .int .i64 c]) (by simp [results, Try.results18, go_sem, d0, d1', d2']) rfl ?_
  exact ⟨ao, co, rfl, hOF.out, hF.out⟩

set_option maxRecDepth 100000 in
set_option maxHeartbeats 1000000 in
theorem ite_call (d1 d2 d3 : Dg) (n : Int) (O : List Nd) (r c : Int) (w : World)
    (hc : ∀ W a, Same w W → DgsAt W a 3 [d1, d2, d3] → Calls Try.prog 48 #[.func (.func 54) #[] #[], .slice a 3 3] W (DOut W n O r c)) :
    Calls Try.prog 19 #[d1.v, d2.v, d3.v] w (DOut w n O r c) := by
  simp only [Dg.v]
  replace hc := Lib.hid hc
  go_enter Try.func19, Try.ntmps19
  go_wp2_with fail
  refine (hc.out _ _ (by repeat (first | exact Fr.refl _ _ | apply Fr.alloc | apply Fr.drewN | apply Fr.drew)) (dgs_of_block (l := [d1, d2, d3]) (heap_new_at (by simp) _) (by simp [maxLen]))).mono ?_
  rintro e w1 ⟨ao, co, rfl, hO, hs⟩
  have kt := hs.at (heap_old (heap_new_at (k := w.heap.size + 1 + 1 + 1) (by simp) _) _) id
  have t0 := cell_at kt 0
  have t1 := cell_at kt 1
  have t2 := cell_at kt 2
  have f0 := free_at kt 0
  have f1 := free_at kt 1
  have f2 := free_at kt 2
  have tb := lt_of_heap kt
  have kF := stored3 (a := .int .i64 n) (c := .slice ao O.length co) (d := .int .i64 r) kt
  have d0 := cell_at kF 0
  have d1' := cell_at kF 1
  have d2' := cell_at kF 2
  have hF := ((show Same w _ from (by repeat (first | exact Fr.refl _ _ | apply Fr.alloc | apply Fr.drewN | apply Fr.drew))).same hs).trans (stored3_fr (w := w1) (b := w.heap.size + 1 + 1 + 1) (a := .int .i64 n) (c := .slice ao O.length co) (d := .int .i64 r)) (fun i hi h => by omega)
  have hOF := hO.fr (stored3_fr (w := w1) (b := w.heap.size + 1 + 1 + 1) (a := .int .i64 n) (c := .slice ao O.length co) (d := .int .i64 r)) (fun k cur hk h => by rw [h, kt] at hk; simp at hk)
  replace hF := Lib.hid hF
  replace hOF := Lib.hid hOF
  clear kF kt hO
  replace hs := Lib.hid hs
  go_wp2_with fail
  refine bodyPost_ret (v := .tuple #[.agg #[.int .i64 n, .slice ao O.length co, .int .i64 r], .int .i64 c]) (by simp [results, Try.results19, go_sem, d0, d1', d2']) rfl ?_
  exact ⟨ao, co, rfl, hOF.out, hF.out⟩

end Go.Proofs.Ytaebjalpebgliaa
