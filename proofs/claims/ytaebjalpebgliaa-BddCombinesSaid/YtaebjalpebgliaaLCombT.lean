/- BddCombines: regions 21 and 29 (tests of a diagram against a row). -/
import Derived.Test.YtaebjalpebgliaaLCombP
namespace Go.Proofs.Ytaebjalpebgliaa
open Go.RowKit
set_option linter.unusedVariables false
set_option linter.unusedSimpArgs false

set_option maxRecDepth 100000 in
set_option maxHeartbeats 40000000 in
theorem comb_r21 {Q : Exit → Act → World → Prop} {T : Array Value} (hTs : T.size = 279) {bo n m : Nat} {O : Array Value} {wr : World}
    {b0 : Nat} {L0 : List Nd} {a0 d0 : Option Addr} {c0 e0 : Nat} {r0 : Int} (p0 : T[16]'(by omega) = .pointer (some ⟨b0, 0, none⟩)) (q0 : T[17]'(by omega) = .int .i64 0)
    (t7 : T[7]'(by omega) = .int .i64 n) (t26 : T[26]'(by omega) = .slice (some ⟨bo, 0, none⟩) 5 5) (ho : wr.heap[bo]? = some (.cells O 26 (0, 0)))
    (hb0 : wr.heap[b0]? = some (.cells #[.int .i64 n, .slice a0 L0.length c0, .int .i64 r0] 31 (0, 0))) (hO0 : O[0]? = some (.slice d0 m e0))
    (hC0 : ∀ W, Same wr W → Calls Try.prog 20 #[.agg #[.int .i64 n, .slice a0 L0.length c0, .int .i64 r0], .int .i64 0, .int .i64 n, .slice d0 m e0] W fun e w' => e = .returned (.bool true) ∧ Same W w')
    (hK : ∀ f w', f 201 = .bool false → Same wr w' → Q .normal ⟨fillF T f 194 8, []⟩ w') :
    Code.wp Try.prog (regionOf Try.f3 21) Q ⟨T, []⟩ wr := by
  conv => arg 2; whnf
  replace hK := Lib.hid hK; replace ho := Lib.hid ho; replace hb0 := Lib.hid hb0; replace hO0 := Lib.hid hO0; replace hC0 := Lib.hid hC0
  have u0 : wr.cell? ⟨bo, 0, none⟩ = some (.slice d0 m e0) := (cell_at (ho.out) 0).trans hO0.out
  have ul : bo < wr.heap.size := lt_of_heap (ho.out)
  have v0 : wr.cell? ⟨b0, 0, none⟩ = some (.int .i64 n) := cell_at (hb0.out) 0
  have v1 : wr.cell? ⟨b0, 1, none⟩ = some (.slice a0 L0.length c0) := cell_at (hb0.out) 1
  have v2 : wr.cell? ⟨b0, 2, none⟩ = some (.int .i64 r0) := cell_at (hb0.out) 2
  have vl : b0 < wr.heap.size := lt_of_heap (hb0.out)
  refine wp_region_schedF (L2 b0 bo) [1, 0, 0, 0, 0, 1, 2, 0] [1, 2, 3, 4, 0, 5, 6, 7] (by kernel_rfl) (by kernel_rfl) ?_
  refine drew_abs (C := fun X => wpTo _ _ _ _ _ _ _ _ X) (fun V0 hv => ?_)
  replace hv := Lib.hid hv
  clear u0 ul v0 v1 v2 vl
  have u0 : V0.cell? ⟨bo, 0, none⟩ = some (.slice d0 m e0) := (cell_at (hv.out.at ho.out id) 0).trans hO0.out
  have ul : bo < V0.heap.size := lt_of_heap (hv.out.at ho.out id)
  have v0 : V0.cell? ⟨b0, 0, none⟩ = some (.int .i64 n) := cell_at (hv.out.at hb0.out id) 0
  have v1 : V0.cell? ⟨b0, 1, none⟩ = some (.slice a0 L0.length c0) := cell_at (hv.out.at hb0.out id) 1
  have v2 : V0.cell? ⟨b0, 2, none⟩ = some (.int .i64 r0) := cell_at (hv.out.at hb0.out id) 2
  have vl : b0 < V0.heap.size := lt_of_heap (hv.out.at hb0.out id)
  repeat (first | (refine sched_w rfl rfl (fun _ hK => ?_); go_simp; refine hK _ ?_; clear hK) | (refine sched_s rfl rfl (fun _ hK => ?_); go_simp; first | (refine hK _ ?_; clear hK) | (refine ⟨_, fun _ => rfl, hK _ ?_⟩; clear hK)))
  refine sched_g rfl rfl (fun _ hK => ?_)
  go_simp
  refine (hC0.out _ (hv.out.same (by repeat (first | exact Fr.refl _ _ | apply Fr.alloc | apply Fr.drewN | apply Fr.drew | apply Fr.undrew | apply Fr.undrewN)))).mono ?_
  rintro e V1 ⟨rfl, hs'⟩
  refine hK _ _ (Kp.of_same hs') ?_
  clear hK
  try simp only [Act.put]
  have hv' : Same wr V1 := (hv.out.same (by repeat (first | exact Fr.refl _ _ | apply Fr.alloc | apply Fr.drewN | apply Fr.drew | apply Fr.undrew | apply Fr.undrewN))).same hs'
  clear hs' hv
  have hv := Lib.hid hv'
  clear hv'
  clear u0 ul v0 v1 v2 vl
  repeat (first | (refine sched_w rfl rfl (fun _ hK => ?_); go_simp; refine hK _ ?_; clear hK) | (refine sched_s rfl rfl (fun _ hK => ?_); go_simp; first | (refine hK _ ?_; clear hK) | (refine ⟨_, fun _ => rfl, hK _ ?_⟩; clear hK)))
  refine sched_nil (NoPanic.normal ?_)
  show Q .normal _ _
  refine fill_end (T := T) 194 8 (by simp only [Array.size_setIfInBounds]) (by intro i hi; repeat rw [Array.getElem?_setIfInBounds_ne (by omega)]) ?_
  exact hK.out _ _ (by simp [Array.getD, hTs]) hv.out

set_option maxRecDepth 100000 in
set_option maxHeartbeats 40000000 in
theorem comb_r29 {Q : Exit → Act → World → Prop} {T : Array Value} (hTs : T.size = 279) {bo n m : Nat} {O : Array Value} {wr : World}
    {b0 : Nat} {L0 : List Nd} {a0 d0 : Option Addr} {c0 e0 : Nat} {r0 : Int} (p0 : T[24]'(by omega) = .pointer (some ⟨b0, 0, none⟩)) (q0 : T[25]'(by omega) = .int .i64 0)
    (t7 : T[7]'(by omega) = .int .i64 n) (t26 : T[26]'(by omega) = .slice (some ⟨bo, 0, none⟩) 5 5) (ho : wr.heap[bo]? = some (.cells O 26 (0, 0)))
    (hb0 : wr.heap[b0]? = some (.cells #[.int .i64 n, .slice a0 L0.length c0, .int .i64 r0] 31 (0, 0))) (hO0 : O[4]? = some (.slice d0 m e0))
    (hC0 : ∀ W, Same wr W → Calls Try.prog 20 #[.agg #[.int .i64 n, .slice a0 L0.length c0, .int .i64 r0], .int .i64 0, .int .i64 n, .slice d0 m e0] W fun e w' => e = .returned (.bool true) ∧ Same W w')
    (hK : ∀ f w', Same wr w' → Q .normal ⟨(fillF T f 272 7).setIfInBounds 6 (.bool true), []⟩ w') :
    Code.wp Try.prog (regionOf Try.f3 29) Q ⟨T, []⟩ wr := by
  conv => arg 2; whnf
  replace hK := Lib.hid hK; replace ho := Lib.hid ho; replace hb0 := Lib.hid hb0; replace hO0 := Lib.hid hO0; replace hC0 := Lib.hid hC0
  have u0 : wr.cell? ⟨bo, 4, none⟩ = some (.slice d0 m e0) := (cell_at (ho.out) 4).trans hO0.out
  have ul : bo < wr.heap.size := lt_of_heap (ho.out)
  have v0 : wr.cell? ⟨b0, 0, none⟩ = some (.int .i64 n) := cell_at (hb0.out) 0
  have v1 : wr.cell? ⟨b0, 1, none⟩ = some (.slice a0 L0.length c0) := cell_at (hb0.out) 1
  have v2 : wr.cell? ⟨b0, 2, none⟩ = some (.int .i64 r0) := cell_at (hb0.out) 2
  have vl : b0 < wr.heap.size := lt_of_heap (hb0.out)
  refine wp_region_schedF (L2 b0 bo) [1, 0, 0, 0, 0, 1, 2, 0] [1, 2, 3, 4, 0, 5, 6, 7] (by kernel_rfl) (by kernel_rfl) ?_
  refine drew_abs (C := fun X => wpTo _ _ _ _ _ _ _ _ X) (fun V0 hv => ?_)
  replace hv := Lib.hid hv
  clear u0 ul v0 v1 v2 vl
  have u0 : V0.cell? ⟨bo, 4, none⟩ = some (.slice d0 m e0) := (cell_at (hv.out.at ho.out id) 4).trans hO0.out
  have ul : bo < V0.heap.size := lt_of_heap (hv.out.at ho.out id)
  have v0 : V0.cell? ⟨b0, 0, none⟩ = some (.int .i64 n) := cell_at (hv.out.at hb0.out id) 0
  have v1 : V0.cell? ⟨b0, 1, none⟩ = some (.slice a0 L0.length c0) := cell_at (hv.out.at hb0.out id) 1
  have v2 : V0.cell? ⟨b0, 2, none⟩ = some (.int .i64 r0) := cell_at (hv.out.at hb0.out id) 2
  have vl : b0 < V0.heap.size := lt_of_heap (hv.out.at hb0.out id)
  repeat (first | (refine sched_w rfl rfl (fun _ hK => ?_); go_simp; refine hK _ ?_; clear hK) | (refine sched_s rfl rfl (fun _ hK => ?_); go_simp; first | (refine hK _ ?_; clear hK) | (refine ⟨_, fun _ => rfl, hK _ ?_⟩; clear hK)))
  refine sched_g rfl rfl (fun _ hK => ?_)
  go_simp
  refine (hC0.out _ (hv.out.same (by repeat (first | exact Fr.refl _ _ | apply Fr.alloc | apply Fr.drewN | apply Fr.drew | apply Fr.undrew | apply Fr.undrewN)))).mono ?_
  rintro e V1 ⟨rfl, hs'⟩
  refine hK _ _ (Kp.of_same hs') ?_
  clear hK
  try simp only [Act.put]
  have hv' : Same wr V1 := (hv.out.same (by repeat (first | exact Fr.refl _ _ | apply Fr.alloc | apply Fr.drewN | apply Fr.drew | apply Fr.undrew | apply Fr.undrewN))).same hs'
  clear hs' hv
  have hv := Lib.hid hv'
  clear hv'
  clear u0 ul v0 v1 v2 vl
  repeat (first | (refine sched_w rfl rfl (fun _ hK => ?_); go_simp; refine hK _ ?_; clear hK) | (refine sched_s rfl rfl (fun _ hK => ?_); go_simp; first | (refine hK _ ?_; clear hK) | (refine ⟨_, fun _ => rfl, hK _ ?_⟩; clear hK)))
  refine sched_nil (NoPanic.normal ?_)
  show Q .normal _ _
  refine fill_end1 (T := T) 272 7 (by simp only [Array.size_setIfInBounds]) (by intro i hi; repeat rw [Array.getElem?_setIfInBounds_ne (by omega)]) ?_
  exact hK.out _ _ hv.out

end Go.Proofs.Ytaebjalpebgliaa
