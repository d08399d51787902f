/- BddCombines: regions 21 and 29 (tests of a diagram against a row). -/
import Derived.Test.YtaebjalpebgliaaLCombP
namespace Go.Proofs.Ytaebjalpebgliaa
open Go.RowKit
set_option linter.unusedVariables false
set_option linter.unusedSimpArgs false

set_option maxRecDepth 100000 in
set_option maxHeartbeats 40000000 in
theorem comb_r25 {Q : Exit → Act → World → Prop} {T : Array Value} (hTs : T.size = 279) {bo n m : Nat} {O : Array Value} {wr : World}
    {b0 : Nat} {L0 : List Nd} {a0 d0 : Option Addr} {c0 e0 : Nat} {r0 : Int} (p0 : T[18]'(by omega) = .pointer (some ⟨b0, 0, none⟩)) (q0 : T[19]'(by omega) = .int .i64 0)
    {b1 : Nat} {L1 : List Nd} {a1 d1 : Option Addr} {c1 e1 : Nat} {r1 : Int} (p1 : T[20]'(by omega) = .pointer (some ⟨b1, 0, none⟩)) (q1 : T[21]'(by omega) = .int .i64 0)
    {b2 : Nat} {L2 : List Nd} {a2 d2 : Option Addr} {c2 e2 : Nat} {r2 : Int} (p2 : T[22]'(by omega) = .pointer (some ⟨b2, 0, none⟩)) (q2 : T[23]'(by omega) = .int .i64 0)
    (t7 : T[7]'(by omega) = .int .i64 n) (t26 : T[26]'(by omega) = .slice (some ⟨bo, 0, none⟩) 5 5) (ho : wr.heap[bo]? = some (.cells O 26 (0, 0)))
    (hb0 : wr.heap[b0]? = some (.cells #[.int .i64 n, .slice a0 L0.length c0, .int .i64 r0] 31 (0, 0))) (hO0 : O[1]? = some (.slice d0 m e0))
    (hC0 : ∀ W, Same wr W → Calls Try.prog 20 #[.agg #[.int .i64 n, .slice a0 L0.length c0, .int .i64 r0], .int .i64 0, .int .i64 n, .slice d0 m e0] W fun e w' => e = .returned (.bool true) ∧ Same W w')
    (hb1 : wr.heap[b1]? = some (.cells #[.int .i64 n, .slice a1 L1.length c1, .int .i64 r1] 31 (0, 0))) (hO1 : O[2]? = some (.slice d1 m e1))
    (hC1 : ∀ W, Same wr W → Calls Try.prog 20 #[.agg #[.int .i64 n, .slice a1 L1.length c1, .int .i64 r1], .int .i64 0, .int .i64 n, .slice d1 m e1] W fun e w' => e = .returned (.bool true) ∧ Same W w')
    (hb2 : wr.heap[b2]? = some (.cells #[.int .i64 n, .slice a2 L2.length c2, .int .i64 r2] 31 (0, 0))) (hO2 : O[3]? = some (.slice d2 m e2))
    (hC2 : ∀ W, Same wr W → Calls Try.prog 20 #[.agg #[.int .i64 n, .slice a2 L2.length c2, .int .i64 r2], .int .i64 0, .int .i64 n, .slice d2 m e2] W fun e w' => e = .returned (.bool true) ∧ Same W w')
    (hK : ∀ f w', f 262 = .bool false → Same wr w' → Q .normal ⟨fillF T f 235 28, []⟩ w') :
    Code.wp Try.prog (regionOf Try.f3 25) Q ⟨T, []⟩ wr := by
  conv => arg 2; whnf
  replace hK := Lib.hid hK; replace ho := Lib.hid ho; replace hb0 := Lib.hid hb0; replace hO0 := Lib.hid hO0; replace hC0 := Lib.hid hC0; replace hb1 := Lib.hid hb1; replace hO1 := Lib.hid hO1; replace hC1 := Lib.hid hC1; replace hb2 := Lib.hid hb2; replace hO2 := Lib.hid hO2; replace hC2 := Lib.hid hC2
  have u0 : wr.cell? ⟨bo, 1, none⟩ = some (.slice d0 m e0) := (cell_at (ho.out) 1).trans hO0.out
  have ul : bo < wr.heap.size := lt_of_heap (ho.out)
  have v0 : wr.cell? ⟨b0, 0, none⟩ = some (.int .i64 n) := cell_at (hb0.out) 0
  have v1 : wr.cell? ⟨b0, 1, none⟩ = some (.slice a0 L0.length c0) := cell_at (hb0.out) 1
  have v2 : wr.cell? ⟨b0, 2, none⟩ = some (.int .i64 r0) := cell_at (hb0.out) 2
  have vl : b0 < wr.heap.size := lt_of_heap (hb0.out)
  refine wp_region_schedF (L4 b0 b1 b2 bo) [1, 0, 0, 0, 0, 1, 2, 0, 0, 1, 0, 0, 0, 0, 1, 2, 0, 0, 0, 1, 0, 0, 0, 0, 1, 2, 0, 0] [1, 2, 3, 4, 0, 5, 6, 7, 8, 10, 11, 12, 13, 9, 14, 15, 16, 17, 18, 20, 21, 22, 23, 19, 24, 25, 26, 27] (by kernel_rfl) (by kernel_rfl) ?_
  refine drew_abs (C := fun X => wpTo _ _ _ _ _ _ _ _ X) (fun V0 hv => ?_)
  replace hv := Lib.hid hv
  clear u0 ul v0 v1 v2 vl
  have u0 : V0.cell? ⟨bo, 1, none⟩ = some (.slice d0 m e0) := (cell_at (hv.out.at ho.out id) 1).trans hO0.out
  have ul : bo < V0.heap.size := lt_of_heap (hv.out.at ho.out id)
  have v0 : V0.cell? ⟨b0, 0, none⟩ = some (.int .i64 n) := cell_at (hv.out.at hb0.out id) 0
  have v1 : V0.cell? ⟨b0, 1, none⟩ = some (.slice a0 L0.length c0) := cell_at (hv.out.at hb0.out id) 1
  have v2 : V0.cell? ⟨b0, 2, none⟩ = some (.int .i64 r0) := cell_at (hv.out.at hb0.out id) 2
  have vl : b0 < V0.heap.size := lt_of_heap (hv.out.at hb0.out id)
  repeat (first | (refine sched_w rfl rfl (fun _ hK => ?_); go_simp; refine hK _ ?_; clear hK) | (refine sched_s rfl rfl (fun _ hK => ?_); go_simp; first | (refine hK _ ?_; clear hK) | (refine ⟨_, fun _ => rfl, hK _ ?_⟩; clear hK)))
  refine sched_g rfl rfl (fun _ hK => ?_)
  go_simp
  refine (hC0.out _ (hv.out.same (by repeat (first | exact Fr.refl _ _ | apply Fr.alloc | apply Fr.drewN | apply Fr.drew | apply Fr.undrew | apply Fr.undrewN)))).mono ?_
  rintro e V1 ⟨rfl, hs'⟩
  refine hK _ _ (Kp.of_same hs') ?_
  clear hK
  try simp only [Act.put]
  have hv' : Same wr V1 := (hv.out.same (by repeat (first | exact Fr.refl _ _ | apply Fr.alloc | apply Fr.drewN | apply Fr.drew | apply Fr.undrew | apply Fr.undrewN))).same hs'
  clear hs' hv
  have hv := Lib.hid hv'
  clear hv'
  clear u0 ul v0 v1 v2 vl
  have u0 : V1.cell? ⟨bo, 2, none⟩ = some (.slice d1 m e1) := (cell_at (hv.out.at ho.out id) 2).trans hO1.out
  have ul : bo < V1.heap.size := lt_of_heap (hv.out.at ho.out id)
  have v0 : V1.cell? ⟨b1, 0, none⟩ = some (.int .i64 n) := cell_at (hv.out.at hb1.out id) 0
  have v1 : V1.cell? ⟨b1, 1, none⟩ = some (.slice a1 L1.length c1) := cell_at (hv.out.at hb1.out id) 1
  have v2 : V1.cell? ⟨b1, 2, none⟩ = some (.int .i64 r1) := cell_at (hv.out.at hb1.out id) 2
  have vl : b1 < V1.heap.size := lt_of_heap (hv.out.at hb1.out id)
  repeat (first | (refine sched_w rfl rfl (fun _ hK => ?_); go_simp; refine hK _ ?_; clear hK) | (refine sched_s rfl rfl (fun _ hK => ?_); go_simp; first | (refine hK _ ?_; clear hK) | (refine ⟨_, fun _ => rfl, hK _ ?_⟩; clear hK)))
  refine sched_g rfl rfl (fun _ hK => ?_)
  go_simp
  refine (hC1.out _ (hv.out.same (by repeat (first | exact Fr.refl _ _ | apply Fr.alloc | apply Fr.drewN | apply Fr.drew | apply Fr.undrew | apply Fr.undrewN)))).mono ?_
  rintro e V2 ⟨rfl, hs'⟩
  refine hK _ _ (Kp.of_same hs') ?_
  clear hK
  try simp only [Act.put]
  have hv' : Same wr V2 := (hv.out.same (by repeat (first | exact Fr.refl _ _ | apply Fr.alloc | apply Fr.drewN | apply Fr.drew | apply Fr.undrew | apply Fr.undrewN))).same hs'
  clear hs' hv
  have hv := Lib.hid hv'
  clear hv'
  clear u0 ul v0 v1 v2 vl
  have u0 : V2.cell? ⟨bo, 3, none⟩ = some (.slice d2 m e2) := (cell_at (hv.out.at ho.out id) 3).trans hO2.out
  have ul : bo < V2.heap.size := lt_of_heap (hv.out.at ho.out id)
  have v0 : V2.cell? ⟨b2, 0, none⟩ = some (.int .i64 n) := cell_at (hv.out.at hb2.out id) 0
  have v1 : V2.cell? ⟨b2, 1, none⟩ = some (.slice a2 L2.length c2) := cell_at (hv.out.at hb2.out id) 1
  have v2 : V2.cell? ⟨b2, 2, none⟩ = some (.int .i64 r2) := cell_at (hv.out.at hb2.out id) 2
  have vl : b2 < V2.heap.size := lt_of_heap (hv.out.at hb2.out id)
  repeat (first | (refine sched_w rfl rfl (fun _ hK => ?_); go_simp; refine hK _ ?_; clear hK) | (refine sched_s rfl rfl (fun _ hK => ?_); go_simp; first | (refine hK _ ?_; clear hK) | (refine ⟨_, fun _ => rfl, hK _ ?_⟩; clear hK)))
  refine sched_g rfl rfl (fun _ hK => ?_)
  go_simp
  refine (hC2.out _ (hv.out.same (by repeat (first | exact Fr.refl _ _ | apply Fr.alloc | apply Fr.drewN | apply Fr.drew | apply Fr.undrew | apply Fr.undrewN)))).mono ?_
  rintro e V3 ⟨rfl, hs'⟩
  refine hK _ _ (Kp.of_same hs') ?_
  clear hK
  try simp only [Act.put]
  have hv' : Same wr V3 := (hv.out.same (by repeat (first | exact Fr.refl _ _ | apply Fr.alloc | apply Fr.drewN | apply Fr.drew | apply Fr.undrew | apply Fr.undrewN))).same hs'
  clear hs' hv
  have hv := Lib.hid hv'
  clear hv'
  clear u0 ul v0 v1 v2 vl
  repeat (first | (refine sched_w rfl rfl (fun _ hK => ?_); go_simp; refine hK _ ?_; clear hK) | (refine sched_s rfl rfl (fun _ hK => ?_); go_simp; first | (refine hK _ ?_; clear hK) | (refine ⟨_, fun _ => rfl, hK _ ?_⟩; clear hK)))
  refine sched_nil (NoPanic.normal ?_)
  show Q .normal _ _
  refine fill_end (T := T) 235 28 (by simp only [Array.size_setIfInBounds]) (by intro i hi; repeat rw [Array.getElem?_setIfInBounds_ne (by omega)]) ?_
  exact hK.out _ _ (by simp [Array.getD, hTs]) hv.out

end Go.Proofs.Ytaebjalpebgliaa
