/- The region f := made(..) of the laws over a described function. Printed by wip/mkmade.py. -/
import Derived.Test.YtmmjijmmocabhaaJKnwW
import Derived.Test.YtmmjijmmocabhaaJLawT
import Derived.Test.YtmmjijmmocabhaaJCut
namespace Go.Proofs.Ytmmjijmmocabhaa
set_option linter.unusedVariables false
private def opsOfL : Code → List Oper
  | .region _ ops _ => ops.toList
  | _ => []
theorem madePermutes_check : (Region.noSelect (opsOfL (regionOf Try.f4 4)).toArray && planF .any (opsOfL (regionOf Try.f4 4)).toArray [1, 2, 0, 1, 2, 2, 3] (.fork [2, 0, 3] 1 (.fork [] 4 (.run [5, 6]) 5 (.run [4, 6])) 5 (.run [1, 4, 6])) (opsOfL (regionOf Try.f4 4)).length (Array.replicate (opsOfL (regionOf Try.f4 4)).length false)) = true := by kernel_rfl
theorem madeSifts_check : (Region.noSelect (opsOfL (regionOf Try.f9 4)).toArray && planF .any (opsOfL (regionOf Try.f9 4)).toArray [1, 2, 0, 1, 2, 2, 3] (.fork [2, 0, 3] 1 (.fork [] 4 (.run [5, 6]) 5 (.run [4, 6])) 5 (.run [1, 4, 6])) (opsOfL (regionOf Try.f9 4)).length (Array.replicate (opsOfL (regionOf Try.f9 4)).length false)) = true := by kernel_rfl
theorem madeLeast_check : (Region.noSelect (opsOfL (regionOf Try.f8 4)).toArray && planF .any (opsOfL (regionOf Try.f8 4)).toArray [1, 2, 0, 1, 2, 2, 3] (.fork [2, 0, 3] 1 (.fork [] 4 (.run [5, 6]) 5 (.run [4, 6])) 5 (.run [1, 4, 6])) (opsOfL (regionOf Try.f8 4)).length (Array.replicate (opsOfL (regionOf Try.f8 4)).length false)) = true := by kernel_rfl
theorem madeReturns_check : (Region.noSelect (opsOfL (regionOf Try.f11 3)).toArray && planF .any (opsOfL (regionOf Try.f11 3)).toArray [1, 2, 0, 1, 2, 2, 3] (.fork [2, 0, 3] 1 (.fork [] 4 (.run [5, 6]) 5 (.run [4, 6])) 5 (.run [1, 4, 6])) (opsOfL (regionOf Try.f11 3)).length (Array.replicate (opsOfL (regionOf Try.f11 3)).length false)) = true := by kernel_rfl
open Go.RowKit
set_option maxRecDepth 100000 in
set_option maxHeartbeats 4000000 in
theorem madePermutes_run {Q : Exit → Act → World → Prop} {T : Array Value} (hTs : T.size = 70) {bx n : Nat} {t : List Bool} {v bb a1 a2 a3 a4 a5 : Int} {wr : World} (t1 : T[1]'(by omega) = .pointer (some ⟨bx, 0, none⟩))
    (kb : wr.heap[bx]? = some (.cells #[.int .u8 v, .int .u32 bb, .int .u8 a1, .int .u8 a2, .int .u8 a3, .int .u8 a4, .int .u8 a5] 38 (0, 0)))
    (SZ : ∀ W, Calls Try.prog 21 #[.agg #[.int .u8 v, .int .u32 bb, .int .u8 a1, .int .u8 a2, .int .u8 a3, .int .u8 a4, .int .u8 a5]] W fun e w' => e = .returned (.int .i64 n) ∧ Same W w')
    (MA : ∀ W, Calls Try.prog 23 #[.int .i64 n, .int .u32 bb] W fun e w' => ∃ d : Dg, e = .returned (.agg #[.int .i64 d.n, .slice d.a d.L.length d.cap, .int .i64 d.r]) ∧ d.at w' ∧ d.tab n t ∧ Same W w')
    (hK : ∀ f w' b, f 5 = .pointer (some ⟨b, 0, none⟩) → Boxed n t b wr w' → Q .normal ⟨fillF (fillF T f 5 1) f 21 5, []⟩ w') :
    Code.wp Try.prog (regionOf Try.f4 4) Q ⟨T, []⟩ wr := by
  have e0 := cell_at kb 0
  have e1 := cell_at kb 1
  have e2 := cell_at kb 2
  have e3 := cell_at kb 3
  have e4 := cell_at kb 4
  have e5 := cell_at kb 5
  have e6 := cell_at kb 6
  have el := lt_of_heap kb
  replace kb := Lib.hid kb; replace SZ := Lib.hid SZ; replace MA := Lib.hid MA; replace hK := Lib.hid hK
  refine wp_region_planF (fun k => k = bx) [1, 2, 0, 1, 2, 2, 3] (.fork [2, 0, 3] 1 (.fork [] 4 (.run [5, 6]) 5 (.run [4, 6])) 5 (.run [1, 4, 6])) (by kernel_rfl) madePermutes_check ?_
  refine plan_fork ?_
  repeat (first | (refine sched_w rfl rfl (fun _ hK => ?_); go_simp; refine hK _ ?_; clear hK) | (refine sched_s rfl rfl (fun _ hK => ?_); go_simp; first | (refine hK _ ?_; clear hK) | (refine ⟨_, fun _ => rfl, hK _ ?_⟩; clear hK)))
  refine sched_nil ⟨?_, ?_⟩
  · refine fork_g rfl rfl (fun _ hK => ?_)
    go_simp
    refine (SZ.out _).mono ?_
    rintro e w1 ⟨rfl, hs⟩
    refine hK _ _ (Kp.of_same hs) ?_
    clear hK
    (try simp only [Act.put, List.setIfInBounds_toArray, List.set_cons_zero, List.set_cons_succ])
    have hs1 : Same wr w1 := (show Same wr _ from (by repeat (first | exact Fr.refl _ _ | apply Fr.undrew | apply Fr.undrewN | apply Fr.drew | apply Fr.drewN | apply Fr.alloc))).same hs
    clear hs
    refine plan_fork ?_
    refine sched_nil ⟨?_, ?_⟩
    · refine fork_g rfl rfl (fun _ hK => ?_)
      go_simp
      refine (MA.out _).mono ?_
      rintro e w2 ⟨d, rfl, hd, ht, hs⟩
      refine hK _ _ (Kp.of_same hs) ?_
      clear hK
      (try simp only [Act.put, List.setIfInBounds_toArray, List.set_cons_zero, List.set_cons_succ])
      have hs2 := hs1.same hs
      clear hs
      refine plan_run ?_
      replace hd := Lib.hid hd; replace ht := Lib.hid ht; replace hs1 := Lib.hid hs1; replace hs2 := Lib.hid hs2
      repeat (first | (refine sched_w rfl rfl (fun _ hK => ?_); go_simp; refine hK _ ?_; clear hK) | (refine sched_s rfl rfl (fun _ hK => ?_); go_simp; first | (refine hK _ ?_; clear hK) | (refine ⟨_, fun _ => rfl, hK _ ?_⟩; clear hK)))
      refine sched_g rfl rfl (fun _ hK => ?_); go_simp; refine hK _ _ (Kp.of_same (by repeat (first | exact Fr.refl _ _ | apply Fr.undrew | apply Fr.undrewN | apply Fr.drew | apply Fr.drewN | apply Fr.alloc))) ?_; clear hK
      refine sched_l rfl (by decide) (fun _ hK => ?_); go_simp
      refine hK _ _ ?_; clear hK; try simp only [Act.put, List.setIfInBounds_toArray, List.set_cons_zero, List.set_cons_succ]
      refine sched_nil (NoPanic.normal ?_)
      show Q .normal _ _
      refine fill_end2 (T := T) 5 1 21 5 (by simp only [Array.size_setIfInBounds]) (by intro i h1 h2; repeat rw [Array.getElem?_setIfInBounds_ne (by omega)]) ?_
      exact hK.out _ _ w2.heap.size (by simp [Array.getD, hTs]) ⟨⟨d, hd.out.same (by repeat (first | exact Fr.refl _ _ | apply Fr.undrew | apply Fr.undrewN | apply Fr.drew | apply Fr.drewN | apply Fr.alloc)), ht.out, heap_new _ _⟩, hs2.out.same (by repeat (first | exact Fr.refl _ _ | apply Fr.undrew | apply Fr.undrewN | apply Fr.drew | apply Fr.drewN | apply Fr.alloc))⟩
    · refine fork_g rfl rfl (fun _ hK => ?_)
      go_simp
      refine hK _ _ (Kp.of_same (by repeat (first | exact Fr.refl _ _ | apply Fr.undrew | apply Fr.undrewN | apply Fr.drew | apply Fr.drewN | apply Fr.alloc))) ?_
      clear hK
      (try simp only [Act.put, List.setIfInBounds_toArray, List.set_cons_zero, List.set_cons_succ])
      have kbx := heap_new w1 (.cells #[.int .i64 0, .slice none 0 0, .int .i64 0] 45)
      have hsx : Same w1 (w1.alloc (.cells #[.int .i64 0, .slice none 0 0, .int .i64 0] 45)) := (by repeat (first | exact Fr.refl _ _ | apply Fr.alloc | apply Fr.drewN | apply Fr.drew | apply Fr.undrew | apply Fr.undrewN))
      replace kbx := Lib.hid kbx; replace hsx := Lib.hid hsx; replace hs1 := Lib.hid hs1
      refine plan_run ?_
      refine sched_g rfl rfl (fun _ hK => ?_)
      go_simp
      refine (MA.out _).mono ?_
      rintro e w3 ⟨d, rfl, hd, ht, hs⟩
      refine hK _ _ (Kp.of_same hs) ?_
      clear hK
      (try simp only [Act.put, List.setIfInBounds_toArray, List.set_cons_zero, List.set_cons_succ])
      have kq := hs.at kbx.out id
      have hsb : Same w1 w3 := hsx.out.same hs
      have q0 := free_at kq 0
      have q1 := free_at kq 1
      have q2 := free_at kq 2
      have c0 := cell_at kq 0
      have c1 := cell_at kq 1
      have c2 := cell_at kq 2
      have ql := lt_of_heap kq
      have BX := boxed_set (w := w1) hd ht hsb kq
      clear hs
      replace hd := Lib.hid hd; replace ht := Lib.hid ht; replace hsb := Lib.hid hsb; replace kq := Lib.hid kq; replace BX := Lib.hid BX
      refine sched_l rfl (by decide) (fun _ hK => ?_); go_simp
      refine hK _ _ ?_; clear hK; try simp only [Act.put, List.setIfInBounds_toArray, List.set_cons_zero, List.set_cons_succ]
      refine sched_nil (NoPanic.normal ?_)
      show Q .normal _ _
      refine fill_end2 (T := T) 5 1 21 5 (by simp only [Array.size_setIfInBounds]) (by intro i h1 h2; repeat rw [Array.getElem?_setIfInBounds_ne (by omega)]) ?_
      exact hK.out _ _ w1.heap.size (by simp [Array.getD, hTs]) ⟨BX.out.is, hs1.out.same BX.out.same⟩
  · refine fork_g rfl rfl (fun _ hK => ?_)
    go_simp
    refine hK _ _ (Kp.of_same (by repeat (first | exact Fr.refl _ _ | apply Fr.undrew | apply Fr.undrewN | apply Fr.drew | apply Fr.drewN | apply Fr.alloc))) ?_
    clear hK
    (try simp only [Act.put, List.setIfInBounds_toArray, List.set_cons_zero, List.set_cons_succ])
    have kby := heap_new wr (.cells #[.int .i64 0, .slice none 0 0, .int .i64 0] 45)
    replace kby := Lib.hid kby
    refine plan_run ?_
    refine sched_g rfl rfl (fun _ hK => ?_)
    go_simp
    refine (SZ.out _).mono ?_
    rintro e w2 ⟨rfl, hs⟩
    refine hK _ _ (Kp.of_same hs) ?_
    clear hK
    (try simp only [Act.put, List.setIfInBounds_toArray, List.set_cons_zero, List.set_cons_succ])
    have kbx := hs.at (show _ = _ from kby.out) id
    have hsx : Same wr w2 := (show Same wr _ from (by repeat (first | exact Fr.refl _ _ | apply Fr.undrew | apply Fr.undrewN | apply Fr.drew | apply Fr.drewN | apply Fr.alloc))).same hs
    clear hs
    replace kbx := Lib.hid kbx; replace hsx := Lib.hid hsx
    refine sched_g rfl rfl (fun _ hK => ?_)
    go_simp
    refine (MA.out _).mono ?_
    rintro e w3 ⟨d, rfl, hd, ht, hs⟩
    refine hK _ _ (Kp.of_same hs) ?_
    clear hK
    (try simp only [Act.put, List.setIfInBounds_toArray, List.set_cons_zero, List.set_cons_succ])
    have kq := hs.at kbx.out id
    have hsb : Same wr w3 := hsx.out.same hs
    have q0 := free_at kq 0
    have q1 := free_at kq 1
    have q2 := free_at kq 2
    have c0 := cell_at kq 0
    have c1 := cell_at kq 1
    have c2 := cell_at kq 2
    have ql := lt_of_heap kq
    have BX := boxed_set (w := wr) hd ht hsb kq
    clear hs
    replace hd := Lib.hid hd; replace ht := Lib.hid ht; replace hsb := Lib.hid hsb; replace kq := Lib.hid kq; replace BX := Lib.hid BX
    refine sched_l rfl (by decide) (fun _ hK => ?_); go_simp
    refine hK _ _ ?_; clear hK; try simp only [Act.put, List.setIfInBounds_toArray, List.set_cons_zero, List.set_cons_succ]
    refine sched_nil (NoPanic.normal ?_)
    show Q .normal _ _
    refine fill_end2 (T := T) 5 1 21 5 (by simp only [Array.size_setIfInBounds]) (by intro i h1 h2; repeat rw [Array.getElem?_setIfInBounds_ne (by omega)]) ?_
    exact hK.out _ _ wr.heap.size (by simp [Array.getD, hTs]) BX.out
set_option maxRecDepth 100000 in
set_option maxHeartbeats 4000000 in
theorem madeSifts_run {Q : Exit → Act → World → Prop} {T : Array Value} (hTs : T.size = 99) {bx n : Nat} {t : List Bool} {v bb a1 a2 a3 a4 a5 : Int} {wr : World} (t1 : T[1]'(by omega) = .pointer (some ⟨bx, 0, none⟩))
    (kb : wr.heap[bx]? = some (.cells #[.int .u8 v, .int .u32 bb, .int .u8 a1, .int .u8 a2, .int .u8 a3, .int .u8 a4, .int .u8 a5] 38 (0, 0)))
    (SZ : ∀ W, Calls Try.prog 21 #[.agg #[.int .u8 v, .int .u32 bb, .int .u8 a1, .int .u8 a2, .int .u8 a3, .int .u8 a4, .int .u8 a5]] W fun e w' => e = .returned (.int .i64 n) ∧ Same W w')
    (MA : ∀ W, Calls Try.prog 23 #[.int .i64 n, .int .u32 bb] W fun e w' => ∃ d : Dg, e = .returned (.agg #[.int .i64 d.n, .slice d.a d.L.length d.cap, .int .i64 d.r]) ∧ d.at w' ∧ d.tab n t ∧ Same W w')
    (hK : ∀ f w' b, f 4 = .pointer (some ⟨b, 0, none⟩) → Boxed n t b wr w' → Q .normal ⟨fillF (fillF T f 4 1) f 28 5, []⟩ w') :
    Code.wp Try.prog (regionOf Try.f9 4) Q ⟨T, []⟩ wr := by
  have e0 := cell_at kb 0
  have e1 := cell_at kb 1
  have e2 := cell_at kb 2
  have e3 := cell_at kb 3
  have e4 := cell_at kb 4
  have e5 := cell_at kb 5
  have e6 := cell_at kb 6
  have el := lt_of_heap kb
  replace kb := Lib.hid kb; replace SZ := Lib.hid SZ; replace MA := Lib.hid MA; replace hK := Lib.hid hK
  refine wp_region_planF (fun k => k = bx) [1, 2, 0, 1, 2, 2, 3] (.fork [2, 0, 3] 1 (.fork [] 4 (.run [5, 6]) 5 (.run [4, 6])) 5 (.run [1, 4, 6])) (by kernel_rfl) madeSifts_check ?_
  refine plan_fork ?_
  repeat (first | (refine sched_w rfl rfl (fun _ hK => ?_); go_simp; refine hK _ ?_; clear hK) | (refine sched_s rfl rfl (fun _ hK => ?_); go_simp; first | (refine hK _ ?_; clear hK) | (refine ⟨_, fun _ => rfl, hK _ ?_⟩; clear hK)))
  refine sched_nil ⟨?_, ?_⟩
  · refine fork_g rfl rfl (fun _ hK => ?_)
    go_simp
    refine (SZ.out _).mono ?_
    rintro e w1 ⟨rfl, hs⟩
    refine hK _ _ (Kp.of_same hs) ?_
    clear hK
    (try simp only [Act.put, List.setIfInBounds_toArray, List.set_cons_zero, List.set_cons_succ])
    have hs1 : Same wr w1 := (show Same wr _ from (by repeat (first | exact Fr.refl _ _ | apply Fr.undrew | apply Fr.undrewN | apply Fr.drew | apply Fr.drewN | apply Fr.alloc))).same hs
    clear hs
    refine plan_fork ?_
    refine sched_nil ⟨?_, ?_⟩
    · refine fork_g rfl rfl (fun _ hK => ?_)
      go_simp
      refine (MA.out _).mono ?_
      rintro e w2 ⟨d, rfl, hd, ht, hs⟩
      refine hK _ _ (Kp.of_same hs) ?_
      clear hK
      (try simp only [Act.put, List.setIfInBounds_toArray, List.set_cons_zero, List.set_cons_succ])
      have hs2 := hs1.same hs
      clear hs
      refine plan_run ?_
      replace hd := Lib.hid hd; replace ht := Lib.hid ht; replace hs1 := Lib.hid hs1; replace hs2 := Lib.hid hs2
      repeat (first | (refine sched_w rfl rfl (fun _ hK => ?_); go_simp; refine hK _ ?_; clear hK) | (refine sched_s rfl rfl (fun _ hK => ?_); go_simp; first | (refine hK _ ?_; clear hK) | (refine ⟨_, fun _ => rfl, hK _ ?_⟩; clear hK)))
      refine sched_g rfl rfl (fun _ hK => ?_); go_simp; refine hK _ _ (Kp.of_same (by repeat (first | exact Fr.refl _ _ | apply Fr.undrew | apply Fr.undrewN | apply Fr.drew | apply Fr.drewN | apply Fr.alloc))) ?_; clear hK
      refine sched_l rfl (by decide) (fun _ hK => ?_); go_simp
      refine hK _ _ ?_; clear hK; try simp only [Act.put, List.setIfInBounds_toArray, List.set_cons_zero, List.set_cons_succ]
      refine sched_nil (NoPanic.normal ?_)
      show Q .normal _ _
      refine fill_end2 (T := T) 4 1 28 5 (by simp only [Array.size_setIfInBounds]) (by intro i h1 h2; repeat rw [Array.getElem?_setIfInBounds_ne (by omega)]) ?_
      exact hK.out _ _ w2.heap.size (by simp [Array.getD, hTs]) ⟨⟨d, hd.out.same (by repeat (first | exact Fr.refl _ _ | apply Fr.undrew | apply Fr.undrewN | apply Fr.drew | apply Fr.drewN | apply Fr.alloc)), ht.out, heap_new _ _⟩, hs2.out.same (by repeat (first | exact Fr.refl _ _ | apply Fr.undrew | apply Fr.undrewN | apply Fr.drew | apply Fr.drewN | apply Fr.alloc))⟩
    · refine fork_g rfl rfl (fun _ hK => ?_)
      go_simp
      refine hK _ _ (Kp.of_same (by repeat (first | exact Fr.refl _ _ | apply Fr.undrew | apply Fr.undrewN | apply Fr.drew | apply Fr.drewN | apply Fr.alloc))) ?_
      clear hK
      (try simp only [Act.put, List.setIfInBounds_toArray, List.set_cons_zero, List.set_cons_succ])
      have kbx := heap_new w1 (.cells #[.int .i64 0, .slice none 0 0, .int .i64 0] 45)
      have hsx : Same w1 (w1.alloc (.cells #[.int .i64 0, .slice none 0 0, .int .i64 0] 45)) := (by repeat (first | exact Fr.refl _ _ | apply Fr.alloc | apply Fr.drewN | apply Fr.drew | apply Fr.undrew | apply Fr.undrewN))
      replace kbx := Lib.hid kbx; replace hsx := Lib.hid hsx; replace hs1 := Lib.hid hs1
      refine plan_run ?_
      refine sched_g rfl rfl (fun _ hK => ?_)
      go_simp
      refine (MA.out _).mono ?_
      rintro e w3 ⟨d, rfl, hd, ht, hs⟩
      refine hK _ _ (Kp.of_same hs) ?_
      clear hK
      (try simp only [Act.put, List.setIfInBounds_toArray, List.set_cons_zero, List.set_cons_succ])
      have kq := hs.at kbx.out id
      have hsb : Same w1 w3 := hsx.out.same hs
      have q0 := free_at kq 0
      have q1 := free_at kq 1
      have q2 := free_at kq 2
      have c0 := cell_at kq 0
      have c1 := cell_at kq 1
      have c2 := cell_at kq 2
      have ql := lt_of_heap kq
      have BX := boxed_set (w := w1) hd ht hsb kq
      clear hs
      replace hd := Lib.hid hd; replace ht := Lib.hid ht; replace hsb := Lib.hid hsb; replace kq := Lib.hid kq; replace BX := Lib.hid BX
      refine sched_l rfl (by decide) (fun _ hK => ?_); go_simp
      refine hK _ _ ?_; clear hK; try simp only [Act.put, List.setIfInBounds_toArray, List.set_cons_zero, List.set_cons_succ]
      refine sched_nil (NoPanic.normal ?_)
      show Q .normal _ _
      refine fill_end2 (T := T) 4 1 28 5 (by simp only [Array.size_setIfInBounds]) (by intro i h1 h2; repeat rw [Array.getElem?_setIfInBounds_ne (by omega)]) ?_
      exact hK.out _ _ w1.heap.size (by simp [Array.getD, hTs]) ⟨BX.out.is, hs1.out.same BX.out.same⟩
  · refine fork_g rfl rfl (fun _ hK => ?_)
    go_simp
    refine hK _ _ (Kp.of_same (by repeat (first | exact Fr.refl _ _ | apply Fr.undrew | apply Fr.undrewN | apply Fr.drew | apply Fr.drewN | apply Fr.alloc))) ?_
    clear hK
    (try simp only [Act.put, List.setIfInBounds_toArray, List.set_cons_zero, List.set_cons_succ])
    have kby := heap_new wr (.cells #[.int .i64 0, .slice none 0 0, .int .i64 0] 45)
    replace kby := Lib.hid kby
    refine plan_run ?_
    refine sched_g rfl rfl (fun _ hK => ?_)
    go_simp
    refine (SZ.out _).mono ?_
    rintro e w2 ⟨rfl, hs⟩
    refine hK _ _ (Kp.of_same hs) ?_
    clear hK
    (try simp only [Act.put, List.setIfInBounds_toArray, List.set_cons_zero, List.set_cons_succ])
    have kbx := hs.at (show _ = _ from kby.out) id
    have hsx : Same wr w2 := (show Same wr _ from (by repeat (first | exact Fr.refl _ _ | apply Fr.undrew | apply Fr.undrewN | apply Fr.drew | apply Fr.drewN | apply Fr.alloc))).same hs
    clear hs
    replace kbx := Lib.hid kbx; replace hsx := Lib.hid hsx
    refine sched_g rfl rfl (fun _ hK => ?_)
    go_simp
    refine (MA.out _).mono ?_
    rintro e w3 ⟨d, rfl, hd, ht, hs⟩
    refine hK _ _ (Kp.of_same hs) ?_
    clear hK
    (try simp only [Act.put, List.setIfInBounds_toArray, List.set_cons_zero, List.set_cons_succ])
    have kq := hs.at kbx.out id
    have hsb : Same wr w3 := hsx.out.same hs
    have q0 := free_at kq 0
    have q1 := free_at kq 1
    have q2 := free_at kq 2
    have c0 := cell_at kq 0
    have c1 := cell_at kq 1
    have c2 := cell_at kq 2
    have ql := lt_of_heap kq
    have BX := boxed_set (w := wr) hd ht hsb kq
    clear hs
    replace hd := Lib.hid hd; replace ht := Lib.hid ht; replace hsb := Lib.hid hsb; replace kq := Lib.hid kq; replace BX := Lib.hid BX
    refine sched_l rfl (by decide) (fun _ hK => ?_); go_simp
    refine hK _ _ ?_; clear hK; try simp only [Act.put, List.setIfInBounds_toArray, List.set_cons_zero, List.set_cons_succ]
    refine sched_nil (NoPanic.normal ?_)
    show Q .normal _ _
    refine fill_end2 (T := T) 4 1 28 5 (by simp only [Array.size_setIfInBounds]) (by intro i h1 h2; repeat rw [Array.getElem?_setIfInBounds_ne (by omega)]) ?_
    exact hK.out _ _ wr.heap.size (by simp [Array.getD, hTs]) BX.out
set_option maxRecDepth 100000 in
set_option maxHeartbeats 4000000 in
theorem madeLeast_run {Q : Exit → Act → World → Prop} {T : Array Value} (hTs : T.size = 94) {bx n : Nat} {t : List Bool} {v bb a1 a2 a3 a4 a5 : Int} {wr : World} (t1 : T[1]'(by omega) = .pointer (some ⟨bx, 0, none⟩))
    (kb : wr.heap[bx]? = some (.cells #[.int .u8 v, .int .u32 bb, .int .u8 a1, .int .u8 a2, .int .u8 a3, .int .u8 a4, .int .u8 a5] 38 (0, 0)))
    (SZ : ∀ W, Calls Try.prog 21 #[.agg #[.int .u8 v, .int .u32 bb, .int .u8 a1, .int .u8 a2, .int .u8 a3, .int .u8 a4, .int .u8 a5]] W fun e w' => e = .returned (.int .i64 n) ∧ Same W w')
    (MA : ∀ W, Calls Try.prog 23 #[.int .i64 n, .int .u32 bb] W fun e w' => ∃ d : Dg, e = .returned (.agg #[.int .i64 d.n, .slice d.a d.L.length d.cap, .int .i64 d.r]) ∧ d.at w' ∧ d.tab n t ∧ Same W w')
    (hK : ∀ f w' b, f 4 = .pointer (some ⟨b, 0, none⟩) → Boxed n t b wr w' → Q .normal ⟨fillF (fillF T f 4 1) f 28 5, []⟩ w') :
    Code.wp Try.prog (regionOf Try.f8 4) Q ⟨T, []⟩ wr := by
  have e0 := cell_at kb 0
  have e1 := cell_at kb 1
  have e2 := cell_at kb 2
  have e3 := cell_at kb 3
  have e4 := cell_at kb 4
  have e5 := cell_at kb 5
  have e6 := cell_at kb 6
  have el := lt_of_heap kb
  replace kb := Lib.hid kb; replace SZ := Lib.hid SZ; replace MA := Lib.hid MA; replace hK := Lib.hid hK
  refine wp_region_planF (fun k => k = bx) [1, 2, 0, 1, 2, 2, 3] (.fork [2, 0, 3] 1 (.fork [] 4 (.run [5, 6]) 5 (.run [4, 6])) 5 (.run [1, 4, 6])) (by kernel_rfl) madeLeast_check ?_
  refine plan_fork ?_
  repeat (first | (refine sched_w rfl rfl (fun _ hK => ?_); go_simp; refine hK _ ?_; clear hK) | (refine sched_s rfl rfl (fun _ hK => ?_); go_simp; first | (refine hK _ ?_; clear hK) | (refine ⟨_, fun _ => rfl, hK _ ?_⟩; clear hK)))
  refine sched_nil ⟨?_, ?_⟩
  · refine fork_g rfl rfl (fun _ hK => ?_)
    go_simp
    refine (SZ.out _).mono ?_
    rintro e w1 ⟨rfl, hs⟩
    refine hK _ _ (Kp.of_same hs) ?_
    clear hK
    (try simp only [Act.put, List.setIfInBounds_toArray, List.set_cons_zero, List.set_cons_succ])
    have hs1 : Same wr w1 := (show Same wr _ from (by repeat (first | exact Fr.refl _ _ | apply Fr.undrew | apply Fr.undrewN | apply Fr.drew | apply Fr.drewN | apply Fr.alloc))).same hs
    clear hs
    refine plan_fork ?_
    refine sched_nil ⟨?_, ?_⟩
    · refine fork_g rfl rfl (fun _ hK => ?_)
      go_simp
      refine (MA.out _).mono ?_
      rintro e w2 ⟨d, rfl, hd, ht, hs⟩
      refine hK _ _ (Kp.of_same hs) ?_
      clear hK
      (try simp only [Act.put, List.setIfInBounds_toArray, List.set_cons_zero, List.set_cons_succ])
      have hs2 := hs1.same hs
      clear hs
      refine plan_run ?_
      replace hd := Lib.hid hd; replace ht := Lib.hid ht; replace hs1 := Lib.hid hs1; replace hs2 := Lib.hid hs2
      repeat (first | (refine sched_w rfl rfl (fun _ hK => ?_); go_simp; refine hK _ ?_; clear hK) | (refine sched_s rfl rfl (fun _ hK => ?_); go_simp; first | (refine hK _ ?_; clear hK) | (refine ⟨_, fun _ => rfl, hK _ ?_⟩; clear hK)))
      refine sched_g rfl rfl (fun _ hK => ?_); go_simp; refine hK _ _ (Kp.of_same (by repeat (first | exact Fr.refl _ _ | apply Fr.undrew | apply Fr.undrewN | apply Fr.drew | apply Fr.drewN | apply Fr.alloc))) ?_; clear hK
      refine sched_l rfl (by decide) (fun _ hK => ?_); go_simp
      refine hK _ _ ?_; clear hK; try simp only [Act.put, List.setIfInBounds_toArray, List.set_cons_zero, List.set_cons_succ]
      refine sched_nil (NoPanic.normal ?_)
      show Q .normal _ _
      refine fill_end2 (T := T) 4 1 28 5 (by simp only [Array.size_setIfInBounds]) (by intro i h1 h2; repeat rw [Array.getElem?_setIfInBounds_ne (by omega)]) ?_
      exact hK.out _ _ w2.heap.size (by simp [Array.getD, hTs]) ⟨⟨d, hd.out.same (by repeat (first | exact Fr.refl _ _ | apply Fr.undrew | apply Fr.undrewN | apply Fr.drew | apply Fr.drewN | apply Fr.alloc)), ht.out, heap_new _ _⟩, hs2.out.same (by repeat (first | exact Fr.refl _ _ | apply Fr.undrew | apply Fr.undrewN | apply Fr.drew | apply Fr.drewN | apply Fr.alloc))⟩
    · refine fork_g rfl rfl (fun _ hK => ?_)
      go_simp
      refine hK _ _ (Kp.of_same (by repeat (first | exact Fr.refl _ _ | apply Fr.undrew | apply Fr.undrewN | apply Fr.drew | apply Fr.drewN | apply Fr.alloc))) ?_
      clear hK
      (try simp only [Act.put, List.setIfInBounds_toArray, List.set_cons_zero, List.set_cons_succ])
      have kbx := heap_new w1 (.cells #[.int .i64 0, .slice none 0 0, .int .i64 0] 45)
      have hsx : Same w1 (w1.alloc (.cells #[.int .i64 0, .slice none 0 0, .int .i64 0] 45)) := (by repeat (first | exact Fr.refl _ _ | apply Fr.alloc | apply Fr.drewN | apply Fr.drew | apply Fr.undrew | apply Fr.undrewN))
      replace kbx := Lib.hid kbx; replace hsx := Lib.hid hsx; replace hs1 := Lib.hid hs1
      refine plan_run ?_
      refine sched_g rfl rfl (fun _ hK => ?_)
      go_simp
      refine (MA.out _).mono ?_
      rintro e w3 ⟨d, rfl, hd, ht, hs⟩
      refine hK _ _ (Kp.of_same hs) ?_
      clear hK
      (try simp only [Act.put, List.setIfInBounds_toArray, List.set_cons_zero, List.set_cons_succ])
      have kq := hs.at kbx.out id
      have hsb : Same w1 w3 := hsx.out.same hs
      have q0 := free_at kq 0
      have q1 := free_at kq 1
      have q2 := free_at kq 2
      have c0 := cell_at kq 0
      have c1 := cell_at kq 1
      have c2 := cell_at kq 2
      have ql := lt_of_heap kq
      have BX := boxed_set (w := w1) hd ht hsb kq
      clear hs
      replace hd := Lib.hid hd; replace ht := Lib.hid ht; replace hsb := Lib.hid hsb; replace kq := Lib.hid kq; replace BX := Lib.hid BX
      refine sched_l rfl (by decide) (fun _ hK => ?_); go_simp
      refine hK _ _ ?_; clear hK; try simp only [Act.put, List.setIfInBounds_toArray, List.set_cons_zero, List.set_cons_succ]
      refine sched_nil (NoPanic.normal ?_)
      show Q .normal _ _
      refine fill_end2 (T := T) 4 1 28 5 (by simp only [Array.size_setIfInBounds]) (by intro i h1 h2; repeat rw [Array.getElem?_setIfInBounds_ne (by omega)]) ?_
      exact hK.out _ _ w1.heap.size (by simp [Array.getD, hTs]) ⟨BX.out.is, hs1.out.same BX.out.same⟩
  · refine fork_g rfl rfl (fun _ hK => ?_)
    go_simp
    refine hK _ _ (Kp.of_same (by repeat (first | exact Fr.refl _ _ | apply Fr.undrew | apply Fr.undrewN | apply Fr.drew | apply Fr.drewN | apply Fr.alloc))) ?_
    clear hK
    (try simp only [Act.put, List.setIfInBounds_toArray, List.set_cons_zero, List.set_cons_succ])
    have kby := heap_new wr (.cells #[.int .i64 0, .slice none 0 0, .int .i64 0] 45)
    replace kby := Lib.hid kby
    refine plan_run ?_
    refine sched_g rfl rfl (fun _ hK => ?_)
    go_simp
    refine (SZ.out _).mono ?_
    rintro e w2 ⟨rfl, hs⟩
    refine hK _ _ (Kp.of_same hs) ?_
    clear hK
    (try simp only [Act.put, List.setIfInBounds_toArray, List.set_cons_zero, List.set_cons_succ])
    have kbx := hs.at (show _ = _ from kby.out) id
    have hsx : Same wr w2 := (show Same wr _ from (by repeat (first | exact Fr.refl _ _ | apply Fr.undrew | apply Fr.undrewN | apply Fr.drew | apply Fr.drewN | apply Fr.alloc))).same hs
    clear hs
    replace kbx := Lib.hid kbx; replace hsx := Lib.hid hsx
    refine sched_g rfl rfl (fun _ hK => ?_)
    go_simp
    refine (MA.out _).mono ?_
    rintro e w3 ⟨d, rfl, hd, ht, hs⟩
    refine hK _ _ (Kp.of_same hs) ?_
    clear hK
    (try simp only [Act.put, List.setIfInBounds_toArray, List.set_cons_zero, List.set_cons_succ])
    have kq := hs.at kbx.out id
    have hsb : Same wr w3 := hsx.out.same hs
    have q0 := free_at kq 0
    have q1 := free_at kq 1
    have q2 := free_at kq 2
    have c0 := cell_at kq 0
    have c1 := cell_at kq 1
    have c2 := cell_at kq 2
    have ql := lt_of_heap kq
    have BX := boxed_set (w := wr) hd ht hsb kq
    clear hs
    replace hd := Lib.hid hd; replace ht := Lib.hid ht; replace hsb := Lib.hid hsb; replace kq := Lib.hid kq; replace BX := Lib.hid BX
    refine sched_l rfl (by decide) (fun _ hK => ?_); go_simp
    refine hK _ _ ?_; clear hK; try simp only [Act.put, List.setIfInBounds_toArray, List.set_cons_zero, List.set_cons_succ]
    refine sched_nil (NoPanic.normal ?_)
    show Q .normal _ _
    refine fill_end2 (T := T) 4 1 28 5 (by simp only [Array.size_setIfInBounds]) (by intro i h1 h2; repeat rw [Array.getElem?_setIfInBounds_ne (by omega)]) ?_
    exact hK.out _ _ wr.heap.size (by simp [Array.getD, hTs]) BX.out
set_option maxRecDepth 100000 in
set_option maxHeartbeats 4000000 in
theorem madeReturns_run {Q : Exit → Act → World → Prop} {T : Array Value} (hTs : T.size = 123) {bx n : Nat} {t : List Bool} {v bb a1 a2 a3 a4 a5 : Int} {wr : World} (t1 : T[1]'(by omega) = .pointer (some ⟨bx, 0, none⟩))
    (kb : wr.heap[bx]? = some (.cells #[.int .u8 v, .int .u32 bb, .int .u8 a1, .int .u8 a2, .int .u8 a3, .int .u8 a4, .int .u8 a5] 38 (0, 0)))
    (SZ : ∀ W, Calls Try.prog 21 #[.agg #[.int .u8 v, .int .u32 bb, .int .u8 a1, .int .u8 a2, .int .u8 a3, .int .u8 a4, .int .u8 a5]] W fun e w' => e = .returned (.int .i64 n) ∧ Same W w')
    (MA : ∀ W, Calls Try.prog 23 #[.int .i64 n, .int .u32 bb] W fun e w' => ∃ d : Dg, e = .returned (.agg #[.int .i64 d.n, .slice d.a d.L.length d.cap, .int .i64 d.r]) ∧ d.at w' ∧ d.tab n t ∧ Same W w')
    (hK : ∀ f w' b, f 3 = .pointer (some ⟨b, 0, none⟩) → Boxed n t b wr w' → Q .normal ⟨fillF (fillF T f 3 1) f 28 5, []⟩ w') :
    Code.wp Try.prog (regionOf Try.f11 3) Q ⟨T, []⟩ wr := by
  have e0 := cell_at kb 0
  have e1 := cell_at kb 1
  have e2 := cell_at kb 2
  have e3 := cell_at kb 3
  have e4 := cell_at kb 4
  have e5 := cell_at kb 5
  have e6 := cell_at kb 6
  have el := lt_of_heap kb
  replace kb := Lib.hid kb; replace SZ := Lib.hid SZ; replace MA := Lib.hid MA; replace hK := Lib.hid hK
  refine wp_region_planF (fun k => k = bx) [1, 2, 0, 1, 2, 2, 3] (.fork [2, 0, 3] 1 (.fork [] 4 (.run [5, 6]) 5 (.run [4, 6])) 5 (.run [1, 4, 6])) (by kernel_rfl) madeReturns_check ?_
  refine plan_fork ?_
  repeat (first | (refine sched_w rfl rfl (fun _ hK => ?_); go_simp; refine hK _ ?_; clear hK) | (refine sched_s rfl rfl (fun _ hK => ?_); go_simp; first | (refine hK _ ?_; clear hK) | (refine ⟨_, fun _ => rfl, hK _ ?_⟩; clear hK)))
  refine sched_nil ⟨?_, ?_⟩
  · refine fork_g rfl rfl (fun _ hK => ?_)
    go_simp
    refine (SZ.out _).mono ?_
    rintro e w1 ⟨rfl, hs⟩
    refine hK _ _ (Kp.of_same hs) ?_
    clear hK
    (try simp only [Act.put, List.setIfInBounds_toArray, List.set_cons_zero, List.set_cons_succ])
    have hs1 : Same wr w1 := (show Same wr _ from (by repeat (first | exact Fr.refl _ _ | apply Fr.undrew | apply Fr.undrewN | apply Fr.drew | apply Fr.drewN | apply Fr.alloc))).same hs
    clear hs
    refine plan_fork ?_
    refine sched_nil ⟨?_, ?_⟩
    · refine fork_g rfl rfl (fun _ hK => ?_)
      go_simp
      refine (MA.out _).mono ?_
      rintro e w2 ⟨d, rfl, hd, ht, hs⟩
      refine hK _ _ (Kp.of_same hs) ?_
      clear hK
      (try simp only [Act.put, List.setIfInBounds_toArray, List.set_cons_zero, List.set_cons_succ])
      have hs2 := hs1.same hs
      clear hs
      refine plan_run ?_
      replace hd := Lib.hid hd; replace ht := Lib.hid ht; replace hs1 := Lib.hid hs1; replace hs2 := Lib.hid hs2
      repeat (first | (refine sched_w rfl rfl (fun _ hK => ?_); go_simp; refine hK _ ?_; clear hK) | (refine sched_s rfl rfl (fun _ hK => ?_); go_simp; first | (refine hK _ ?_; clear hK) | (refine ⟨_, fun _ => rfl, hK _ ?_⟩; clear hK)))
      refine sched_g rfl rfl (fun _ hK => ?_); go_simp; refine hK _ _ (Kp.of_same (by repeat (first | exact Fr.refl _ _ | apply Fr.undrew | apply Fr.undrewN | apply Fr.drew | apply Fr.drewN | apply Fr.alloc))) ?_; clear hK
      refine sched_l rfl (by decide) (fun _ hK => ?_); go_simp
      refine hK _ _ ?_; clear hK; try simp only [Act.put, List.setIfInBounds_toArray, List.set_cons_zero, List.set_cons_succ]
      refine sched_nil (NoPanic.normal ?_)
      show Q .normal _ _
      refine fill_end2 (T := T) 3 1 28 5 (by simp only [Array.size_setIfInBounds]) (by intro i h1 h2; repeat rw [Array.getElem?_setIfInBounds_ne (by omega)]) ?_
      exact hK.out _ _ w2.heap.size (by simp [Array.getD, hTs]) ⟨⟨d, hd.out.same (by repeat (first | exact Fr.refl _ _ | apply Fr.undrew | apply Fr.undrewN | apply Fr.drew | apply Fr.drewN | apply Fr.alloc)), ht.out, heap_new _ _⟩, hs2.out.same (by repeat (first | exact Fr.refl _ _ | apply Fr.undrew | apply Fr.undrewN | apply Fr.drew | apply Fr.drewN | apply Fr.alloc))⟩
    · refine fork_g rfl rfl (fun _ hK => ?_)
      go_simp
      refine hK _ _ (Kp.of_same (by repeat (first | exact Fr.refl _ _ | apply Fr.undrew | apply Fr.undrewN | apply Fr.drew | apply Fr.drewN | apply Fr.alloc))) ?_
      clear hK
      (try simp only [Act.put, List.setIfInBounds_toArray, List.set_cons_zero, List.set_cons_succ])
      have kbx := heap_new w1 (.cells #[.int .i64 0, .slice none 0 0, .int .i64 0] 45)
      have hsx : Same w1 (w1.alloc (.cells #[.int .i64 0, .slice none 0 0, .int .i64 0] 45)) := (by repeat (first | exact Fr.refl _ _ | apply Fr.alloc | apply Fr.drewN | apply Fr.drew | apply Fr.undrew | apply Fr.undrewN))
      replace kbx := Lib.hid kbx; replace hsx := Lib.hid hsx; replace hs1 := Lib.hid hs1
      refine plan_run ?_
      refine sched_g rfl rfl (fun _ hK => ?_)
      go_simp
      refine (MA.out _).mono ?_
      rintro e w3 ⟨d, rfl, hd, ht, hs⟩
      refine hK _ _ (Kp.of_same hs) ?_
      clear hK
      (try simp only [Act.put, List.setIfInBounds_toArray, List.set_cons_zero, List.set_cons_succ])
      have kq := hs.at kbx.out id
      have hsb : Same w1 w3 := hsx.out.same hs
      have q0 := free_at kq 0
      have q1 := free_at kq 1
      have q2 := free_at kq 2
      have c0 := cell_at kq 0
      have c1 := cell_at kq 1
      have c2 := cell_at kq 2
      have ql := lt_of_heap kq
      have BX := boxed_set (w := w1) hd ht hsb kq
      clear hs
      replace hd := Lib.hid hd; replace ht := Lib.hid ht; replace hsb := Lib.hid hsb; replace kq := Lib.hid kq; replace BX := Lib.hid BX
      refine sched_l rfl (by decide) (fun _ hK => ?_); go_simp
      refine hK _ _ ?_; clear hK; try simp only [Act.put, List.setIfInBounds_toArray, List.set_cons_zero, List.set_cons_succ]
      refine sched_nil (NoPanic.normal ?_)
      show Q .normal _ _
      refine fill_end2 (T := T) 3 1 28 5 (by simp only [Array.size_setIfInBounds]) (by intro i h1 h2; repeat rw [Array.getElem?_setIfInBounds_ne (by omega)]) ?_
      exact hK.out _ _ w1.heap.size (by simp [Array.getD, hTs]) ⟨BX.out.is, hs1.out.same BX.out.same⟩
  · refine fork_g rfl rfl (fun _ hK => ?_)
    go_simp
    refine hK _ _ (Kp.of_same (by repeat (first | exact Fr.refl _ _ | apply Fr.undrew | apply Fr.undrewN | apply Fr.drew | apply Fr.drewN | apply Fr.alloc))) ?_
    clear hK
    (try simp only [Act.put, List.setIfInBounds_toArray, List.set_cons_zero, List.set_cons_succ])
    have kby := heap_new wr (.cells #[.int .i64 0, .slice none 0 0, .int .i64 0] 45)
    replace kby := Lib.hid kby
    refine plan_run ?_
    refine sched_g rfl rfl (fun _ hK => ?_)
    go_simp
    refine (SZ.out _).mono ?_
    rintro e w2 ⟨rfl, hs⟩
    refine hK _ _ (Kp.of_same hs) ?_
    clear hK
    (try simp only [Act.put, List.setIfInBounds_toArray, List.set_cons_zero, List.set_cons_succ])
    have kbx := hs.at (show _ = _ from kby.out) id
    have hsx : Same wr w2 := (show Same wr _ from (by repeat (first | exact Fr.refl _ _ | apply Fr.undrew | apply Fr.undrewN | apply Fr.drew | apply Fr.drewN | apply Fr.alloc))).same hs
    clear hs
    replace kbx := Lib.hid kbx; replace hsx := Lib.hid hsx
    refine sched_g rfl rfl (fun _ hK => ?_)
    go_simp
    refine (MA.out _).mono ?_
    rintro e w3 ⟨d, rfl, hd, ht, hs⟩
    refine hK _ _ (Kp.of_same hs) ?_
    clear hK
    (try simp only [Act.put, List.setIfInBounds_toArray, List.set_cons_zero, List.set_cons_succ])
    have kq := hs.at kbx.out id
    have hsb : Same wr w3 := hsx.out.same hs
    have q0 := free_at kq 0
    have q1 := free_at kq 1
    have q2 := free_at kq 2
    have c0 := cell_at kq 0
    have c1 := cell_at kq 1
    have c2 := cell_at kq 2
    have ql := lt_of_heap kq
    have BX := boxed_set (w := wr) hd ht hsb kq
    clear hs
    replace hd := Lib.hid hd; replace ht := Lib.hid ht; replace hsb := Lib.hid hsb; replace kq := Lib.hid kq; replace BX := Lib.hid BX
    refine sched_l rfl (by decide) (fun _ hK => ?_); go_simp
    refine hK _ _ ?_; clear hK; try simp only [Act.put, List.setIfInBounds_toArray, List.set_cons_zero, List.set_cons_succ]
    refine sched_nil (NoPanic.normal ?_)
    show Q .normal _ _
    refine fill_end2 (T := T) 3 1 28 5 (by simp only [Array.size_setIfInBounds]) (by intro i h1 h2; repeat rw [Array.getElem?_setIfInBounds_ne (by omega)]) ?_
    exact hK.out _ _ wr.heap.size (by simp [Array.getD, hTs]) BX.out
end Go.Proofs.Ytmmjijmmocabhaa
