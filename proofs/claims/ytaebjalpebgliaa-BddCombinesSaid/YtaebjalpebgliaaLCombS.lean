/- BddCombines: region 20 (the row of Ite). -/
import Derived.Test.YtaebjalpebgliaaLCombP
namespace Go.Proofs.Ytaebjalpebgliaa
open Go.RowKit
set_option linter.unusedVariables false
set_option linter.unusedSimpArgs false

set_option maxRecDepth 100000 in
set_option maxHeartbeats 40000000 in
theorem comb_r20 {Q : Exit → Act → World → Prop} {T : Array Value} (hTs : T.size = 279) {W0 : World} {bo bx by_ bz : Nat} {x y z : List Bool} {fx fy fz f0 f1 f2 f3 : Nat → Bool} {j j0 j1 : Nat} {a0 a1 a2 a3 a4 : Option Addr} {c0 c1 c2 c3 c4 : Nat} {wr : World}
    (t26 : T[26]'(by omega) = .slice (some ⟨bo, 0, none⟩) 5 5) (t8 : T[8]'(by omega) = .slice (some ⟨bx, 0, none⟩) x.length x.length) (t10 : T[10]'(by omega) = .slice (some ⟨by_, 0, none⟩) y.length y.length) (t12 : T[12]'(by omega) = .slice (some ⟨bz, 0, none⟩) z.length z.length) (t27 : T[27]'(by omega) = .int .i64 j)
    (hX : BoolsAt W0 bx x) (hY : BoolsAt W0 by_ y) (hZ : BoolsAt W0 bz z) (hlt : j < x.length) (hlty : j < y.length) (hltz : j < z.length) (hlx : x.length ≤ 32) (gx : fx j = x[j]) (gy : fy j = y[j]) (gz : fz j = z[j]) (hbo : W0.heap.size ≤ bo)
    (hR : LRel W0 bo f0 f1 f2 f3 (fun i => fx i && fy i || !fx i && fz i) j0 j1 j a0 a1 a2 a3 a4 c0 c1 c2 c3 c4 wr)
    (hK : ∀ f w' a4' c4', LRel W0 bo f0 f1 f2 f3 (fun i => fx i && fy i || !fx i && fz i) j0 j1 (j + 1) a0 a1 a2 a3 a4' c0 c1 c2 c3 c4' w' → Q .normal ⟨fillF T f 164 30, []⟩ w') :
    Code.wp Try.prog (regionOf Try.f3 20) Q ⟨T, []⟩ wr := by
  conv => arg 2; whnf
  obtain ⟨i3, hi3, hi3z, hi3s, hi3b⟩ := info_parts info4
  have xc := (hX.fr hR.same id).cell hlt
  have xl := (hX.fr hR.same id).lt
  have yc := (hY.fr hR.same id).cell hlty
  have yl := (hY.fr hR.same id).lt
  have zc := (hZ.fr hR.same id).cell hltz
  have zl := (hZ.fr hR.same id).lt
  have ol := lt_of_heap hR.outer
  have o4 := cell_at hR.outer 4
  have p4 := free_at hR.outer 4
  have hown4 := (Rws.own (R1 := [_, _, _, _]) (R2 := []) hR.rows).2
  replace hR := Lib.hid hR; replace gx := Lib.hid gx; replace gy := Lib.hid gy; replace gz := Lib.hid gz; replace hown4 := Lib.hid hown4; replace hbo := Lib.hid hbo; replace hX := Lib.hid hX; replace hY := Lib.hid hY; replace hZ := Lib.hid hZ; replace hK := Lib.hid hK
  obtain ⟨bx', hxj⟩ : ∃ b, x[j] = b := ⟨_, rfl⟩
  obtain ⟨by', hyj⟩ : ∃ b, y[j] = b := ⟨_, rfl⟩
  rw [hxj] at xc
  rw [hyj] at yc
  replace hxj := Lib.hid hxj; replace hyj := Lib.hid hyj
  have STEP : ∀ bb : Bool, bb = (bx' && by' || !bx' && z[j]) → bb = (fx j && fy j || !fx j && fz j) := fun bb h => by rw [gx.out, gy.out, gz.out, hxj.out, hyj.out]; exact h
  replace STEP := Lib.hid STEP
  cases bx'
  ·
    refine wp_region_schedF (L4 bo bx by_ bz) [0, 0, 0, 1, 0, 0, 0, 1, 0, 0, 0, 0, 1, 0, 0, 0, 0, 0, 1, 0, 0, 0, 0, 0, 1, 0, 0, 2, 3, 0, 3] [0, 1, 2, 4, 5, 6, 3, 7, 8, 9, 10, 11, 12, 13, 14, 15, 16, 17, 18, 19, 20, 21, 22, 23, 24, 25, 26, 27, 28, 29, 30] (by kernel_rfl) (by kernel_rfl) ?_
    repeat (first | (refine sched_w rfl rfl (fun _ hK => ?_); go_simp; refine hK _ ?_; clear hK) | (refine sched_s rfl rfl (fun _ hK => ?_); go_simp; first | (refine hK _ ?_; clear hK) | (refine ⟨_, fun _ => rfl, hK _ ?_⟩; clear hK)))
    refine sched_g rfl rfl (fun _ hK => ?_); go_simp; refine hK _ _ (Kp.of_same (by repeat (first | exact Fr.refl _ _ | apply Fr.alloc | apply Fr.drewN | apply Fr.drew | apply Fr.undrew | apply Fr.undrewN))) ?_; clear hK
    refine sched_l rfl (by decide) (fun _ hK => ?_)
    refine step_append1 rfl (.tmp 167) (.tmp 191) 26 rfl (bo + 1) 4 i3 (.bool false) 1 1 Try.underlying26 hi3 hi3z hi3s hi3b rfl (by decide) (by decide) a4 j c4 _ (by go_simp) (owns_same hown4.out (by repeat (first | exact Fr.refl _ _ | apply Fr.alloc | apply Fr.drewN | apply Fr.drew | apply Fr.undrew | apply Fr.undrewN))) (by omega) wr.heap.size [.bool (z[j])] (by go_simp) rfl (heap_new_at (by simp) _) (by simp [Value.oneCell']) (by simp; omega) ?_
    intro an cn W4 hO4 hG4
    have hN := hR.out.step4 (STEP.out _ (by simp)) hbo.out (by repeat (first | exact Fr.refl _ _ | apply Fr.alloc | apply Fr.drewN | apply Fr.drew | apply Fr.undrew | apply Fr.undrewN)) hO4 hG4
    have y0 := cell_at hN.1 4
    have y1 := free_at hN.1 4
    have y2 := lt_of_heap hN.1
    replace hN := Lib.hid hN
    clear hO4 hG4
    refine hK _ _ ?_; clear hK; try simp only [Act.put, List.setIfInBounds_toArray, List.set_cons_zero, List.set_cons_succ]
    repeat (first | (refine sched_w rfl rfl (fun _ hK => ?_); go_simp; refine hK _ ?_; clear hK) | (refine sched_s rfl rfl (fun _ hK => ?_); go_simp; first | (refine hK _ ?_; clear hK) | (refine ⟨_, fun _ => rfl, hK _ ?_⟩; clear hK)))
    refine sched_l rfl (by decide) (fun _ hK => ?_); go_simp
    refine hK _ _ ?_; clear hK; try simp only [Act.put, List.setIfInBounds_toArray, List.set_cons_zero, List.set_cons_succ]
    refine sched_nil (NoPanic.normal ?_)
    show Q .normal _ _
    refine fill_end (T := T) 164 30 (by simp only [Array.size_setIfInBounds]) (by intro i hi; repeat rw [Array.getElem?_setIfInBounds_ne (by omega)]) ?_
    exact hK.out _ _ _ _ hN.out.2
  · cases by'
    ·
      refine wp_region_schedF (L4 bo bx by_ bz) [0, 0, 0, 1, 0, 0, 0, 1, 0, 0, 0, 0, 1, 0, 0, 0, 0, 0, 1, 0, 0, 0, 0, 0, 1, 0, 0, 2, 3, 0, 3] [0, 1, 2, 4, 5, 6, 3, 7, 8, 9, 10, 11, 12, 13, 14, 15, 16, 17, 18, 19, 20, 21, 22, 23, 24, 25, 26, 27, 28, 29, 30] (by kernel_rfl) (by kernel_rfl) ?_
      repeat (first | (refine sched_w rfl rfl (fun _ hK => ?_); go_simp; refine hK _ ?_; clear hK) | (refine sched_s rfl rfl (fun _ hK => ?_); go_simp; first | (refine hK _ ?_; clear hK) | (refine ⟨_, fun _ => rfl, hK _ ?_⟩; clear hK)))
      refine sched_g rfl rfl (fun _ hK => ?_); go_simp; refine hK _ _ (Kp.of_same (by repeat (first | exact Fr.refl _ _ | apply Fr.alloc | apply Fr.drewN | apply Fr.drew | apply Fr.undrew | apply Fr.undrewN))) ?_; clear hK
      refine sched_l rfl (by decide) (fun _ hK => ?_)
      refine step_append1 rfl (.tmp 167) (.tmp 191) 26 rfl (bo + 1) 4 i3 (.bool false) 1 1 Try.underlying26 hi3 hi3z hi3s hi3b rfl (by decide) (by decide) a4 j c4 _ (by go_simp) (owns_same hown4.out (by repeat (first | exact Fr.refl _ _ | apply Fr.alloc | apply Fr.drewN | apply Fr.drew | apply Fr.undrew | apply Fr.undrewN))) (by omega) wr.heap.size [.bool (false)] (by go_simp) rfl (heap_new_at (by simp) _) (by simp [Value.oneCell']) (by simp; omega) ?_
      intro an cn W4 hO4 hG4
      have hN := hR.out.step4 (STEP.out _ (by simp)) hbo.out (by repeat (first | exact Fr.refl _ _ | apply Fr.alloc | apply Fr.drewN | apply Fr.drew | apply Fr.undrew | apply Fr.undrewN)) hO4 hG4
      have y0 := cell_at hN.1 4
      have y1 := free_at hN.1 4
      have y2 := lt_of_heap hN.1
      replace hN := Lib.hid hN
      clear hO4 hG4
      refine hK _ _ ?_; clear hK; try simp only [Act.put, List.setIfInBounds_toArray, List.set_cons_zero, List.set_cons_succ]
      repeat (first | (refine sched_w rfl rfl (fun _ hK => ?_); go_simp; refine hK _ ?_; clear hK) | (refine sched_s rfl rfl (fun _ hK => ?_); go_simp; first | (refine hK _ ?_; clear hK) | (refine ⟨_, fun _ => rfl, hK _ ?_⟩; clear hK)))
      refine sched_l rfl (by decide) (fun _ hK => ?_); go_simp
      refine hK _ _ ?_; clear hK; try simp only [Act.put, List.setIfInBounds_toArray, List.set_cons_zero, List.set_cons_succ]
      refine sched_nil (NoPanic.normal ?_)
      show Q .normal _ _
      refine fill_end (T := T) 164 30 (by simp only [Array.size_setIfInBounds]) (by intro i hi; repeat rw [Array.getElem?_setIfInBounds_ne (by omega)]) ?_
      exact hK.out _ _ _ _ hN.out.2
    ·
      refine wp_region_schedF (L4 bo bx by_ bz) [0, 0, 0, 1, 0, 0, 0, 1, 0, 0, 0, 0, 1, 0, 0, 0, 0, 0, 1, 0, 0, 0, 0, 0, 1, 0, 0, 2, 3, 0, 3] [0, 1, 2, 4, 5, 6, 3, 7, 8, 9, 10, 11, 12, 13, 14, 15, 16, 17, 18, 19, 20, 21, 22, 23, 24, 25, 26, 27, 28, 29, 30] (by kernel_rfl) (by kernel_rfl) ?_
      repeat (first | (refine sched_w rfl rfl (fun _ hK => ?_); go_simp; refine hK _ ?_; clear hK) | (refine sched_s rfl rfl (fun _ hK => ?_); go_simp; first | (refine hK _ ?_; clear hK) | (refine ⟨_, fun _ => rfl, hK _ ?_⟩; clear hK)))
      refine sched_g rfl rfl (fun _ hK => ?_); go_simp; refine hK _ _ (Kp.of_same (by repeat (first | exact Fr.refl _ _ | apply Fr.alloc | apply Fr.drewN | apply Fr.drew | apply Fr.undrew | apply Fr.undrewN))) ?_; clear hK
      refine sched_l rfl (by decide) (fun _ hK => ?_)
      refine step_append1 rfl (.tmp 167) (.tmp 191) 26 rfl (bo + 1) 4 i3 (.bool false) 1 1 Try.underlying26 hi3 hi3z hi3s hi3b rfl (by decide) (by decide) a4 j c4 _ (by go_simp) (owns_same hown4.out (by repeat (first | exact Fr.refl _ _ | apply Fr.alloc | apply Fr.drewN | apply Fr.drew | apply Fr.undrew | apply Fr.undrewN))) (by omega) wr.heap.size [.bool (true)] (by go_simp) rfl (heap_new_at (by simp) _) (by simp [Value.oneCell']) (by simp; omega) ?_
      intro an cn W4 hO4 hG4
      have hN := hR.out.step4 (STEP.out _ (by simp)) hbo.out (by repeat (first | exact Fr.refl _ _ | apply Fr.alloc | apply Fr.drewN | apply Fr.drew | apply Fr.undrew | apply Fr.undrewN)) hO4 hG4
      have y0 := cell_at hN.1 4
      have y1 := free_at hN.1 4
      have y2 := lt_of_heap hN.1
      replace hN := Lib.hid hN
      clear hO4 hG4
      refine hK _ _ ?_; clear hK; try simp only [Act.put, List.setIfInBounds_toArray, List.set_cons_zero, List.set_cons_succ]
      repeat (first | (refine sched_w rfl rfl (fun _ hK => ?_); go_simp; refine hK _ ?_; clear hK) | (refine sched_s rfl rfl (fun _ hK => ?_); go_simp; first | (refine hK _ ?_; clear hK) | (refine ⟨_, fun _ => rfl, hK _ ?_⟩; clear hK)))
      refine sched_l rfl (by decide) (fun _ hK => ?_); go_simp
      refine hK _ _ ?_; clear hK; try simp only [Act.put, List.setIfInBounds_toArray, List.set_cons_zero, List.set_cons_succ]
      refine sched_nil (NoPanic.normal ?_)
      show Q .normal _ _
      refine fill_end (T := T) 164 30 (by simp only [Array.size_setIfInBounds]) (by intro i hi; repeat rw [Array.getElem?_setIfInBounds_ne (by omega)]) ?_
      exact hK.out _ _ _ _ hN.out.2
end Go.Proofs.Ytaebjalpebgliaa
