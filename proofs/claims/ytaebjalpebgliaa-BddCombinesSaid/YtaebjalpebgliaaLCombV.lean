/- BddCombines: region 18 (the rows of And, Or, Xor), five orders; x[j] is true. -/
import Derived.Test.YtaebjalpebgliaaLCombQ
namespace Go.Proofs.Ytaebjalpebgliaa
open Go.RowKit
set_option linter.unusedVariables false
set_option linter.unusedSimpArgs false

set_option maxRecDepth 100000 in
set_option maxHeartbeats 40000000 in
theorem comb_r18t {Q : Exit → Act → World → Prop} {T : Array Value} (hTs : T.size = 279) {W0 : World} {bo bx by_ : Nat} {x y : List Bool} {fx fy f0 f4 : Nat → Bool} {j j0 j2 : Nat} {a0 a1 a2 a3 a4 : Option Addr} {c0 c1 c2 c3 c4 : Nat} {wr : World}
    (t26 : T[26]'(by omega) = .slice (some ⟨bo, 0, none⟩) 5 5) (t8 : T[8]'(by omega) = .slice (some ⟨bx, 0, none⟩) x.length x.length) (t10 : T[10]'(by omega) = .slice (some ⟨by_, 0, none⟩) y.length y.length) (t27 : T[27]'(by omega) = .int .i64 j)
    (hX : BoolsAt W0 bx x) (hY : BoolsAt W0 by_ y) (hlt : j < x.length) (hlty : j < y.length) (hlx : x.length ≤ 32) (hxj : x[j] = true) (gx : fx j = x[j]) (gy : fy j = y[j]) (hbo0 : W0.heap.size ≤ bo)
    (hrel : LRel W0 bo f0 (fun i => fx i && fy i) (fun i => fx i || fy i) (fun i => fx i != fy i) f4 j0 j j2 a0 a1 a2 a3 a4 c0 c1 c2 c3 c4 wr)
    (hKK : ∀ f w' a1' a2' a3' c1' c2' c3', LRel W0 bo f0 (fun i => fx i && fy i) (fun i => fx i || fy i) (fun i => fx i != fy i) f4 j0 (j + 1) j2 a0 a1' a2' a3' a4 c0 c1' c2' c3' c4 w' → Q .normal ⟨fillF T f 106 50, []⟩ w') :
    Code.wp Try.prog (regionOf Try.f3 18) Q ⟨T, []⟩ wr := by
  conv => arg 2; whnf
  obtain ⟨i3, hi3, hi3z, hi3s, hi3b⟩ := info_parts info4
  have hM := hrel.mid
  have hFN := hrel.fin (W0 := W0) hbo0
  have hL3 : ∀ q, L3 bo bx by_ q → q ≤ bo := by
    have q1 := hX.lt
    have q2 := hY.lt
    rintro q (rfl | rfl | rfl)
    · exact Nat.le_refl _
    · omega
    · omega
  have xc := (hX.fr hrel.same id).cell hlt
  have xl := (hX.fr hrel.same id).lt
  have yc := (hY.fr hrel.same id).cell hlty
  have yl := (hY.fr hrel.same id).lt
  have ol := lt_of_heap hM.outer
  have o1 := cell_at hM.outer 1
  have o2 := cell_at hM.outer 2
  have o3 := cell_at hM.outer 3
  replace hM := Lib.hid hM; replace hFN := Lib.hid hFN; replace gy := Lib.hid gy; replace hL3 := Lib.hid hL3; replace hX := Lib.hid hX; replace hY := Lib.hid hY; replace hKK := Lib.hid hKK; replace hrel := Lib.hid hrel
  rw [hxj] at xc gx
  replace gx := Lib.hid gx
  replace hxj := Lib.hid hxj
  refine wp_region_planF (L3 bo bx by_) [0, 0, 0, 0, 0, 1, 0, 0, 0, 1, 0, 0, 0, 0, 1, 0, 2, 2, 0, 0, 1, 0, 0, 0, 1, 0, 0, 0, 0, 1, 0, 2, 2, 0, 0, 1, 0, 0, 0, 1, 0, 0, 0, 1, 0, 2, 3, 0, 3, 0, 3, 0, 3] (.fork [0, 1, 2, 3, 4, 6, 7, 8, 18, 19, 21, 22, 23, 33, 34, 36, 37, 38, 40, 41, 42, 5, 9, 10, 11, 12, 13, 14, 15, 20, 24, 35, 39, 43, 44] 16 (.fork [] 17 (.fork [25, 26, 27, 28, 29, 30] 31 (.fork [] 32 (.run [45, 46, 47, 48, 49, 50, 51, 52]) 45 (.run [32, 46, 47, 48, 49, 50, 51, 52])) 45 (.run [31, 32, 46, 47, 48, 49, 50, 51, 52])) 45 (.run [17, 25, 26, 27, 28, 29, 30, 31, 32, 46, 47, 48, 49, 50, 51, 52])) 45 (.run [16, 17, 25, 26, 27, 28, 29, 30, 31, 32, 46, 47, 48, 49, 50, 51, 52])) (by kernel_rfl) r18_check ?_
  refine drew_abs (C := fun X => wpPlan _ _ _ _ _ _ _ X) (fun V0 hv => ?_)
  have hM' := hM.out.moved hv
  clear hM xc xl yc yl ol o1 o2 o3
  have ol := lt_of_heap hM'.outer
  have o1 := cell_at hM'.outer 1
  have o2 := cell_at hM'.outer 2
  have o3 := cell_at hM'.outer 3
  have xc := (hX.out.fr hM'.same id).cell hlt
  have xl := (hX.out.fr hM'.same id).lt
  have yc := (hY.out.fr hM'.same id).cell hlty
  have yl := (hY.out.fr hM'.same id).lt
  rw [hxj.out] at xc
  have hM := Lib.hid hM'
  clear hM' hv
  refine plan_fork ?_
  repeat (first | (refine sched_w rfl rfl (fun _ hK => ?_); go_simp; refine hK _ ?_; clear hK) | (refine sched_s rfl rfl (fun _ hK => ?_); go_simp; first | (refine hK _ ?_; clear hK) | (refine ⟨_, fun _ => rfl, hK _ ?_⟩; clear hK)))
  refine gen_to (fun T1 hT1s hT1 => ?_)
  replace hT1s : T1.size = 279 := by rw [hT1s]; simp only [Array.size_setIfInBounds]; exact hTs
  have z106 : T1[106]'(by omega) = .slice (some ⟨bo, 0, none⟩) 5 5 := rd (by rw [hT1.out]; simp [Array.getElem?_setIfInBounds, Array.size_setIfInBounds, hTs, t10, t27]) _
  have z107 : T1[107]'(by omega) = .slice (some ⟨bo, 0, none⟩) 5 5 := rd (by rw [hT1.out]; simp [Array.getElem?_setIfInBounds, Array.size_setIfInBounds, hTs, t10, t27]) _
  have z108 : T1[108]'(by omega) = .slice (some ⟨bo, 0, none⟩) 5 5 := rd (by rw [hT1.out]; simp [Array.getElem?_setIfInBounds, Array.size_setIfInBounds, hTs, t10, t27]) _
  have z111 : T1[111]'(by omega) = .slice a1 j c1 := rd (by rw [hT1.out]; simp [Array.getElem?_setIfInBounds, Array.size_setIfInBounds, hTs, t10, t27]) _
  have z126 : T1[126]'(by omega) = .slice a2 j c2 := rd (by rw [hT1.out]; simp [Array.getElem?_setIfInBounds, Array.size_setIfInBounds, hTs, t10, t27]) _
  have z141 : T1[141]'(by omega) = .slice a3 j c3 := rd (by rw [hT1.out]; simp [Array.getElem?_setIfInBounds, Array.size_setIfInBounds, hTs, t10, t27]) _
  have z10 : T1[10]'(by omega) = .slice (some ⟨by_, 0, none⟩) y.length y.length := rd (by rw [hT1.out]; simp [Array.getElem?_setIfInBounds, Array.size_setIfInBounds, hTs, t10, t27]) _
  have z27 : T1[27]'(by omega) = .int .i64 j := rd (by rw [hT1.out]; simp [Array.getElem?_setIfInBounds, Array.size_setIfInBounds, hTs, t10, t27]) _
  have z130 : T1[130]'(by omega) = .bool true := rd (by rw [hT1.out]; simp [Array.getElem?_setIfInBounds, Array.size_setIfInBounds, hTs, t10, t27]) _
  have z121 : T1[121]'(by omega) = .bool (y[j]) := rd (by rw [hT1.out]; simp [Array.getElem?_setIfInBounds, Array.size_setIfInBounds, hTs, t10, t27]) _
  have z150 : T1[150]'(by omega) = .bool (!y[j]) := rd (by rw [hT1.out]; simp [Array.getElem?_setIfInBounds, Array.size_setIfInBounds, hTs, t10, t27]) _
  have hag : ∀ i, ¬ (106 ≤ i ∧ i < 106 + 50) → T1[i]? = T[i]? := by intro i hi; rw [hT1.out]; repeat rw [Array.getElem?_setIfInBounds_ne (by omega)]
  replace hag := Lib.hid hag
  replace hTs := Lib.hid hTs
  clear hT1 t26 t8 t10 t27
  refine sched_nil ⟨?_, ?_⟩
  ·
    refine fork_g rfl rfl (fun _ hK => ?_)
    go_simp
    refine hK _ _ (Kp.of_same ((Fr.refl _ V0).alloc _)) ?_
    clear hK
    try simp only [Act.put]
    refine bld_abs2 (C := fun X => wpPlan _ _ _ _ _ _ _ X) (fun V1 bA hbA hw => ?_)
    have hM' := hM.out.push hw
    simp only [List.cons_append, List.nil_append] at hM'
    clear hM hw yc yl
    have hM := Lib.hid hM'
    clear hM'
    have yc := (hY.out.fr hM.out.same id).cell hlty; have yl := (hY.out.fr hM.out.same id).lt
    replace hbA := Lib.hid hbA
    refine plan_fork ?_
    refine sched_nil ⟨?_, ?_⟩
    ·
      refine fork_g rfl rfl (fun _ hK => ?_)
      refine step_append1 rfl (.tmp 111) (.tmp 122) 26 rfl (bo + 1) 4 i3 (.bool false) 1 1 Try.underlying26 hi3 hi3z hi3s hi3b rfl (by decide) (by decide) a1 j c1 _ (by go_simp) ((Rws.own (R1 := [_]) hM.out.rows).2) (by omega) V0.heap.size [.bool bA] (by go_simp) rfl (hM.out.pend (by simp)) (by simp [Value.oneCell']) (by have := lt_of_heap hM.out.outer; omega) ?_
      intro d1 e1 V2 hO hG
      refine hK _ _ (hM.out.kp (R1 := [_]) hG hL3.out) ?_
      clear hK
      try simp only [Act.put]
      have hM' := hM.out.app (R1 := [_]) hbo0 hO hG
      simp only [List.cons_append, List.nil_append] at hM'
      clear hM hO hG yc yl
      have hM := Lib.hid hM'
      clear hM'
      have yc := (hY.out.fr hM.out.same id).cell hlty; have yl := (hY.out.fr hM.out.same id).lt
      refine plan_fork ?_
      repeat (first | (refine sched_w rfl rfl (fun _ hK => ?_); go_simp; refine hK _ ?_; clear hK) | (refine sched_s rfl rfl (fun _ hK => ?_); go_simp; first | (refine hK _ ?_; clear hK) | (refine ⟨_, fun _ => rfl, hK _ ?_⟩; clear hK)))
      refine sched_nil ⟨?_, ?_⟩
      ·
        refine fork_g rfl rfl (fun _ hK => ?_)
        go_simp
        refine hK _ _ (Kp.of_same ((Fr.refl _ V2).alloc _)) ?_
        clear hK
        try simp only [Act.put]
        refine bld_abs2 (C := fun X => wpPlan _ _ _ _ _ _ _ X) (fun V3 bB hbB hw => ?_)
        have hM' := hM.out.push hw
        simp only [List.cons_append, List.nil_append] at hM'
        clear hM hw yc yl
        have hM := Lib.hid hM'
        clear hM'
        have yc := (hY.out.fr hM.out.same id).cell hlty; have yl := (hY.out.fr hM.out.same id).lt
        replace hbB := Lib.hid hbB
        refine plan_fork ?_
        refine sched_nil ⟨?_, ?_⟩
        ·
          refine fork_g rfl rfl (fun _ hK => ?_)
          refine step_append1 rfl (.tmp 126) (.tmp 137) 26 rfl (bo + 1) 4 i3 (.bool false) 1 1 Try.underlying26 hi3 hi3z hi3s hi3b rfl (by decide) (by decide) a2 j c2 _ (by go_simp) ((Rws.own (R1 := [_, _]) hM.out.rows).2) (by omega) V2.heap.size [.bool bB] (by go_simp) rfl (hM.out.pend (by simp)) (by simp [Value.oneCell']) (by have := lt_of_heap hM.out.outer; omega) ?_
          intro d2 e2 V4 hO hG
          refine hK _ _ (hM.out.kp (R1 := [_, _]) hG hL3.out) ?_
          clear hK
          try simp only [Act.put]
          have hM' := hM.out.app (R1 := [_, _]) hbo0 hO hG
          simp only [List.cons_append, List.nil_append] at hM'
          clear hM hO hG yc yl
          have hM := Lib.hid hM'
          clear hM'
          have yc := (hY.out.fr hM.out.same id).cell hlty; have yl := (hY.out.fr hM.out.same id).lt
          refine plan_run ?_
          refine sched_g rfl rfl (fun _ hK => ?_)
          go_simp
          refine hK _ _ (Kp.of_same ((Fr.refl _ V4).alloc _)) ?_
          clear hK
          try simp only [Act.put]
          refine bld_abs2 (C := fun X => wpTo _ _ _ _ _ _ _ _ X) (fun V5 bC hbC hw => ?_)
          have hM' := hM.out.push hw
          simp only [List.cons_append, List.nil_append] at hM'
          clear hM hw yc yl
          have hM := Lib.hid hM'
          clear hM'
          have yc := (hY.out.fr hM.out.same id).cell hlty; have yl := (hY.out.fr hM.out.same id).lt
          replace hbC := Lib.hid hbC
          refine sched_l rfl (by decide) (fun _ hK => ?_)
          refine step_append1 rfl (.tmp 141) (.tmp 151) 26 rfl (bo + 1) 4 i3 (.bool false) 1 1 Try.underlying26 hi3 hi3z hi3s hi3b rfl (by decide) (by decide) a3 j c3 _ (by go_simp) ((Rws.own (R1 := [_, _, _]) hM.out.rows).2) (by omega) V4.heap.size [.bool bC] (by go_simp) rfl (hM.out.pend (by simp)) (by simp [Value.oneCell']) (by have := lt_of_heap hM.out.outer; omega) ?_
          intro d3 e3 V6 hO hG
          refine hK _ _ ?_
          clear hK
          try simp only [Act.put]
          have hM' := hM.out.app (R1 := [_, _, _]) hbo0 hO hG
          simp only [List.cons_append, List.nil_append] at hM'
          clear hM hO hG yc yl
          have hM := Lib.hid hM'
          clear hM'
          have yc := (hY.out.fr hM.out.same id).cell hlty; have yl := (hY.out.fr hM.out.same id).lt
          clear yc yl xc xl
          have ol := lt_of_heap hM.out.outer
          have o1 := cell_at hM.out.outer 1
          have p1 := free_at hM.out.outer 1
          have o2 := cell_at hM.out.outer 2
          have p2 := free_at hM.out.outer 2
          have o3 := cell_at hM.out.outer 3
          have p3 := free_at hM.out.outer 3
          repeat (first | (refine sched_w rfl rfl (fun _ hK => ?_); go_simp; refine hK _ ?_; clear hK) | (refine sched_s rfl rfl (fun _ hK => ?_); go_simp; first | (refine hK _ ?_; clear hK) | (refine ⟨_, fun _ => rfl, hK _ ?_⟩; clear hK)))
          refine sched_l rfl (by decide) (fun _ hK => ?_); go_simp
          refine hK _ _ ?_; clear hK; try simp only [Act.put, List.setIfInBounds_toArray, List.set_cons_zero, List.set_cons_succ]
          repeat (first | (refine sched_w rfl rfl (fun _ hK => ?_); go_simp; refine hK _ ?_; clear hK) | (refine sched_s rfl rfl (fun _ hK => ?_); go_simp; first | (refine hK _ ?_; clear hK) | (refine ⟨_, fun _ => rfl, hK _ ?_⟩; clear hK)))
          refine sched_l rfl (by decide) (fun _ hK => ?_); go_simp
          refine hK _ _ ?_; clear hK; try simp only [Act.put, List.setIfInBounds_toArray, List.set_cons_zero, List.set_cons_succ]
          repeat (first | (refine sched_w rfl rfl (fun _ hK => ?_); go_simp; refine hK _ ?_; clear hK) | (refine sched_s rfl rfl (fun _ hK => ?_); go_simp; first | (refine hK _ ?_; clear hK) | (refine ⟨_, fun _ => rfl, hK _ ?_⟩; clear hK)))
          refine sched_l rfl (by decide) (fun _ hK => ?_); go_simp
          refine hK _ _ ?_; clear hK; try simp only [Act.put, List.setIfInBounds_toArray, List.set_cons_zero, List.set_cons_succ]
          refine sched_nil (NoPanic.normal ?_)
          show Q .normal _ _
          refine fill_end (T := T) 106 50 (by simp only [Array.size_setIfInBounds]; rw [hT1s, hTs.out]) (by intro i hi; (repeat rw [Array.getElem?_setIfInBounds_ne (by omega)]); exact hag.out i hi) ?_
          exact hKK.out _ _ _ _ _ _ _ _ (hFN.out _ _ _ _ _ _ _ _ _ _ _ (by rw [gx.out, gy.out, hbA.out]; first | rfl | simp) (by rw [gx.out, gy.out, hbB.out]; first | rfl | simp) (by rw [gx.out, gy.out, hbC.out]; first | rfl | simp) hM.out)
        ·
          refine fork_g rfl rfl (fun _ hK => ?_)
          go_simp
          refine hK _ _ (Kp.of_same ((Fr.refl _ V3).alloc _)) ?_
          clear hK
          try simp only [Act.put]
          refine bld_abs2 (C := fun X => wpPlan _ _ _ _ _ _ _ X) (fun V7 bC hbC hw => ?_)
          have hM' := hM.out.push hw
          simp only [List.cons_append, List.nil_append] at hM'
          clear hM hw yc yl
          have hM := Lib.hid hM'
          clear hM'
          have yc := (hY.out.fr hM.out.same id).cell hlty; have yl := (hY.out.fr hM.out.same id).lt
          replace hbC := Lib.hid hbC
          refine plan_run ?_
          refine sched_g rfl rfl (fun _ hK => ?_)
          refine step_append1 rfl (.tmp 126) (.tmp 137) 26 rfl (bo + 1) 4 i3 (.bool false) 1 1 Try.underlying26 hi3 hi3z hi3s hi3b rfl (by decide) (by decide) a2 j c2 _ (by go_simp) ((Rws.own (R1 := [_, _]) hM.out.rows).2) (by omega) V2.heap.size [.bool bB] (by go_simp) rfl (hM.out.pend (by simp)) (by simp [Value.oneCell']) (by have := lt_of_heap hM.out.outer; omega) ?_
          intro d2 e2 V8 hO hG
          refine hK _ _ (hM.out.kp (R1 := [_, _]) hG hL3.out) ?_
          clear hK
          try simp only [Act.put]
          have hM' := hM.out.app (R1 := [_, _]) hbo0 hO hG
          simp only [List.cons_append, List.nil_append] at hM'
          clear hM hO hG yc yl
          have hM := Lib.hid hM'
          clear hM'
          have yc := (hY.out.fr hM.out.same id).cell hlty; have yl := (hY.out.fr hM.out.same id).lt
          refine sched_l rfl (by decide) (fun _ hK => ?_)
          refine step_append1 rfl (.tmp 141) (.tmp 151) 26 rfl (bo + 1) 4 i3 (.bool false) 1 1 Try.underlying26 hi3 hi3z hi3s hi3b rfl (by decide) (by decide) a3 j c3 _ (by go_simp) ((Rws.own (R1 := [_, _, _]) hM.out.rows).2) (by omega) V3.heap.size [.bool bC] (by go_simp) rfl (hM.out.pend (by simp)) (by simp [Value.oneCell']) (by have := lt_of_heap hM.out.outer; omega) ?_
          intro d3 e3 V9 hO hG
          refine hK _ _ ?_
          clear hK
          try simp only [Act.put]
          have hM' := hM.out.app (R1 := [_, _, _]) hbo0 hO hG
          simp only [List.cons_append, List.nil_append] at hM'
          clear hM hO hG yc yl
          have hM := Lib.hid hM'
          clear hM'
          have yc := (hY.out.fr hM.out.same id).cell hlty; have yl := (hY.out.fr hM.out.same id).lt
          clear yc yl xc xl
          have ol := lt_of_heap hM.out.outer
          have o1 := cell_at hM.out.outer 1
          have p1 := free_at hM.out.outer 1
          have o2 := cell_at hM.out.outer 2
          have p2 := free_at hM.out.outer 2
          have o3 := cell_at hM.out.outer 3
          have p3 := free_at hM.out.outer 3
          repeat (first | (refine sched_w rfl rfl (fun _ hK => ?_); go_simp; refine hK _ ?_; clear hK) | (refine sched_s rfl rfl (fun _ hK => ?_); go_simp; first | (refine hK _ ?_; clear hK) | (refine ⟨_, fun _ => rfl, hK _ ?_⟩; clear hK)))
          refine sched_l rfl (by decide) (fun _ hK => ?_); go_simp
          refine hK _ _ ?_; clear hK; try simp only [Act.put, List.setIfInBounds_toArray, List.set_cons_zero, List.set_cons_succ]
          repeat (first | (refine sched_w rfl rfl (fun _ hK => ?_); go_simp; refine hK _ ?_; clear hK) | (refine sched_s rfl rfl (fun _ hK => ?_); go_simp; first | (refine hK _ ?_; clear hK) | (refine ⟨_, fun _ => rfl, hK _ ?_⟩; clear hK)))
          refine sched_l rfl (by decide) (fun _ hK => ?_); go_simp
          refine hK _ _ ?_; clear hK; try simp only [Act.put, List.setIfInBounds_toArray, List.set_cons_zero, List.set_cons_succ]
          repeat (first | (refine sched_w rfl rfl (fun _ hK => ?_); go_simp; refine hK _ ?_; clear hK) | (refine sched_s rfl rfl (fun _ hK => ?_); go_simp; first | (refine hK _ ?_; clear hK) | (refine ⟨_, fun _ => rfl, hK _ ?_⟩; clear hK)))
          refine sched_l rfl (by decide) (fun _ hK => ?_); go_simp
          refine hK _ _ ?_; clear hK; try simp only [Act.put, List.setIfInBounds_toArray, List.set_cons_zero, List.set_cons_succ]
          refine sched_nil (NoPanic.normal ?_)
          show Q .normal _ _
          refine fill_end (T := T) 106 50 (by simp only [Array.size_setIfInBounds]; rw [hT1s, hTs.out]) (by intro i hi; (repeat rw [Array.getElem?_setIfInBounds_ne (by omega)]); exact hag.out i hi) ?_
          exact hKK.out _ _ _ _ _ _ _ _ (hFN.out _ _ _ _ _ _ _ _ _ _ _ (by rw [gx.out, gy.out, hbA.out]; first | rfl | simp) (by rw [gx.out, gy.out, hbB.out]; first | rfl | simp) (by rw [gx.out, gy.out, hbC.out]; first | rfl | simp) hM.out)
      ·
        refine fork_g rfl rfl (fun _ hK => ?_)
        go_simp
        refine hK _ _ (Kp.of_same ((Fr.refl _ V2).alloc _)) ?_
        clear hK
        try simp only [Act.put]
        refine bld_abs2 (C := fun X => wpPlan _ _ _ _ _ _ _ X) (fun V10 bC hbC hw => ?_)
        have hM' := hM.out.push hw
        simp only [List.cons_append, List.nil_append] at hM'
        clear hM hw yc yl
        have hM := Lib.hid hM'
        clear hM'
        have yc := (hY.out.fr hM.out.same id).cell hlty; have yl := (hY.out.fr hM.out.same id).lt
        replace hbC := Lib.hid hbC
        refine plan_run ?_
        refine sched_g rfl rfl (fun _ hK => ?_)
        go_simp
        refine hK _ _ (Kp.of_same ((Fr.refl _ V10).alloc _)) ?_
        clear hK
        try simp only [Act.put]
        refine bld_abs2 (C := fun X => wpTo _ _ _ _ _ _ _ _ X) (fun V11 bB hbB hw => ?_)
        have hM' := hM.out.push hw
        simp only [List.cons_append, List.nil_append] at hM'
        clear hM hw yc yl
        have hM := Lib.hid hM'
        clear hM'
        have yc := (hY.out.fr hM.out.same id).cell hlty; have yl := (hY.out.fr hM.out.same id).lt
        replace hbB := Lib.hid hbB
        refine sched_g rfl rfl (fun _ hK => ?_)
        refine step_append1 rfl (.tmp 126) (.tmp 137) 26 rfl (bo + 1) 4 i3 (.bool false) 1 1 Try.underlying26 hi3 hi3z hi3s hi3b rfl (by decide) (by decide) a2 j c2 _ (by go_simp) ((Rws.own (R1 := [_, _]) hM.out.rows).2) (by omega) V10.heap.size [.bool bB] (by go_simp) rfl (hM.out.pend (by simp)) (by simp [Value.oneCell']) (by have := lt_of_heap hM.out.outer; omega) ?_
        intro d2 e2 V12 hO hG
        refine hK _ _ (hM.out.kp (R1 := [_, _]) hG hL3.out) ?_
        clear hK
        try simp only [Act.put]
        have hM' := hM.out.app (R1 := [_, _]) hbo0 hO hG
        simp only [List.cons_append, List.nil_append] at hM'
        clear hM hO hG yc yl
        have hM := Lib.hid hM'
        clear hM'
        have yc := (hY.out.fr hM.out.same id).cell hlty; have yl := (hY.out.fr hM.out.same id).lt
        refine sched_l rfl (by decide) (fun _ hK => ?_)
        refine step_append1 rfl (.tmp 141) (.tmp 151) 26 rfl (bo + 1) 4 i3 (.bool false) 1 1 Try.underlying26 hi3 hi3z hi3s hi3b rfl (by decide) (by decide) a3 j c3 _ (by go_simp) ((Rws.own (R1 := [_, _, _]) hM.out.rows).2) (by omega) V2.heap.size [.bool bC] (by go_simp) rfl (hM.out.pend (by simp)) (by simp [Value.oneCell']) (by have := lt_of_heap hM.out.outer; omega) ?_
        intro d3 e3 V13 hO hG
        refine hK _ _ ?_
        clear hK
        try simp only [Act.put]
        have hM' := hM.out.app (R1 := [_, _, _]) hbo0 hO hG
        simp only [List.cons_append, List.nil_append] at hM'
        clear hM hO hG yc yl
        have hM := Lib.hid hM'
        clear hM'
        have yc := (hY.out.fr hM.out.same id).cell hlty; have yl := (hY.out.fr hM.out.same id).lt
        clear yc yl xc xl
        have ol := lt_of_heap hM.out.outer
        have o1 := cell_at hM.out.outer 1
        have p1 := free_at hM.out.outer 1
        have o2 := cell_at hM.out.outer 2
        have p2 := free_at hM.out.outer 2
        have o3 := cell_at hM.out.outer 3
        have p3 := free_at hM.out.outer 3
        repeat (first | (refine sched_w rfl rfl (fun _ hK => ?_); go_simp; refine hK _ ?_; clear hK) | (refine sched_s rfl rfl (fun _ hK => ?_); go_simp; first | (refine hK _ ?_; clear hK) | (refine ⟨_, fun _ => rfl, hK _ ?_⟩; clear hK)))
        refine sched_l rfl (by decide) (fun _ hK => ?_); go_simp
        refine hK _ _ ?_; clear hK; try simp only [Act.put, List.setIfInBounds_toArray, List.set_cons_zero, List.set_cons_succ]
        repeat (first | (refine sched_w rfl rfl (fun _ hK => ?_); go_simp; refine hK _ ?_; clear hK) | (refine sched_s rfl rfl (fun _ hK => ?_); go_simp; first | (refine hK _ ?_; clear hK) | (refine ⟨_, fun _ => rfl, hK _ ?_⟩; clear hK)))
        refine sched_l rfl (by decide) (fun _ hK => ?_); go_simp
        refine hK _ _ ?_; clear hK; try simp only [Act.put, List.setIfInBounds_toArray, List.set_cons_zero, List.set_cons_succ]
        repeat (first | (refine sched_w rfl rfl (fun _ hK => ?_); go_simp; refine hK _ ?_; clear hK) | (refine sched_s rfl rfl (fun _ hK => ?_); go_simp; first | (refine hK _ ?_; clear hK) | (refine ⟨_, fun _ => rfl, hK _ ?_⟩; clear hK)))
        refine sched_l rfl (by decide) (fun _ hK => ?_); go_simp
        refine hK _ _ ?_; clear hK; try simp only [Act.put, List.setIfInBounds_toArray, List.set_cons_zero, List.set_cons_succ]
        refine sched_nil (NoPanic.normal ?_)
        show Q .normal _ _
        refine fill_end (T := T) 106 50 (by simp only [Array.size_setIfInBounds]; rw [hT1s, hTs.out]) (by intro i hi; (repeat rw [Array.getElem?_setIfInBounds_ne (by omega)]); exact hag.out i hi) ?_
        exact hKK.out _ _ _ _ _ _ _ _ (hFN.out _ _ _ _ _ _ _ _ _ _ _ (by rw [gx.out, gy.out, hbA.out]; first | rfl | simp) (by rw [gx.out, gy.out, hbB.out]; first | rfl | simp) (by rw [gx.out, gy.out, hbC.out]; first | rfl | simp) hM.out)
    ·
      refine fork_g rfl rfl (fun _ hK => ?_)
      go_simp
      refine hK _ _ (Kp.of_same ((Fr.refl _ V1).alloc _)) ?_
      clear hK
      try simp only [Act.put]
      refine bld_abs2 (C := fun X => wpPlan _ _ _ _ _ _ _ X) (fun V14 bC hbC hw => ?_)
      have hM' := hM.out.push hw
      simp only [List.cons_append, List.nil_append] at hM'
      clear hM hw yc yl
      have hM := Lib.hid hM'
      clear hM'
      have yc := (hY.out.fr hM.out.same id).cell hlty; have yl := (hY.out.fr hM.out.same id).lt
      replace hbC := Lib.hid hbC
      refine plan_run ?_
      refine sched_g rfl rfl (fun _ hK => ?_)
      refine step_append1 rfl (.tmp 111) (.tmp 122) 26 rfl (bo + 1) 4 i3 (.bool false) 1 1 Try.underlying26 hi3 hi3z hi3s hi3b rfl (by decide) (by decide) a1 j c1 _ (by go_simp) ((Rws.own (R1 := [_]) hM.out.rows).2) (by omega) V0.heap.size [.bool bA] (by go_simp) rfl (hM.out.pend (by simp)) (by simp [Value.oneCell']) (by have := lt_of_heap hM.out.outer; omega) ?_
      intro d1 e1 V15 hO hG
      refine hK _ _ (hM.out.kp (R1 := [_]) hG hL3.out) ?_
      clear hK
      try simp only [Act.put]
      have hM' := hM.out.app (R1 := [_]) hbo0 hO hG
      simp only [List.cons_append, List.nil_append] at hM'
      clear hM hO hG yc yl
      have hM := Lib.hid hM'
      clear hM'
      have yc := (hY.out.fr hM.out.same id).cell hlty; have yl := (hY.out.fr hM.out.same id).lt
      repeat (first | (refine sched_w rfl rfl (fun _ hK => ?_); go_simp; refine hK _ ?_; clear hK) | (refine sched_s rfl rfl (fun _ hK => ?_); go_simp; first | (refine hK _ ?_; clear hK) | (refine ⟨_, fun _ => rfl, hK _ ?_⟩; clear hK)))
      refine sched_g rfl rfl (fun _ hK => ?_)
      go_simp
      refine hK _ _ (Kp.of_same ((Fr.refl _ V15).alloc _)) ?_
      clear hK
      try simp only [Act.put]
      refine bld_abs2 (C := fun X => wpTo _ _ _ _ _ _ _ _ X) (fun V16 bB hbB hw => ?_)
      have hM' := hM.out.push hw
      simp only [List.cons_append, List.nil_append] at hM'
      clear hM hw yc yl
      have hM := Lib.hid hM'
      clear hM'
      have yc := (hY.out.fr hM.out.same id).cell hlty; have yl := (hY.out.fr hM.out.same id).lt
      replace hbB := Lib.hid hbB
      refine sched_g rfl rfl (fun _ hK => ?_)
      refine step_append1 rfl (.tmp 126) (.tmp 137) 26 rfl (bo + 1) 4 i3 (.bool false) 1 1 Try.underlying26 hi3 hi3z hi3s hi3b rfl (by decide) (by decide) a2 j c2 _ (by go_simp) ((Rws.own (R1 := [_, _]) hM.out.rows).2) (by omega) V15.heap.size [.bool bB] (by go_simp) rfl (hM.out.pend (by simp)) (by simp [Value.oneCell']) (by have := lt_of_heap hM.out.outer; omega) ?_
      intro d2 e2 V17 hO hG
      refine hK _ _ (hM.out.kp (R1 := [_, _]) hG hL3.out) ?_
      clear hK
      try simp only [Act.put]
      have hM' := hM.out.app (R1 := [_, _]) hbo0 hO hG
      simp only [List.cons_append, List.nil_append] at hM'
      clear hM hO hG yc yl
      have hM := Lib.hid hM'
      clear hM'
      have yc := (hY.out.fr hM.out.same id).cell hlty; have yl := (hY.out.fr hM.out.same id).lt
      refine sched_l rfl (by decide) (fun _ hK => ?_)
      refine step_append1 rfl (.tmp 141) (.tmp 151) 26 rfl (bo + 1) 4 i3 (.bool false) 1 1 Try.underlying26 hi3 hi3z hi3s hi3b rfl (by decide) (by decide) a3 j c3 _ (by go_simp) ((Rws.own (R1 := [_, _, _]) hM.out.rows).2) (by omega) V1.heap.size [.bool bC] (by go_simp) rfl (hM.out.pend (by simp)) (by simp [Value.oneCell']) (by have := lt_of_heap hM.out.outer; omega) ?_
      intro d3 e3 V18 hO hG
      refine hK _ _ ?_
      clear hK
      try simp only [Act.put]
      have hM' := hM.out.app (R1 := [_, _, _]) hbo0 hO hG
      simp only [List.cons_append, List.nil_append] at hM'
      clear hM hO hG yc yl
      have hM := Lib.hid hM'
      clear hM'
      have yc := (hY.out.fr hM.out.same id).cell hlty; have yl := (hY.out.fr hM.out.same id).lt
      clear yc yl xc xl
      have ol := lt_of_heap hM.out.outer
      have o1 := cell_at hM.out.outer 1
      have p1 := free_at hM.out.outer 1
      have o2 := cell_at hM.out.outer 2
      have p2 := free_at hM.out.outer 2
      have o3 := cell_at hM.out.outer 3
      have p3 := free_at hM.out.outer 3
      repeat (first | (refine sched_w rfl rfl (fun _ hK => ?_); go_simp; refine hK _ ?_; clear hK) | (refine sched_s rfl rfl (fun _ hK => ?_); go_simp; first | (refine hK _ ?_; clear hK) | (refine ⟨_, fun _ => rfl, hK _ ?_⟩; clear hK)))
      refine sched_l rfl (by decide) (fun _ hK => ?_); go_simp
      refine hK _ _ ?_; clear hK; try simp only [Act.put, List.setIfInBounds_toArray, List.set_cons_zero, List.set_cons_succ]
      repeat (first | (refine sched_w rfl rfl (fun _ hK => ?_); go_simp; refine hK _ ?_; clear hK) | (refine sched_s rfl rfl (fun _ hK => ?_); go_simp; first | (refine hK _ ?_; clear hK) | (refine ⟨_, fun _ => rfl, hK _ ?_⟩; clear hK)))
      refine sched_l rfl (by decide) (fun _ hK => ?_); go_simp
      refine hK _ _ ?_; clear hK; try simp only [Act.put, List.setIfInBounds_toArray, List.set_cons_zero, List.set_cons_succ]
      repeat (first | (refine sched_w rfl rfl (fun _ hK => ?_); go_simp; refine hK _ ?_; clear hK) | (refine sched_s rfl rfl (fun _ hK => ?_); go_simp; first | (refine hK _ ?_; clear hK) | (refine ⟨_, fun _ => rfl, hK _ ?_⟩; clear hK)))
      refine sched_l rfl (by decide) (fun _ hK => ?_); go_simp
      refine hK _ _ ?_; clear hK; try simp only [Act.put, List.setIfInBounds_toArray, List.set_cons_zero, List.set_cons_succ]
      refine sched_nil (NoPanic.normal ?_)
      show Q .normal _ _
      refine fill_end (T := T) 106 50 (by simp only [Array.size_setIfInBounds]; rw [hT1s, hTs.out]) (by intro i hi; (repeat rw [Array.getElem?_setIfInBounds_ne (by omega)]); exact hag.out i hi) ?_
      exact hKK.out _ _ _ _ _ _ _ _ (hFN.out _ _ _ _ _ _ _ _ _ _ _ (by rw [gx.out, gy.out, hbA.out]; first | rfl | simp) (by rw [gx.out, gy.out, hbB.out]; first | rfl | simp) (by rw [gx.out, gy.out, hbC.out]; first | rfl | simp) hM.out)
  ·
    refine fork_g rfl rfl (fun _ hK => ?_)
    go_simp
    refine hK _ _ (Kp.of_same ((Fr.refl _ V0).alloc _)) ?_
    clear hK
    try simp only [Act.put]
    refine bld_abs2 (C := fun X => wpPlan _ _ _ _ _ _ _ X) (fun V19 bC hbC hw => ?_)
    have hM' := hM.out.push hw
    simp only [List.cons_append, List.nil_append] at hM'
    clear hM hw yc yl
    have hM := Lib.hid hM'
    clear hM'
    have yc := (hY.out.fr hM.out.same id).cell hlty; have yl := (hY.out.fr hM.out.same id).lt
    replace hbC := Lib.hid hbC
    refine plan_run ?_
    refine sched_g rfl rfl (fun _ hK => ?_)
    go_simp
    refine hK _ _ (Kp.of_same ((Fr.refl _ V19).alloc _)) ?_
    clear hK
    try simp only [Act.put]
    refine bld_abs2 (C := fun X => wpTo _ _ _ _ _ _ _ _ X) (fun V20 bA hbA hw => ?_)
    have hM' := hM.out.push hw
    simp only [List.cons_append, List.nil_append] at hM'
    clear hM hw yc yl
    have hM := Lib.hid hM'
    clear hM'
    have yc := (hY.out.fr hM.out.same id).cell hlty; have yl := (hY.out.fr hM.out.same id).lt
    replace hbA := Lib.hid hbA
    refine sched_g rfl rfl (fun _ hK => ?_)
    refine step_append1 rfl (.tmp 111) (.tmp 122) 26 rfl (bo + 1) 4 i3 (.bool false) 1 1 Try.underlying26 hi3 hi3z hi3s hi3b rfl (by decide) (by decide) a1 j c1 _ (by go_simp) ((Rws.own (R1 := [_]) hM.out.rows).2) (by omega) V19.heap.size [.bool bA] (by go_simp) rfl (hM.out.pend (by simp)) (by simp [Value.oneCell']) (by have := lt_of_heap hM.out.outer; omega) ?_
    intro d1 e1 V21 hO hG
    refine hK _ _ (hM.out.kp (R1 := [_]) hG hL3.out) ?_
    clear hK
    try simp only [Act.put]
    have hM' := hM.out.app (R1 := [_]) hbo0 hO hG
    simp only [List.cons_append, List.nil_append] at hM'
    clear hM hO hG yc yl
    have hM := Lib.hid hM'
    clear hM'
    have yc := (hY.out.fr hM.out.same id).cell hlty; have yl := (hY.out.fr hM.out.same id).lt
    repeat (first | (refine sched_w rfl rfl (fun _ hK => ?_); go_simp; refine hK _ ?_; clear hK) | (refine sched_s rfl rfl (fun _ hK => ?_); go_simp; first | (refine hK _ ?_; clear hK) | (refine ⟨_, fun _ => rfl, hK _ ?_⟩; clear hK)))
    refine sched_g rfl rfl (fun _ hK => ?_)
    go_simp
    refine hK _ _ (Kp.of_same ((Fr.refl _ V21).alloc _)) ?_
    clear hK
    try simp only [Act.put]
    refine bld_abs2 (C := fun X => wpTo _ _ _ _ _ _ _ _ X) (fun V22 bB hbB hw => ?_)
    have hM' := hM.out.push hw
    simp only [List.cons_append, List.nil_append] at hM'
    clear hM hw yc yl
    have hM := Lib.hid hM'
    clear hM'
    have yc := (hY.out.fr hM.out.same id).cell hlty; have yl := (hY.out.fr hM.out.same id).lt
    replace hbB := Lib.hid hbB
    refine sched_g rfl rfl (fun _ hK => ?_)
    refine step_append1 rfl (.tmp 126) (.tmp 137) 26 rfl (bo + 1) 4 i3 (.bool false) 1 1 Try.underlying26 hi3 hi3z hi3s hi3b rfl (by decide) (by decide) a2 j c2 _ (by go_simp) ((Rws.own (R1 := [_, _]) hM.out.rows).2) (by omega) V21.heap.size [.bool bB] (by go_simp) rfl (hM.out.pend (by simp)) (by simp [Value.oneCell']) (by have := lt_of_heap hM.out.outer; omega) ?_
    intro d2 e2 V23 hO hG
    refine hK _ _ (hM.out.kp (R1 := [_, _]) hG hL3.out) ?_
    clear hK
    try simp only [Act.put]
    have hM' := hM.out.app (R1 := [_, _]) hbo0 hO hG
    simp only [List.cons_append, List.nil_append] at hM'
    clear hM hO hG yc yl
    have hM := Lib.hid hM'
    clear hM'
    have yc := (hY.out.fr hM.out.same id).cell hlty; have yl := (hY.out.fr hM.out.same id).lt
    refine sched_l rfl (by decide) (fun _ hK => ?_)
    refine step_append1 rfl (.tmp 141) (.tmp 151) 26 rfl (bo + 1) 4 i3 (.bool false) 1 1 Try.underlying26 hi3 hi3z hi3s hi3b rfl (by decide) (by decide) a3 j c3 _ (by go_simp) ((Rws.own (R1 := [_, _, _]) hM.out.rows).2) (by omega) V0.heap.size [.bool bC] (by go_simp) rfl (hM.out.pend (by simp)) (by simp [Value.oneCell']) (by have := lt_of_heap hM.out.outer; omega) ?_
    intro d3 e3 V24 hO hG
    refine hK _ _ ?_
    clear hK
    try simp only [Act.put]
    have hM' := hM.out.app (R1 := [_, _, _]) hbo0 hO hG
    simp only [List.cons_append, List.nil_append] at hM'
    clear hM hO hG yc yl
    have hM := Lib.hid hM'
    clear hM'
    have yc := (hY.out.fr hM.out.same id).cell hlty; have yl := (hY.out.fr hM.out.same id).lt
    clear yc yl xc xl
    have ol := lt_of_heap hM.out.outer
    have o1 := cell_at hM.out.outer 1
    have p1 := free_at hM.out.outer 1
    have o2 := cell_at hM.out.outer 2
    have p2 := free_at hM.out.outer 2
    have o3 := cell_at hM.out.outer 3
    have p3 := free_at hM.out.outer 3
    repeat (first | (refine sched_w rfl rfl (fun _ hK => ?_); go_simp; refine hK _ ?_; clear hK) | (refine sched_s rfl rfl (fun _ hK => ?_); go_simp; first | (refine hK _ ?_; clear hK) | (refine ⟨_, fun _ => rfl, hK _ ?_⟩; clear hK)))
    refine sched_l rfl (by decide) (fun _ hK => ?_); go_simp
    refine hK _ _ ?_; clear hK; try simp only [Act.put, List.setIfInBounds_toArray, List.set_cons_zero, List.set_cons_succ]
    repeat (first | (refine sched_w rfl rfl (fun _ hK => ?_); go_simp; refine hK _ ?_; clear hK) | (refine sched_s rfl rfl (fun _ hK => ?_); go_simp; first | (refine hK _ ?_; clear hK) | (refine ⟨_, fun _ => rfl, hK _ ?_⟩; clear hK)))
    refine sched_l rfl (by decide) (fun _ hK => ?_); go_simp
    refine hK _ _ ?_; clear hK; try simp only [Act.put, List.setIfInBounds_toArray, List.set_cons_zero, List.set_cons_succ]
    repeat (first | (refine sched_w rfl rfl (fun _ hK => ?_); go_simp; refine hK _ ?_; clear hK) | (refine sched_s rfl rfl (fun _ hK => ?_); go_simp; first | (refine hK _ ?_; clear hK) | (refine ⟨_, fun _ => rfl, hK _ ?_⟩; clear hK)))
    refine sched_l rfl (by decide) (fun _ hK => ?_); go_simp
    refine hK _ _ ?_; clear hK; try simp only [Act.put, List.setIfInBounds_toArray, List.set_cons_zero, List.set_cons_succ]
    refine sched_nil (NoPanic.normal ?_)
    show Q .normal _ _
    refine fill_end (T := T) 106 50 (by simp only [Array.size_setIfInBounds]; rw [hT1s, hTs.out]) (by intro i hi; (repeat rw [Array.getElem?_setIfInBounds_ne (by omega)]); exact hag.out i hi) ?_
    exact hKK.out _ _ _ _ _ _ _ _ (hFN.out _ _ _ _ _ _ _ _ _ _ _ (by rw [gx.out, gy.out, hbA.out]; first | rfl | simp) (by rw [gx.out, gy.out, hbB.out]; first | rfl | simp) (by rw [gx.out, gy.out, hbC.out]; first | rfl | simp) hM.out)
end Go.Proofs.Ytaebjalpebgliaa
