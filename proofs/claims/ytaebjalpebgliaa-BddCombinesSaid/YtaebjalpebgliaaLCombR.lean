/- BddCombines: region 16 (the first append of a round). -/
import Derived.Test.YtaebjalpebgliaaLCombP
namespace Go.Proofs.Ytaebjalpebgliaa
open Go.RowKit
set_option linter.unusedVariables false
set_option linter.unusedSimpArgs false

set_option maxRecDepth 100000 in
set_option maxHeartbeats 40000000 in
theorem comb_r16 {Q : Exit → Act → World → Prop} {T : Array Value} (hTs : T.size = 279) {W0 : World} {bo bx : Nat} {x : List Bool} {fx f1 f2 f3 f4 : Nat → Bool} {j j1 j2 : Nat} {a0 a1 a2 a3 a4 : Option Addr} {c0 c1 c2 c3 c4 : Nat} {wr : World}
    (t26 : T[26]'(by omega) = .slice (some ⟨bo, 0, none⟩) 5 5) (t8 : T[8]'(by omega) = .slice (some ⟨bx, 0, none⟩) x.length x.length) (t27 : T[27]'(by omega) = .int .i64 j)
    (hX : BoolsAt W0 bx x) (hlt : j < x.length) (hlx : x.length ≤ 32) (hfx : fx j = x[j]) (hbo : W0.heap.size ≤ bo)
    (hrel : LRel W0 bo (fun i => !fx i) f1 f2 f3 f4 j j1 j2 a0 a1 a2 a3 a4 c0 c1 c2 c3 c4 wr)
    (hK : ∀ f w' a0' c0', LRel W0 bo (fun i => !fx i) f1 f2 f3 f4 (j + 1) j1 j2 a0' a1 a2 a3 a4 c0' c1 c2 c3 c4 w' → Q .normal ⟨fillF T f 91 12, []⟩ w') :
    Code.wp Try.prog (regionOf Try.f3 16) Q ⟨T, []⟩ wr := by
  conv => arg 2; whnf
  obtain ⟨i3, hi3, hi3z, hi3s, hi3b⟩ := info_parts info4
  have hbl := lt_of_heap hrel.outer
  have hxr := hX.fr hrel.same id
  have xc := hxr.cell hlt
  have xl := hxr.lt
  have oc0 := cell_at hrel.outer 0
  have of0 := free_at hrel.outer 0
  have hown0 := (Rws.own (R1 := []) hrel.rows).2
  replace hown0 := Lib.hid hown0
  replace hxr := Lib.hid hxr
  replace hrel := Lib.hid hrel
  replace hX := Lib.hid hX
  replace hfx := Lib.hid hfx
  replace hbo := Lib.hid hbo
  replace hK := Lib.hid hK
  refine wp_region_schedF (L2 bo bx) [0, 0, 0, 1, 0, 0, 0, 1, 0, 2, 3, 0, 3] [0, 1, 2, 4, 5, 6, 3, 7, 8, 9, 10, 11, 12] (by kernel_rfl) (by kernel_rfl) ?_
  repeat (first | (refine sched_w rfl rfl (fun _ hK => ?_); go_simp; refine hK _ ?_; clear hK) | (refine sched_s rfl rfl (fun _ hK => ?_); go_simp; first | (refine hK _ ?_; clear hK) | (refine ⟨_, fun _ => rfl, hK _ ?_⟩; clear hK)))
  refine sched_g rfl rfl (fun _ hK => ?_); go_simp; refine hK _ _ (Kp.of_same (by repeat (first | exact Fr.refl _ _ | apply Fr.alloc | apply Fr.drewN | apply Fr.drew | apply Fr.undrew | apply Fr.undrewN))) ?_; clear hK
  refine sched_l rfl (by decide) (fun _ hK => ?_)
  refine step_append1 rfl (.tmp 94) (.tmp 100) 26 rfl (bo + 1) 4 i3 (.bool false) 1 1 Try.underlying26 hi3 hi3z hi3s hi3b rfl (by decide) (by decide) a0 j c0 _ (by go_simp) (owns_same hown0.out (by repeat (first | exact Fr.refl _ _ | apply Fr.alloc | apply Fr.drewN | apply Fr.drew | apply Fr.undrew | apply Fr.undrewN))) (by omega) wr.heap.size [.bool (!x[j])] (by go_simp) rfl (heap_new_at (by simp) _) (by simp [Value.oneCell']) (by simp; omega) ?_
  intro an cn W4 hO4 hG4
  have hN := hrel.out.step0 (by rw [hfx.out]) hbo.out (by repeat (first | exact Fr.refl _ _ | apply Fr.alloc | apply Fr.drewN | apply Fr.drew | apply Fr.undrew | apply Fr.undrewN)) hO4 hG4
  have y0 := cell_at hN.1 0
  have y1 := free_at hN.1 0
  have y2 := lt_of_heap hN.1
  replace hN := Lib.hid hN
  clear hO4 hG4
  refine hK _ _ ?_; clear hK; try simp only [Act.put, List.setIfInBounds_toArray, List.set_cons_zero, List.set_cons_succ]
  repeat (first | (refine sched_w rfl rfl (fun _ hK => ?_); go_simp; refine hK _ ?_; clear hK) | (refine sched_s rfl rfl (fun _ hK => ?_); go_simp; first | (refine hK _ ?_; clear hK) | (refine ⟨_, fun _ => rfl, hK _ ?_⟩; clear hK)))
  refine sched_l rfl (by decide) (fun _ hK => ?_); go_simp
  refine hK _ _ ?_; clear hK; try simp only [Act.put, List.setIfInBounds_toArray, List.set_cons_zero, List.set_cons_succ]
  refine sched_nil (NoPanic.normal ?_)
  show Q .normal _ _
  refine fill_end (T := T) 91 12 (by simp only [Array.size_setIfInBounds]) (by intro i hi; repeat rw [Array.getElem?_setIfInBounds_ne (by omega)]) ?_
  exact hK.out _ _ _ _ hN.out.2
end Go.Proofs.Ytaebjalpebgliaa
