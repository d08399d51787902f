/- automata: the reference's Check walked. automata: region 19 of the reference's Check. -/
import Derived.Test.YtcdkklddingfpaaGreatJRelR
import Derived.Test.YtcdkklddingfpaaGreatJCut
namespace Go.Proofs.YtcdkklddingfpaaGreat
open Go.RowKit
set_option linter.unusedVariables false
set_option linter.unusedSimpArgs false

set_option maxRecDepth 100000 in
set_option maxHeartbeats 8000000 in
theorem rc_lt {Q : Exit → Act → World → Prop} {T : Array Value} (hTs : T.size = 105) {wr : World} {ba bx bb off k' qE cE : Nat} {f e t f' e' : Int}
    (t5 : T[5]'(by omega) = .int .i64 ((k' : Int) + 1)) (t6 : T[6]'(by omega) = .pointer (some ⟨bx, 0, none⟩)) (t1 : T[1]'(by omega) = .pointer (some ⟨ba, 0, none⟩))
    (x0 : wr.cell? ⟨bx, 0, none⟩ = some (.int .i64 f)) (x1 : wr.cell? ⟨bx, 1, none⟩ = some (.int .i64 e)) (xl : bx < wr.heap.size) (b3 : wr.cell? ⟨ba, 3, none⟩ = some (.slice (some ⟨bb, off, none⟩) qE cE)) (bl : ba < wr.heap.size)
    (y0 : wr.cell? ⟨bb, off + k' * 3, none⟩ = some (.int .i64 f')) (y1 : wr.cell? ⟨bb, off + k' * 3 + 1, none⟩ = some (.int .i64 e')) (yl : bb < wr.heap.size) (hk : k' + 1 < qE) (hq9 : qE ≤ 1000) (hlt : f < f')
    (hK : ∀ f w', Same wr w' → f 104 = .bool (true) → Q .normal ⟨fillF T f 67 38, []⟩ w') :
    Code.wp Tryz.prog (regionOf Tryz.f16 19) Q ⟨T, []⟩ wr := by
  conv => arg 2; whnf
  have hkk3 : IntKind.i64.wrap (k' : Int) = (k' : Int) := IntWalk.i64_in _ (by omega)
  have hkk4 : (0 : Int) ≤ k' := by omega
  have hkk5 : (k' : Int) < qE := by omega
  have hkk6 : (0 : Int) < (k' : Int) + 1 := by omega
  replace hK := Lib.hid hK
  refine wp_region_schedF (fun k => k = bx ∨ k = ba ∨ k = bb) [0, 0, 0, 0, 1, 0, 1, 0, 0, 0, 0, 1, 0, 0, 0, 1, 0, 1, 0, 0, 0, 0, 1, 0, 0, 0, 1, 0, 1, 0, 0, 0, 0, 1, 0, 0, 0, 0] [0, 1, 2, 3, 5, 7, 8, 4, 6, 9, 10, 11, 12, 13, 14, 16, 18, 19, 15, 17, 20, 21, 22, 23, 24, 25, 27, 29, 30, 26, 28, 31, 32, 33, 34, 35, 36, 37] (by kernel_rfl) (by kernel_rfl) ?_
  repeat (first | (refine sched_w rfl rfl (fun _ hK => ?_); go_simp; refine hK _ ?_; clear hK) | (refine sched_s rfl rfl (fun _ hK => ?_); go_simp; first | (refine hK _ ?_; clear hK) | (refine ⟨_, fun _ => rfl, hK _ ?_⟩; clear hK)))
  refine sched_nil (NoPanic.normal ?_)
  show Q .normal _ _
  refine fill_end (T := T) 67 38 (by simp only [Array.size_setIfInBounds]) (by intro i hi; repeat rw [Array.getElem?_setIfInBounds_ne (by omega)]) ?_
  exact hK.out _ _ (by repeat (first | exact Fr.refl _ _ | apply Fr.alloc | apply Fr.drewN | apply Fr.drew | apply Fr.undrew | apply Fr.undrewN)) (by simp [Array.getD, hTs])

set_option maxRecDepth 100000 in
set_option maxHeartbeats 8000000 in
theorem rc_eq {Q : Exit → Act → World → Prop} {T : Array Value} (hTs : T.size = 105) {wr : World} {ba bx bb off k' qE cE : Nat} {f e t f' e' : Int}
    (t5 : T[5]'(by omega) = .int .i64 ((k' : Int) + 1)) (t6 : T[6]'(by omega) = .pointer (some ⟨bx, 0, none⟩)) (t1 : T[1]'(by omega) = .pointer (some ⟨ba, 0, none⟩))
    (x0 : wr.cell? ⟨bx, 0, none⟩ = some (.int .i64 f)) (x1 : wr.cell? ⟨bx, 1, none⟩ = some (.int .i64 e)) (xl : bx < wr.heap.size) (b3 : wr.cell? ⟨ba, 3, none⟩ = some (.slice (some ⟨bb, off, none⟩) qE cE)) (bl : ba < wr.heap.size)
    (y0 : wr.cell? ⟨bb, off + k' * 3, none⟩ = some (.int .i64 f')) (y1 : wr.cell? ⟨bb, off + k' * 3 + 1, none⟩ = some (.int .i64 e')) (yl : bb < wr.heap.size) (hk : k' + 1 < qE) (hq9 : qE ≤ 1000) (heq : f = f')
    (hK : ∀ f w', Same wr w' → f 104 = .bool (decide (e ≤ e')) → Q .normal ⟨fillF T f 67 38, []⟩ w') :
    Code.wp Tryz.prog (regionOf Tryz.f16 19) Q ⟨T, []⟩ wr := by
  conv => arg 2; whnf
  have hkk3 : IntKind.i64.wrap (k' : Int) = (k' : Int) := IntWalk.i64_in _ (by omega)
  have hkk4 : (0 : Int) ≤ k' := by omega
  have hkk5 : (k' : Int) < qE := by omega
  have hkk6 : (0 : Int) < (k' : Int) + 1 := by omega
  subst heq
  have hnl : ¬ f < f := by omega
  have hnl' : (f < f) = False := by simp
  replace hK := Lib.hid hK
  refine wp_region_schedF (fun k => k = bx ∨ k = ba ∨ k = bb) [0, 0, 0, 0, 1, 0, 1, 0, 0, 0, 0, 1, 0, 0, 0, 1, 0, 1, 0, 0, 0, 0, 1, 0, 0, 0, 1, 0, 1, 0, 0, 0, 0, 1, 0, 0, 0, 0] [0, 1, 2, 3, 5, 7, 8, 4, 6, 9, 10, 11, 12, 13, 14, 16, 18, 19, 15, 17, 20, 21, 22, 23, 24, 25, 27, 29, 30, 26, 28, 31, 32, 33, 34, 35, 36, 37] (by kernel_rfl) (by kernel_rfl) ?_
  repeat (first | (refine sched_w rfl rfl (fun _ hK => ?_); go_simp; refine hK _ ?_; clear hK) | (refine sched_s rfl rfl (fun _ hK => ?_); go_simp; first | (refine hK _ ?_; clear hK) | (refine ⟨_, fun _ => rfl, hK _ ?_⟩; clear hK)))
  refine sched_nil (NoPanic.normal ?_)
  show Q .normal _ _
  refine fill_end (T := T) 67 38 (by simp only [Array.size_setIfInBounds]) (by intro i hi; repeat rw [Array.getElem?_setIfInBounds_ne (by omega)]) ?_
  exact hK.out _ _ (by repeat (first | exact Fr.refl _ _ | apply Fr.alloc | apply Fr.drewN | apply Fr.drew | apply Fr.undrew | apply Fr.undrewN)) (by simp [Array.getD, hTs])

set_option maxRecDepth 100000 in
set_option maxHeartbeats 8000000 in
theorem rc_gt {Q : Exit → Act → World → Prop} {T : Array Value} (hTs : T.size = 105) {wr : World} {ba bx bb off k' qE cE : Nat} {f e t f' e' : Int}
    (t5 : T[5]'(by omega) = .int .i64 ((k' : Int) + 1)) (t6 : T[6]'(by omega) = .pointer (some ⟨bx, 0, none⟩)) (t1 : T[1]'(by omega) = .pointer (some ⟨ba, 0, none⟩))
    (x0 : wr.cell? ⟨bx, 0, none⟩ = some (.int .i64 f)) (x1 : wr.cell? ⟨bx, 1, none⟩ = some (.int .i64 e)) (xl : bx < wr.heap.size) (b3 : wr.cell? ⟨ba, 3, none⟩ = some (.slice (some ⟨bb, off, none⟩) qE cE)) (bl : ba < wr.heap.size)
    (y0 : wr.cell? ⟨bb, off + k' * 3, none⟩ = some (.int .i64 f')) (y1 : wr.cell? ⟨bb, off + k' * 3 + 1, none⟩ = some (.int .i64 e')) (yl : bb < wr.heap.size) (hk : k' + 1 < qE) (hq9 : qE ≤ 1000) (hgt : f' < f)
    (hK : ∀ f w', Same wr w' → f 104 = .bool (false) → Q .normal ⟨fillF T f 67 38, []⟩ w') :
    Code.wp Tryz.prog (regionOf Tryz.f16 19) Q ⟨T, []⟩ wr := by
  conv => arg 2; whnf
  have hkk3 : IntKind.i64.wrap (k' : Int) = (k' : Int) := IntWalk.i64_in _ (by omega)
  have hkk4 : (0 : Int) ≤ k' := by omega
  have hkk5 : (k' : Int) < qE := by omega
  have hkk6 : (0 : Int) < (k' : Int) + 1 := by omega
  have hnl' : (f < f') = False := by simp; omega
  have hne : (f == f') = false := by simp; omega
  replace hK := Lib.hid hK
  refine wp_region_schedF (fun k => k = bx ∨ k = ba ∨ k = bb) [0, 0, 0, 0, 1, 0, 1, 0, 0, 0, 0, 1, 0, 0, 0, 1, 0, 1, 0, 0, 0, 0, 1, 0, 0, 0, 1, 0, 1, 0, 0, 0, 0, 1, 0, 0, 0, 0] [0, 1, 2, 3, 5, 7, 8, 4, 6, 9, 10, 11, 12, 13, 14, 16, 18, 19, 15, 17, 20, 21, 22, 23, 24, 25, 27, 29, 30, 26, 28, 31, 32, 33, 34, 35, 36, 37] (by kernel_rfl) (by kernel_rfl) ?_
  repeat (first | (refine sched_w rfl rfl (fun _ hK => ?_); go_simp; refine hK _ ?_; clear hK) | (refine sched_s rfl rfl (fun _ hK => ?_); go_simp; first | (refine hK _ ?_; clear hK) | (refine ⟨_, fun _ => rfl, hK _ ?_⟩; clear hK)))
  refine sched_nil (NoPanic.normal ?_)
  show Q .normal _ _
  refine fill_end (T := T) 67 38 (by simp only [Array.size_setIfInBounds]) (by intro i hi; repeat rw [Array.getElem?_setIfInBounds_ne (by omega)]) ?_
  exact hK.out _ _ (by repeat (first | exact Fr.refl _ _ | apply Fr.alloc | apply Fr.drewN | apply Fr.drew | apply Fr.undrew | apply Fr.undrewN)) (by simp [Array.getD, hTs])

set_option maxRecDepth 100000 in
set_option maxHeartbeats 8000000 in
theorem rc_0 {Q : Exit → Act → World → Prop} {T : Array Value} (hTs : T.size = 105) {wr : World} {ba bx bb k : Nat}
    (t5 : T[5]'(by omega) = .int .i64 k) (t6 : T[6]'(by omega) = .pointer (some ⟨bx, 0, none⟩)) (t1 : T[1]'(by omega) = .pointer (some ⟨ba, 0, none⟩)) (c4 : (0 < k) = False)
    (hK : ∀ f w', Same wr w' → f 104 = .bool false → Q .normal ⟨fillF T f 67 38, []⟩ w') :
    Code.wp Tryz.prog (regionOf Tryz.f16 19) Q ⟨T, []⟩ wr := by
  conv => arg 2; whnf
  replace hK := Lib.hid hK
  refine wp_region_schedF (fun k => k = bx ∨ k = ba ∨ k = bb) [0, 0, 0, 0, 1, 0, 1, 0, 0, 0, 0, 1, 0, 0, 0, 1, 0, 1, 0, 0, 0, 0, 1, 0, 0, 0, 1, 0, 1, 0, 0, 0, 0, 1, 0, 0, 0, 0] [0, 1, 2, 3, 5, 7, 8, 4, 6, 9, 10, 11, 12, 13, 14, 16, 18, 19, 15, 17, 20, 21, 22, 23, 24, 25, 27, 29, 30, 26, 28, 31, 32, 33, 34, 35, 36, 37] (by kernel_rfl) (by kernel_rfl) ?_
  repeat (first | (refine sched_w rfl rfl (fun _ hK => ?_); go_simp; refine hK _ ?_; clear hK) | (refine sched_s rfl rfl (fun _ hK => ?_); go_simp; first | (refine hK _ ?_; clear hK) | (refine ⟨_, fun _ => rfl, hK _ ?_⟩; clear hK)))
  refine sched_nil (NoPanic.normal ?_)
  show Q .normal _ _
  refine fill_end (T := T) 67 38 (by simp only [Array.size_setIfInBounds]) (by intro i hi; repeat rw [Array.getElem?_setIfInBounds_ne (by omega)]) ?_
  exact hK.out _ _ (by repeat (first | exact Fr.refl _ _ | apply Fr.alloc | apply Fr.drewN | apply Fr.drew | apply Fr.undrew | apply Fr.undrewN)) (by simp [Array.getD, hTs])

end Go.Proofs.YtcdkklddingfpaaGreat
namespace Go.Proofs.YtcdkklddingfpaaGreat
open Go.RowKit
set_option linter.unusedVariables false
set_option linter.unusedSimpArgs false

set_option maxRecDepth 100000 in
set_option maxHeartbeats 8000000 in
theorem rCheck_any (A : Au) (w : World) (hA : A.at w) (hz : A.small) : Calls Tryz.prog 16 #[A.v] w fun e w' => e = .returned (.int .i64 (autErr A)) ∧ Same w w' := by
  have CA := fun W (hW : Same w W) => rlist_any 32 A.al A.aA _ A.cA W rfl hz.al (hA.al.same hW)
  have CM := fun W (hW : Same w W) => rlist_any A.n A.ma A.aM _ A.cM W rfl hz.ma (hA.ma.same hW)
  unfold autErr
  obtain ⟨al, n, mk, es, aA, cA, aM, cM, aE, cE⟩ := A
  obtain ⟨h1, h2, h3⟩ := hA
  obtain ⟨z1, z2, z3⟩ := hz
  unfold Au.v
  simp only at h1 h2 h3 z1 z2 z3 CA CM ⊢
  have CT := fun (x : Int) W (hW : Same w W) => rhas_any al x aA al.length cA W rfl (h1.same hW) (by omega)
  have ND := fun (k : Nat) (hk : k < es.length) W (hW : Same w W) => (h3.same hW).node hk
  obtain ⟨E3, hE3⟩ : ∃ E, E = egErr al n es es.length 0 := ⟨_, rfl⟩
  rw [← hE3]
  obtain ⟨qE, hqE⟩ : ∃ q, q = es.length := ⟨_, rfl⟩
  have hst0 := egErr_0 al n es qE hqE.symm
  have hsts := egErr_s al n es qE hqE.symm
  rw [← hqE] at hE3 z3 ⊢
  have hL : es.length = qE := hqE.symm
  generalize renErr 32 al al.length 0 = E1 at *
  generalize renErr n mk mk.length 0 = E2 at *
  generalize al.length = qA at *
  generalize mk.length = qM at *
  clear h1 h2 h3 hqE z2
  obtain ⟨E, hE⟩ : ∃ E : Int, E = if E1 ≠ 0 then E1 else if n < 0 then 2 else if 4096 < n then 3 else if E2 ≠ 0 then E2 else E3 := ⟨_, rfl⟩
  rw [← hE]
  replace CA := Lib.hid CA; replace CM := Lib.hid CM; replace CT := Lib.hid CT; replace ND := Lib.hid ND; replace hE3 := Lib.hid hE3; replace hst0 := Lib.hid hst0; replace hsts := Lib.hid hsts; replace hL := Lib.hid hL; replace hE := Lib.hid hE
  go_enter Tryz.func16, Tryz.ntmps16
  go_upto_region 1 with fail
  have kb := heap_new w (.cells #[.slice aA qA cA, .int .i64 n, .slice aM qM cM, .slice aE qE cE] 25)
  have hs : Same w (w.alloc (.cells #[.slice aA qA cA, .int .i64 n, .slice aM qM cM, .slice aE qE cE] 25)) := (by repeat (first | exact Fr.refl _ _ | apply Fr.alloc | apply Fr.drewN | apply Fr.drew | apply Fr.undrew | apply Fr.undrewN))
  generalize w.alloc (.cells #[.slice aA qA cA, .int .i64 n, .slice aM qM cM, .slice aE qE cE] 25) = W0 at *
  replace kb := Lib.hid kb; replace hs := Lib.hid hs
  have b0 := cell_at kb.out 0
  have bl := lt_of_heap kb.out
  go_wp2_with fail
  refine (CA.out _ hs.out).mono ?_
  rintro er w1 ⟨rfl, s1⟩
  replace kb := Lib.hid (s1.at kb.out id)
  have hs1 := hs.out.same s1
  clear b0 bl s1
  replace hs1 := Lib.hid hs1
  have b1 := cell_at kb.out 1
  have b2 := cell_at kb.out 2
  have bl := lt_of_heap kb.out
  by_cases h1 : E1 = 0
  · subst h1
    by_cases h2 : n < 0
    · obtain rfl : E = 2 := by rw [hE.out, if_neg (by simp), if_pos h2]
      go_wp2_with fail
      go_ret
      exact ⟨rfl, hs1.out.same (by repeat (first | exact Fr.refl _ _ | apply Fr.alloc | apply Fr.drewN | apply Fr.drew | apply Fr.undrew | apply Fr.undrewN))⟩
    have h2' : (n < 0) = False := by simpa using h2
    by_cases h3 : 4096 < n
    · obtain rfl : E = 3 := by rw [hE.out, if_neg (by simp), if_neg h2, if_pos h3]
      go_wp2_with fail
      go_ret
      exact ⟨rfl, hs1.out.same (by repeat (first | exact Fr.refl _ _ | apply Fr.alloc | apply Fr.drewN | apply Fr.drew | apply Fr.undrew | apply Fr.undrewN))⟩
    have h3' : (4096 < n) = False := by simpa using h3
    have hE' : E = if E2 ≠ 0 then E2 else E3 := by rw [hE.out, if_neg (by simp), if_neg h2, if_neg h3]
    replace h2 := Lib.hid h2; replace h3 := Lib.hid h3; replace hE' := Lib.hid hE'
    go_wp2_with fail
    refine (CM.out _ hs1.out).mono ?_
    rintro er w2 ⟨rfl, s2⟩
    replace kb := Lib.hid (s2.at kb.out id)
    have hs2 := hs1.out.same s2
    clear b1 b2 bl s2
    replace hs2 := Lib.hid hs2
    by_cases h4 : E2 = 0
    · subst h4
      have hE'' : E = E3 := by rw [hE'.out, if_neg (by simp)]
      subst hE''
      clear hE hE' hs hs1
      go_upto_region 12 with fail
      go_loopw [5] (fun i wr => ∃ k : Nat, i = .int .i64 k ∧ k ≤ qE ∧ egErr al n es (qE - k) k = E ∧ Same w2 wr) (fun i _ => qE - (intOf i).toNat)
      case atStart => exact ⟨0, rfl, by omega, hE3.out.symm, Fr.refl _ _⟩
      case round =>
        obtain ⟨k, rfl, hk, hrE, hs1⟩ := hrel
        have hs2 := hs2.out.same hs1
        replace kb := Lib.hid (hs1.at kb.out id)
        have b0 := cell_at kb.out 0
        have b1 := cell_at kb.out 1
        have b3 := cell_at kb.out 3
        have bl := lt_of_heap kb.out
        by_cases hlt : k < qE
        · obtain ⟨bb, off, rfl, hbl, z0, z1, z2⟩ := ND.out k (by rw [hL.out]; exact hlt) wr hs2
          have hord : 0 < k → ∀ W, Same w W → W.cell? ⟨bb, off + (k - 1) * 3, none⟩ = some (.int .i64 (es[k - 1]'(by rw [hL.out]; omega)).1) ∧ W.cell? ⟨bb, off + (k - 1) * 3 + 1, none⟩ = some (.int .i64 (es[k - 1]'(by rw [hL.out]; omega)).2.1) ∧ W.cell? ⟨bb, off + (k - 1) * 3 + 2, none⟩ = some (.int .i64 (es[k - 1]'(by rw [hL.out]; omega)).2.2) ∧ bb < W.heap.size := fun h0 W hW => by
            obtain ⟨bb', off', e', hl', y0, y1, y2⟩ := ND.out (k - 1) (by rw [hL.out]; omega) W hW
            cases e'
            exact ⟨y0, y1, y2, hl'⟩
          have hstep : (if egBad al n (es[k]'(by rw [hL.out]; exact hlt)) ≠ 0 then egBad al n (es[k]'(by rw [hL.out]; exact hlt)) else if 0 < k ∧ egOrd (es[k - 1]'(by rw [hL.out]; omega)) (es[k]'(by rw [hL.out]; exact hlt)) then 5 else egErr al n es (qE - (k + 1)) (k + 1)) = E := by
            rw [← hrE]
            rcases Nat.eq_zero_or_pos k with h | h
            · subst h
              rw [hst0.out (by rw [hL.out]; exact hlt), if_neg (c := 0 < 0 ∧ _) (by omega)]
            · obtain ⟨k', rfl⟩ : ∃ k', k = k' + 1 := ⟨k - 1, by omega⟩
              rw [hsts.out k' (by rw [hL.out]; exact hlt)]
              simp only [Nat.add_sub_cancel]
              by_cases he : egOrd (es[k']'(by rw [hL.out]; omega)) (es[k' + 1]'(by rw [hL.out]; exact hlt))
              · rw [if_pos (c := 0 < k' + 1 ∧ _) ⟨by omega, he⟩, if_pos he]
              · rw [if_neg (c := 0 < k' + 1 ∧ _) (fun hh => he hh.2), if_neg he]
          generalize es[k]'(by rw [hL.out]; exact hlt) = x at *
          generalize es[k - 1]'(by rw [hL.out]; omega) = y at *
          obtain ⟨f, e, t⟩ := x
          obtain ⟨f', e', t'⟩ := y
          unfold egBad egOrd at hstep
          simp only at z0 z1 z2 hstep hord
          clear hrE
          replace hs1 := Lib.hid hs1; replace hs2 := Lib.hid hs2; replace hord := Lib.hid hord; replace hstep := Lib.hid hstep
          go_upto_region 15 with fail
          have kx := heap_new wr (.cells #[.int .i64 f, .int .i64 e, .int .i64 t] 39)
          have s2 : Same wr (wr.alloc (.cells #[.int .i64 f, .int .i64 e, .int .i64 t] 39)) := (by repeat (first | exact Fr.refl _ _ | apply Fr.alloc | apply Fr.drewN | apply Fr.drew | apply Fr.undrew | apply Fr.undrewN))
          have hs3 := hs2.out.same s2
          have hs4 := hs1.out.same s2
          replace kb := Lib.hid (s2.at kb.out id)
          clear s2 z0 z1 z2 hbl b0 b1 b3 bl
          generalize wr.alloc (.cells #[.int .i64 f, .int .i64 e, .int .i64 t] 39) = W2 at *
          generalize wr.heap.size = bx at *
          replace kx := Lib.hid kx; replace hs3 := Lib.hid hs3; replace hs4 := Lib.hid hs4
          have x0 := cell_at kx.out 0
          have x1 := cell_at kx.out 1
          have x2 := cell_at kx.out 2
          have xl := lt_of_heap kx.out
          have b0 := cell_at kb.out 0
          have b1 := cell_at kb.out 1
          have b3 := cell_at kb.out 3
          have bl := lt_of_heap kb.out
          by_cases g1 : f < 0
          · have hEv : E = 2 := by rw [← hstep.out, if_pos (c := f < 0 ∨ _) (.inl g1), if_pos (by decide)]
            subst hEv
            go_wp2_with fail
            go_ret
            exact ⟨rfl, hs3.out.same (by repeat (first | exact Fr.refl _ _ | apply Fr.alloc | apply Fr.drewN | apply Fr.drew | apply Fr.undrew | apply Fr.undrewN))⟩
          have g1' : (f < 0) = False := by simpa using g1
          by_cases g2 : n ≤ f
          · have hEv : E = 2 := by rw [← hstep.out, if_pos (c := f < 0 ∨ _) (.inr (.inl g2)), if_pos (by decide)]
            subst hEv
            go_wp2_with fail
            go_ret
            exact ⟨rfl, hs3.out.same (by repeat (first | exact Fr.refl _ _ | apply Fr.alloc | apply Fr.drewN | apply Fr.drew | apply Fr.undrew | apply Fr.undrewN))⟩
          have g2' : (n ≤ f) = False := by simpa using g2
          by_cases g3 : t < 0
          · have hEv : E = 2 := by rw [← hstep.out, if_pos (c := f < 0 ∨ _) (.inr (.inr (.inl g3))), if_pos (by decide)]
            subst hEv
            go_wp2_with fail
            go_ret
            exact ⟨rfl, hs3.out.same (by repeat (first | exact Fr.refl _ _ | apply Fr.alloc | apply Fr.drewN | apply Fr.drew | apply Fr.undrew | apply Fr.undrewN))⟩
          have g3' : (t < 0) = False := by simpa using g3
          by_cases g4 : n ≤ t
          · have hEv : E = 2 := by rw [← hstep.out, if_pos (c := f < 0 ∨ _) (.inr (.inr (.inr g4))), if_pos (by decide)]
            subst hEv
            go_wp2_with fail
            go_ret
            exact ⟨rfl, hs3.out.same (by repeat (first | exact Fr.refl _ _ | apply Fr.alloc | apply Fr.drewN | apply Fr.drew | apply Fr.undrew | apply Fr.undrewN))⟩
          have g4' : (n ≤ t) = False := by simpa using g4
          have hstep2 := hstep.out
          rw [if_neg (c := f < 0 ∨ _) (fun h => by rcases h with h | h | h | h; exact g1 h; exact g2 h; exact g3 h; exact g4 h)] at hstep2
          obtain ⟨bm, hbm⟩ : ∃ b, b = decide (e ∈ al) := ⟨_, rfl⟩
          have CT1 := CT.out e
          rw [← hbm] at CT1
          clear g1 g2 g3 g4
          replace hstep2 := Lib.hid hstep2; replace CT1 := Lib.hid CT1; replace hbm := Lib.hid hbm
          go_wp2_with fail
          refine (CT1.out _ hs3.out).mono ?_
          rintro er w3 ⟨rfl, s5⟩
          have hs5 := hs3.out.same s5
          have hs6 := hs4.out.same s5
          clear x0 x1 x2 xl
          clear b0 b1 b3 bl
          replace kb := Lib.hid (s5.at kb.out id); replace kx := Lib.hid (s5.at kx.out id)
          clear s5
          replace hs5 := Lib.hid hs5; replace hs6 := Lib.hid hs6
          have b3 := cell_at kb.out 3
          have bl := lt_of_heap kb.out
          have x0 := cell_at kx.out 0
          have x1 := cell_at kx.out 1
          have x2 := cell_at kx.out 2
          have xl := lt_of_heap kx.out
          cases bm with
          | false =>
            have hEv : E = 9 := by
              have := hstep2.out
              rw [if_neg (of_decide_eq_false hbm.out.symm)] at this
              simpa using this.symm
            subst hEv
            go_wp2_with fail
            go_ret
            exact ⟨rfl, hs5.out.same (by repeat (first | exact Fr.refl _ _ | apply Fr.alloc | apply Fr.drewN | apply Fr.drew | apply Fr.undrew | apply Fr.undrewN))⟩
          | true =>
            have hstep3 := hstep2.out
            rw [if_pos (of_decide_eq_true hbm.out.symm), if_neg (by simp)] at hstep3
            by_cases hk0 : 0 < k
            · obtain ⟨k', rfl⟩ : ∃ k', k = k' + 1 := ⟨k - 1, by omega⟩
              obtain ⟨y0, y1, y2, yl⟩ := hord.out (by omega) w3 hs5.out
              simp only [Nat.add_sub_cancel] at y0 y1 y2 hstep3
              have hkk2 : ((k' : Int) + 1 - 1) = (k' : Int) := by omega
              have hkk3 : IntKind.i64.wrap (k' : Int) = (k' : Int) := IntWalk.i64_in _ (by omega)
              have hkk4 : (0 : Int) ≤ k' := by omega
              have hkk5 : (k' : Int) < qE := by omega
              have hkk6 : (0 : Int) < (k' : Int) + 1 := by omega
              have hkk5n : k' + 1 < qE := by omega
              have hq9 : qE ≤ 1000 := z3
              by_cases c1 : f < f'
              · have hEv : E = 5 := by rw [← hstep3, if_pos ⟨by omega, .inl c1⟩]
                subst hEv
                replace hstep3 := Lib.hid hstep3
                go_upto_region 19 with fail
                refine rc_lt (t := 0) rfl rfl rfl rfl x0 x1 xl b3 bl y0 y1 yl hkk5n hq9 c1 ?_
                intro F w4 s9 hf
                have hs9 := hs5.out.same s9
                have hs10 := hs6.out.same s9
                clear s9
                replace hs9 := Lib.hid hs9; replace hs10 := Lib.hid hs10
                simp only [fillF, Nat.reduceAdd, hf, List.setIfInBounds_toArray, List.set_cons_zero, List.set_cons_succ]
                go_wp2_with fail
                go_ret
                exact ⟨rfl, hs9.out.same (by repeat (first | exact Fr.refl _ _ | apply Fr.alloc | apply Fr.drewN | apply Fr.drew | apply Fr.undrew | apply Fr.undrewN))⟩
              have c1' : (f < f') = False := by simpa using c1
              by_cases c2 : f = f'
              · subst c2
                by_cases c3 : e ≤ e'
                · have hEv : E = 5 := by rw [← hstep3, if_pos ⟨by omega, .inr ⟨rfl, c3⟩⟩]
                  subst hEv
                  replace hstep3 := Lib.hid hstep3
                  go_upto_region 19 with fail
                  refine rc_eq (t := 0) rfl rfl rfl rfl x0 x1 xl b3 bl y0 y1 yl hkk5n hq9 rfl ?_
                  intro F w4 s9 hf
                  have hs9 := hs5.out.same s9
                  have hs10 := hs6.out.same s9
                  clear s9
                  replace hs9 := Lib.hid hs9; replace hs10 := Lib.hid hs10
                  simp only [fillF, Nat.reduceAdd, hf, List.setIfInBounds_toArray, List.set_cons_zero, List.set_cons_succ]
                  rw [decide_eq_true (show e ≤ e' by omega)]
                  go_wp2_with fail
                  go_ret
                  exact ⟨rfl, hs9.out.same (by repeat (first | exact Fr.refl _ _ | apply Fr.alloc | apply Fr.drewN | apply Fr.drew | apply Fr.undrew | apply Fr.undrewN))⟩
                · have c3' : (e ≤ e') = False := by simpa using c3
                  rw [if_neg (fun h => by rcases h.2 with h | h; exact c1 h; exact c3 h.2)] at hstep3
                  replace hstep3 := Lib.hid hstep3
                  go_upto_region 19 with fail
                  refine rc_eq (t := 0) rfl rfl rfl rfl x0 x1 xl b3 bl y0 y1 yl hkk5n hq9 rfl ?_
                  intro F w4 s9 hf
                  have hs9 := hs5.out.same s9
                  have hs10 := hs6.out.same s9
                  clear s9
                  replace hs9 := Lib.hid hs9; replace hs10 := Lib.hid hs10
                  simp only [fillF, Nat.reduceAdd, hf, List.setIfInBounds_toArray, List.set_cons_zero, List.set_cons_succ]
                  rw [decide_eq_false (show ¬ e ≤ e' by omega)]
                  go_wp2_with fail
                  go_roundw
                  case rel => exact ⟨k' + 1 + 1, by go_num, by omega, hstep3.out, hs10.out.same (by repeat (first | exact Fr.refl _ _ | apply Fr.alloc | apply Fr.drewN | apply Fr.drew | apply Fr.undrew | apply Fr.undrewN))⟩
                  case measure => simp [intOf]; omega
              · have c2' : (f == f') = false := by simpa using c2
                have cgt : f' < f := by omega
                rw [if_neg (fun h => by rcases h.2 with h | h; exact c1 h; exact c2 h.1)] at hstep3
                replace hstep3 := Lib.hid hstep3
                go_upto_region 19 with fail
                refine rc_gt (t := 0) rfl rfl rfl rfl x0 x1 xl b3 bl y0 y1 yl hkk5n hq9 cgt ?_
                intro F w4 s9 hf
                have hs9 := hs5.out.same s9
                have hs10 := hs6.out.same s9
                clear s9
                replace hs9 := Lib.hid hs9; replace hs10 := Lib.hid hs10
                simp only [fillF, Nat.reduceAdd, hf, List.setIfInBounds_toArray, List.set_cons_zero, List.set_cons_succ]
                go_wp2_with fail
                go_roundw
                case rel => exact ⟨k' + 1 + 1, by go_num, by omega, hstep3.out, hs10.out.same (by repeat (first | exact Fr.refl _ _ | apply Fr.alloc | apply Fr.drewN | apply Fr.drew | apply Fr.undrew | apply Fr.undrewN))⟩
                case measure => simp [intOf]; omega
            · have c4' : (0 < k) = False := by simpa using hk0
              rw [if_neg (c := 0 < k ∧ _) (by omega)] at hstep3
              replace hstep3 := Lib.hid hstep3; replace hk0 := Lib.hid hk0
              go_upto_region 19 with fail
              refine rc_0 (bb := 0) rfl rfl rfl rfl c4' ?_
              intro F w4 s9 hf
              have hs9 := hs5.out.same s9
              have hs10 := hs6.out.same s9
              clear s9
              replace hs9 := Lib.hid hs9; replace hs10 := Lib.hid hs10
              simp only [fillF, Nat.reduceAdd, hf, List.setIfInBounds_toArray, List.set_cons_zero, List.set_cons_succ]
              go_wp2_with fail
              go_roundw
              case rel => exact ⟨k + 1, by go_num, by omega, hstep3.out, hs10.out.same (by repeat (first | exact Fr.refl _ _ | apply Fr.alloc | apply Fr.drewN | apply Fr.drew | apply Fr.undrew | apply Fr.undrewN))⟩
              case measure => simp [intOf]; omega
        · have hkq : k = qE := by omega
          subst hkq
          rw [Nat.sub_self, egErr] at hrE
          subst hrE
          replace hs1 := Lib.hid hs1; replace hs2 := Lib.hid hs2
          go_wp2_with fail
          go_ret
          exact ⟨rfl, hs2.out.same (by repeat (first | exact Fr.refl _ _ | apply Fr.alloc | apply Fr.drewN | apply Fr.drew | apply Fr.undrew | apply Fr.undrewN))⟩
    · have hE'' : E = E2 := by rw [hE'.out, if_pos h4]
      subst hE''
      have h4' : (E == 0) = false := by simpa using h4
      replace h4 := Lib.hid h4
      go_wp2_with fail
      go_ret
      exact ⟨rfl, hs2.out.same (by repeat (first | exact Fr.refl _ _ | apply Fr.alloc | apply Fr.drewN | apply Fr.drew | apply Fr.undrew | apply Fr.undrewN))⟩
  · have hE'' : E = E1 := by rw [hE.out, if_pos h1]
    subst hE''
    have h1' : (E == 0) = false := by simpa using h1
    replace h1 := Lib.hid h1
    go_wp2_with fail
    go_ret
    exact ⟨rfl, hs1.out.same (by repeat (first | exact Fr.refl _ _ | apply Fr.alloc | apply Fr.drewN | apply Fr.drew | apply Fr.undrew | apply Fr.undrewN))⟩
end Go.Proofs.YtcdkklddingfpaaGreat
