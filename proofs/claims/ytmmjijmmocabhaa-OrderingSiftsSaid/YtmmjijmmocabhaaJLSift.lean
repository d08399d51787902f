/- OrderingSifts walked. -/
import Derived.Test.YtmmjijmmocabhaaJLMade
import Derived.Test.YtmmjijmmocabhaaJF5
namespace Go.Proofs.Ytmmjijmmocabhaa
open Go.RowKit
set_option linter.unusedVariables false
set_option linter.unusedSimpArgs false

set_option maxRecDepth 100000 in
set_option maxHeartbeats 8000000 in
theorem sifts_far (f : Fn5) (w : World) (h4 : 4 < f.n) : Calls Try.prog 9 #[f.val] w fun e w' => e = .returned (.bool true) ∧ Same w w' := by
  have KN := fun W => known_any W
  have SZ := fun W => size_any f W
  have OR := fun W => order_any f W
  have TB := fun W => otable_any f.n f.b W f.n5 f.hb.1 f.hb.2
  have MA := fun W => made_any f.n f.b W f.n5 f.hb.1 f.hb.2
  obtain ⟨a1, a2, a3, a4, a5, ho⟩ := fn_cells f
  have hn5 := f.n5
  have hI := ordL_ord f (k := f.n) (by omega)
  obtain ⟨o, hod⟩ : ∃ o, o = ordL f f.n := ⟨_, rfl⟩
  rw [← hod] at OR hI
  obtain ⟨n, hn⟩ : ∃ n, n = f.n := ⟨_, rfl⟩
  rw [← hn] at hn5 hI TB MA OR
  unfold Fn5.val at SZ OR ⊢
  rw [ho] at SZ OR ⊢
  simp only [List.map_cons, List.map_nil, List.append_toArray, List.cons_append, List.nil_append, ← hn] at SZ OR ⊢
  generalize f.v = v at *
  generalize f.b = bb at *
  obtain ⟨t, htd⟩ : ∃ t, t = tblF n bb := ⟨_, rfl⟩
  have htl := tblF_len n bb
  rw [← htd] at TB MA htl
  obtain ⟨m, hm⟩ : ∃ m, m = 2 ^ n := ⟨_, rfl⟩
  rw [← hm] at TB htl
  have PM := fun (x : List Int) (hx : IsOrd n x) W aT cT aO cO (hT : RowAt W (.slice aT m cT) m (boolCells t)) (hO : RowAt W (.slice aO n cO) n (intCells x)) => permuted_any n t x aT aO cT cO m W hn5 hm htl hx hT hO
  have ND := fun (x : List Int) W b (hB : BoolsAt W b (permT x n t)) => perm_nodes n t x b m W hn5 hm hB
  have LS := fun (x : List Int) (hx : IsOrd n x) W aT cT aO cO (hT : RowAt W (.slice aT m cT) m (boolCells t)) (hO : RowAt W (.slice aO n cO) n (intCells x)) => lsift_any n t x aT aO cT cO m W hn5 hm htl hx hT hO
  rw [← hn] at h4
  have h4' : (4 : Int) < n := by omega
  replace KN := Lib.hid KN; replace SZ := Lib.hid SZ; replace OR := Lib.hid OR; replace TB := Lib.hid TB; replace MA := Lib.hid MA; replace PM := Lib.hid PM; replace ND := Lib.hid ND; replace LS := Lib.hid LS; replace ho := Lib.hid ho; replace hI := Lib.hid hI; replace hn := Lib.hid hn; replace hm := Lib.hid hm; replace hod := Lib.hid hod; replace htd := Lib.hid htd; replace htl := Lib.hid htl
  go_enter Try.func9, Try.ntmps9
  go_wp2_with fail
  have kb := heap_new w (.cells #[.int .u8 v, .int .u32 bb, .int .u8 a1, .int .u8 a2, .int .u8 a3, .int .u8 a4, .int .u8 a5] 38)
  refine (KN.out _).mono ?_
  rintro e w1 ⟨rfl, hs1⟩
  replace kb := Lib.hid (hs1.at kb id)
  have hs1 : Same w w1 := (show Same w _ from (by repeat (first | exact Fr.refl _ _ | apply Fr.alloc | apply Fr.drewN | apply Fr.drew | apply Fr.undrew | apply Fr.undrewN))).same hs1
  replace hs1 := Lib.hid hs1
  have e0 := cell_at kb.out 0
  have e1 := cell_at kb.out 1
  have e2 := cell_at kb.out 2
  have e3 := cell_at kb.out 3
  have e4 := cell_at kb.out 4
  have e5 := cell_at kb.out 5
  have e6 := cell_at kb.out 6
  have el := lt_of_heap kb.out
  go_wp2_with fail
  refine (SZ.out _).mono ?_
  rintro e w2 ⟨rfl, hs2⟩
  clear e0 e1 e2 e3 e4 e5 e6 el
  replace kb := Lib.hid (hs2.at kb.out id)
  have hs2 := hs1.out.same hs2
  replace hs2 := Lib.hid hs2
  go_wp2_with fail
  refine (KN.out _).mono ?_
  rintro e w3 ⟨rfl, hs3⟩
  have hs3 := hs2.out.same hs3
  replace hs3 := Lib.hid hs3
  go_wp2_with fail
  go_ret
  exact ⟨rfl, hs3.out⟩

set_option maxRecDepth 100000 in
set_option maxHeartbeats 8000000 in
theorem sifts_near (f : Fn5) (w : World) (h4 : ¬ 4 < f.n) : Calls Try.prog 9 #[f.val] w fun e w' => e = .returned (.bool true) ∧ Same w w' := by
  have KN := fun W => known_any W
  have SZ := fun W => size_any f W
  have OR := fun W => order_any f W
  have TB := fun W => otable_any f.n f.b W f.n5 f.hb.1 f.hb.2
  have MA := fun W => made_any f.n f.b W f.n5 f.hb.1 f.hb.2
  obtain ⟨a1, a2, a3, a4, a5, ho⟩ := fn_cells f
  have hn5 := f.n5
  have hI := ordL_ord f (k := f.n) (by omega)
  obtain ⟨o, hod⟩ : ∃ o, o = ordL f f.n := ⟨_, rfl⟩
  rw [← hod] at OR hI
  obtain ⟨n, hn⟩ : ∃ n, n = f.n := ⟨_, rfl⟩
  rw [← hn] at hn5 hI TB MA OR
  unfold Fn5.val at SZ OR ⊢
  rw [ho] at SZ OR ⊢
  simp only [List.map_cons, List.map_nil, List.append_toArray, List.cons_append, List.nil_append, ← hn] at SZ OR ⊢
  generalize f.v = v at *
  generalize f.b = bb at *
  obtain ⟨t, htd⟩ : ∃ t, t = tblF n bb := ⟨_, rfl⟩
  have htl := tblF_len n bb
  rw [← htd] at TB MA htl
  obtain ⟨m, hm⟩ : ∃ m, m = 2 ^ n := ⟨_, rfl⟩
  rw [← hm] at TB htl
  have PM := fun (x : List Int) (hx : IsOrd n x) W aT cT aO cO (hT : RowAt W (.slice aT m cT) m (boolCells t)) (hO : RowAt W (.slice aO n cO) n (intCells x)) => permuted_any n t x aT aO cT cO m W hn5 hm htl hx hT hO
  have ND := fun (x : List Int) W b (hB : BoolsAt W b (permT x n t)) => perm_nodes n t x b m W hn5 hm hB
  have LS := fun (x : List Int) (hx : IsOrd n x) W aT cT aO cO (hT : RowAt W (.slice aT m cT) m (boolCells t)) (hO : RowAt W (.slice aO n cO) n (intCells x)) => lsift_any n t x aT aO cT cO m W hn5 hm htl hx hT hO
  rw [← hn] at h4
  have h4' : ¬ (4 : Int) < n := by omega
  have hS := siftF_ord (t := t) hI
  have hE : ∀ p bf, impF n t (bf.toNat + 1) p bf = impE n t o → bf ≤ szF n t (siftF n t p) → siftF n t p = impE n t o := fun p bf h hb => by rw [← h, impF, if_pos hb]
  replace KN := Lib.hid KN; replace SZ := Lib.hid SZ; replace OR := Lib.hid OR; replace TB := Lib.hid TB; replace MA := Lib.hid MA; replace PM := Lib.hid PM; replace ND := Lib.hid ND; replace LS := Lib.hid LS; replace ho := Lib.hid ho; replace hI := Lib.hid hI; replace hn := Lib.hid hn; replace hm := Lib.hid hm; replace hod := Lib.hid hod; replace htd := Lib.hid htd; replace htl := Lib.hid htl; replace hS := Lib.hid hS; replace hE := Lib.hid hE
  go_enter Try.func9, Try.ntmps9
  go_wp2_with fail
  have kb := heap_new w (.cells #[.int .u8 v, .int .u32 bb, .int .u8 a1, .int .u8 a2, .int .u8 a3, .int .u8 a4, .int .u8 a5] 38)
  refine (KN.out _).mono ?_
  rintro e w1 ⟨rfl, hs1⟩
  replace kb := Lib.hid (hs1.at kb id)
  have hs1 : Same w w1 := (show Same w _ from (by repeat (first | exact Fr.refl _ _ | apply Fr.alloc | apply Fr.drewN | apply Fr.drew | apply Fr.undrew | apply Fr.undrewN))).same hs1
  replace hs1 := Lib.hid hs1
  have e0 := cell_at kb.out 0
  have e1 := cell_at kb.out 1
  have e2 := cell_at kb.out 2
  have e3 := cell_at kb.out 3
  have e4 := cell_at kb.out 4
  have e5 := cell_at kb.out 5
  have e6 := cell_at kb.out 6
  have el := lt_of_heap kb.out
  go_wp2_with fail
  refine (SZ.out _).mono ?_
  rintro e w2 ⟨rfl, hs2⟩
  clear e0 e1 e2 e3 e4 e5 e6 el
  replace kb := Lib.hid (hs2.at kb.out id)
  have hs2 := hs1.out.same hs2
  replace hs2 := Lib.hid hs2
  go_upto_region 3 with fail
  have e0 := cell_at kb.out 0
  have e1 := cell_at kb.out 1
  have e2 := cell_at kb.out 2
  have e3 := cell_at kb.out 3
  have e4 := cell_at kb.out 4
  have e5 := cell_at kb.out 5
  have e6 := cell_at kb.out 6
  have el := lt_of_heap kb.out
  refine wp_region_sched (fun k => k = w.heap.size) [1, 2, 0, 1, 3, 0] [2, 0, 3, 1, 4, 5] (by kernel_rfl) (by kernel_rfl) ?_
  repeat (first | (refine sched_w rfl rfl (fun _ hK => ?_); go_simp; refine hK _ ?_; clear hK) | (refine sched_s rfl rfl (fun _ hK => ?_); go_simp; first | (refine hK _ ?_; clear hK) | (refine ⟨_, fun _ => rfl, hK _ ?_⟩; clear hK)))
  refine sched_g rfl rfl (fun _ hK => ?_)
  go_simp
  refine (SZ.out _).mono ?_
  rintro e w3 ⟨rfl, hs3⟩
  refine hK _ _ (Kp.of_same hs3) ?_
  clear hK
  (try simp only [Act.put, List.setIfInBounds_toArray, List.set_cons_zero, List.set_cons_succ])
  clear e0 e1 e2 e3 e4 e5 e6 el
  replace hs3 := (show Same w2 _ from (by repeat (first | exact Fr.refl _ _ | apply Fr.undrew | apply Fr.undrewN | apply Fr.drew | apply Fr.drewN | apply Fr.alloc))).same hs3
  replace kb := Lib.hid (hs3.at kb.out id)
  have hs3 := hs2.out.same hs3
  replace hs3 := Lib.hid hs3
  refine sched_l rfl (by decide) (fun _ hK => ?_); go_simp
  refine (TB.out _).mono ?_
  rintro e w4 ⟨aT, cT, rfl, hT, hs4⟩
  refine hK _ _ ?_; clear hK; try simp only [Act.put, List.setIfInBounds_toArray, List.set_cons_zero, List.set_cons_succ]
  replace kb := Lib.hid (hs4.at kb.out id)
  replace hT := Lib.hid (SliceAt.of_owns hT).row
  have hs4 := hs3.out.same hs4
  replace hs4 := Lib.hid hs4
  repeat (first | (refine sched_w rfl rfl (fun _ hK => ?_); go_simp; refine hK _ ?_; clear hK) | (refine sched_s rfl rfl (fun _ hK => ?_); go_simp; first | (refine hK _ ?_; clear hK) | (refine ⟨_, fun _ => rfl, hK _ ?_⟩; clear hK)))
  refine sched_nil (NoPanic.normal ?_)
  go_upto_region 4 with fail
  refine madeSifts_run (t := t) rfl rfl kb.out (fun W => SZ.out W) (fun W => MA.out W) ?_
  intro f w5 b5 hf5 hBX
  obtain ⟨⟨d, hd, hdt, kd⟩, hs5⟩ := hBX
  simp only [fillF, Nat.reduceAdd, hf5, List.setIfInBounds_toArray, List.set_cons_zero, List.set_cons_succ]
  replace kb := Lib.hid (hs5.at kb.out id)
  replace hT := Lib.hid (hT.out.same hs5)
  have hs5 := hs4.out.same hs5
  replace hs5 := Lib.hid hs5; replace kd := Lib.hid kd; replace hd := Lib.hid hd; replace hdt := Lib.hid hdt
  go_upto_region 5 with fail
  have e0 := cell_at kb.out 0
  have e1 := cell_at kb.out 1
  have e2 := cell_at kb.out 2
  have e3 := cell_at kb.out 3
  have e4 := cell_at kb.out 4
  have e5 := cell_at kb.out 5
  have e6 := cell_at kb.out 6
  have el := lt_of_heap kb.out
  have k0 := cell_at kd.out 0
  have k1 := cell_at kd.out 1
  have k2 := cell_at kd.out 2
  have kl := lt_of_heap kd.out
  refine wp_region_sched (fun k => k = w.heap.size ∨ k = b5) [1, 1, 2, 3, 0, 0, 0, 0, 0, 0, 0] [0, 1, 2, 3, 4, 5, 6, 7, 8, 9, 10] (by kernel_rfl) (by kernel_rfl) ?_
  repeat (first | (refine sched_w rfl rfl (fun _ hK => ?_); go_simp; refine hK _ ?_; clear hK) | (refine sched_s rfl rfl (fun _ hK => ?_); go_simp; first | (refine hK _ ?_; clear hK) | (refine ⟨_, fun _ => rfl, hK _ ?_⟩; clear hK)))
  refine sched_g rfl rfl (fun _ hK => ?_)
  go_simp
  refine (OR.out _).mono ?_
  rintro e w6 ⟨ao, co, rfl, hO, hs6⟩
  refine hK _ _ (Kp.of_same hs6) ?_
  clear hK
  (try simp only [Act.put, List.setIfInBounds_toArray, List.set_cons_zero, List.set_cons_succ])
  clear e0 e1 e2 e3 e4 e5 e6 el
  clear k0 k1 k2 kl
  replace hO := Lib.hid (SliceAt.of_owns hO).row
  replace hs6 := (show Same w5 _ from (by repeat (first | exact Fr.refl _ _ | apply Fr.undrew | apply Fr.undrewN | apply Fr.drew | apply Fr.drewN | apply Fr.alloc))).same hs6
  replace hd := Lib.hid (hd.out.same hs6); replace hT := Lib.hid (hT.out.same hs6); replace kb := Lib.hid (hs6.at kb.out id); replace kd := Lib.hid (hs6.at kd.out id)
  have hs6 := hs5.out.same hs6
  replace hs6 := Lib.hid hs6
  refine sched_l rfl (by decide) (fun _ hK => ?_); go_simp
  refine (Sift_dg (by omega) hI.out _ _ _ hd.out hdt.out hO.out).mono ?_
  rintro e w7 ⟨aS, cS, rfl, hP, hs7⟩
  refine hK _ _ ?_; clear hK; try simp only [Act.put, List.setIfInBounds_toArray, List.set_cons_zero, List.set_cons_succ]
  replace hd := Lib.hid (hd.out.same hs7); replace hT := Lib.hid (hT.out.same hs7); replace kb := Lib.hid (hs7.at kb.out id); replace kd := Lib.hid (hs7.at kd.out id)
  have hs7 := hs6.out.same hs7
  clear hO
  replace hs7 := Lib.hid hs7; replace hP := Lib.hid hP
  repeat (first | (refine sched_w rfl rfl (fun _ hK => ?_); go_simp; refine hK _ ?_; clear hK) | (refine sched_s rfl rfl (fun _ hK => ?_); go_simp; first | (refine hK _ ?_; clear hK) | (refine ⟨_, fun _ => rfl, hK _ ?_⟩; clear hK)))
  refine sched_nil (NoPanic.normal ?_)
  go_upto_region 6 with fail
  have e0 := cell_at kb.out 0
  have e1 := cell_at kb.out 1
  have e2 := cell_at kb.out 2
  have e3 := cell_at kb.out 3
  have e4 := cell_at kb.out 4
  have e5 := cell_at kb.out 5
  have e6 := cell_at kb.out 6
  have el := lt_of_heap kb.out
  have k0 := cell_at kd.out 0
  have k1 := cell_at kd.out 1
  have k2 := cell_at kd.out 2
  have kl := lt_of_heap kd.out
  refine wp_region_sched (fun k => k = w.heap.size ∨ k = b5) [1, 1, 2, 3, 0, 0, 0, 0, 0, 0, 0] [0, 1, 2, 3, 4, 5, 6, 7, 8, 9, 10] (by kernel_rfl) (by kernel_rfl) ?_
  repeat (first | (refine sched_w rfl rfl (fun _ hK => ?_); go_simp; refine hK _ ?_; clear hK) | (refine sched_s rfl rfl (fun _ hK => ?_); go_simp; first | (refine hK _ ?_; clear hK) | (refine ⟨_, fun _ => rfl, hK _ ?_⟩; clear hK)))
  refine sched_g rfl rfl (fun _ hK => ?_)
  go_simp
  refine (OR.out _).mono ?_
  rintro e w8 ⟨ao2, co2, rfl, hO, hs8⟩
  refine hK _ _ (Kp.of_same hs8) ?_
  clear hK
  (try simp only [Act.put, List.setIfInBounds_toArray, List.set_cons_zero, List.set_cons_succ])
  clear e0 e1 e2 e3 e4 e5 e6 el
  clear k0 k1 k2 kl
  replace hO := Lib.hid (SliceAt.of_owns hO).row
  replace hs8 := (show Same w7 _ from (by repeat (first | exact Fr.refl _ _ | apply Fr.undrew | apply Fr.undrewN | apply Fr.drew | apply Fr.drewN | apply Fr.alloc))).same hs8
  replace hd := Lib.hid (hd.out.same hs8); replace hT := Lib.hid (hT.out.same hs8); replace hP := Lib.hid (hP.out.same hs8); replace kb := Lib.hid (hs8.at kb.out id); replace kd := Lib.hid (hs8.at kd.out id)
  have hs8 := hs7.out.same hs8
  replace hs8 := Lib.hid hs8
  refine sched_l rfl (by decide) (fun _ hK => ?_); go_simp
  refine (Improve_dg (by omega) hI.out _ _ _ hd.out hdt.out hO.out).mono ?_
  rintro e w9 ⟨ai, ci, rfl, hQ, hs9⟩
  refine hK _ _ ?_; clear hK; try simp only [Act.put, List.setIfInBounds_toArray, List.set_cons_zero, List.set_cons_succ]
  replace hT := Lib.hid (hT.out.same hs9); replace hP := Lib.hid (hP.out.same hs9); replace kb := Lib.hid (hs9.at kb.out id)
  have hs9 := hs8.out.same hs9
  clear hO
  replace hs9 := Lib.hid hs9; replace hQ := Lib.hid hQ
  repeat (first | (refine sched_w rfl rfl (fun _ hK => ?_); go_simp; refine hK _ ?_; clear hK) | (refine sched_s rfl rfl (fun _ hK => ?_); go_simp; first | (refine hK _ ?_; clear hK) | (refine ⟨_, fun _ => rfl, hK _ ?_⟩; clear hK)))
  refine sched_nil (NoPanic.normal ?_)
  have e0 := cell_at kb.out 0
  have e1 := cell_at kb.out 1
  have e2 := cell_at kb.out 2
  have e3 := cell_at kb.out 3
  have e4 := cell_at kb.out 4
  have e5 := cell_at kb.out 5
  have e6 := cell_at kb.out 6
  have el := lt_of_heap kb.out
  go_wp2_with fail
  refine (OR.out _).mono ?_
  rintro e w10 ⟨ao3, co3, rfl, hO, hs10⟩
  clear e0 e1 e2 e3 e4 e5 e6 el
  replace hO := Lib.hid (SliceAt.of_owns hO).row
  replace hT := Lib.hid (hT.out.same hs10); replace hP := Lib.hid (hP.out.same hs10); replace hQ := Lib.hid (hQ.out.same hs10); replace kb := Lib.hid (hs10.at kb.out id)
  have hs10 := hs9.out.same hs10
  replace hs10 := Lib.hid hs10
  go_wp2_with fail
  refine (LS.out o hI.out _ _ _ _ _ hT.out hO.out).mono ?_
  rintro e w11 ⟨aw, cw, rfl, hW, hs11⟩
  replace hT := Lib.hid (hT.out.same hs11); replace hP := Lib.hid (hP.out.same hs11); replace hQ := Lib.hid (hQ.out.same hs11); replace kb := Lib.hid (hs11.at kb.out id)
  have hs11 := hs10.out.same hs11
  clear hO
  replace hs11 := Lib.hid hs11; replace hW := Lib.hid hW
  go_wp2_with fail
  refine (osame_any _ _ _ _ _ _ n n _ hS.out.len hS.out.len hP.out hW.out (by omega)).mono ?_
  rintro e w12 ⟨rfl, hs12⟩
  rw [show decide (siftF n t o = siftF n t o) = true by simp]
  replace hT := Lib.hid (hT.out.same hs12); replace hQ := Lib.hid (hQ.out.same hs12); replace hW := Lib.hid (hW.out.same hs12); replace kb := Lib.hid (hs12.at kb.out id)
  have hs12 := hs11.out.same hs12
  replace hs12 := Lib.hid hs12
  go_wp2_with fail
  refine (PM.out _ hS.out _ _ _ _ _ hT.out hW.out).mono ?_
  rintro e w13 ⟨bp, rfl, _, hB, hs13⟩
  replace hT := Lib.hid (hT.out.same hs13); replace hQ := Lib.hid (hQ.out.same hs13); replace hW := Lib.hid (hW.out.same hs13); replace kb := Lib.hid (hs13.at kb.out id)
  have hs13 := hs12.out.same hs13
  replace hs13 := Lib.hid hs13; replace hB := Lib.hid hB
  go_wp2_with fail
  refine (ND.out _ _ _ hB.out).mono ?_
  rintro e w14 ⟨rfl, hs14⟩
  replace hT := Lib.hid (hT.out.same hs14); replace hQ := Lib.hid (hQ.out.same hs14); replace hW := Lib.hid (hW.out.same hs14); replace kb := Lib.hid (hs14.at kb.out id)
  have hs14 := hs13.out.same hs14
  replace hs14 := Lib.hid hs14
  have e0 := cell_at kb.out 0
  have e1 := cell_at kb.out 1
  have e2 := cell_at kb.out 2
  have e3 := cell_at kb.out 3
  have e4 := cell_at kb.out 4
  have e5 := cell_at kb.out 5
  have e6 := cell_at kb.out 6
  have el := lt_of_heap kb.out
  go_wp2_with fail
  refine (OR.out _).mono ?_
  rintro e w15 ⟨ao4, co4, rfl, hO, hs15⟩
  clear e0 e1 e2 e3 e4 e5 e6 el
  replace hO := Lib.hid (SliceAt.of_owns hO).row
  replace hT := Lib.hid (hT.out.same hs15); replace hQ := Lib.hid (hQ.out.same hs15); replace hW := Lib.hid (hW.out.same hs15); replace kb := Lib.hid (hs15.at kb.out id)
  have hs15 := hs14.out.same hs15
  replace hs15 := Lib.hid hs15
  go_wp2_with fail
  refine (PM.out _ hI.out _ _ _ _ _ hT.out hO.out).mono ?_
  rintro e w16 ⟨bp2, rfl, _, hB2, hs16⟩
  replace hT := Lib.hid (hT.out.same hs16); replace hQ := Lib.hid (hQ.out.same hs16); replace hW := Lib.hid (hW.out.same hs16)
  have hs16 := hs15.out.same hs16
  replace hs16 := Lib.hid hs16; replace hB2 := Lib.hid hB2
  go_wp2_with fail
  refine (ND.out _ _ _ hB2.out).mono ?_
  rintro e w17 ⟨rfl, hs17⟩
  replace hT := Lib.hid (hT.out.same hs17); replace hQ := Lib.hid (hQ.out.same hs17); replace hW := Lib.hid (hW.out.same hs17)
  have hs17 := hs16.out.same hs17
  replace hs17 := Lib.hid hs17
  go_wp2_with fail
  clear hs1 hs2 hs3 hs4 hs5 hs6 hs7 hs8 hs9 hs10 hs11 hs12 hs13 hs14 hs15 hs16 hB hB2 hO hP hd hdt kd kb
  go_loopw [11, 12, 13] (fun x b s wr => ∃ (p : List Int) (bf : Int) (ax : Option Addr) (cx : Nat), x = .slice ax n cx ∧ b = .int .i64 bf ∧ s = .int .i64 (szF n t (siftF n t p)) ∧ 0 ≤ bf ∧ IsOrd n p ∧ impF n t (bf.toNat + 1) p bf = impE n t o ∧ RowAt wr (.slice ax n cx) n (intCells (siftF n t p)) ∧ RowAt wr (.slice aT m cT) m (boolCells t) ∧ RowAt wr (.slice ai n ci) n (intCells (impE n t o)) ∧ Same w wr) (fun _ b _ _ => (intOf b).toNat)
  case atStart => exact ⟨o, _, aw, cw, rfl, rfl, rfl, szF_nonneg n t o, hI.out, rfl, hW.out, hT.out, hQ.out, hs17.out⟩
  case round =>
    clear hW hT hQ hs17
    obtain ⟨p, bf, ax, cx, rfl, rfl, rfl, hb0, hp, himp, hX, hT, hQ, hs⟩ := hrel
    have hx := siftF_ord (t := t) hp
    have hst := impF_step n t p bf
    have hen := hE.out p bf himp
    have hz := szF_nonneg n t (siftF n t p)
    have hLS := LS.out _ hx
    have hx2 := siftF_ord (t := t) hx
    generalize siftF n t p = x at *
    obtain ⟨sx, hsx⟩ : ∃ sx, sx = szF n t x := ⟨_, rfl⟩
    rw [← hsx] at hst hen hz ⊢
    by_cases hlt : sx < bf
    · have himp2 := (hst hlt).symm.trans himp
      clear hst hen
      have hPM := PM.out _ hx2
      have hND := ND.out (siftF n t x)
      replace hX := Lib.hid hX; replace hT := Lib.hid hT; replace hQ := Lib.hid hQ; replace hs := Lib.hid hs; replace hp := Lib.hid hp; replace hx := Lib.hid hx; replace hx2 := Lib.hid hx2; replace himp := Lib.hid himp; replace himp2 := Lib.hid himp2; replace hLS := Lib.hid hLS; replace hPM := Lib.hid hPM; replace hND := Lib.hid hND; replace hsx := Lib.hid hsx
      go_wp2_with fail
      refine (hLS.out _ _ _ _ _ hT.out hX.out).mono ?_
      rintro e w18 ⟨ay, cy, rfl, hY, hs18⟩
      replace hT := Lib.hid (hT.out.same hs18); replace hQ := Lib.hid (hQ.out.same hs18)
      have hs18 := hs.out.same hs18
      replace hs18 := Lib.hid hs18; replace hY := Lib.hid hY
      go_wp2_with fail
      refine (hPM.out _ _ _ _ _ hT.out hY.out).mono ?_
      rintro e w19 ⟨bq, rfl, _, hB, hs19⟩
      replace hT := Lib.hid (hT.out.same hs19); replace hQ := Lib.hid (hQ.out.same hs19); replace hY := Lib.hid (hY.out.same hs19)
      have hs19 := hs18.out.same hs19
      replace hs19 := Lib.hid hs19; replace hB := Lib.hid hB
      go_wp2_with fail
      refine (hND.out _ _ hB.out).mono ?_
      rintro e w20 ⟨rfl, hs20⟩
      replace hT := Lib.hid (hT.out.same hs20); replace hQ := Lib.hid (hQ.out.same hs20); replace hY := Lib.hid (hY.out.same hs20)
      have hs20 := hs19.out.same hs20
      replace hs20 := Lib.hid hs20
      go_wp2_with fail
      go_roundw
      case rel => exact ⟨x, sx, ay, cy, rfl, rfl, rfl, hz, hx.out, himp2.out, hY.out, hT.out, hQ.out, hs20.out⟩
      case measure => simp [intOf]; omega
    · have hfin := hen (by omega)
      clear hst hen
      have hsE : szF n t (impE n t o) = sx := by rw [← hfin, hsx]
      rw [← hfin] at hQ
      rw [hsE]
      replace hX := Lib.hid hX; replace hT := Lib.hid hT; replace hQ := Lib.hid hQ; replace hs := Lib.hid hs; replace hp := Lib.hid hp; replace hx := Lib.hid hx; replace hx2 := Lib.hid hx2; replace himp := Lib.hid himp; replace hLS := Lib.hid hLS; replace hfin := Lib.hid hfin; replace hsx := Lib.hid hsx; replace hsE := Lib.hid hsE
      go_wp2_with fail
      refine (osame_any x x _ _ _ _ n n _ hx.out.len hx.out.len hQ.out hX.out (by omega)).mono ?_
      rintro e w18 ⟨rfl, hs18⟩
      rw [show decide (x = x) = true by simp]
      have hs18 := hs.out.same hs18
      replace hs18 := Lib.hid hs18
      go_wp2_with fail
      go_ret
      exact ⟨by simp, hs18.out⟩
theorem orderingSifts_any (f : Fn5) (w : World) : Calls Try.prog 9 #[f.val] w fun e w' => e = .returned (.bool true) ∧ Same w w' := by
  by_cases h4 : 4 < f.n
  · exact sifts_far f w h4
  · exact sifts_near f w h4
end Go.Proofs.Ytmmjijmmocabhaa
