/- OrderingPermutes walked. -/
import Derived.Test.YtmmjijmmocabhaaJLMade
import Derived.Test.YtmmjijmmocabhaaJF5
namespace Go.Proofs.Ytmmjijmmocabhaa
open Go.RowKit
set_option linter.unusedVariables false
set_option linter.unusedSimpArgs false

set_option maxRecDepth 100000 in
set_option maxHeartbeats 8000000 in
theorem orderingPermutes_any (f : Fn5) (w : World) : Calls Try.prog 4 #[f.val] w fun e w' => e = .returned (.bool true) ∧ Same w w' := by
  have KN := fun W => known_any W
  have SZ := fun W => size_any f W
  have OR := fun W => order_any f W
  have TB := fun W => otable_any f.n f.b W f.n5 f.hb.1 f.hb.2
  have MA := fun W => made_any f.n f.b W f.n5 f.hb.1 f.hb.2
  obtain ⟨a1, a2, a3, a4, a5, ho⟩ := fn_cells f
  have hn5 := f.n5
  have hI := ordL_ord f (k := f.n) (by omega)
  obtain ⟨o, hod⟩ : ∃ o, o = ordL f f.n := ⟨_, rfl⟩
  rw [← hod] at OR hI
  obtain ⟨n, hn⟩ : ∃ n, n = f.n := ⟨_, rfl⟩
  rw [← hn] at hn5 hI TB MA OR
  unfold Fn5.val at SZ OR ⊢
  rw [ho] at SZ OR ⊢
  simp only [List.map_cons, List.map_nil, List.append_toArray, List.cons_append, List.nil_append, ← hn] at SZ OR ⊢
  generalize f.v = v at *
  generalize f.b = bb at *
  obtain ⟨t, htd⟩ : ∃ t, t = tblF n bb := ⟨_, rfl⟩
  have htl := tblF_len n bb
  rw [← htd] at TB MA htl
  obtain ⟨m, hm⟩ : ∃ m, m = 2 ^ n := ⟨_, rfl⟩
  rw [← hm] at TB htl
  have PM := fun W aT cT aO cO (hT : RowAt W (.slice aT m cT) m (boolCells t)) (hO : RowAt W (.slice aO n cO) n (intCells o)) => permuted_any n t o aT aO cT cO m W hn5 hm htl hI hT hO
  have ND := fun W b (hB : BoolsAt W b (permT o n t)) => perm_nodes n t o b m W hn5 hm hB
  have FT := fun W b (hB : BoolsAt W b (permT o n t)) => from_dg n (permT o n t) (some ⟨b, 0, none⟩) m m W hn5 hm (by rw [permT_length, hm]) (perm_row hn5 hm hB)
  replace KN := Lib.hid KN; replace SZ := Lib.hid SZ; replace OR := Lib.hid OR; replace TB := Lib.hid TB; replace MA := Lib.hid MA; replace PM := Lib.hid PM; replace ND := Lib.hid ND; replace FT := Lib.hid FT; replace ho := Lib.hid ho; replace hI := Lib.hid hI; replace hn := Lib.hid hn; replace hm := Lib.hid hm; replace hod := Lib.hid hod; replace htd := Lib.hid htd; replace htl := Lib.hid htl
  go_enter Try.func4, Try.ntmps4
  go_wp2_with fail
  have kb := heap_new w (.cells #[.int .u8 v, .int .u32 bb, .int .u8 a1, .int .u8 a2, .int .u8 a3, .int .u8 a4, .int .u8 a5] 38)
  refine (KN.out _).mono ?_
  rintro e w1 ⟨rfl, hs1⟩
  have kb1 := hs1.at kb id
  have hs2 : Same w w1 := (show Same w _ from (by repeat (first | exact Fr.refl _ _ | apply Fr.alloc | apply Fr.drewN | apply Fr.drew | apply Fr.undrew | apply Fr.undrewN))).same hs1
  clear kb hs1
  replace hs2 := Lib.hid hs2; replace kb1 := Lib.hid kb1
  have e0 := cell_at kb1.out 0
  have e1 := cell_at kb1.out 1
  have e2 := cell_at kb1.out 2
  have e3 := cell_at kb1.out 3
  have e4 := cell_at kb1.out 4
  have e5 := cell_at kb1.out 5
  have e6 := cell_at kb1.out 6
  have el := lt_of_heap kb1.out
  go_upto_region 3 with fail
  refine wp_region_sched (fun k => k = w.heap.size) [1, 2, 0, 1, 2, 1, 3, 0, 0] [2, 0, 3, 5, 1, 4, 6, 7, 8] (by kernel_rfl) (by kernel_rfl) ?_
  repeat (first | (refine sched_w rfl rfl (fun _ hK => ?_); go_simp; refine hK _ ?_; clear hK) | (refine sched_s rfl rfl (fun _ hK => ?_); go_simp; first | (refine hK _ ?_; clear hK) | (refine ⟨_, fun _ => rfl, hK _ ?_⟩; clear hK)))
  refine sched_g rfl rfl (fun _ hK => ?_)
  go_simp
  refine (SZ.out _).mono ?_
  rintro e w2 ⟨rfl, hs3⟩
  refine hK _ _ (Kp.of_same hs3) ?_
  clear hK
  (try simp only [Act.put, List.setIfInBounds_toArray, List.set_cons_zero, List.set_cons_succ])
  have hs4 : Same w w2 := hs2.out.same ((show Same w1 _ from (by repeat (first | exact Fr.refl _ _ | apply Fr.undrew | apply Fr.undrewN | apply Fr.drew | apply Fr.drewN | apply Fr.alloc))).same hs3)
  have kb2 := ((show Same w1 _ from (by repeat (first | exact Fr.refl _ _ | apply Fr.undrew | apply Fr.undrewN | apply Fr.drew | apply Fr.drewN | apply Fr.alloc))).same hs3).at kb1.out id
  clear hs3
  replace hs4 := Lib.hid hs4; replace kb2 := Lib.hid kb2
  refine sched_g rfl rfl (fun _ hK => ?_)
  go_simp
  refine (TB.out _).mono ?_
  rintro e w3 ⟨aT, cT, rfl, hTo, hs5⟩
  refine hK _ _ (Kp.of_same hs5) ?_
  clear hK
  (try simp only [Act.put, List.setIfInBounds_toArray, List.set_cons_zero, List.set_cons_succ])
  have hs6 := hs4.out.same hs5
  have kb3 := hs5.at kb2.out id
  have hT := (SliceAt.of_owns hTo).row
  clear hs5 hTo
  replace hs6 := Lib.hid hs6; replace kb3 := Lib.hid kb3; replace hT := Lib.hid hT
  refine sched_l rfl (by decide) (fun _ hK => ?_); go_simp
  refine (OR.out _).mono ?_
  rintro e w4 ⟨aO, cO, rfl, hOo, hs7⟩
  refine hK _ _ ?_; clear hK; try simp only [Act.put, List.setIfInBounds_toArray, List.set_cons_zero, List.set_cons_succ]
  have hs8 := hs6.out.same hs7
  have kb4 := hs7.at kb3.out id
  have hT4 := hT.out.same hs7
  have hO := (SliceAt.of_owns hOo).row
  clear hs7 hOo
  replace hs8 := Lib.hid hs8; replace kb4 := Lib.hid kb4; replace hT4 := Lib.hid hT4; replace hO := Lib.hid hO
  repeat (first | (refine sched_w rfl rfl (fun _ hK => ?_); go_simp; refine hK _ ?_; clear hK) | (refine sched_s rfl rfl (fun _ hK => ?_); go_simp; first | (refine hK _ ?_; clear hK) | (refine ⟨_, fun _ => rfl, hK _ ?_⟩; clear hK)))
  refine sched_nil (NoPanic.normal ?_)
  go_upto_region 4 with fail
  refine madePermutes_run (t := t) rfl rfl kb4.out (fun W => SZ.out W) (fun W => MA.out W) ?_
  intro f w5 b5 hf5 hBX
  obtain ⟨⟨d, hd, hdt, kd⟩, hs9⟩ := hBX
  simp only [fillF, Nat.reduceAdd, hf5, List.setIfInBounds_toArray, List.set_cons_zero, List.set_cons_succ]
  clear e0 e1 e2 e3 e4 e5 e6 el
  replace kb4 := Lib.hid (hs9.at kb4.out id)
  replace hT4 := Lib.hid (hT4.out.same hs9)
  replace hO := Lib.hid (hO.out.same hs9)
  have hs9 := hs8.out.same hs9
  clear hs2 hs4 hs6 hs8 kb1 kb2 kb3 hT
  replace hs9 := Lib.hid hs9; replace kd := Lib.hid kd; replace hd := Lib.hid hd; replace hdt := Lib.hid hdt
  have k0 := cell_at kd.out 0
  have k1 := cell_at kd.out 1
  have k2 := cell_at kd.out 2
  have kl := lt_of_heap kd.out
  go_wp2_with fail
  refine (Permute_dg (by omega) hI.out _ _ _ hd.out hdt.out hO.out).mono ?_
  rintro e w6 ⟨g, rfl, hg, hgt, hs10⟩
  clear k0 k1 k2 kl
  replace kb4 := Lib.hid (hs10.at kb4.out id)
  replace kd := Lib.hid (hs10.at kd.out id)
  replace hT4 := Lib.hid (hT4.out.same hs10)
  replace hO := Lib.hid (hO.out.same hs10)
  replace hd := Lib.hid (hd.out.same hs10)
  have hs10 := hs9.out.same hs10
  replace hs10 := Lib.hid hs10; replace hg := Lib.hid hg; replace hgt := Lib.hid hgt
  have k0 := cell_at kd.out 0
  have k1 := cell_at kd.out 1
  have k2 := cell_at kd.out 2
  have kl := lt_of_heap kd.out
  go_upto_region 6 with fail
  have kg := heap_new w6 (.cells #[.int .i64 g.n, .slice g.a g.L.length g.cap, .int .i64 g.r] 45)
  have hsA : Same w6 (w6.alloc (.cells #[.int .i64 g.n, .slice g.a g.L.length g.cap, .int .i64 g.r] 45)) := (Fr.refl _ w6).alloc _
  clear k0 k1 k2 kl
  replace kb4 := Lib.hid (hsA.at kb4.out id)
  replace kd := Lib.hid (hsA.at kd.out id)
  replace hT4 := Lib.hid (hT4.out.same hsA)
  replace hO := Lib.hid (hO.out.same hsA)
  replace hd := Lib.hid (hd.out.same hsA)
  replace hg := Lib.hid (hg.out.same hsA)
  have hs11 := hs10.out.same hsA
  generalize w6.alloc (.cells #[.int .i64 g.n, .slice g.a g.L.length g.cap, .int .i64 g.r] 45) = W6 at *
  generalize w6.heap.size = b6 at *
  clear hsA hs10
  replace kg := Lib.hid kg; replace hs11 := Lib.hid hs11
  have k0 := cell_at kd.out 0
  have k1 := cell_at kd.out 1
  have k2 := cell_at kd.out 2
  have kl := lt_of_heap kd.out
  go_wp2_with fail
  refine (Size_dg (by omega) hI.out _ _ _ hd.out hdt.out hO.out).mono ?_
  rintro e w7 ⟨rfl, hs12⟩
  clear k0 k1 k2 kl
  replace kb4 := Lib.hid (hs12.at kb4.out id)
  replace kd := Lib.hid (hs12.at kd.out id)
  replace kg := Lib.hid (hs12.at kg.out id)
  replace hT4 := Lib.hid (hT4.out.same hs12)
  replace hO := Lib.hid (hO.out.same hs12)
  replace hg := Lib.hid (hg.out.same hs12)
  have hs12 := hs11.out.same hs12
  replace hs12 := Lib.hid hs12
  have e0 := cell_at kb4.out 0
  have e1 := cell_at kb4.out 1
  have e2 := cell_at kb4.out 2
  have e3 := cell_at kb4.out 3
  have e4 := cell_at kb4.out 4
  have e5 := cell_at kb4.out 5
  have e6 := cell_at kb4.out 6
  have el := lt_of_heap kb4.out
  go_wp2_with fail
  refine (SZ.out _).mono ?_
  rintro e w8 ⟨rfl, hs13⟩
  clear e0 e1 e2 e3 e4 e5 e6 el
  replace kg := Lib.hid (hs13.at kg.out id)
  replace hT4 := Lib.hid (hT4.out.same hs13)
  replace hO := Lib.hid (hO.out.same hs13)
  replace hg := Lib.hid (hg.out.same hs13)
  have hs13 := hs12.out.same hs13
  replace hs13 := Lib.hid hs13
  go_wp2_with fail
  refine (PM.out _ _ _ _ _ hT4.out hO.out).mono ?_
  rintro e w9 ⟨bp, rfl, _, hB, hs14⟩
  replace kg := Lib.hid (hs14.at kg.out id)
  replace hT4 := Lib.hid (hT4.out.same hs14)
  replace hO := Lib.hid (hO.out.same hs14)
  replace hg := Lib.hid (hg.out.same hs14)
  have hs14 := hs13.out.same hs14
  replace hs14 := Lib.hid hs14; replace hB := Lib.hid hB
  go_wp2_with fail
  refine (FT.out _ _ hB.out).mono ?_
  rintro e w10 ⟨u, rfl, hu, hut, hs15⟩
  replace kg := Lib.hid (hs15.at kg.out id)
  replace hT4 := Lib.hid (hT4.out.same hs15)
  replace hO := Lib.hid (hO.out.same hs15)
  replace hg := Lib.hid (hg.out.same hs15)
  have hs15 := hs14.out.same hs15
  replace hs15 := Lib.hid hs15; replace hu := Lib.hid hu; replace hut := Lib.hid hut
  go_upto_region 8 with fail
  have ku := heap_new w10 (.cells #[.int .i64 u.n, .slice u.a u.L.length u.cap, .int .i64 u.r] 45)
  have hsA : Same w10 (w10.alloc (.cells #[.int .i64 u.n, .slice u.a u.L.length u.cap, .int .i64 u.r] 45)) := (Fr.refl _ w10).alloc _
  replace kg := Lib.hid (hsA.at kg.out id)
  replace hT4 := Lib.hid (hT4.out.same hsA)
  replace hO := Lib.hid (hO.out.same hsA)
  replace hg := Lib.hid (hg.out.same hsA)
  replace hu := Lib.hid (hu.out.same hsA)
  have hs16 := hs15.out.same hsA
  generalize w10.alloc (.cells #[.int .i64 u.n, .slice u.a u.L.length u.cap, .int .i64 u.r] 45) = W10 at *
  generalize w10.heap.size = b10 at *
  clear hsA hs15
  replace ku := Lib.hid ku; replace hs16 := Lib.hid hs16
  have k0 := cell_at kg.out 0
  have k1 := cell_at kg.out 1
  have k2 := cell_at kg.out 2
  have kl := lt_of_heap kg.out
  have u0 := cell_at ku.out 0
  have u1 := cell_at ku.out 1
  have u2 := cell_at ku.out 2
  have ul := lt_of_heap ku.out
  go_wp2_with fail
  refine (equal_dg hg.out hu.out hgt.out hut.out).mono ?_
  rintro e w11 ⟨rfl, hs17⟩
  replace hT4 := Lib.hid (hT4.out.same hs17)
  replace hO := Lib.hid (hO.out.same hs17)
  have hs17 := hs16.out.same hs17
  clear k0 k1 k2 kl
  clear u0 u1 u2 ul
  replace hs17 := Lib.hid hs17
  go_wp2_with fail
  refine (PM.out _ _ _ _ _ hT4.out hO.out).mono ?_
  rintro e w12 ⟨bq, rfl, _, hB2, hs18⟩
  have hs18 := hs17.out.same hs18
  replace hs18 := Lib.hid hs18; replace hB2 := Lib.hid hB2
  go_wp2_with fail
  refine (ND.out _ _ hB2.out).mono ?_
  rintro e w13 ⟨rfl, hs19⟩
  have hs19 := hs18.out.same hs19
  replace hs19 := Lib.hid hs19
  go_wp2_with fail
  go_ret
  exact ⟨by simp, hs19.out⟩
end Go.Proofs.Ytmmjijmmocabhaa
