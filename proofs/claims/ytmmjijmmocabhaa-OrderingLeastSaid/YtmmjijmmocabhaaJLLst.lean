/- OrderingLeast walked. -/
import Derived.Test.YtmmjijmmocabhaaJLMade
import Derived.Test.YtmmjijmmocabhaaJF5
import Derived.Test.YtmmjijmmocabhaaJLawV
namespace Go.Proofs.Ytmmjijmmocabhaa
open Go.RowKit
set_option linter.unusedVariables false
set_option linter.unusedSimpArgs false

theorem least_first {n : Nat} {t : List Bool} {L : List (List Int)} (h : 0 < L.length) : leastF n t (L.take 1) = (L[0], szF n t L[0]) := by
  rw [List.take_succ_eq_append_getElem h, List.take_zero, leastF_snoc]
  unfold lstep leastF
  rw [if_pos (.inl (by simp))]
theorem least_next {n : Nat} {t : List Bool} {L : List (List Int)} {j : Nat} {x : List Int} (h : j < L.length) (he : leastF n t (L.take j) = (x, szF n t x)) :
    leastF n t (L.take (j + 1)) = if szF n t L[j] < szF n t x then (L[j], szF n t L[j]) else (x, szF n t x) := by
  have hz := szF_nonneg n t x
  rw [List.take_succ_eq_append_getElem h, leastF_snoc, he]
  unfold lstep
  by_cases hc : szF n t L[j] < szF n t x
  · rw [if_pos (.inr hc), if_pos hc]
  · rw [if_neg (by simp only; omega), if_neg hc]

set_option maxRecDepth 100000 in
set_option maxHeartbeats 8000000 in
theorem least_far (f : Fn5) (w : World) (h4 : 4 < f.n) : Calls Try.prog 8 #[f.val] w fun e w' => e = .returned (.bool true) ∧ Same w w' := by
  have KN := fun W => known_any W
  have SZ := fun W => size_any f W
  have OR := fun W => order_any f W
  have TB := fun W => otable_any f.n f.b W f.n5 f.hb.1 f.hb.2
  have MA := fun W => made_any f.n f.b W f.n5 f.hb.1 f.hb.2
  obtain ⟨a1, a2, a3, a4, a5, ho⟩ := fn_cells f
  have hn5 := f.n5
  have hI := ordL_ord f (k := f.n) (by omega)
  obtain ⟨o, hod⟩ : ∃ o, o = ordL f f.n := ⟨_, rfl⟩
  rw [← hod] at OR hI
  obtain ⟨n, hn⟩ : ∃ n, n = f.n := ⟨_, rfl⟩
  rw [← hn] at hn5 hI TB MA OR
  unfold Fn5.val at SZ OR ⊢
  rw [ho] at SZ OR ⊢
  simp only [List.map_cons, List.map_nil, List.append_toArray, List.cons_append, List.nil_append, ← hn] at SZ OR ⊢
  generalize f.v = v at *
  generalize f.b = bb at *
  obtain ⟨t, htd⟩ : ∃ t, t = tblF n bb := ⟨_, rfl⟩
  have htl := tblF_len n bb
  rw [← htd] at TB MA htl
  obtain ⟨m, hm⟩ : ∃ m, m = 2 ^ n := ⟨_, rfl⟩
  rw [← hm] at TB htl
  have PM := fun (x : List Int) (hx : IsOrd n x) W aT cT aO cO (hT : RowAt W (.slice aT m cT) m (boolCells t)) (hO : RowAt W (.slice aO n cO) n (intCells x)) => permuted_any n t x aT aO cT cO m W hn5 hm htl hx hT hO
  have ND := fun (x : List Int) W b (hB : BoolsAt W b (permT x n t)) => perm_nodes n t x b m W hn5 hm hB
  have LS := fun (x : List Int) (hx : IsOrd n x) W aT cT aO cO (hT : RowAt W (.slice aT m cT) m (boolCells t)) (hO : RowAt W (.slice aO n cO) n (intCells x)) => lsift_any n t x aT aO cT cO m W hn5 hm htl hx hT hO
  rw [← hn] at h4
  have h4' : (4 : Int) < n := by omega
  replace KN := Lib.hid KN; replace SZ := Lib.hid SZ; replace OR := Lib.hid OR; replace TB := Lib.hid TB; replace MA := Lib.hid MA; replace PM := Lib.hid PM; replace ND := Lib.hid ND; replace LS := Lib.hid LS; replace ho := Lib.hid ho; replace hI := Lib.hid hI; replace hn := Lib.hid hn; replace hm := Lib.hid hm; replace hod := Lib.hid hod; replace htd := Lib.hid htd; replace htl := Lib.hid htl
  go_enter Try.func8, Try.ntmps8
  go_wp2_with fail
  have kb := heap_new w (.cells #[.int .u8 v, .int .u32 bb, .int .u8 a1, .int .u8 a2, .int .u8 a3, .int .u8 a4, .int .u8 a5] 38)
  refine (KN.out _).mono ?_
  rintro e w1 ⟨rfl, hs1⟩
  replace kb := Lib.hid (hs1.at kb id)
  have hs1 : Same w w1 := (show Same w _ from (by repeat (first | exact Fr.refl _ _ | apply Fr.alloc | apply Fr.drewN | apply Fr.drew | apply Fr.undrew | apply Fr.undrewN))).same hs1
  replace hs1 := Lib.hid hs1
  have e0 := cell_at kb.out 0
  have e1 := cell_at kb.out 1
  have e2 := cell_at kb.out 2
  have e3 := cell_at kb.out 3
  have e4 := cell_at kb.out 4
  have e5 := cell_at kb.out 5
  have e6 := cell_at kb.out 6
  have el := lt_of_heap kb.out
  go_wp2_with fail
  refine (SZ.out _).mono ?_
  rintro e w2 ⟨rfl, hs2⟩
  clear e0 e1 e2 e3 e4 e5 e6 el
  replace kb := Lib.hid (hs2.at kb.out id)
  have hs2 := hs1.out.same hs2
  replace hs2 := Lib.hid hs2
  go_wp2_with fail
  refine (KN.out _).mono ?_
  rintro e w3 ⟨rfl, hs3⟩
  have hs3 := hs2.out.same hs3
  replace hs3 := Lib.hid hs3
  go_wp2_with fail
  go_ret
  exact ⟨rfl, hs3.out⟩

set_option maxRecDepth 100000 in
set_option maxHeartbeats 8000000 in
theorem least_near (f : Fn5) (w : World) (h4 : ¬ 4 < f.n) : Calls Try.prog 8 #[f.val] w fun e w' => e = .returned (.bool true) ∧ Same w w' := by
  have KN := fun W => known_any W
  have SZ := fun W => size_any f W
  have OR := fun W => order_any f W
  have TB := fun W => otable_any f.n f.b W f.n5 f.hb.1 f.hb.2
  have MA := fun W => made_any f.n f.b W f.n5 f.hb.1 f.hb.2
  obtain ⟨a1, a2, a3, a4, a5, ho⟩ := fn_cells f
  have hn5 := f.n5
  have hI := ordL_ord f (k := f.n) (by omega)
  obtain ⟨o, hod⟩ : ∃ o, o = ordL f f.n := ⟨_, rfl⟩
  rw [← hod] at OR hI
  obtain ⟨n, hn⟩ : ∃ n, n = f.n := ⟨_, rfl⟩
  rw [← hn] at hn5 hI TB MA OR
  unfold Fn5.val at SZ OR ⊢
  rw [ho] at SZ OR ⊢
  simp only [List.map_cons, List.map_nil, List.append_toArray, List.cons_append, List.nil_append, ← hn] at SZ OR ⊢
  generalize f.v = v at *
  generalize f.b = bb at *
  obtain ⟨t, htd⟩ : ∃ t, t = tblF n bb := ⟨_, rfl⟩
  have htl := tblF_len n bb
  rw [← htd] at TB MA htl
  obtain ⟨m, hm⟩ : ∃ m, m = 2 ^ n := ⟨_, rfl⟩
  rw [← hm] at TB htl
  have PM := fun (x : List Int) (hx : IsOrd n x) W aT cT aO cO (hT : RowAt W (.slice aT m cT) m (boolCells t)) (hO : RowAt W (.slice aO n cO) n (intCells x)) => permuted_any n t x aT aO cT cO m W hn5 hm htl hx hT hO
  have ND := fun (x : List Int) W b (hB : BoolsAt W b (permT x n t)) => perm_nodes n t x b m W hn5 hm hB
  have LS := fun (x : List Int) (hx : IsOrd n x) W aT cT aO cO (hT : RowAt W (.slice aT m cT) m (boolCells t)) (hO : RowAt W (.slice aO n cO) n (intCells x)) => lsift_any n t x aT aO cT cO m W hn5 hm htl hx hT hO
  rw [← hn] at h4
  have h4' : ¬ (4 : Int) < n := by omega
  have hEo := impE_ord (t := t) hI
  have hmem := ordsF_all hI
  obtain ⟨i1, i2, i3⟩ := leastF_le (n := n) (t := t) (ordsF n) (fun e => by rw [e] at hmem; simp at hmem)
  have hoo := fun q (hq : q ∈ ordsF n) => ordsF_ord (n := n) (by omega) hq
  have hXo := hoo _ i2
  have hle := i3 _ (ordsF_all hEo)
  obtain ⟨X, hX⟩ : ∃ X, X = (leastF n t (ordsF n)).1 := ⟨_, rfl⟩
  rw [← hX] at hXo i1
  rw [i1] at hle
  have hLF : leastF n t (ordsF n) = (X, szF n t X) := by rw [← i1, hX]
  have hXl := hXo.len
  have LST := fun (d : Dg) W (hd : d.at W) (hT : d.tab n t) => by
    have := Least_dg (show n ≤ 6 by omega) W hd hT
    rw [hLF] at this
    simp only [hXl] at this
    exact this
  have hK : 0 < (ordsF n).length := List.length_pos_of_mem hmem
  obtain ⟨SX, hSX⟩ : ∃ SX, SX = szF n t X := ⟨_, rfl⟩
  obtain ⟨SE, hSE⟩ : ∃ SE, SE = szF n t (impE n t o) := ⟨_, rfl⟩
  have IMP := fun (d : Dg) W ao co (hd : d.at W) (hT : d.tab n t) hO => by
    have := Improve_dg (show n ≤ 10 by omega) hI ao co W hd hT hO
    rw [← hSE] at this
    exact this
  rw [← hSX, ← hSE] at hle
  have LST := fun (d : Dg) W (hd : d.at W) (hT : d.tab n t) => by
    have := LST d W hd hT
    rw [← hSX] at this
    exact this
  clear i1 i2 i3 hmem
  replace KN := Lib.hid KN; replace SZ := Lib.hid SZ; replace OR := Lib.hid OR; replace TB := Lib.hid TB; replace MA := Lib.hid MA; replace PM := Lib.hid PM; replace ND := Lib.hid ND; replace LS := Lib.hid LS; replace ho := Lib.hid ho; replace hI := Lib.hid hI; replace hn := Lib.hid hn; replace hm := Lib.hid hm; replace hod := Lib.hid hod; replace htd := Lib.hid htd; replace htl := Lib.hid htl; replace hEo := Lib.hid hEo; replace hoo := Lib.hid hoo; replace hXo := Lib.hid hXo; replace hX := Lib.hid hX; replace hLF := Lib.hid hLF; replace hXl := Lib.hid hXl; replace LST := Lib.hid LST; replace hK := Lib.hid hK; replace IMP := Lib.hid IMP; replace hSX := Lib.hid hSX; replace hSE := Lib.hid hSE
  go_enter Try.func8, Try.ntmps8
  go_wp2_with fail
  have kb := heap_new w (.cells #[.int .u8 v, .int .u32 bb, .int .u8 a1, .int .u8 a2, .int .u8 a3, .int .u8 a4, .int .u8 a5] 38)
  refine (KN.out _).mono ?_
  rintro e w1 ⟨rfl, hs1⟩
  replace kb := Lib.hid (hs1.at kb id)
  have hs1 : Same w w1 := (show Same w _ from (by repeat (first | exact Fr.refl _ _ | apply Fr.alloc | apply Fr.drewN | apply Fr.drew | apply Fr.undrew | apply Fr.undrewN))).same hs1
  replace hs1 := Lib.hid hs1
  have e0 := cell_at kb.out 0
  have e1 := cell_at kb.out 1
  have e2 := cell_at kb.out 2
  have e3 := cell_at kb.out 3
  have e4 := cell_at kb.out 4
  have e5 := cell_at kb.out 5
  have e6 := cell_at kb.out 6
  have el := lt_of_heap kb.out
  go_wp2_with fail
  refine (SZ.out _).mono ?_
  rintro e w2 ⟨rfl, hs2⟩
  clear e0 e1 e2 e3 e4 e5 e6 el
  replace kb := Lib.hid (hs2.at kb.out id)
  have hs2 := hs1.out.same hs2
  replace hs2 := Lib.hid hs2
  go_upto_region 3 with fail
  have e0 := cell_at kb.out 0
  have e1 := cell_at kb.out 1
  have e2 := cell_at kb.out 2
  have e3 := cell_at kb.out 3
  have e4 := cell_at kb.out 4
  have e5 := cell_at kb.out 5
  have e6 := cell_at kb.out 6
  have el := lt_of_heap kb.out
  refine wp_region_sched (fun k => k = w.heap.size) [1, 2, 0, 1, 3, 0] [2, 0, 3, 1, 4, 5] (by kernel_rfl) (by kernel_rfl) ?_
  repeat (first | (refine sched_w rfl rfl (fun _ hK => ?_); go_simp; refine hK _ ?_; clear hK) | (refine sched_s rfl rfl (fun _ hK => ?_); go_simp; first | (refine hK _ ?_; clear hK) | (refine ⟨_, fun _ => rfl, hK _ ?_⟩; clear hK)))
  refine sched_g rfl rfl (fun _ hK => ?_)
  go_simp
  refine (SZ.out _).mono ?_
  rintro e w3 ⟨rfl, hs3⟩
  refine hK _ _ (Kp.of_same hs3) ?_
  clear hK
  (try simp only [Act.put, List.setIfInBounds_toArray, List.set_cons_zero, List.set_cons_succ])
  clear e0 e1 e2 e3 e4 e5 e6 el
  replace hs3 := (show Same w2 _ from (by repeat (first | exact Fr.refl _ _ | apply Fr.undrew | apply Fr.undrewN | apply Fr.drew | apply Fr.drewN | apply Fr.alloc))).same hs3
  replace kb := Lib.hid (hs3.at kb.out id)
  have hs3 := hs2.out.same hs3
  replace hs3 := Lib.hid hs3
  refine sched_l rfl (by decide) (fun _ hK => ?_); go_simp
  refine (TB.out _).mono ?_
  rintro e w4 ⟨aT, cT, rfl, hT, hs4⟩
  refine hK _ _ ?_; clear hK; try simp only [Act.put, List.setIfInBounds_toArray, List.set_cons_zero, List.set_cons_succ]
  replace kb := Lib.hid (hs4.at kb.out id)
  replace hT := Lib.hid (SliceAt.of_owns hT).row
  have hs4 := hs3.out.same hs4
  replace hs4 := Lib.hid hs4
  repeat (first | (refine sched_w rfl rfl (fun _ hK => ?_); go_simp; refine hK _ ?_; clear hK) | (refine sched_s rfl rfl (fun _ hK => ?_); go_simp; first | (refine hK _ ?_; clear hK) | (refine ⟨_, fun _ => rfl, hK _ ?_⟩; clear hK)))
  refine sched_nil (NoPanic.normal ?_)
  go_upto_region 4 with fail
  refine madeLeast_run (t := t) rfl rfl kb.out (fun W => SZ.out W) (fun W => MA.out W) ?_
  intro f w5 b5 hf5 hBX
  obtain ⟨⟨d, hd, hdt, kd⟩, hs5⟩ := hBX
  simp only [fillF, Nat.reduceAdd, hf5, List.setIfInBounds_toArray, List.set_cons_zero, List.set_cons_succ]
  replace kb := Lib.hid (hs5.at kb.out id)
  replace hT := Lib.hid (hT.out.same hs5)
  have hs5 := hs4.out.same hs5
  replace hs5 := Lib.hid hs5; replace kd := Lib.hid kd; replace hd := Lib.hid hd; replace hdt := Lib.hid hdt
  have k0 := cell_at kd.out 0
  have k1 := cell_at kd.out 1
  have k2 := cell_at kd.out 2
  have kl := lt_of_heap kd.out
  go_wp2_with fail
  refine (LST.out d _ hd.out hdt.out).mono ?_
  rintro e w6 ⟨al, cl, rfl, hP, hs6⟩
  clear k0 k1 k2 kl
  replace hd := Lib.hid (hd.out.same hs6); replace hT := Lib.hid (hT.out.same hs6); replace kb := Lib.hid (hs6.at kb.out id); replace kd := Lib.hid (hs6.at kd.out id)
  have hs6 := hs5.out.same hs6
  replace hs6 := Lib.hid hs6; replace hP := Lib.hid hP
  go_upto_region 6 with fail
  have e0 := cell_at kb.out 0
  have e1 := cell_at kb.out 1
  have e2 := cell_at kb.out 2
  have e3 := cell_at kb.out 3
  have e4 := cell_at kb.out 4
  have e5 := cell_at kb.out 5
  have e6 := cell_at kb.out 6
  have el := lt_of_heap kb.out
  have k0 := cell_at kd.out 0
  have k1 := cell_at kd.out 1
  have k2 := cell_at kd.out 2
  have kl := lt_of_heap kd.out
  refine wp_region_sched (fun k => k = w.heap.size ∨ k = b5) [1, 1, 2, 3, 0, 0, 0, 0, 0, 0, 0] [0, 1, 2, 3, 4, 5, 6, 7, 8, 9, 10] (by kernel_rfl) (by kernel_rfl) ?_
  repeat (first | (refine sched_w rfl rfl (fun _ hK => ?_); go_simp; refine hK _ ?_; clear hK) | (refine sched_s rfl rfl (fun _ hK => ?_); go_simp; first | (refine hK _ ?_; clear hK) | (refine ⟨_, fun _ => rfl, hK _ ?_⟩; clear hK)))
  refine sched_g rfl rfl (fun _ hK => ?_)
  go_simp
  refine (OR.out _).mono ?_
  rintro e w7 ⟨ao, co, rfl, hO, hs7⟩
  refine hK _ _ (Kp.of_same hs7) ?_
  clear hK
  (try simp only [Act.put, List.setIfInBounds_toArray, List.set_cons_zero, List.set_cons_succ])
  clear e0 e1 e2 e3 e4 e5 e6 el
  clear k0 k1 k2 kl
  replace hO := Lib.hid (SliceAt.of_owns hO).row
  replace hs7 := (show Same w6 _ from (by repeat (first | exact Fr.refl _ _ | apply Fr.undrew | apply Fr.undrewN | apply Fr.drew | apply Fr.drewN | apply Fr.alloc))).same hs7
  replace hd := Lib.hid (hd.out.same hs7); replace hT := Lib.hid (hT.out.same hs7); replace hP := Lib.hid (hP.out.same hs7); replace kb := Lib.hid (hs7.at kb.out id); replace kd := Lib.hid (hs7.at kd.out id)
  have hs7 := hs6.out.same hs7
  replace hs7 := Lib.hid hs7
  refine sched_l rfl (by decide) (fun _ hK => ?_); go_simp
  refine (IMP.out d _ _ _ hd.out hdt.out hO.out).mono ?_
  rintro e w8 ⟨ai, ci, rfl, _, hs8⟩
  refine hK _ _ ?_; clear hK; try simp only [Act.put, List.setIfInBounds_toArray, List.set_cons_zero, List.set_cons_succ]
  replace hT := Lib.hid (hT.out.same hs8); replace hP := Lib.hid (hP.out.same hs8); replace kb := Lib.hid (hs8.at kb.out id)
  have hs8 := hs7.out.same hs8
  clear hO
  replace hs8 := Lib.hid hs8
  repeat (first | (refine sched_w rfl rfl (fun _ hK => ?_); go_simp; refine hK _ ?_; clear hK) | (refine sched_s rfl rfl (fun _ hK => ?_); go_simp; first | (refine hK _ ?_; clear hK) | (refine ⟨_, fun _ => rfl, hK _ ?_⟩; clear hK)))
  refine sched_nil (NoPanic.normal ?_)
  have e0 := cell_at kb.out 0
  have e1 := cell_at kb.out 1
  have e2 := cell_at kb.out 2
  have e3 := cell_at kb.out 3
  have e4 := cell_at kb.out 4
  have e5 := cell_at kb.out 5
  have e6 := cell_at kb.out 6
  have el := lt_of_heap kb.out
  go_wp2_with fail
  refine (SZ.out _).mono ?_
  rintro e w9 ⟨rfl, hs9⟩
  clear e0 e1 e2 e3 e4 e5 e6 el
  replace hT := Lib.hid (hT.out.same hs9); replace hP := Lib.hid (hP.out.same hs9)
  have hs9 := hs8.out.same hs9
  replace hs9 := Lib.hid hs9
  go_wp2_with fail
  refine (lorders_any (show n ≤ 5 by omega) _).mono ?_
  rintro e w10 ⟨ag, K, cg, gs, rfl, hG, hgl, hK3, hs10⟩
  replace hT := Lib.hid (hT.out.same hs10); replace hP := Lib.hid (hP.out.same hs10)
  have hs10 := hs9.out.same hs10
  have hKl : gs.length = K := hG.len
  have hLl : (lst gs).length = K := by rw [lst_len, hKl]
  have hoo := hoo.out
  have hK := hK.out
  have hLF := hLF.out
  rw [← hgl] at hoo hK hLF
  have hK0 : 0 < K := by omega
  obtain ⟨b, off, rfl, hbl, c0, hR⟩ := hG.get (show 0 < gs.length by omega)
  have h0o := hoo _ (List.getElem_mem (show 0 < (lst gs).length by omega))
  have h0l := h0o.len
  have hfst := least_first (n := n) (t := t) (L := lst gs) (by omega)
  rw [lst_get gs (show 0 < gs.length by omega)] at h0o h0l hfst
  obtain ⟨y, hy⟩ : ∃ y, y = gs[0].l := ⟨_, rfl⟩
  obtain ⟨ya, hya⟩ : ∃ a, a = gs[0].a := ⟨_, rfl⟩
  obtain ⟨yc, hyc⟩ : ∃ c, c = gs[0].cap := ⟨_, rfl⟩
  rw [h0l, ← hya, ← hyc] at c0 hR
  simp only [Nat.add_zero] at c0
  have hK0i : (0 : Int) < K := by omega
  rw [← hy] at hR h0o hfst
  clear h0l
  replace hs10 := Lib.hid hs10; replace hG := Lib.hid hG; replace hgl := Lib.hid hgl; replace hKl := Lib.hid hKl; replace hLl := Lib.hid hLl; replace hoo := Lib.hid hoo; replace hK := Lib.hid hK; replace hLF := Lib.hid hLF; replace hR := Lib.hid hR; replace h0o := Lib.hid h0o; replace hfst := Lib.hid hfst; replace hy := Lib.hid hy; replace hya := Lib.hid hya; replace hyc := Lib.hid hyc
  go_wp2_with fail
  clear c0 hd hdt kd kb
  go_loopw [12, 55] (fun v i wr => ∃ (j c : Nat) (a : Option Addr) (x : List Int), i = .int .i64 j ∧ j ≤ K ∧ v = .slice a n c ∧ IsOrd n x ∧ (j = 0 → x = y) ∧ (0 < j → leastF n t ((lst gs).take j) = (x, szF n t x)) ∧ RowAt wr (.slice a n c) n (intCells x) ∧ Same w10 wr) (fun _ i _ => K - (intOf i).toNat)
  case atStart => exact ⟨0, yc, ya, y, rfl, by omega, rfl, h0o.out, fun _ => rfl, fun h => by omega, hR.out, (by repeat (first | exact Fr.refl _ _ | apply Fr.alloc | apply Fr.drewN | apply Fr.drew | apply Fr.undrew | apply Fr.undrewN))⟩
  case round =>
    obtain ⟨j, c, a, x, rfl, hj, rfl, hx, hx0, hx1, hxR, hs⟩ := hrel
    by_cases hlt : j < K
    · have hjl : j < gs.length := by rw [hKl.out]; exact hlt
      have hjl2 : j < (lst gs).length := by rw [hLl.out]; exact hlt
      obtain ⟨b2, off2, e2, hbl2, c0, hRp⟩ := (hG.out.same hs).get hjl
      cases e2
      have hpo := hoo.out _ (List.getElem_mem hjl2)
      have hpl := hpo.len
      have hnx := fun (hh : 0 < j) => least_next hjl2 (hx1 hh)
      have hz : j = 0 → (lst gs)[j] = y := fun e => by subst e; rw [lst_get gs hjl, hy.out]
      rw [lst_get gs hjl] at hpo hpl hz
      rw [lst_get gs hjl] at hnx
      have hTr := hT.out.same hs
      generalize gs[j] = g at *
      obtain ⟨pa, pc, p⟩ := g
      simp only at c0 hRp hpo hpl hnx hz
      rw [hpl] at c0 hRp
      have PMp := PM.out p hpo
      have NDp := ND.out p
      have PMx := PM.out x hx
      have NDx := ND.out x
      obtain ⟨sp, hsp⟩ : ∃ s, s = szF n t p := ⟨_, rfl⟩
      obtain ⟨sx, hsx⟩ : ∃ s, s = szF n t x := ⟨_, rfl⟩
      rw [← hsp] at NDp hnx
      rw [← hsx] at NDx hnx
      by_cases hlt2 : sp < sx
      · have hres : leastF n t ((lst gs).take (j + 1)) = (p, szF n t p) := by
          rcases Nat.eq_zero_or_pos j with h0 | h0
          · have e1 := hx0 h0
            have e2 := hz h0
            rw [hsp, hsx, e1, e2] at hlt2
            omega
          · rw [hnx h0, if_pos hlt2, hsp]
        replace hxR := Lib.hid hxR; replace hs := Lib.hid hs; replace hx := Lib.hid hx; replace hx0 := Lib.hid hx0; replace hx1 := Lib.hid hx1; replace hRp := Lib.hid hRp; replace hpo := Lib.hid hpo; replace hpl := Lib.hid hpl; replace hnx := Lib.hid hnx; replace hz := Lib.hid hz; replace hTr := Lib.hid hTr; replace PMp := Lib.hid PMp; replace NDp := Lib.hid NDp; replace PMx := Lib.hid PMx; replace NDx := Lib.hid NDx; replace hsp := Lib.hid hsp; replace hsx := Lib.hid hsx; replace hres := Lib.hid hres
        go_wp2_with fail
        refine (PMp.out _ _ _ _ _ hTr.out hRp.out).mono ?_
        rintro e w11 ⟨b5, rfl, _, hB, hs11⟩
        replace hTr := Lib.hid (hTr.out.same hs11); replace hRp := Lib.hid (hRp.out.same hs11); replace hxR := Lib.hid (hxR.out.same hs11)
        have hs11 := hs.out.same hs11
        replace hs11 := Lib.hid hs11; replace hB := Lib.hid hB
        go_wp2_with fail
        refine (NDp.out _ _ hB.out).mono ?_
        rintro e w12 ⟨rfl, hs12⟩
        replace hTr := Lib.hid (hTr.out.same hs12); replace hRp := Lib.hid (hRp.out.same hs12); replace hxR := Lib.hid (hxR.out.same hs12)
        have hs12 := hs11.out.same hs12
        clear hB
        replace hs12 := Lib.hid hs12
        go_wp2_with fail
        refine (PMx.out _ _ _ _ _ hTr.out hxR.out).mono ?_
        rintro e w13 ⟨b6, rfl, _, hB, hs13⟩
        replace hRp := Lib.hid (hRp.out.same hs13)
        have hs13 := hs12.out.same hs13
        replace hs13 := Lib.hid hs13; replace hB := Lib.hid hB
        go_wp2_with fail
        refine (NDx.out _ _ hB.out).mono ?_
        rintro e w14 ⟨rfl, hs14⟩
        replace hRp := Lib.hid (hRp.out.same hs14)
        have hs14 := hs13.out.same hs14
        replace hs14 := Lib.hid hs14
        go_wp2_with fail
        go_roundw
        case rel => exact ⟨j + 1, pc, pa, p, by go_num, by omega, rfl, hpo.out, fun h => by omega, fun _ => hres.out, hRp.out, hs14.out⟩
        case measure => simp [intOf]; omega
      · have hres : leastF n t ((lst gs).take (j + 1)) = (x, szF n t x) := by
          rcases Nat.eq_zero_or_pos j with h0 | h0
          · subst h0
            rw [hfst.out, hx0 rfl]
          · rw [hnx h0, if_neg hlt2, hsx]
        replace hxR := Lib.hid hxR; replace hs := Lib.hid hs; replace hx := Lib.hid hx; replace hx0 := Lib.hid hx0; replace hx1 := Lib.hid hx1; replace hRp := Lib.hid hRp; replace hpo := Lib.hid hpo; replace hpl := Lib.hid hpl; replace hnx := Lib.hid hnx; replace hz := Lib.hid hz; replace hTr := Lib.hid hTr; replace PMp := Lib.hid PMp; replace NDp := Lib.hid NDp; replace PMx := Lib.hid PMx; replace NDx := Lib.hid NDx; replace hsp := Lib.hid hsp; replace hsx := Lib.hid hsx; replace hres := Lib.hid hres
        go_wp2_with fail
        refine (PMp.out _ _ _ _ _ hTr.out hRp.out).mono ?_
        rintro e w11 ⟨b5, rfl, _, hB, hs11⟩
        replace hTr := Lib.hid (hTr.out.same hs11); replace hRp := Lib.hid (hRp.out.same hs11); replace hxR := Lib.hid (hxR.out.same hs11)
        have hs11 := hs.out.same hs11
        replace hs11 := Lib.hid hs11; replace hB := Lib.hid hB
        go_wp2_with fail
        refine (NDp.out _ _ hB.out).mono ?_
        rintro e w12 ⟨rfl, hs12⟩
        replace hTr := Lib.hid (hTr.out.same hs12); replace hRp := Lib.hid (hRp.out.same hs12); replace hxR := Lib.hid (hxR.out.same hs12)
        have hs12 := hs11.out.same hs12
        clear hB
        replace hs12 := Lib.hid hs12
        go_wp2_with fail
        refine (PMx.out _ _ _ _ _ hTr.out hxR.out).mono ?_
        rintro e w13 ⟨b6, rfl, _, hB, hs13⟩
        replace hxR := Lib.hid (hxR.out.same hs13)
        have hs13 := hs12.out.same hs13
        replace hs13 := Lib.hid hs13; replace hB := Lib.hid hB
        go_wp2_with fail
        refine (NDx.out _ _ hB.out).mono ?_
        rintro e w14 ⟨rfl, hs14⟩
        replace hxR := Lib.hid (hxR.out.same hs14)
        have hs14 := hs13.out.same hs14
        replace hs14 := Lib.hid hs14
        go_wp2_with fail
        go_roundw
        case rel => exact ⟨j + 1, c, a, x, by go_num, by omega, rfl, hx.out, fun h => by omega, fun _ => hres.out, hxR.out, hs14.out⟩
        case measure => simp [intOf]; omega
    · obtain rfl : j = K := by omega
      have hfin := hx1 hK0
      rw [List.take_of_length_le (by rw [hLl.out]; exact Nat.le_refl _), hLF.out] at hfin
      obtain rfl : X = x := (Prod.mk.inj hfin).1
      have hTr := hT.out.same hs
      have hPr := hP.out.same hs
      have PMx := PM.out X hx
      have NDx := ND.out X
      rw [← hSX.out] at NDx
      replace hxR := Lib.hid hxR; replace hs := Lib.hid hs; replace hx := Lib.hid hx; replace hx0 := Lib.hid hx0; replace hx1 := Lib.hid hx1; replace hTr := Lib.hid hTr; replace hPr := Lib.hid hPr; replace PMx := Lib.hid PMx; replace NDx := Lib.hid NDx; replace hfin := Lib.hid hfin
      go_wp2_with fail
      refine (osame_any X X _ _ _ _ n n _ hx.out.len hx.out.len hPr.out hxR.out (by omega)).mono ?_
      rintro e w11 ⟨rfl, hs11⟩
      rw [show decide (X = X) = true by simp]
      replace hTr := Lib.hid (hTr.out.same hs11); replace hxR := Lib.hid (hxR.out.same hs11)
      have hs11 := hs.out.same hs11
      replace hs11 := Lib.hid hs11
      go_wp2_with fail
      refine (PMx.out _ _ _ _ _ hTr.out hxR.out).mono ?_
      rintro e w12 ⟨b6, rfl, _, hB, hs12⟩
      have hs12 := hs11.out.same hs12
      replace hs12 := Lib.hid hs12; replace hB := Lib.hid hB
      go_wp2_with fail
      refine (NDx.out _ _ hB.out).mono ?_
      rintro e w13 ⟨rfl, hs13⟩
      have hs13 := hs10.out.same (hs12.out.same hs13)
      replace hs13 := Lib.hid hs13
      go_wp2_with fail
      go_ret
      exact ⟨by simp, hs13.out⟩
theorem orderingLeast_any (f : Fn5) (w : World) : Calls Try.prog 8 #[f.val] w fun e w' => e = .returned (.bool true) ∧ Same w w' := by
  by_cases h4 : 4 < f.n
  · exact least_far f w h4
  · exact least_near f w h4
end Go.Proofs.Ytmmjijmmocabhaa
