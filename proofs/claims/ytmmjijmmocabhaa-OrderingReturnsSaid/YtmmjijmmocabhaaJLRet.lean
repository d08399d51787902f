/- OrderingReturns walked. -/
import Derived.Test.YtmmjijmmocabhaaJLMade
import Derived.Test.YtmmjijmmocabhaaJF5
import Derived.Test.YtmmjijmmocabhaaJPerQ
import Derived.Test.YtmmjijmmocabhaaJValue
namespace Go.Proofs.Ytmmjijmmocabhaa
open Go.RowKit
set_option linter.unusedVariables false
set_option linter.unusedSimpArgs false

theorem Inverse_ord {n : Nat} {o : List Int} (h : IsOrd n o) (a : Option Addr) (cap : Nat) (w : World) (hO : RowAt w (.slice a n cap) n (intCells o)) :
    Calls Try.prog 31 #[.slice a n cap] w fun e w' => ∃ a c, e = .returned (.tuple #[.slice a n c, .int .i64 0]) ∧ RowAt w' (.slice a n c) n (intCells (invO n o)) ∧ Same w w' := by
  have hl := h.len
  have h40 := h.n40
  have h0 : ordErr o.length o = 0 := ordErr_zero.2 ⟨rfl, by rw [hl]; exact h⟩
  refine (Inverse_any o a cap n w hl hO (by omega)).mono fun e w' hr => ?_
  unfold InvRet at hr
  rw [if_pos h0, hl] at hr
  obtain ⟨a', c, rfl, hI, hs⟩ := hr
  exact ⟨a', c, rfl, (SliceAt.of_owns hI).row, hs⟩

set_option maxRecDepth 100000 in
set_option maxHeartbeats 8000000 in
theorem returns_far (f : Fn5) (w : World) (h4 : 4 < f.n) : Calls Try.prog 11 #[f.val] w fun e w' => e = .returned (.bool true) ∧ Same w w' := by
  have KN := fun W => known_any W
  have SZ := fun W => size_any f W
  have OR := fun W => order_any f W
  have TB := fun W => otable_any f.n f.b W f.n5 f.hb.1 f.hb.2
  have MA := fun W => made_any f.n f.b W f.n5 f.hb.1 f.hb.2
  obtain ⟨a1, a2, a3, a4, a5, ho⟩ := fn_cells f
  have hn5 := f.n5
  have hI := ordL_ord f (k := f.n) (by omega)
  obtain ⟨o, hod⟩ : ∃ o, o = ordL f f.n := ⟨_, rfl⟩
  rw [← hod] at OR hI
  obtain ⟨n, hn⟩ : ∃ n, n = f.n := ⟨_, rfl⟩
  rw [← hn] at hn5 hI TB MA OR
  unfold Fn5.val at SZ OR ⊢
  rw [ho] at SZ OR ⊢
  simp only [List.map_cons, List.map_nil, List.append_toArray, List.cons_append, List.nil_append, ← hn] at SZ OR ⊢
  generalize f.v = v at *
  generalize f.b = bb at *
  obtain ⟨t, htd⟩ : ∃ t, t = tblF n bb := ⟨_, rfl⟩
  have htl := tblF_len n bb
  rw [← htd] at TB MA htl
  obtain ⟨m, hm⟩ : ∃ m, m = 2 ^ n := ⟨_, rfl⟩
  rw [← hm] at TB htl
  have PM := fun (x : List Int) (hx : IsOrd n x) W aT cT aO cO (hT : RowAt W (.slice aT m cT) m (boolCells t)) (hO : RowAt W (.slice aO n cO) n (intCells x)) => permuted_any n t x aT aO cT cO m W hn5 hm htl hx hT hO
  have ND := fun (x : List Int) W b (hB : BoolsAt W b (permT x n t)) => perm_nodes n t x b m W hn5 hm hB
  have LS := fun (x : List Int) (hx : IsOrd n x) W aT cT aO cO (hT : RowAt W (.slice aT m cT) m (boolCells t)) (hO : RowAt W (.slice aO n cO) n (intCells x)) => lsift_any n t x aT aO cT cO m W hn5 hm htl hx hT hO
  rw [← hn] at h4
  have h4' : (4 : Int) < n := by omega
  replace KN := Lib.hid KN; replace SZ := Lib.hid SZ; replace OR := Lib.hid OR; replace TB := Lib.hid TB; replace MA := Lib.hid MA; replace PM := Lib.hid PM; replace ND := Lib.hid ND; replace LS := Lib.hid LS; replace ho := Lib.hid ho; replace hI := Lib.hid hI; replace hn := Lib.hid hn; replace hm := Lib.hid hm; replace hod := Lib.hid hod; replace htd := Lib.hid htd; replace htl := Lib.hid htl
  go_enter Try.func11, Try.ntmps11
  go_wp2_with fail
  have kb := heap_new w (.cells #[.int .u8 v, .int .u32 bb, .int .u8 a1, .int .u8 a2, .int .u8 a3, .int .u8 a4, .int .u8 a5] 38)
  refine (KN.out _).mono ?_
  rintro e w1 ⟨rfl, hs1⟩
  replace kb := Lib.hid (hs1.at kb id)
  have hs1 : Same w w1 := (show Same w _ from (by repeat (first | exact Fr.refl _ _ | apply Fr.alloc | apply Fr.drewN | apply Fr.drew | apply Fr.undrew | apply Fr.undrewN))).same hs1
  replace hs1 := Lib.hid hs1
  have e0 := cell_at kb.out 0
  have e1 := cell_at kb.out 1
  have e2 := cell_at kb.out 2
  have e3 := cell_at kb.out 3
  have e4 := cell_at kb.out 4
  have e5 := cell_at kb.out 5
  have e6 := cell_at kb.out 6
  have el := lt_of_heap kb.out
  go_wp2_with fail
  refine (SZ.out _).mono ?_
  rintro e w2 ⟨rfl, hs2⟩
  clear e0 e1 e2 e3 e4 e5 e6 el
  replace kb := Lib.hid (hs2.at kb.out id)
  have hs2 := hs1.out.same hs2
  replace hs2 := Lib.hid hs2
  go_wp2_with fail
  refine (KN.out _).mono ?_
  rintro e w3 ⟨rfl, hs3⟩
  have hs3 := hs2.out.same hs3
  replace hs3 := Lib.hid hs3
  go_wp2_with fail
  go_ret
  exact ⟨rfl, hs3.out⟩

set_option maxRecDepth 100000 in
set_option maxHeartbeats 8000000 in
theorem returns_near (f : Fn5) (w : World) (h4 : ¬ 4 < f.n) : Calls Try.prog 11 #[f.val] w fun e w' => e = .returned (.bool true) ∧ Same w w' := by
  have KN := fun W => known_any W
  have SZ := fun W => size_any f W
  have OR := fun W => order_any f W
  have TB := fun W => otable_any f.n f.b W f.n5 f.hb.1 f.hb.2
  have MA := fun W => made_any f.n f.b W f.n5 f.hb.1 f.hb.2
  obtain ⟨a1, a2, a3, a4, a5, ho⟩ := fn_cells f
  have hn5 := f.n5
  have hI := ordL_ord f (k := f.n) (by omega)
  obtain ⟨o, hod⟩ : ∃ o, o = ordL f f.n := ⟨_, rfl⟩
  rw [← hod] at OR hI
  obtain ⟨n, hn⟩ : ∃ n, n = f.n := ⟨_, rfl⟩
  rw [← hn] at hn5 hI TB MA OR
  unfold Fn5.val at SZ OR ⊢
  rw [ho] at SZ OR ⊢
  simp only [List.map_cons, List.map_nil, List.append_toArray, List.cons_append, List.nil_append, ← hn] at SZ OR ⊢
  generalize f.v = v at *
  generalize f.b = bb at *
  obtain ⟨t, htd⟩ : ∃ t, t = tblF n bb := ⟨_, rfl⟩
  have htl := tblF_len n bb
  rw [← htd] at TB MA htl
  obtain ⟨m, hm⟩ : ∃ m, m = 2 ^ n := ⟨_, rfl⟩
  rw [← hm] at TB htl
  have PM := fun (x : List Int) (hx : IsOrd n x) W aT cT aO cO (hT : RowAt W (.slice aT m cT) m (boolCells t)) (hO : RowAt W (.slice aO n cO) n (intCells x)) => permuted_any n t x aT aO cT cO m W hn5 hm htl hx hT hO
  have ND := fun (x : List Int) W b (hB : BoolsAt W b (permT x n t)) => perm_nodes n t x b m W hn5 hm hB
  have LS := fun (x : List Int) (hx : IsOrd n x) W aT cT aO cO (hT : RowAt W (.slice aT m cT) m (boolCells t)) (hO : RowAt W (.slice aO n cO) n (intCells x)) => lsift_any n t x aT aO cT cO m W hn5 hm htl hx hT hO
  rw [← hn] at h4
  have h4' : ¬ (4 : Int) < n := by omega
  have hle := siftF_le (t := t) hI
  have hJ := invO_ord hI
  have htl2 : t.length = 2 ^ n := by rw [htl, hm]
  have hinv := permT_inv hI htl2
  have hcnt := permT_count hI htl2
  obtain ⟨S, hS⟩ : ∃ S, S = szF n t o := ⟨_, rfl⟩
  obtain ⟨C, hC⟩ : ∃ C, C = t.count true := ⟨_, rfl⟩
  rw [← hS] at hle
  rw [← hC] at hcnt
  replace KN := Lib.hid KN; replace SZ := Lib.hid SZ; replace OR := Lib.hid OR; replace TB := Lib.hid TB; replace MA := Lib.hid MA; replace PM := Lib.hid PM; replace ND := Lib.hid ND; replace LS := Lib.hid LS; replace ho := Lib.hid ho; replace hI := Lib.hid hI; replace hn := Lib.hid hn; replace hm := Lib.hid hm; replace hod := Lib.hid hod; replace htd := Lib.hid htd; replace htl := Lib.hid htl; replace hle := Lib.hid hle; replace hJ := Lib.hid hJ; replace htl2 := Lib.hid htl2; replace hinv := Lib.hid hinv; replace hcnt := Lib.hid hcnt; replace hS := Lib.hid hS; replace hC := Lib.hid hC
  go_enter Try.func11, Try.ntmps11
  go_wp2_with fail
  have kb := heap_new w (.cells #[.int .u8 v, .int .u32 bb, .int .u8 a1, .int .u8 a2, .int .u8 a3, .int .u8 a4, .int .u8 a5] 38)
  refine (KN.out _).mono ?_
  rintro e w1 ⟨rfl, hs1⟩
  replace kb := Lib.hid (hs1.at kb id)
  have hs1 : Same w w1 := (show Same w _ from (by repeat (first | exact Fr.refl _ _ | apply Fr.alloc | apply Fr.drewN | apply Fr.drew | apply Fr.undrew | apply Fr.undrewN))).same hs1
  replace hs1 := Lib.hid hs1
  have e0 := cell_at kb.out 0
  have e1 := cell_at kb.out 1
  have e2 := cell_at kb.out 2
  have e3 := cell_at kb.out 3
  have e4 := cell_at kb.out 4
  have e5 := cell_at kb.out 5
  have e6 := cell_at kb.out 6
  have el := lt_of_heap kb.out
  go_wp2_with fail
  refine (SZ.out _).mono ?_
  rintro e w2 ⟨rfl, hs2⟩
  clear e0 e1 e2 e3 e4 e5 e6 el
  replace kb := Lib.hid (hs2.at kb.out id)
  have hs2 := hs1.out.same hs2
  replace hs2 := Lib.hid hs2
  go_upto_region 3 with fail
  refine madeReturns_run (t := t) rfl rfl kb.out (fun W => SZ.out W) (fun W => MA.out W) ?_
  intro f w5 b5 hf5 hBX
  obtain ⟨⟨d, hd, hdt, kd⟩, hs5⟩ := hBX
  simp only [fillF, Nat.reduceAdd, hf5, List.setIfInBounds_toArray, List.set_cons_zero, List.set_cons_succ]
  replace kb := Lib.hid (hs5.at kb.out id)
  have hs5 := hs2.out.same hs5
  replace hs5 := Lib.hid hs5; replace kd := Lib.hid kd; replace hd := Lib.hid hd; replace hdt := Lib.hid hdt
  have e0 := cell_at kb.out 0
  have e1 := cell_at kb.out 1
  have e2 := cell_at kb.out 2
  have e3 := cell_at kb.out 3
  have e4 := cell_at kb.out 4
  have e5 := cell_at kb.out 5
  have e6 := cell_at kb.out 6
  have el := lt_of_heap kb.out
  go_wp2_with fail
  refine (OR.out _).mono ?_
  rintro e w6 ⟨ao, co, rfl, hO, hs6⟩
  clear e0 e1 e2 e3 e4 e5 e6 el
  replace hO := Lib.hid (SliceAt.of_owns hO).row
  replace hd := Lib.hid (hd.out.same hs6); replace kd := Lib.hid (hs6.at kd.out id)
  have hs6 := hs5.out.same hs6
  replace hs6 := Lib.hid hs6
  go_wp2_with fail
  refine (Inverse_ord hI.out _ _ _ hO.out).mono ?_
  rintro e w7 ⟨ai, ci, rfl, hV, hs7⟩
  replace hd := Lib.hid (hd.out.same hs7); replace hO := Lib.hid (hO.out.same hs7); replace kd := Lib.hid (hs7.at kd.out id)
  have hs7 := hs6.out.same hs7
  replace hs7 := Lib.hid hs7; replace hV := Lib.hid hV
  have k0 := cell_at kd.out 0
  have k1 := cell_at kd.out 1
  have k2 := cell_at kd.out 2
  have kl := lt_of_heap kd.out
  go_wp2_with fail
  refine (Permute_dg (by omega) hI.out _ _ _ hd.out hdt.out hO.out).mono ?_
  rintro e w8 ⟨g, rfl, hg, hgt, hs8⟩
  clear k0 k1 k2 kl
  replace hd := Lib.hid (hd.out.same hs8); replace hO := Lib.hid (hO.out.same hs8); replace hV := Lib.hid (hV.out.same hs8); replace kd := Lib.hid (hs8.at kd.out id)
  have hs8 := hs7.out.same hs8
  replace hs8 := Lib.hid hs8; replace hg := Lib.hid hg; replace hgt := Lib.hid hgt
  go_upto_region 7 with fail
  have kg := heap_new w8 (.cells #[.int .i64 g.n, .slice g.a g.L.length g.cap, .int .i64 g.r] 45)
  have hsA : Same w8 (w8.alloc (.cells #[.int .i64 g.n, .slice g.a g.L.length g.cap, .int .i64 g.r] 45)) := (Fr.refl _ w8).alloc _
  replace hd := Lib.hid (hd.out.same hsA); replace hO := Lib.hid (hO.out.same hsA); replace hV := Lib.hid (hV.out.same hsA); replace hg := Lib.hid (hg.out.same hsA); replace kd := Lib.hid (hsA.at kd.out id)
  have hs9 := hs8.out.same hsA
  generalize w8.alloc (.cells #[.int .i64 g.n, .slice g.a g.L.length g.cap, .int .i64 g.r] 45) = W8 at *
  generalize w8.heap.size = b8 at *
  clear hsA hs8
  replace kg := Lib.hid kg; replace hs9 := Lib.hid hs9
  have k0 := cell_at kg.out 0
  have k1 := cell_at kg.out 1
  have k2 := cell_at kg.out 2
  have kl := lt_of_heap kg.out
  go_wp2_with fail
  refine (Permute_dg (by omega) hJ.out _ _ _ hg.out hgt.out hV.out).mono ?_
  rintro e w10 ⟨u, rfl, hu, hut, hs10⟩
  clear k0 k1 k2 kl
  rw [hinv.out] at hut
  replace hd := Lib.hid (hd.out.same hs10); replace hO := Lib.hid (hO.out.same hs10); replace hg := Lib.hid (hg.out.same hs10); replace kd := Lib.hid (hs10.at kd.out id); replace kg := Lib.hid (hs10.at kg.out id)
  have hs10 := hs9.out.same hs10
  replace hs10 := Lib.hid hs10; replace hu := Lib.hid hu; replace hut := Lib.hid hut
  go_upto_region 8 with fail
  have ku := heap_new w10 (.cells #[.int .i64 u.n, .slice u.a u.L.length u.cap, .int .i64 u.r] 45)
  have hsA : Same w10 (w10.alloc (.cells #[.int .i64 u.n, .slice u.a u.L.length u.cap, .int .i64 u.r] 45)) := (Fr.refl _ w10).alloc _
  replace hd := Lib.hid (hd.out.same hsA); replace hO := Lib.hid (hO.out.same hsA); replace hg := Lib.hid (hg.out.same hsA); replace hu := Lib.hid (hu.out.same hsA); replace kd := Lib.hid (hsA.at kd.out id); replace kg := Lib.hid (hsA.at kg.out id)
  have hs11 := hs10.out.same hsA
  generalize w10.alloc (.cells #[.int .i64 u.n, .slice u.a u.L.length u.cap, .int .i64 u.r] 45) = W10 at *
  generalize w10.heap.size = b10 at *
  clear hsA hs10
  replace ku := Lib.hid ku; replace hs11 := Lib.hid hs11
  have k0 := cell_at kd.out 0
  have k1 := cell_at kd.out 1
  have k2 := cell_at kd.out 2
  have kl := lt_of_heap kd.out
  go_wp2_with fail
  refine (count_tab d n t _ hd.out hdt.out).mono ?_
  rintro e w12 ⟨rfl, hs12⟩
  rw [← hC.out]
  clear k0 k1 k2 kl
  replace hd := Lib.hid (hd.out.same hs12); replace hO := Lib.hid (hO.out.same hs12); replace hg := Lib.hid (hg.out.same hs12); replace hu := Lib.hid (hu.out.same hs12); replace kd := Lib.hid (hs12.at kd.out id); replace kg := Lib.hid (hs12.at kg.out id); replace ku := Lib.hid (hs12.at ku.out id)
  have hs12 := hs11.out.same hs12
  replace hs12 := Lib.hid hs12
  have k0 := cell_at kg.out 0
  have k1 := cell_at kg.out 1
  have k2 := cell_at kg.out 2
  have kl := lt_of_heap kg.out
  go_wp2_with fail
  refine (count_tab g n _ _ hg.out hgt.out).mono ?_
  rintro e w13 ⟨rfl, hs13⟩
  rw [hcnt.out]
  clear k0 k1 k2 kl
  replace hd := Lib.hid (hd.out.same hs13); replace hO := Lib.hid (hO.out.same hs13); replace hg := Lib.hid (hg.out.same hs13); replace hu := Lib.hid (hu.out.same hs13); replace kd := Lib.hid (hs13.at kd.out id); replace kg := Lib.hid (hs13.at kg.out id); replace ku := Lib.hid (hs13.at ku.out id)
  have hs13 := hs12.out.same hs13
  replace hs13 := Lib.hid hs13
  have k0 := cell_at kd.out 0
  have k1 := cell_at kd.out 1
  have k2 := cell_at kd.out 2
  have kl := lt_of_heap kd.out
  go_wp2_with fail
  refine (Size_dg (by omega) hI.out _ _ _ hd.out hdt.out hO.out).mono ?_
  rintro e w14 ⟨rfl, hs14⟩
  rw [← hS.out]
  clear k0 k1 k2 kl
  replace hd := Lib.hid (hd.out.same hs14); replace hO := Lib.hid (hO.out.same hs14); replace hg := Lib.hid (hg.out.same hs14); replace hu := Lib.hid (hu.out.same hs14); replace kd := Lib.hid (hs14.at kd.out id); replace kg := Lib.hid (hs14.at kg.out id); replace ku := Lib.hid (hs14.at ku.out id)
  have hs14 := hs13.out.same hs14
  replace hs14 := Lib.hid hs14
  have k0 := cell_at kd.out 0
  have k1 := cell_at kd.out 1
  have k2 := cell_at kd.out 2
  have kl := lt_of_heap kd.out
  go_wp2_with fail
  refine (Sift_dg (by omega) hI.out _ _ _ hd.out hdt.out hO.out).mono ?_
  rintro e w15 ⟨aS, cS, rfl, _, hs15⟩
  clear k0 k1 k2 kl
  replace hd := Lib.hid (hd.out.same hs15); replace hg := Lib.hid (hg.out.same hs15); replace hu := Lib.hid (hu.out.same hs15); replace kd := Lib.hid (hs15.at kd.out id); replace kg := Lib.hid (hs15.at kg.out id); replace ku := Lib.hid (hs15.at ku.out id)
  have hs15 := hs14.out.same hs15
  have hle := hle.out
  generalize szF n t (siftF n t o) = S2 at *
  replace hs15 := Lib.hid hs15
  have k0 := cell_at kd.out 0
  have k1 := cell_at kd.out 1
  have k2 := cell_at kd.out 2
  have kl := lt_of_heap kd.out
  have u0 := cell_at ku.out 0
  have u1 := cell_at ku.out 1
  have u2 := cell_at ku.out 2
  have ul := lt_of_heap ku.out
  have q0 := cell_at kg.out 0
  have q1 := cell_at kg.out 1
  have q2 := cell_at kg.out 2
  have ql := lt_of_heap kg.out
  go_wp2_with fail
  refine (equal_dg hu.out hd.out hut.out hdt.out).mono ?_
  rintro e w16 ⟨rfl, hs16⟩
  clear k0 k1 k2 kl
  clear u0 u1 u2 ul
  clear q0 q1 q2 ql
  replace kg := Lib.hid (hs16.at kg.out id)
  have hs16 := hs15.out.same hs16
  replace hs16 := Lib.hid hs16
  have q0 := cell_at kg.out 0
  have q1 := cell_at kg.out 1
  have q2 := cell_at kg.out 2
  have ql := lt_of_heap kg.out
  have hgl := szF_tab hgt.out
  rw [← hS.out] at hgl
  go_wp2_with fail
  go_ret
  exact ⟨by simp, hs16.out⟩
theorem orderingReturns_any (f : Fn5) (w : World) : Calls Try.prog 11 #[f.val] w fun e w' => e = .returned (.bool true) ∧ Same w w' := by
  by_cases h4 : 4 < f.n
  · exact returns_far f w h4
  · exact returns_near f w h4
end Go.Proofs.Ytmmjijmmocabhaa
