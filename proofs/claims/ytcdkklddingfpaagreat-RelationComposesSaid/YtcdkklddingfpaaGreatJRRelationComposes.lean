/- RelationComposes: the given statement. Printed by wip/mkrow.py. RelationComposes walked. Printed by wip/mkrel.py. -/
import Derived.Test.YtcdkklddingfpaaGreatJRlN
import Derived.Test.YtcdkklddingfpaaGreatJRowL
namespace Go.Proofs.YtcdkklddingfpaaGreat
open Go.RowKit
set_option linter.unusedVariables false
set_option linter.unusedSimpArgs false

set_option maxRecDepth 100000 in
set_option maxHeartbeats 16000000 in
theorem rcomposes_any (x : Int) (hx : 0 ≤ x ∧ x ≤ 255) (lk : List Nat) (h40 : lk.length = 40) (hlk : ∀ y ∈ lk, y < 256) (sa : Int) (ha16 : 0 ≤ sa ∧ sa ≤ 65535) (w : World) :
    Calls Tryz.prog 6 #[.int .u8 x, .agg (bytC lk).toArray, .int .u16 sa] w fun e w' => e = .returned (.bool true) ∧ Same w w' := by
  obtain ⟨k, hk⟩ : ∃ k : Nat, k = x.toNat % 13 := ⟨_, rfl⟩
  have hk12 : k ≤ 12 := by omega
  have h1 : x.tmod 13 = (k : Int) := by rw [Int.tmod_eq_emod_of_nonneg hx.1]; omega
  have h2 : IntKind.u8.wrap (k : Int) = k := by unfold IntKind.wrap; simp [IntKind.bits, IntKind.signed]; omega
  have h3 : wrap64 (k : Int) = k := by unfold wrap64; omega
  have h4 : IntKind.i64.wrap (k : Int) = k := IntWalk.i64_in _ (by omega)
  have hkb : k ≤ 2 ^ bitsF k := (bitsF_is (n := k) (by omega)).1
  have hb4 : bitsF k ≤ 4 := (bitsF_is (n := k) (by omega)).bd (by omega)
  have KN := fun W => known_any W
  clear hk hx
  have PR := fun W => lpairs_any (lk.take 20) k W (by rw [List.length_take]; omega) (fun y hy => hlk y (List.mem_of_mem_take hy)) (by omega)
  have PQ := fun W => lpairs_any (lk.drop 20) k W (by rw [List.length_drop]; omega) (fun y hy => hlk y (List.mem_of_mem_drop hy)) (by omega)
  have hP := lkP_lt (lk.take 20) k 10
  have hQ := lkP_lt (lk.drop 20) k 10
  have hPl := lkP_len (lk.take 20) k 10
  have hQl := lkP_len (lk.drop 20) k 10
  generalize lkP (lk.take 20) k 10 = P at *
  generalize lkP (lk.drop 20) k 10 = Q at *
  have hcs : (bytC lk).toArray.size = 40 := by simp [bytC, h40]
  have hr0 := fun (W : World) (b : Nat) (h : W.heap[b]? = some (.cells (bytC lk).toArray 72 (0, 0))) => range_row h 0 20
  have hr1 := fun (W : World) (b : Nat) (h : W.heap[b]? = some (.cells (bytC lk).toArray 72 (0, 0))) => range_row h 20 20
  rw [show ((bytC lk).toArray.toList.drop 0).take 20 = bytC (lk.take 20) by simp [bytC, List.map_take]] at hr0
  rw [show ((bytC lk).toArray.toList.drop 20).take 20 = bytC (lk.drop 20) by simp only [bytC, List.toList_toArray, ← List.map_drop]; exact List.take_of_length_le (by simp; omega)] at hr1
  have hl0 : (bytC (lk.take 20)).length = 20 := by simp [bytC]; omega
  have hl1 : (bytC (lk.drop 20)).length = 20 := by simp [bytC]; omega
  generalize bytC (lk.take 20) = c0 at *
  generalize bytC (lk.drop 20) = c1 at *
  generalize (bytC lk).toArray = cs at *
  clear h40 hlk
  have ME0 := fun W => members_any k sa W (by omega)
  obtain ⟨b, hb⟩ : ∃ b, b = bitsF k := ⟨_, rfl⟩
  rw [← hb] at hkb hb4
  obtain ⟨m, hm⟩ : ∃ m, m = 2 * b := ⟨_, rfl⟩
  have FP := fun a cap W h => fromP (k := k) (by omega) hb P hP a cap W (by omega) h
  have FQ := fun a cap W h => fromP (k := k) (by omega) hb Q hQ a cap W (by omega) h
  have SE0 := fun a cap W h => setP (k := k) (by omega) hb (memP sa) a cap W h
  have hS0 := SetIs.tabS (p := memP sa) hkb
  generalize filF (memP sa) k = M0 at *
  have ht0 := hS0.len
  have hrl := relT_len b P
  have hsl := relT_len b Q
  have hco : coT b (relT b P) (relT b Q) = relT b (P.flatMap fun p => cmR p Q) := coT_rel (fun p hp => by have := hP p hp; omega) (fun p hp => by have := hQ p hp; omega) (fun x y => cm_mem)
  have him := comp_im hrl hsl ht0
  have hal := cmP_all P Q
  have hlt := cm_lt hP hQ
  have hpo : (posT (relT b (P.flatMap fun p => cmR p Q)) 0).length ≤ 1024 := Nat.le_trans (posT_len _ _) (by rw [relT_len]; exact show 2 ^ (2 * b) ≤ 2 ^ 10 from Nat.pow_le_pow_right (by omega) (by omega))
  have hfl : (P.flatMap fun p => cmR p Q).length ≤ 200 := by rw [← hal]; exact cmP_len hPl hQl _ _
  have CO := fun (d d' : Dg) (t u : List Bool) (W : World) (h : d.at W) (h' : d'.at W) (T : d.tab (2 * b) t) (U : d'.tab (2 * b) u) => Compose_any (b := b) (by omega) d d' t u W h h' T U
  have PA := fun (d : Dg) (W : World) (hat : d.at W) (T : d.tab (2 * b) (coT b (relT b P) (relT b Q))) => paP (k := k) (by omega) hb hkb hlt hpo d W hat (by rw [← hco]; exact T)
  have OD := fun a c W h => ordered_any (P.flatMap fun p => cmR p Q) k a _ c W (by omega) rfl h (by omega)
  have hpr := fun (i : Nat) (h : i < P.length) a c W (hat : SliceAt W 40 2 (.slice a P.length c) P.length (prC P)) => SliceAt.pair (l := P.map ipr) (by rw [prI_nat]; exact hat) (k := i) (by simpa using h) (by simp)
  have hqr := fun (i : Nat) (h : i < Q.length) a c W (hat : SliceAt W 40 2 (.slice a Q.length c) Q.length (prC Q)) => SliceAt.pair (l := Q.map ipr) (by rw [prI_nat]; exact hat) (k := i) (by simpa using h) (by simp)
  have hyes := fun i j h => cmP_yes (P := P) (Q := Q) (i := i) (j := j) h
  have hno := fun i j h => cmP_no (P := P) (Q := Q) (i := i) (j := j) h
  have hrow := fun i h => cmP_row (P := P) (Q := Q) (i := i) h
  have hlen := fun i j => cmP_len hPl hQl i j
  have hgd := fun (i : Nat) (h : i < P.length) => show P.getD i (0, 0) = P[i] by simp [List.getD, h]
  generalize (P.flatMap fun p => cmR p Q) = B at *
  have hOB : (prsT k fun x y => decide ((x, y) ∈ B)).length ≤ 5000 := by rw [← ordP_all]; exact ordP_len _ (by omega) (Nat.le_refl _) (by omega)
  generalize (prsT k fun x y => decide ((x, y) ∈ B)) = OB at *
  generalize tabS b 0 M0 = t0 at *
  generalize relT b P = tR at *
  generalize relT b Q = tQ at *
  simp only [← hm] at FP FQ CO PA
  obtain ⟨i3, hi3, hi3z, hi3s, hi3b⟩ := info_parts infoP
  replace KN := Lib.hid KN; replace PR := Lib.hid PR; replace PQ := Lib.hid PQ; replace hP := Lib.hid hP; replace hQ := Lib.hid hQ; replace ME0 := Lib.hid ME0; replace FP := Lib.hid FP; replace FQ := Lib.hid FQ; replace SE0 := Lib.hid SE0; replace CO := Lib.hid CO; replace PA := Lib.hid PA; replace OD := Lib.hid OD; replace him := Lib.hid him; replace hm := Lib.hid hm; replace hb := Lib.hid hb; replace hr0 := Lib.hid hr0; replace hr1 := Lib.hid hr1; replace hpr := Lib.hid hpr; replace hqr := Lib.hid hqr; replace hyes := Lib.hid hyes; replace hno := Lib.hid hno; replace hrow := Lib.hid hrow; replace hlen := Lib.hid hlen; replace hgd := Lib.hid hgd; replace hal := Lib.hid hal
  go_enter Tryz.func6, Tryz.ntmps6
  go_upto_region 1 with fail
  have kb := heap_new w (.cells cs 72)
  have hw : Same w (w.alloc (.cells cs 72)) := (by repeat (first | exact Fr.refl _ _ | apply Fr.alloc | apply Fr.drewN | apply Fr.drew | apply Fr.undrew | apply Fr.undrewN))
  generalize w.alloc (.cells cs 72) = W0 at *
  generalize w.heap.size = bb at *
  go_wp2_with fail
  refine (KN.out _).mono ?_
  rintro e w1 ⟨rfl, s1⟩
  replace kb := Lib.hid (s1.at kb id)
  replace hw := Lib.hid (hw.same s1)
  clear s1
  have bl := lt_of_heap kb.out
  go_upto_region 4 with fail
  refine wp_region_sched (fun k => k = bb) [0, 1, 0, 2, 0, 1, 0, 2, 0, 0] [0, 2, 4, 6, 1, 5, 3, 7, 8, 9] (by kernel_rfl) (by kernel_rfl) ?_
  (first | (refine sched_w rfl rfl (fun _ hK => ?_); go_simp; refine hK _ ?_; clear hK) | (refine sched_s rfl rfl (fun _ hK => ?_); go_simp; first | (refine hK _ ?_; clear hK) | (refine ⟨_, fun _ => rfl, hK _ ?_⟩; clear hK)))
  (first | (refine sched_w rfl rfl (fun _ hK => ?_); go_simp; refine hK _ ?_; clear hK) | (refine sched_s rfl rfl (fun _ hK => ?_); go_simp; first | (refine hK _ ?_; clear hK) | (refine ⟨_, fun _ => rfl, hK _ ?_⟩; clear hK)))
  (first | (refine sched_w rfl rfl (fun _ hK => ?_); go_simp; refine hK _ ?_; clear hK) | (refine sched_s rfl rfl (fun _ hK => ?_); go_simp; first | (refine hK _ ?_; clear hK) | (refine ⟨_, fun _ => rfl, hK _ ?_⟩; clear hK)))
  (first | (refine sched_w rfl rfl (fun _ hK => ?_); go_simp; refine hK _ ?_; clear hK) | (refine sched_s rfl rfl (fun _ hK => ?_); go_simp; first | (refine hK _ ?_; clear hK) | (refine ⟨_, fun _ => rfl, hK _ ?_⟩; clear hK)))
  refine sched_load rfl rfl rfl 48 (.tmp 34) rfl bb 0 rfl c0 _ bl rfl (hr0.out _ _ kb.out) Tryz.underlying48 rfl (by rw [infoL, hl0]) ?_
  (try simp only [Act.put, List.setIfInBounds_toArray, List.set_cons_zero, List.set_cons_succ])
  refine sched_load rfl rfl rfl 48 (.tmp 38) rfl bb 20 rfl c1 _ bl rfl (hr1.out _ _ kb.out) Tryz.underlying48 rfl (by rw [infoL, hl1]) ?_
  (try simp only [Act.put, List.setIfInBounds_toArray, List.set_cons_zero, List.set_cons_succ])
  refine sched_g rfl rfl (fun _ hK => ?_)
  go_simp
  refine (PR.out _).mono ?_
  rintro e w2 ⟨aP, cP, rfl, hpo, s2⟩
  have hP' := SliceAt.of_owns hpo
  refine hK _ _ (Kp.of_same s2) ?_
  clear hK hpo
  (try simp only [Act.put, List.setIfInBounds_toArray, List.set_cons_zero, List.set_cons_succ])
  replace s2 := (show Same w1 _ from (by repeat (first | exact Fr.refl _ _ | apply Fr.undrew | apply Fr.undrewN | apply Fr.drew | apply Fr.drewN | apply Fr.alloc))).same s2
  replace hw := Lib.hid (hw.out.same s2)
  clear s2 bl kb
  replace hP' := Lib.hid hP'
  refine sched_g rfl rfl (fun _ hK => ?_)
  go_simp
  refine (PQ.out _).mono ?_
  rintro e w3 ⟨aQ, cQ, rfl, hpo, s3⟩
  have hQ' := SliceAt.of_owns hpo
  refine hK _ _ (Kp.of_same s3) ?_
  clear hK hpo
  (try simp only [Act.put, List.setIfInBounds_toArray, List.set_cons_zero, List.set_cons_succ])
  replace hw := Lib.hid (hw.out.same s3); replace hP' := Lib.hid (hP'.out.same s3)
  clear s3
  replace hQ' := Lib.hid hQ'
  repeat (first | (refine sched_w rfl rfl (fun _ hK => ?_); go_simp; refine hK _ ?_; clear hK) | (refine sched_s rfl rfl (fun _ hK => ?_); go_simp; first | (refine hK _ ?_; clear hK) | (refine ⟨_, fun _ => rfl, hK _ ?_⟩; clear hK)))
  refine sched_nil (NoPanic.normal ?_)
  go_wp2_with fail
  go_loopw [10, 11] (fun v i wr => ∃ (j m : Nat) (a : Option Addr) (c : Nat), i = .int .i64 j ∧ j ≤ P.length ∧ m = (cmP P Q j 0).length ∧ v = .slice a m c ∧ wr.ownsRow w3.heap.size 40 2 (.slice a m c) m (prC (cmP P Q j 0)) ∧ Same w3 wr) (fun _ i _ => P.length - (intOf i).toNat)
  case atStart => exact ⟨0, 0, none, 0, rfl, by omega, rfl, rfl, World.ownsRow_nil _ _ _ _, Fr.refl _ _⟩
  case round =>
    obtain ⟨i, m1, a, c, rfl, hi, hm1, rfl, ho, hs⟩ := hrel
    by_cases hip : i < P.length
    · obtain ⟨wo, rfl⟩ : ∃ wo, wo = wr := ⟨_, rfl⟩
      replace ho := Lib.hid ho; replace hs := Lib.hid hs; replace hm1 := Lib.hid hm1
      go_wp2_with fail
      go_loopw [10, 12] (fun v x wr => ∃ (j m : Nat) (a : Option Addr) (c : Nat), x = .int .i64 j ∧ j ≤ Q.length ∧ m = (cmP P Q i j).length ∧ v = .slice a m c ∧ wr.ownsRow w3.heap.size 40 2 (.slice a m c) m (prC (cmP P Q i j)) ∧ Same w3 wr) (fun _ x _ => Q.length - (intOf x).toNat)
      case atStart => exact ⟨0, m1, a, c, rfl, by omega, hm1.out, rfl, ho.out, hs.out⟩
      case round =>
        clear ho hs hm1
        obtain ⟨j, m1, a, c, rfl, hj, hm1, rfl, ho, hs⟩ := hrel
        have hws := hs.size
        have hmk := hlen.out i j
        rw [← hm1] at hmk
        by_cases hjq : j < Q.length
        · obtain ⟨bp, op, rfl, hbp, y0, y1⟩ := hpr.out i hip _ _ _ (hP'.out.same hs)
          obtain ⟨bq, oq, rfl, hbq, z0, z1⟩ := hqr.out j hjq _ _ _ (hQ'.out.same hs)
          simp only [List.getElem_map, ipr] at y0 y1 z0 z1
          have hy := hyes.out i j hjq
          have hn := hno.out i j hjq
          rw [hgd.out i hip] at hy hn
          generalize P[i] = u at *
          generalize Q[j] = v at *
          obtain ⟨u0, u1⟩ := u
          obtain ⟨v0, v1⟩ := v
          simp only at y0 y1 z0 z1 hy hn
          replace ho := Lib.hid ho; replace hs := Lib.hid hs; replace hm1 := Lib.hid hm1; replace hy := Lib.hid hy; replace hn := Lib.hid hn
          by_cases he : u1 = v0
          · have heb : ((u1 : Int) == (v0 : Int)) = true := by simp; omega
            have hst := hy.out he
            have hst2 : prC (cmP P Q i (j + 1)) = prC (cmP P Q i j) ++ [.int .i64 u0, .int .i64 v1] := by rw [hst, prC_append]; rfl
            replace hst := Lib.hid hst; replace hst2 := Lib.hid hst2; replace he := Lib.hid he
            go_upto_region 12 with fail
            refine wp_region_sched (fun k => k = bp ∨ k = bq) [0, 0, 0, 0, 1, 0, 0, 0, 0, 1, 0] [0, 1, 2, 3, 5, 6, 7, 8, 4, 9, 10] (by kernel_rfl) (by kernel_rfl) ?_
            repeat (first | (refine sched_w rfl rfl (fun _ hK => ?_); go_simp; refine hK _ ?_; clear hK) | (refine sched_s rfl rfl (fun _ hK => ?_); go_simp; first | (refine hK _ ?_; clear hK) | (refine ⟨_, fun _ => rfl, hK _ ?_⟩; clear hK)))
            refine sched_nil (NoPanic.normal ?_)
            go_upto_region 13 with fail
            refine wp_region_sched (fun k => k = bp ∨ k = bq) [0, 0, 0, 0, 0, 1, 0, 0, 0, 0, 1, 0, 2, 3, 0] [0, 1, 2, 3, 4, 6, 7, 8, 9, 5, 10, 11, 12, 13, 14] (by kernel_rfl) (by kernel_rfl) ?_
            repeat (first | (refine sched_w rfl rfl (fun _ hK => ?_); go_simp; refine hK _ ?_; clear hK) | (refine sched_s rfl rfl (fun _ hK => ?_); go_simp; first | (refine hK _ ?_; clear hK) | (refine ⟨_, fun _ => rfl, hK _ ?_⟩; clear hK)))
            refine sched_g rfl rfl (fun _ hK => ?_); go_simp; refine hK _ _ (Kp.of_same (by repeat (first | exact Fr.refl _ _ | apply Fr.alloc | apply Fr.drewN | apply Fr.drew | apply Fr.undrew | apply Fr.undrewN))) ?_; clear hK
            refine sched_l rfl (by decide) (fun _ hK => ?_)
            refine step_append1 rfl (.tmp 65) (.tmp 77) 36 rfl w3.heap.size 40 i3 (.agg #[.int .i64 0, .int .i64 0]) 2 16 Tryz.underlying36 hi3 hi3z hi3s hi3b rfl (by decide) (by decide) a m1 c (prC (cmP P Q i j)) (by go_simp) (owns_same ho.out (by repeat (first | exact Fr.refl _ _ | apply Fr.alloc | apply Fr.drewN | apply Fr.drew | apply Fr.undrew | apply Fr.undrewN))) (by omega) wr.heap.size [.int .i64 u0, .int .i64 v1] (by go_simp) rfl (heap_new_at (by simp) _) (by simp [Value.oneCell']) (by simp; omega) ?_
            intro a5 c5 w5 ho5 hG5
            have hs5 : Same w3 w5 := grew_fresh (hs.out.same (by repeat (first | exact Fr.refl _ _ | apply Fr.alloc | apply Fr.drewN | apply Fr.drew | apply Fr.undrew | apply Fr.undrewN))) hG5 (fun k hk => (ho.out.lt k hk).1)
            have ho5' : w5.ownsRow w3.heap.size 40 2 (.slice a5 (m1 + 1) c5) (m1 + 1) (prC (cmP P Q i (j + 1))) := by rw [hst2.out]; exact ho5
            clear ho5 hG5
            replace ho5' := Lib.hid ho5'; replace hs5 := Lib.hid hs5
            refine hK _ _ ?_; clear hK; try simp only [Act.put, List.setIfInBounds_toArray, List.set_cons_zero, List.set_cons_succ]
            repeat (first | (refine sched_w rfl rfl (fun _ hK => ?_); go_simp; refine hK _ ?_; clear hK) | (refine sched_s rfl rfl (fun _ hK => ?_); go_simp; first | (refine hK _ ?_; clear hK) | (refine ⟨_, fun _ => rfl, hK _ ?_⟩; clear hK)))
            refine sched_nil (NoPanic.normal ?_)
            go_wp2_with fail
            go_roundw
            case rel => exact ⟨j + 1, m1 + 1, a5, c5, by go_num, by omega, by rw [hst.out, List.length_append, ← hm1.out]; rfl, rfl, ho5'.out, hs5.out⟩
            case measure => simp [intOf]; omega
          · have heb : ((u1 : Int) == (v0 : Int)) = false := by simp; omega
            have hst := hn.out he
            replace hst := Lib.hid hst; replace he := Lib.hid he
            go_upto_region 12 with fail
            refine wp_region_sched (fun k => k = bp ∨ k = bq) [0, 0, 0, 0, 1, 0, 0, 0, 0, 1, 0] [0, 1, 2, 3, 5, 6, 7, 8, 4, 9, 10] (by kernel_rfl) (by kernel_rfl) ?_
            repeat (first | (refine sched_w rfl rfl (fun _ hK => ?_); go_simp; refine hK _ ?_; clear hK) | (refine sched_s rfl rfl (fun _ hK => ?_); go_simp; first | (refine hK _ ?_; clear hK) | (refine ⟨_, fun _ => rfl, hK _ ?_⟩; clear hK)))
            refine sched_nil (NoPanic.normal ?_)
            go_wp2_with fail
            go_roundw
            case rel => exact ⟨j + 1, m1, a, c, by go_num, by omega, by rw [hst.out, ← hm1.out], rfl, by rw [hst.out]; exact owns_same ho.out (by repeat (first | exact Fr.refl _ _ | apply Fr.alloc | apply Fr.drewN | apply Fr.drew | apply Fr.undrew | apply Fr.undrewN)), hs.out.same (by repeat (first | exact Fr.refl _ _ | apply Fr.alloc | apply Fr.drewN | apply Fr.drew | apply Fr.undrew | apply Fr.undrewN))⟩
            case measure => simp [intOf]; omega
        · obtain rfl : j = Q.length := by omega
          have hr := hrow.out i hip
          rw [hr] at hm1 ho
          replace ho := Lib.hid ho; replace hs := Lib.hid hs; replace hm1 := Lib.hid hm1; replace hr := Lib.hid hr
          go_wp2_with fail
          go_roundw
          case rel => exact ⟨i + 1, m1, a, c, by go_num, by omega, hm1.out, rfl, ho.out, hs.out⟩
          case measure => simp [intOf]; omega
    · obtain rfl : i = P.length := by omega
      rw [hal.out] at hm1 ho
      subst hm1
      have hB' := SliceAt.of_owns ho
      replace hw := Lib.hid (hw.out.same hs); replace hP' := Lib.hid (hP'.out.same hs); replace hQ' := Lib.hid (hQ'.out.same hs)
      clear ho hs
      replace hB' := Lib.hid hB'
      go_upto_region 14 with fail
      have C5 := FP.out _ _ _ hP'.out
      replace C5 := Lib.hid C5
      go_wp2_with fail
      refine (C5.out).mono ?_
      intro e v5 hM
      obtain ⟨a5, c5, L5, r5, rfl, d5, z5, s5⟩ := hM.open
      clear hM
      
      go_upto_region 15 with fail
      have q5 : Bx (v5.alloc (.cells #[.int .i64 m, .slice a5 L5.length c5, .int .i64 r5] 29)) v5.heap.size m _ a5 c5 L5 r5 := ⟨heap_new _ _, SliceAt.same d5 (by repeat (first | exact Fr.refl _ _ | apply Fr.alloc | apply Fr.drewN | apply Fr.drew | apply Fr.undrew | apply Fr.undrewN)), z5⟩
      have s5 := s5.same (show Same v5 (v5.alloc (.cells #[.int .i64 m, .slice a5 L5.length c5, .int .i64 r5] 29)) from (by repeat (first | exact Fr.refl _ _ | apply Fr.alloc | apply Fr.drewN | apply Fr.drew | apply Fr.undrew | apply Fr.undrewN)))
      clear d5 z5
      generalize v5.alloc (.cells #[.int .i64 m, .slice a5 L5.length c5, .int .i64 r5] 29) = w5 at *
      generalize v5.heap.size = b5 at *
      replace hw := Lib.hid (hw.out.same s5); replace hP' := Lib.hid (hP'.out.same s5); replace hQ' := Lib.hid (hQ'.out.same s5); replace hB' := Lib.hid (hB'.out.same s5)
      replace q5 := Lib.hid q5; replace s5 := Lib.hid s5
      clear C5 s5
      have C6 := FQ.out _ _ _ hQ'.out
      replace C6 := Lib.hid C6
      go_wp2_with fail
      refine (C6.out).mono ?_
      intro e v6 hM
      obtain ⟨a6, c6, L6, r6, rfl, d6, z6, s6⟩ := hM.open
      clear hM
      
      go_upto_region 16 with fail
      have q6 : Bx (v6.alloc (.cells #[.int .i64 m, .slice a6 L6.length c6, .int .i64 r6] 29)) v6.heap.size m _ a6 c6 L6 r6 := ⟨heap_new _ _, SliceAt.same d6 (by repeat (first | exact Fr.refl _ _ | apply Fr.alloc | apply Fr.drewN | apply Fr.drew | apply Fr.undrew | apply Fr.undrewN)), z6⟩
      have s6 := s6.same (show Same v6 (v6.alloc (.cells #[.int .i64 m, .slice a6 L6.length c6, .int .i64 r6] 29)) from (by repeat (first | exact Fr.refl _ _ | apply Fr.alloc | apply Fr.drewN | apply Fr.drew | apply Fr.undrew | apply Fr.undrewN)))
      clear d6 z6
      generalize v6.alloc (.cells #[.int .i64 m, .slice a6 L6.length c6, .int .i64 r6] 29) = w6 at *
      generalize v6.heap.size = b6 at *
      replace hw := Lib.hid (hw.out.same s6); replace hP' := Lib.hid (hP'.out.same s6); replace hQ' := Lib.hid (hQ'.out.same s6); replace hB' := Lib.hid (hB'.out.same s6); replace q5 := Lib.hid (q5.out.same s6)
      replace q6 := Lib.hid q6; replace s6 := Lib.hid s6
      clear C6 s6
      clear hP' hQ'
      have x0 := cell_at q5.out.heap 0
      have x1 := cell_at q5.out.heap 1
      have x2 := cell_at q5.out.heap 2
      have xl := lt_of_heap q5.out.heap
      have y0 := cell_at q6.out.heap 0
      have y1 := cell_at q6.out.heap 1
      have y2 := cell_at q6.out.heap 2
      have yl := lt_of_heap q6.out.heap
      have C7 := CO.out ⟨m, a5, c5, L5, r5⟩ ⟨m, a6, c6, L6, r6⟩ _ _ w6 q5.out.at' q6.out.at' ⟨rfl, q5.out.tab⟩ ⟨rfl, q6.out.tab⟩
      replace C7 := Lib.hid C7
      go_wp2_with fail
      refine (C7.out).mono ?_
      intro e v7 hM
      obtain ⟨a7, c7, L7, r7, rfl, d7, z7, s7⟩ := hM.open
      clear hM
      clear x0 x1 x2 xl y0 y1 y2 yl
      go_upto_region 17 with fail
      have q7 : Bx (v7.alloc (.cells #[.int .i64 m, .slice a7 L7.length c7, .int .i64 r7] 29)) v7.heap.size m _ a7 c7 L7 r7 := ⟨heap_new _ _, SliceAt.same d7 (by repeat (first | exact Fr.refl _ _ | apply Fr.alloc | apply Fr.drewN | apply Fr.drew | apply Fr.undrew | apply Fr.undrewN)), z7⟩
      have s7 := s7.same (show Same v7 (v7.alloc (.cells #[.int .i64 m, .slice a7 L7.length c7, .int .i64 r7] 29)) from (by repeat (first | exact Fr.refl _ _ | apply Fr.alloc | apply Fr.drewN | apply Fr.drew | apply Fr.undrew | apply Fr.undrewN)))
      clear d7 z7
      generalize v7.alloc (.cells #[.int .i64 m, .slice a7 L7.length c7, .int .i64 r7] 29) = w7 at *
      generalize v7.heap.size = b7 at *
      replace hw := Lib.hid (hw.out.same s7); replace hB' := Lib.hid (hB'.out.same s7); replace q5 := Lib.hid (q5.out.same s7); replace q6 := Lib.hid (q6.out.same s7)
      replace q7 := Lib.hid q7; replace s7 := Lib.hid s7
      clear C7 s7
      have x0 := cell_at q7.out.heap 0
      have x1 := cell_at q7.out.heap 1
      have x2 := cell_at q7.out.heap 2
      have xl := lt_of_heap q7.out.heap
      have C8 := PA.out ⟨m, a7, c7, L7, r7⟩ _ q7.out.at' ⟨rfl, q7.out.tab⟩
      replace C8 := Lib.hid C8
      go_wp2_with fail
      refine C8.out.mono ?_
      rintro e w8 ⟨a8, c8, rfl, hr8, s8⟩
      clear x0 x1 x2 xl
      replace hw := Lib.hid (hw.out.same s8); replace hB' := Lib.hid (hB'.out.same s8); replace q5 := Lib.hid (q5.out.same s8); replace q6 := Lib.hid (q6.out.same s8); replace q7 := Lib.hid (q7.out.same s8)
      clear s8 C8
      replace hr8 := Lib.hid hr8
      go_upto_region 18 with fail
      have C9 := OD.out _ _ _ hB'.out
      replace C9 := Lib.hid C9
      go_wp2_with fail
      refine C9.out.mono ?_
      rintro e w9 ⟨a9, c9, rfl, ho9, s9⟩
      have hr9 := SliceAt.of_owns ho9; clear ho9
      replace hw := Lib.hid (hw.out.same s9); replace hB' := Lib.hid (hB'.out.same s9); replace q5 := Lib.hid (q5.out.same s9); replace q6 := Lib.hid (q6.out.same s9); replace q7 := Lib.hid (q7.out.same s9); replace hr8 := Lib.hid (hr8.out.same s9)
      clear s9 C9
      replace hr9 := Lib.hid hr9
      have C10 := samePairs_any OB OB a8 a9 OB.length OB.length c8 c9 _ rfl rfl hr8.out hr9.out (by omega)
      replace C10 := Lib.hid C10
      go_wp2_with fail
      refine C10.out.mono ?_
      rintro e w10 ⟨rfl, s10⟩
      simp only [decide_true]
      replace hw := Lib.hid (hw.out.same s10); replace hB' := Lib.hid (hB'.out.same s10); replace q5 := Lib.hid (q5.out.same s10); replace q6 := Lib.hid (q6.out.same s10); replace q7 := Lib.hid (q7.out.same s10); replace hr8 := Lib.hid (hr8.out.same s10)
      clear s10 C10
      go_upto_region 20 with fail
      clear hr8 hB'
      clear hr9
      have C11 := ME0.out w10
      replace C11 := Lib.hid C11
      go_wp2_with fail
      refine C11.out.mono ?_
      rintro e w11 ⟨aM, cM, rfl, hoM, s11⟩
      have hM := (SliceAt.of_owns hoM).row; clear hoM
      replace hw := Lib.hid (hw.out.same s11); replace q5 := Lib.hid (q5.out.same s11); replace q6 := Lib.hid (q6.out.same s11); replace q7 := Lib.hid (q7.out.same s11)
      clear s11 C11
      replace hM := Lib.hid hM
      have C12 := SE0.out _ _ _ hM.out
      replace C12 := Lib.hid C12
      go_wp2_with fail
      refine (C12.out).mono ?_
      intro e v12 hM
      obtain ⟨a12, c12, L12, r12, rfl, d12, z12, s12⟩ := hM.open
      clear hM
      
      go_upto_region 21 with fail
      have q12 : Bx (v12.alloc (.cells #[.int .i64 b, .slice a12 L12.length c12, .int .i64 r12] 29)) v12.heap.size b _ a12 c12 L12 r12 := ⟨heap_new _ _, SliceAt.same d12 (by repeat (first | exact Fr.refl _ _ | apply Fr.alloc | apply Fr.drewN | apply Fr.drew | apply Fr.undrew | apply Fr.undrewN)), z12⟩
      have s12 := s12.same (show Same v12 (v12.alloc (.cells #[.int .i64 b, .slice a12 L12.length c12, .int .i64 r12] 29)) from (by repeat (first | exact Fr.refl _ _ | apply Fr.alloc | apply Fr.drewN | apply Fr.drew | apply Fr.undrew | apply Fr.undrewN)))
      clear d12 z12
      generalize v12.alloc (.cells #[.int .i64 b, .slice a12 L12.length c12, .int .i64 r12] 29) = w12 at *
      generalize v12.heap.size = b12 at *
      replace hw := Lib.hid (hw.out.same s12); replace q5 := Lib.hid (q5.out.same s12); replace q6 := Lib.hid (q6.out.same s12); replace q7 := Lib.hid (q7.out.same s12)
      replace q12 := Lib.hid q12; replace s12 := Lib.hid s12
      clear C12 s12
      have x0 := cell_at q5.out.heap 0
      have x1 := cell_at q5.out.heap 1
      have x2 := cell_at q5.out.heap 2
      have xl := lt_of_heap q5.out.heap
      have y0 := cell_at q12.out.heap 0
      have y1 := cell_at q12.out.heap 1
      have y2 := cell_at q12.out.heap 2
      have yl := lt_of_heap q12.out.heap
      have C13 := imP hm.out (by omega) ⟨m, a5, c5, L5, r5⟩ ⟨b, a12, c12, L12, r12⟩ _ _ w12 q5.out.at' q12.out.at' ⟨rfl, q5.out.tab⟩ ⟨rfl, q12.out.tab⟩
      replace C13 := Lib.hid C13
      go_wp2_with fail
      refine (C13.out).mono ?_
      intro e v13 hM
      obtain ⟨a13, c13, L13, r13, rfl, d13, z13, s13⟩ := hM.open
      clear hM
      clear x0 x1 x2 xl y0 y1 y2 yl
      go_upto_region 22 with fail
      have q13 : Bx (v13.alloc (.cells #[.int .i64 b, .slice a13 L13.length c13, .int .i64 r13] 29)) v13.heap.size b _ a13 c13 L13 r13 := ⟨heap_new _ _, SliceAt.same d13 (by repeat (first | exact Fr.refl _ _ | apply Fr.alloc | apply Fr.drewN | apply Fr.drew | apply Fr.undrew | apply Fr.undrewN)), z13⟩
      have s13 := s13.same (show Same v13 (v13.alloc (.cells #[.int .i64 b, .slice a13 L13.length c13, .int .i64 r13] 29)) from (by repeat (first | exact Fr.refl _ _ | apply Fr.alloc | apply Fr.drewN | apply Fr.drew | apply Fr.undrew | apply Fr.undrewN)))
      clear d13 z13
      generalize v13.alloc (.cells #[.int .i64 b, .slice a13 L13.length c13, .int .i64 r13] 29) = w13 at *
      generalize v13.heap.size = b13 at *
      replace hw := Lib.hid (hw.out.same s13); replace q5 := Lib.hid (q5.out.same s13); replace q6 := Lib.hid (q6.out.same s13); replace q7 := Lib.hid (q7.out.same s13); replace q12 := Lib.hid (q12.out.same s13)
      replace q13 := Lib.hid q13; replace s13 := Lib.hid s13
      clear C13 s13
      have x0 := cell_at q6.out.heap 0
      have x1 := cell_at q6.out.heap 1
      have x2 := cell_at q6.out.heap 2
      have xl := lt_of_heap q6.out.heap
      have y0 := cell_at q13.out.heap 0
      have y1 := cell_at q13.out.heap 1
      have y2 := cell_at q13.out.heap 2
      have yl := lt_of_heap q13.out.heap
      have C14 := imP hm.out (by omega) ⟨m, a6, c6, L6, r6⟩ ⟨b, a13, c13, L13, r13⟩ _ _ w13 q6.out.at' q13.out.at' ⟨rfl, q6.out.tab⟩ ⟨rfl, q13.out.tab⟩
      replace C14 := Lib.hid C14
      go_wp2_with fail
      refine (C14.out).mono ?_
      intro e v14 hM
      obtain ⟨a14, c14, L14, r14, rfl, d14, z14, s14⟩ := hM.open
      clear hM
      clear x0 x1 x2 xl y0 y1 y2 yl
      go_upto_region 23 with fail
      have q14 : Bx (v14.alloc (.cells #[.int .i64 b, .slice a14 L14.length c14, .int .i64 r14] 29)) v14.heap.size b _ a14 c14 L14 r14 := ⟨heap_new _ _, SliceAt.same d14 (by repeat (first | exact Fr.refl _ _ | apply Fr.alloc | apply Fr.drewN | apply Fr.drew | apply Fr.undrew | apply Fr.undrewN)), z14⟩
      have s14 := s14.same (show Same v14 (v14.alloc (.cells #[.int .i64 b, .slice a14 L14.length c14, .int .i64 r14] 29)) from (by repeat (first | exact Fr.refl _ _ | apply Fr.alloc | apply Fr.drewN | apply Fr.drew | apply Fr.undrew | apply Fr.undrewN)))
      clear d14 z14
      generalize v14.alloc (.cells #[.int .i64 b, .slice a14 L14.length c14, .int .i64 r14] 29) = w14 at *
      generalize v14.heap.size = b14 at *
      replace hw := Lib.hid (hw.out.same s14); replace q5 := Lib.hid (q5.out.same s14); replace q6 := Lib.hid (q6.out.same s14); replace q7 := Lib.hid (q7.out.same s14); replace q12 := Lib.hid (q12.out.same s14); replace q13 := Lib.hid (q13.out.same s14)
      replace q14 := Lib.hid q14; replace s14 := Lib.hid s14
      clear C14 s14
      have x0 := cell_at q7.out.heap 0
      have x1 := cell_at q7.out.heap 1
      have x2 := cell_at q7.out.heap 2
      have xl := lt_of_heap q7.out.heap
      have y0 := cell_at q12.out.heap 0
      have y1 := cell_at q12.out.heap 1
      have y2 := cell_at q12.out.heap 2
      have yl := lt_of_heap q12.out.heap
      have C15 := imP hm.out (by omega) ⟨m, a7, c7, L7, r7⟩ ⟨b, a12, c12, L12, r12⟩ _ _ w14 q7.out.at' q12.out.at' ⟨rfl, q7.out.tab⟩ ⟨rfl, q12.out.tab⟩
      replace C15 := Lib.hid C15
      go_wp2_with fail
      refine (C15.out).mono ?_
      intro e v15 hM
      obtain ⟨a15, c15, L15, r15, rfl, d15, z15, s15⟩ := hM.open
      clear hM
      clear x0 x1 x2 xl y0 y1 y2 yl
      go_upto_region 24 with fail
      have q15 : Bx (v15.alloc (.cells #[.int .i64 b, .slice a15 L15.length c15, .int .i64 r15] 29)) v15.heap.size b _ a15 c15 L15 r15 := ⟨heap_new _ _, SliceAt.same d15 (by repeat (first | exact Fr.refl _ _ | apply Fr.alloc | apply Fr.drewN | apply Fr.drew | apply Fr.undrew | apply Fr.undrewN)), z15⟩
      have s15 := s15.same (show Same v15 (v15.alloc (.cells #[.int .i64 b, .slice a15 L15.length c15, .int .i64 r15] 29)) from (by repeat (first | exact Fr.refl _ _ | apply Fr.alloc | apply Fr.drewN | apply Fr.drew | apply Fr.undrew | apply Fr.undrewN)))
      clear d15 z15
      generalize v15.alloc (.cells #[.int .i64 b, .slice a15 L15.length c15, .int .i64 r15] 29) = w15 at *
      generalize v15.heap.size = b15 at *
      replace hw := Lib.hid (hw.out.same s15); replace q5 := Lib.hid (q5.out.same s15); replace q6 := Lib.hid (q6.out.same s15); replace q7 := Lib.hid (q7.out.same s15); replace q12 := Lib.hid (q12.out.same s15); replace q13 := Lib.hid (q13.out.same s15); replace q14 := Lib.hid (q14.out.same s15)
      replace q15 := Lib.hid q15; replace s15 := Lib.hid s15
      clear C15 s15
      have x0 := cell_at q14.out.heap 0
      have x1 := cell_at q14.out.heap 1
      have x2 := cell_at q14.out.heap 2
      have xl := lt_of_heap q14.out.heap
      have y0 := cell_at q15.out.heap 0
      have y1 := cell_at q15.out.heap 1
      have y2 := cell_at q15.out.heap 2
      have yl := lt_of_heap q15.out.heap
      have C20 := equal_dg (d := ⟨b, a14, c14, L14, r14⟩) (d' := ⟨b, a15, c15, L15, r15⟩) (w := w15) q14.out.at' q15.out.at' ⟨rfl, q14.out.tab⟩ ⟨rfl, q15.out.tab⟩
      replace C20 := Lib.hid C20
      go_wp2_with fail
      refine C20.out.mono ?_
      rintro e w20 ⟨rfl, s20⟩
      clear x0 x1 x2 xl y0 y1 y2 yl
      rw [decide_eq_true him.out.symm]
      replace hw := Lib.hid (hw.out.same s20); replace q5 := Lib.hid (q5.out.same s20); replace q6 := Lib.hid (q6.out.same s20); replace q7 := Lib.hid (q7.out.same s20); replace q12 := Lib.hid (q12.out.same s20); replace q13 := Lib.hid (q13.out.same s20); replace q14 := Lib.hid (q14.out.same s20); replace q15 := Lib.hid (q15.out.same s20)
      clear s20 C20
      go_wp2_with fail
      go_ret
      exact ⟨rfl, hw.out⟩
end Go.Proofs.YtcdkklddingfpaaGreat
namespace Go.Proofs.YtcdkklddingfpaaGreat.relationComposes
open Go.ChangeShapes Go.WideShapes Go.ChangeAt Go.RowKit
set_option linter.unusedVariables false

theorem own : ownKnob Tryz.prog.godebug = none := by kernel_rfl

set_option maxRecDepth 100000 in
theorem lifted (os : Os) (started : os.Started) (H : Type) (enc : TypeId × Value → H) :
    ReturnsInHanded {} Tryz.checked os 6 .any (Rows.relationComposesSpec.pre6 enc Tryz.prog Tryz.f6 Rows.relationComposesRow.domain false) (Rows.relationComposesSpec.post enc Tryz.prog Tryz.f6 false true false false) := by
  refine returnsInHanded_of_change (C := Tryz.checked) own started (by kernel_rfl) Tryz.func6
    (ChangeSpec.witness6 (enc := enc) (C := Tryz.checked) false ⟨#[], #[.int .u8 0, .agg #[.int .u8 0, .int .u8 0, .int .u8 0, .int .u8 0, .int .u8 0, .int .u8 0, .int .u8 0, .int .u8 0, .int .u8 0, .int .u8 0, .int .u8 0, .int .u8 0, .int .u8 0, .int .u8 0, .int .u8 0, .int .u8 0, .int .u8 0, .int .u8 0, .int .u8 0, .int .u8 0, .int .u8 0, .int .u8 0, .int .u8 0, .int .u8 0, .int .u8 0, .int .u8 0, .int .u8 0, .int .u8 0, .int .u8 0, .int .u8 0, .int .u8 0, .int .u8 0, .int .u8 0, .int .u8 0, .int .u8 0, .int .u8 0, .int .u8 0, .int .u8 0, .int .u8 0, .int .u8 0], .int .u16 0], []⟩ 8 (by kernel_rfl) (by kernel_rfl) (by kernel_rfl) (by kernel_rfl)) ?_
  intro W base args ds gs before hval0 hW hcnd _
  have hval : ∀ (j : Nat) t v, Tryz.f6.params[j]? = some t → args[j]? = some v → Value.okWide Tryz.prog W .any base t v := hval0
  have hW' := hW
  obtain ⟨p, q, hA0, hV, rfl, hfz, hnd⟩ := hW
  have hA : DataW.TrodAll enc Tryz.prog W 0 (fun _ => true) true Tryz.f6.params.toList args.toList ds p := hA0
  rw [Tryz.params6] at hA hval
  obtain ⟨v0, vs0, d0, ds0, p0, q0, hargs, rfl, rfl, h0, r0⟩ := trodAll_cons hA
  obtain ⟨v1, vs1, d1, ds1, p1, q1, rfl, rfl, rfl, h1, r1⟩ := trodAll_cons r0
  obtain ⟨v2, vs2, d2, ds2, p2, q2, rfl, rfl, rfl, h2, r2⟩ := trodAll_cons r1
  obtain ⟨rfl, rfl, rfl⟩ := trodAll_nil r2
  obtain rfl : args = #[v0, v1, v2] := by cases args; simp_all
  obtain ⟨rfl, rfl⟩ := trodVars_none hV
  obtain ⟨a0, rfl, rfl, rfl, w0⟩ := open_int Tryz.underlying5 (hval 0 5 v0 rfl rfl) h0
  have k1 := h1
  obtain ⟨l1, rfl, L1, B1⟩ := open_links2 (hval 1 72 v1 rfl rfl) h1
  obtain ⟨a2, rfl, rfl, rfl, w2⟩ := open_int Tryz.underlying49 (hval 2 49 v2 rfl rfl) h2
  clear hA0 hval0
  simp only [List.append_nil] at hW'
  refine (rcomposes_any a0 (u8_wf w0) l1 L1 B1 a2 (u16_wf w2) W).mono fun e W' ⟨he, hg⟩ => ?_
  subst he
  exact ⟨_, rfl, post_fr (pa := ([] ++ (p1 ++ ([] ++ [])))) (pv := []) hW' (fun _ _ _ => (trodAll_cons_mk (shut_bool Tryz.underlying4 _) trodAll_mk0)) (fun sp SP => (trodAll_cons_mk (shut_int Tryz.underlying5 w0) (trodAll_cons_mk (stays (by kernel_rfl) (of_decide_eq_true (by kernel_rfl)) k1 hg (fun x hx => hW'.lt x (by simp [hx])) (fun x hx => SP x (by simp [hx]))) (trodAll_cons_mk (shut_int Tryz.underlying49 w2) trodAll_mk0)))) (fun _ _ => rfl) (by simp) hg (ok_one (by kernel_rfl) rfl (okWide_bool_mk Tryz.underlying4 _))⟩

theorem over : Rows.relationComposesRow.holds Tryz.pinned (OpenSpec.ofChange Rows.relationComposesSpec) :=
  OpenClaim.holds_of_wide 6 Tryz.f6 rfl rfl rfl rfl rfl rfl rfl ⟨rfl, rfl, rfl, rfl, rfl⟩ rfl rfl rfl rfl rfl (by kernel_rfl) Tryz.func6 (by kernel_rfl)
    (of_decide_eq_true (by kernel_rfl)) (by unfold Func.isWrapper; first | (rw [if_pos (by decide +kernel)]; kernel_rfl) | (rw [if_neg (by decide +kernel)]; exact ⟨rfl, rfl⟩))
    (fun os started H enc _ => lifted os started H enc)
end Go.Proofs.YtcdkklddingfpaaGreat.relationComposes

namespace Go.Proofs.YtcdkklddingfpaaGreat
/-- The given statement. -/
theorem relationComposes_holds : Rows.RelationComposesSaid := relationComposes.over
#print axioms relationComposes_holds
end Go.Proofs.YtcdkklddingfpaaGreat
