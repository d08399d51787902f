/- RelationImages: the given statement. Printed by wip/mkrow.py. RelationImages walked. -/
import Derived.Test.YtcdkklddingfpaaGreatJRlN
import Derived.Test.YtcdkklddingfpaaGreatJRowL
namespace Go.Proofs.YtcdkklddingfpaaGreat
open Go.RowKit
set_option linter.unusedVariables false
set_option linter.unusedSimpArgs false

set_option maxRecDepth 100000 in
set_option maxHeartbeats 8000000 in
theorem images_any (x : Int) (hx : 0 ≤ x ∧ x ≤ 255) (lk : List Nat) (h20 : lk.length = 20) (hlk : ∀ y ∈ lk, y < 256) (s : Int) (hs16 : 0 ≤ s ∧ s ≤ 65535) (w : World) :
    Calls Tryz.prog 10 #[.int .u8 x, .agg (bytC lk).toArray, .int .u16 s] w fun e w' => e = .returned (.bool true) ∧ Same w w' := by
  obtain ⟨k, hk⟩ : ∃ k : Nat, k = x.toNat % 13 := ⟨_, rfl⟩
  have hk12 : k ≤ 12 := by omega
  have h1 : x.tmod 13 = (k : Int) := by rw [Int.tmod_eq_emod_of_nonneg hx.1]; omega
  have h2 : IntKind.u8.wrap (k : Int) = k := by unfold IntKind.wrap; simp [IntKind.bits, IntKind.signed]; omega
  have h3 : wrap64 (k : Int) = k := by unfold wrap64; omega
  have h4 : IntKind.i64.wrap (k : Int) = k := IntWalk.i64_in _ (by omega)
  have hkb : k ≤ 2 ^ bitsF k := (bitsF_is (n := k) (by omega)).1
  have hb4 : bitsF k ≤ 4 := (bitsF_is (n := k) (by omega)).bd (by omega)
  have KN := fun W => known_any W
  clear hk hx
  have PR := fun W => lpairs_any lk k W h20 hlk (by omega)
  have hP := lkP_lt lk k 10
  have hPl := lkP_len lk k 10
  obtain ⟨P, hPd⟩ : ∃ P, P = lkP lk k 10 := ⟨_, rfl⟩
  rw [← hPd] at PR hP hPl
  have hcs : (bytC lk).toArray.size = 20 := by simp [bytC, h20]
  generalize (bytC lk).toArray = cs at *
  clear h20 hlk hPd
  have ME := fun W => members_any k s W (by omega)
  obtain ⟨b, hb⟩ : ∃ b, b = bitsF k := ⟨_, rfl⟩
  rw [← hb] at hkb hb4
  obtain ⟨m, hm⟩ : ∃ m, m = 2 * b := ⟨_, rfl⟩
  have FP := fun a cap W h => fromP (k := k) (by omega) hb P hP a cap W (by omega) h
  have SE := fun a cap W h => setP (k := k) (by omega) hb (memP s) a cap W h
  have hS := SetIs.tabS (p := memP s) hkb
  have hMl := filF_len (memP s) k
  generalize filF (memP s) k = M at *
  have I0 := hS.im (s := 0) (by omega) hkb hP
  have I1 := hS.im (s := 1) (by omega) hkb hP
  have ST := fun (S : List Nat) (t : List Bool) (h : SetIs b k t S) => stP (k := k) (by omega) hb hkb h
  have L0 := fun a1 c1 a2 c2 W h1 h2 => lstep_false P M k a1 a2 P.length c1 M.length c2 W (by omega) rfl rfl h1 h2 (by omega) (by omega)
  have L1 := fun a1 c1 a2 c2 W h1 h2 => lstep_true P M k a1 a2 P.length c1 M.length c2 W (by omega) rfl rfl h1 h2 (by omega) (by omega)
  have hl0 : (stepF false P M k).length ≤ k := filF_len _ _
  have hl1 : (stepF true P M k).length ≤ k := filF_len _ _
  rw [show decide (0 = 1) = false from rfl] at I0
  rw [show decide (1 = 1) = true from rfl] at I1
  generalize stepF false P M k = S0 at *
  generalize stepF true P M k = S1 at *
  simp only [← hm] at FP
  replace KN := Lib.hid KN; replace PR := Lib.hid PR; replace hP := Lib.hid hP; replace hPl := Lib.hid hPl; replace ME := Lib.hid ME; replace FP := Lib.hid FP; replace SE := Lib.hid SE; replace hS := Lib.hid hS; replace I0 := Lib.hid I0; replace I1 := Lib.hid I1; replace ST := Lib.hid ST; replace L0 := Lib.hid L0; replace L1 := Lib.hid L1; replace hm := Lib.hid hm; replace hb := Lib.hid hb
  go_enter Tryz.func10, Tryz.ntmps10
  go_wp2_with fail
  have kb := heap_new w (.cells cs 48)
  refine (KN.out _).mono ?_
  rintro e w1 ⟨rfl, hs1⟩
  replace kb := Lib.hid (hs1.at kb id)
  have hs1 : Same w w1 := (show Same w _ from (by repeat (first | exact Fr.refl _ _ | apply Fr.alloc | apply Fr.drewN | apply Fr.drew | apply Fr.undrew | apply Fr.undrewN))).same hs1
  replace hs1 := Lib.hid hs1
  go_upto_region 4 with fail
  refine wp_region_lit ?_
  refine wpList_load_row rfl 48 (.tmp 4) rfl w.heap.size rfl 48 cs (0, 0) _ (kb.out) Tryz.underlying48 rfl (by rw [infoL, hcs]) ?_
  (try simp only [Act.put, List.setIfInBounds_toArray, List.set_cons_zero, List.set_cons_succ])
  go_wp2_with fail
  refine (PR.out _).mono ?_
  rintro e w2 ⟨aP, cP, rfl, hpr, s2⟩
  have hP' := SliceAt.of_owns hpr
  have hw := hs1.out.same s2
  clear hpr s2
  replace hP' := Lib.hid hP'; replace hw := Lib.hid hw
  go_wp2_with fail
  refine (ME.out _).mono ?_
  rintro e w3 ⟨aM, cM, rfl, hme, s3⟩
  have hM' := (SliceAt.of_owns hme).row
  replace hw := Lib.hid (hw.out.same s3); replace hP' := Lib.hid (hP'.out.same s3)
  clear hme s3 kb hs1 KN PR ME
  replace hM' := Lib.hid hM'
  go_upto_region 5 with fail
  have FP5 := FP.out _ _ _ hP'.out
  replace FP5 := Lib.hid FP5
  go_wp2_with fail
  refine (FP5.out).mono ?_
  intro e v5 hM
  obtain ⟨a5, c5, L5, r5, rfl, d5, z5, s5⟩ := hM.open
  clear hM
  
  go_upto_region 6 with fail
  have q5 : Bx (v5.alloc (.cells #[.int .i64 m, .slice a5 L5.length c5, .int .i64 r5] 29)) v5.heap.size m _ a5 c5 L5 r5 := ⟨heap_new _ _, SliceAt.same d5 (by repeat (first | exact Fr.refl _ _ | apply Fr.alloc | apply Fr.drewN | apply Fr.drew | apply Fr.undrew | apply Fr.undrewN)), z5⟩
  have s5 := s5.same (show Same v5 (v5.alloc (.cells #[.int .i64 m, .slice a5 L5.length c5, .int .i64 r5] 29)) from (by repeat (first | exact Fr.refl _ _ | apply Fr.alloc | apply Fr.drewN | apply Fr.drew | apply Fr.undrew | apply Fr.undrewN)))
  clear d5 z5
  generalize v5.alloc (.cells #[.int .i64 m, .slice a5 L5.length c5, .int .i64 r5] 29) = w5 at *
  generalize v5.heap.size = b5 at *
  replace hw := Lib.hid (hw.out.same s5); replace hP' := Lib.hid (hP'.out.same s5); replace hM' := Lib.hid (hM'.out.same s5)
  replace q5 := Lib.hid q5; replace s5 := Lib.hid s5
  have SE6 := SE.out _ _ _ hM'.out
  replace SE6 := Lib.hid SE6
  go_wp2_with fail
  refine (SE6.out).mono ?_
  intro e v6 hM
  obtain ⟨a6, c6, L6, r6, rfl, d6, z6, s6⟩ := hM.open
  clear hM
  
  go_upto_region 7 with fail
  have q6 : Bx (v6.alloc (.cells #[.int .i64 b, .slice a6 L6.length c6, .int .i64 r6] 29)) v6.heap.size b _ a6 c6 L6 r6 := ⟨heap_new _ _, SliceAt.same d6 (by repeat (first | exact Fr.refl _ _ | apply Fr.alloc | apply Fr.drewN | apply Fr.drew | apply Fr.undrew | apply Fr.undrewN)), z6⟩
  have s6 := s6.same (show Same v6 (v6.alloc (.cells #[.int .i64 b, .slice a6 L6.length c6, .int .i64 r6] 29)) from (by repeat (first | exact Fr.refl _ _ | apply Fr.alloc | apply Fr.drewN | apply Fr.drew | apply Fr.undrew | apply Fr.undrewN)))
  clear d6 z6
  generalize v6.alloc (.cells #[.int .i64 b, .slice a6 L6.length c6, .int .i64 r6] 29) = w6 at *
  generalize v6.heap.size = b6 at *
  replace hw := Lib.hid (hw.out.same s6); replace hP' := Lib.hid (hP'.out.same s6); replace hM' := Lib.hid (hM'.out.same s6); replace q5 := Lib.hid (q5.out.same s6)
  replace q6 := Lib.hid q6; replace s6 := Lib.hid s6
  have x0 := cell_at q5.out.heap 0
  have x1 := cell_at q5.out.heap 1
  have x2 := cell_at q5.out.heap 2
  have xl := lt_of_heap q5.out.heap
  have y0 := cell_at q6.out.heap 0
  have y1 := cell_at q6.out.heap 1
  have y2 := cell_at q6.out.heap 2
  have yl := lt_of_heap q6.out.heap
  have IM := imP hm.out (by omega) ⟨m, a5, c5, L5, r5⟩ ⟨b, a6, c6, L6, r6⟩ _ _ w6 q5.out.at' q6.out.at' ⟨rfl, q5.out.tab⟩ ⟨rfl, q6.out.tab⟩
  replace IM := Lib.hid IM
  go_wp2_with fail
  refine (IM.out).mono ?_
  intro e v7 hM
  obtain ⟨a7, c7, L7, r7, rfl, d7, z7, s7⟩ := hM.open
  clear hM
  clear x0 x1 x2 xl y0 y1 y2 yl
  go_upto_region 8 with fail
  have q7 : Bx (v7.alloc (.cells #[.int .i64 b, .slice a7 L7.length c7, .int .i64 r7] 29)) v7.heap.size b _ a7 c7 L7 r7 := ⟨heap_new _ _, SliceAt.same d7 (by repeat (first | exact Fr.refl _ _ | apply Fr.alloc | apply Fr.drewN | apply Fr.drew | apply Fr.undrew | apply Fr.undrewN)), z7⟩
  have s7 := s7.same (show Same v7 (v7.alloc (.cells #[.int .i64 b, .slice a7 L7.length c7, .int .i64 r7] 29)) from (by repeat (first | exact Fr.refl _ _ | apply Fr.alloc | apply Fr.drewN | apply Fr.drew | apply Fr.undrew | apply Fr.undrewN)))
  clear d7 z7
  generalize v7.alloc (.cells #[.int .i64 b, .slice a7 L7.length c7, .int .i64 r7] 29) = w7 at *
  generalize v7.heap.size = b7 at *
  replace hw := Lib.hid (hw.out.same s7); replace hP' := Lib.hid (hP'.out.same s7); replace hM' := Lib.hid (hM'.out.same s7); replace q5 := Lib.hid (q5.out.same s7); replace q6 := Lib.hid (q6.out.same s7)
  replace q7 := Lib.hid q7; replace s7 := Lib.hid s7
  have x0 := cell_at q5.out.heap 0
  have x1 := cell_at q5.out.heap 1
  have x2 := cell_at q5.out.heap 2
  have xl := lt_of_heap q5.out.heap
  have y0 := cell_at q6.out.heap 0
  have y1 := cell_at q6.out.heap 1
  have y2 := cell_at q6.out.heap 2
  have yl := lt_of_heap q6.out.heap
  have PI := piP hm.out (by omega) ⟨m, a5, c5, L5, r5⟩ ⟨b, a6, c6, L6, r6⟩ _ _ w7 q5.out.at' q6.out.at' ⟨rfl, q5.out.tab⟩ ⟨rfl, q6.out.tab⟩
  replace PI := Lib.hid PI
  go_wp2_with fail
  refine (PI.out).mono ?_
  intro e v8 hM
  obtain ⟨a8, c8, L8, r8, rfl, d8, z8, s8⟩ := hM.open
  clear hM
  clear x0 x1 x2 xl y0 y1 y2 yl
  go_upto_region 9 with fail
  have q8 : Bx (v8.alloc (.cells #[.int .i64 b, .slice a8 L8.length c8, .int .i64 r8] 29)) v8.heap.size b _ a8 c8 L8 r8 := ⟨heap_new _ _, SliceAt.same d8 (by repeat (first | exact Fr.refl _ _ | apply Fr.alloc | apply Fr.drewN | apply Fr.drew | apply Fr.undrew | apply Fr.undrewN)), z8⟩
  have s8 := s8.same (show Same v8 (v8.alloc (.cells #[.int .i64 b, .slice a8 L8.length c8, .int .i64 r8] 29)) from (by repeat (first | exact Fr.refl _ _ | apply Fr.alloc | apply Fr.drewN | apply Fr.drew | apply Fr.undrew | apply Fr.undrewN)))
  clear d8 z8
  generalize v8.alloc (.cells #[.int .i64 b, .slice a8 L8.length c8, .int .i64 r8] 29) = w8 at *
  generalize v8.heap.size = b8 at *
  replace hw := Lib.hid (hw.out.same s8); replace hP' := Lib.hid (hP'.out.same s8); replace hM' := Lib.hid (hM'.out.same s8); replace q7 := Lib.hid (q7.out.same s8)
  replace q8 := Lib.hid q8; replace s8 := Lib.hid s8
  clear q5 q6 IM PI FP5 SE6 s5 s6 s7 s8
  have x0 := cell_at q7.out.heap 0
  have x1 := cell_at q7.out.heap 1
  have x2 := cell_at q7.out.heap 2
  have xl := lt_of_heap q7.out.heap
  have ST9 := ST.out _ _ I0.out ⟨b, a7, c7, L7, r7⟩ w8 q7.out.at' ⟨rfl, q7.out.tab⟩
  replace ST9 := Lib.hid ST9
  go_wp2_with fail
  refine ST9.out.mono ?_
  rintro e w9 ⟨a9, c9, rfl, hr9, s9⟩
  clear x0 x1 x2 xl
  replace hw := Lib.hid (hw.out.same s9); replace hP' := Lib.hid (hP'.out.same s9); replace hM' := Lib.hid (hM'.out.same s9); replace q8 := Lib.hid (q8.out.same s9)
  clear s9 ST9 q7
  replace hr9 := Lib.hid hr9
  go_upto_region 10 with fail
  have x0 := cell_at q8.out.heap 0
  have x1 := cell_at q8.out.heap 1
  have x2 := cell_at q8.out.heap 2
  have xl := lt_of_heap q8.out.heap
  have ST10 := ST.out _ _ I1.out ⟨b, a8, c8, L8, r8⟩ w9 q8.out.at' ⟨rfl, q8.out.tab⟩
  replace ST10 := Lib.hid ST10
  go_wp2_with fail
  refine ST10.out.mono ?_
  rintro e w10 ⟨a10, c10, rfl, hr10, s10⟩
  clear x0 x1 x2 xl
  replace hw := Lib.hid (hw.out.same s10); replace hP' := Lib.hid (hP'.out.same s10); replace hM' := Lib.hid (hM'.out.same s10); replace hr9 := Lib.hid (hr9.out.same s10)
  clear s10 ST10 q8
  replace hr10 := Lib.hid hr10
  go_upto_region 11 with fail
  go_wp2_with fail
  refine (L0.out _ _ _ _ _ hP'.out hM'.out).mono ?_
  rintro e w11 ⟨a11, c11, rfl, ho11, s11⟩
  have hr11 := (SliceAt.of_owns ho11).row
  replace hw := Lib.hid (hw.out.same s11); replace hP' := Lib.hid (hP'.out.same s11); replace hM' := Lib.hid (hM'.out.same s11); replace hr9 := Lib.hid (hr9.out.same s11); replace hr10 := Lib.hid (hr10.out.same s11)
  clear s11 ho11
  replace hr11 := Lib.hid hr11
  go_wp2_with fail
  have SI := sameInts_any (natI S0) (natI S0) a9 a11 S0.length S0.length c9 c11 w11 (natI_len _) (natI_len _) hr9.out hr11.out (by omega)
  rw [decide_eq_true rfl] at SI
  refine SI.mono ?_
  rintro e w12 ⟨rfl, s12⟩
  replace hw := Lib.hid (hw.out.same s12); replace hP' := Lib.hid (hP'.out.same s12); replace hM' := Lib.hid (hM'.out.same s12); replace hr10 := Lib.hid (hr10.out.same s12)
  clear s12 SI hr9 hr11
  go_wp2_with fail
  refine (L1.out _ _ _ _ _ hP'.out hM'.out).mono ?_
  rintro e w13 ⟨a13, c13, rfl, ho13, s13⟩
  have hr13 := (SliceAt.of_owns ho13).row
  replace hw := Lib.hid (hw.out.same s13); replace hr10 := Lib.hid (hr10.out.same s13)
  clear s13 ho13 hP' hM'
  replace hr13 := Lib.hid hr13
  go_wp2_with fail
  have SI := sameInts_any (natI S1) (natI S1) a10 a13 S1.length S1.length c10 c13 w13 (natI_len _) (natI_len _) hr10.out hr13.out (by omega)
  rw [decide_eq_true rfl] at SI
  refine SI.mono ?_
  rintro e w14 ⟨rfl, s14⟩
  replace hw := Lib.hid (hw.out.same s14)
  clear s14 SI hr10 hr13
  go_wp2_with fail
  go_ret
  exact ⟨rfl, hw.out⟩
end Go.Proofs.YtcdkklddingfpaaGreat
namespace Go.Proofs.YtcdkklddingfpaaGreat.relationImages
open Go.ChangeShapes Go.WideShapes Go.ChangeAt Go.RowKit
set_option linter.unusedVariables false

theorem own : ownKnob Tryz.prog.godebug = none := by kernel_rfl

set_option maxRecDepth 100000 in
theorem lifted (os : Os) (started : os.Started) (H : Type) (enc : TypeId × Value → H) :
    ReturnsInHanded {} Tryz.checked os 10 .any (Rows.relationImagesSpec.pre6 enc Tryz.prog Tryz.f10 Rows.relationImagesRow.domain false) (Rows.relationImagesSpec.post enc Tryz.prog Tryz.f10 false true false false) := by
  refine returnsInHanded_of_change (C := Tryz.checked) own started (by kernel_rfl) Tryz.func10
    (ChangeSpec.witness6 (enc := enc) (C := Tryz.checked) false ⟨#[], #[.int .u8 0, .agg #[.int .u8 0, .int .u8 0, .int .u8 0, .int .u8 0, .int .u8 0, .int .u8 0, .int .u8 0, .int .u8 0, .int .u8 0, .int .u8 0, .int .u8 0, .int .u8 0, .int .u8 0, .int .u8 0, .int .u8 0, .int .u8 0, .int .u8 0, .int .u8 0, .int .u8 0, .int .u8 0], .int .u16 0], []⟩ 8 (by kernel_rfl) (by kernel_rfl) (by kernel_rfl) (by kernel_rfl)) ?_
  intro W base args ds gs before hval0 hW hcnd _
  have hval : ∀ (j : Nat) t v, Tryz.f10.params[j]? = some t → args[j]? = some v → Value.okWide Tryz.prog W .any base t v := hval0
  have hW' := hW
  obtain ⟨p, q, hA0, hV, rfl, hfz, hnd⟩ := hW
  have hA : DataW.TrodAll enc Tryz.prog W 0 (fun _ => true) true Tryz.f10.params.toList args.toList ds p := hA0
  rw [Tryz.params10] at hA hval
  obtain ⟨v0, vs0, d0, ds0, p0, q0, hargs, rfl, rfl, h0, r0⟩ := trodAll_cons hA
  obtain ⟨v1, vs1, d1, ds1, p1, q1, rfl, rfl, rfl, h1, r1⟩ := trodAll_cons r0
  obtain ⟨v2, vs2, d2, ds2, p2, q2, rfl, rfl, rfl, h2, r2⟩ := trodAll_cons r1
  obtain ⟨rfl, rfl, rfl⟩ := trodAll_nil r2
  obtain rfl : args = #[v0, v1, v2] := by cases args; simp_all
  obtain ⟨rfl, rfl⟩ := trodVars_none hV
  obtain ⟨a0, rfl, rfl, rfl, w0⟩ := open_int Tryz.underlying5 (hval 0 5 v0 rfl rfl) h0
  have k1 := h1
  obtain ⟨l1, rfl, L1, B1⟩ := open_links (hval 1 48 v1 rfl rfl) h1
  obtain ⟨a2, rfl, rfl, rfl, w2⟩ := open_int Tryz.underlying49 (hval 2 49 v2 rfl rfl) h2
  clear hA0 hval0
  simp only [List.append_nil] at hW'
  refine (images_any a0 (u8_wf w0) l1 L1 B1 a2 (u16_wf w2) W).mono fun e W' ⟨he, hg⟩ => ?_
  subst he
  exact ⟨_, rfl, post_fr (pa := ([] ++ (p1 ++ ([] ++ [])))) (pv := []) hW' (fun _ _ _ => (trodAll_cons_mk (shut_bool Tryz.underlying4 _) trodAll_mk0)) (fun sp SP => (trodAll_cons_mk (shut_int Tryz.underlying5 w0) (trodAll_cons_mk (stays (by kernel_rfl) (of_decide_eq_true (by kernel_rfl)) k1 hg (fun x hx => hW'.lt x (by simp [hx])) (fun x hx => SP x (by simp [hx]))) (trodAll_cons_mk (shut_int Tryz.underlying49 w2) trodAll_mk0)))) (fun _ _ => rfl) (by simp) hg (ok_one (by kernel_rfl) rfl (okWide_bool_mk Tryz.underlying4 _))⟩

theorem over : Rows.relationImagesRow.holds Tryz.pinned (OpenSpec.ofChange Rows.relationImagesSpec) :=
  OpenClaim.holds_of_wide 10 Tryz.f10 rfl rfl rfl rfl rfl rfl rfl ⟨rfl, rfl, rfl, rfl, rfl⟩ rfl rfl rfl rfl rfl (by kernel_rfl) Tryz.func10 (by kernel_rfl)
    (of_decide_eq_true (by kernel_rfl)) (by unfold Func.isWrapper; first | (rw [if_pos (by decide +kernel)]; kernel_rfl) | (rw [if_neg (by decide +kernel)]; exact ⟨rfl, rfl⟩))
    (fun os started H enc _ => lifted os started H enc)
end Go.Proofs.YtcdkklddingfpaaGreat.relationImages

namespace Go.Proofs.YtcdkklddingfpaaGreat
/-- The given statement. -/
theorem relationImages_holds : Rows.RelationImagesSaid := relationImages.over
#print axioms relationImages_holds
end Go.Proofs.YtcdkklddingfpaaGreat
