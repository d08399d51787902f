/- RelationLaws walked. Printed by wip/mkrel.py. -/
import Derived.Test.YtcdkklddingfpaaGreatJRlM
namespace Go.Proofs.YtcdkklddingfpaaGreat
open Go.RowKit
set_option linter.unusedVariables false
set_option linter.unusedSimpArgs false

set_option maxRecDepth 100000 in
set_option maxHeartbeats 16000000 in
theorem rlaws_any (x : Int) (hx : 0 ≤ x ∧ x ≤ 255) (lk : List Nat) (h20 : lk.length = 20) (hlk : ∀ y ∈ lk, y < 256) (sa sb : Int) (ha16 : 0 ≤ sa ∧ sa ≤ 65535) (hb16 : 0 ≤ sb ∧ sb ≤ 65535) (w : World) :
    Calls Tryz.prog 12 #[.int .u8 x, .agg (bytC lk).toArray, .agg #[.int .u16 sa, .int .u16 sb]] w fun e w' => e = .returned (.bool true) ∧ Same w w' := by
  obtain ⟨k, hk⟩ : ∃ k : Nat, k = x.toNat % 13 := ⟨_, rfl⟩
  have hk12 : k ≤ 12 := by omega
  have h1 : x.tmod 13 = (k : Int) := by rw [Int.tmod_eq_emod_of_nonneg hx.1]; omega
  have h2 : IntKind.u8.wrap (k : Int) = k := by unfold IntKind.wrap; simp [IntKind.bits, IntKind.signed]; omega
  have h3 : wrap64 (k : Int) = k := by unfold wrap64; omega
  have h4 : IntKind.i64.wrap (k : Int) = k := IntWalk.i64_in _ (by omega)
  have hkb : k ≤ 2 ^ bitsF k := (bitsF_is (n := k) (by omega)).1
  have hb4 : bitsF k ≤ 4 := (bitsF_is (n := k) (by omega)).bd (by omega)
  have KN := fun W => known_any W
  clear hk hx
  have PR := fun W => lpairs_any lk k W h20 hlk (by omega)
  have hP := lkP_lt lk k 10
  have hPl := lkP_len lk k 10
  obtain ⟨P, hPd⟩ : ∃ P, P = lkP lk k 10 := ⟨_, rfl⟩
  rw [← hPd] at PR hP hPl
  have hcs : (bytC lk).toArray.size = 20 := by simp [bytC, h20]
  generalize (bytC lk).toArray = cs at *
  clear h20 hlk hPd
  have ME0 := fun W => members_any k sa W (by omega)
  have ME1 := fun W => members_any k sb W (by omega)
  have IDL := idL_lt k
  have ID := fun W => Identity_any (n := k) (by omega) W
  obtain ⟨b, hb⟩ : ∃ b, b = bitsF k := ⟨_, rfl⟩
  rw [← hb] at hkb hb4
  obtain ⟨m, hm⟩ : ∃ m, m = 2 * b := ⟨_, rfl⟩
  have FP := fun a cap W h => fromP (k := k) (by omega) hb P hP a cap W (by omega) h
  have SE0 := fun a cap W h => setP (k := k) (by omega) hb (memP sa) a cap W h
  have SE1 := fun a cap W h => setP (k := k) (by omega) hb (memP sb) a cap W h
  have hS0 := SetIs.tabS (p := memP sa) hkb
  have hS1 := SetIs.tabS (p := memP sb) hkb
  have hid := im_id hkb hS0
  generalize filF (memP sa) k = M0 at *
  generalize filF (memP sb) k = M1 at *
  have ht0 := hS0.len
  have ht1 := hS1.len
  generalize tabS b 0 M0 = t0 at *
  generalize tabS b 0 M1 = t1 at *
  have hrl := relT_len b P
  have hu := im_or (s := 0) (r := relT b P) ht0 ht1
  have hme := meet_iff hrl ht0 ht1
  rw [← hb] at ID
  generalize relT b (idL k) = tI at *
  generalize relT b P = tR at *
  simp only [← hm] at FP ID
  replace KN := Lib.hid KN; replace PR := Lib.hid PR; replace hP := Lib.hid hP; replace hPl := Lib.hid hPl; replace ME0 := Lib.hid ME0; replace ME1 := Lib.hid ME1; replace FP := Lib.hid FP; replace SE0 := Lib.hid SE0; replace SE1 := Lib.hid SE1; replace ID := Lib.hid ID; replace hid := Lib.hid hid; replace hu := Lib.hid hu; replace hme := Lib.hid hme; replace hm := Lib.hid hm; replace hb := Lib.hid hb; replace IDL := Lib.hid IDL
  go_enter Tryz.func12, Tryz.ntmps12
  go_upto_region 1 with fail
  have kb := heap_old (heap_new w (.cells cs 48)) (.cells #[.int .u16 sa, .int .u16 sb] 86)
  have kc := heap_new (w.alloc (.cells cs 48)) (.cells #[.int .u16 sa, .int .u16 sb] 86)
  have hz1 : (w.alloc (.cells cs 48)).heap.size = w.heap.size + 1 := by simp
  have hw : Same w ((w.alloc (.cells cs 48)).alloc (.cells #[.int .u16 sa, .int .u16 sb] 86)) := (by repeat (first | exact Fr.refl _ _ | apply Fr.alloc | apply Fr.drewN | apply Fr.drew | apply Fr.undrew | apply Fr.undrewN))
  rw [hz1] at kc
  generalize (w.alloc (.cells cs 48)).alloc (.cells #[.int .u16 sa, .int .u16 sb] 86) = W0 at *
  generalize w.heap.size + 1 = bc at *
  generalize w.heap.size = bb at *
  clear hz1
  go_wp2_with fail
  refine (KN.out _).mono ?_
  rintro e w1 ⟨rfl, s1⟩
  replace kb := Lib.hid (s1.at kb id)
  replace kc := Lib.hid (s1.at kc id)
  replace hw := Lib.hid (hw.same s1)
  clear s1
  have bl := lt_of_heap kb.out
  go_upto_region 4 with fail
  refine wp_region_lit ?_
  refine wpList_step (fun K hK => ?_); go_simp; refine hK _ _ ?_; clear hK
  (try simp only [Act.put, List.setIfInBounds_toArray, List.set_cons_zero, List.set_cons_succ])
  refine wpList_load_row rfl 48 (.tmp 4) rfl bb rfl 48 cs (0, 0) _ kb.out Tryz.underlying48 rfl (by rw [infoL, hcs]) ?_
  (try simp only [Act.put, List.setIfInBounds_toArray, List.set_cons_zero, List.set_cons_succ])
  go_wp2_with fail
  refine (PR.out _).mono ?_
  rintro e w2 ⟨aP, cP, rfl, hpr, s2⟩
  have hP' := SliceAt.of_owns hpr
  replace kc := Lib.hid (s2.at kc.out id)
  replace hw := Lib.hid (hw.out.same s2)
  clear hpr s2 bl kb
  replace hP' := Lib.hid hP'
  have C5 := FP.out _ _ _ hP'.out
  replace C5 := Lib.hid C5
  go_wp2_with fail
  refine (C5.out).mono ?_
  intro e v5 hM
  obtain ⟨a5, c5, L5, r5, rfl, d5, z5, s5⟩ := hM.open
  clear hM
  
  go_upto_region 5 with fail
  have q5 : Bx (v5.alloc (.cells #[.int .i64 m, .slice a5 L5.length c5, .int .i64 r5] 29)) v5.heap.size m _ a5 c5 L5 r5 := ⟨heap_new _ _, SliceAt.same d5 (by repeat (first | exact Fr.refl _ _ | apply Fr.alloc | apply Fr.drewN | apply Fr.drew | apply Fr.undrew | apply Fr.undrewN)), z5⟩
  have s5 := s5.same (show Same v5 (v5.alloc (.cells #[.int .i64 m, .slice a5 L5.length c5, .int .i64 r5] 29)) from (by repeat (first | exact Fr.refl _ _ | apply Fr.alloc | apply Fr.drewN | apply Fr.drew | apply Fr.undrew | apply Fr.undrewN)))
  clear d5 z5
  generalize v5.alloc (.cells #[.int .i64 m, .slice a5 L5.length c5, .int .i64 r5] 29) = w5 at *
  generalize v5.heap.size = b5 at *
  replace hw := Lib.hid (hw.out.same s5); replace hP' := Lib.hid (hP'.out.same s5)
  replace q5 := Lib.hid q5; replace s5 := Lib.hid s5
  replace s5 := s5.out
  replace kc := Lib.hid (s5.at kc.out id)
  clear C5 s5
  have e0 := cell_at kc.out 0
  have e1 := cell_at kc.out 1
  have el := lt_of_heap kc.out
  go_wp2_with fail
  refine (ME0.out _).mono ?_
  rintro e vM0 ⟨aM0, cM0, rfl, hme0, s3⟩
  have hM0 := (SliceAt.of_owns hme0).row
  clear e0 e1 el
  replace hw := Lib.hid (hw.out.same s3); replace hP' := Lib.hid (hP'.out.same s3); replace q5 := Lib.hid (q5.out.same s3); replace kc := Lib.hid (s3.at kc.out id)
  clear s3 hme0
  replace hM0 := Lib.hid hM0
  have C6b := SE0.out _ _ _ hM0.out
  replace C6b := Lib.hid C6b
  go_wp2_with fail
  refine (C6b.out).mono ?_
  intro e v6 hM
  obtain ⟨a6, c6, L6, r6, rfl, d6, z6, s6⟩ := hM.open
  clear hM
  
  go_upto_region 6 with fail
  have q6 : Bx (v6.alloc (.cells #[.int .i64 b, .slice a6 L6.length c6, .int .i64 r6] 29)) v6.heap.size b _ a6 c6 L6 r6 := ⟨heap_new _ _, SliceAt.same d6 (by repeat (first | exact Fr.refl _ _ | apply Fr.alloc | apply Fr.drewN | apply Fr.drew | apply Fr.undrew | apply Fr.undrewN)), z6⟩
  have s6 := s6.same (show Same v6 (v6.alloc (.cells #[.int .i64 b, .slice a6 L6.length c6, .int .i64 r6] 29)) from (by repeat (first | exact Fr.refl _ _ | apply Fr.alloc | apply Fr.drewN | apply Fr.drew | apply Fr.undrew | apply Fr.undrewN)))
  clear d6 z6
  generalize v6.alloc (.cells #[.int .i64 b, .slice a6 L6.length c6, .int .i64 r6] 29) = w6 at *
  generalize v6.heap.size = b6 at *
  replace hw := Lib.hid (hw.out.same s6); replace hP' := Lib.hid (hP'.out.same s6); replace q5 := Lib.hid (q5.out.same s6)
  replace q6 := Lib.hid q6; replace s6 := Lib.hid s6
  replace s6 := s6.out
  replace kc := Lib.hid (s6.at kc.out id)
  clear C6b s6
  have e0 := cell_at kc.out 0
  have e1 := cell_at kc.out 1
  have el := lt_of_heap kc.out
  go_wp2_with fail
  refine (ME1.out _).mono ?_
  rintro e vM1 ⟨aM1, cM1, rfl, hme1, s3⟩
  have hM1 := (SliceAt.of_owns hme1).row
  clear e0 e1 el
  replace hw := Lib.hid (hw.out.same s3); replace hP' := Lib.hid (hP'.out.same s3); replace q5 := Lib.hid (q5.out.same s3); replace q6 := Lib.hid (q6.out.same s3); replace kc := Lib.hid (s3.at kc.out id)
  clear s3 hme1
  replace hM1 := Lib.hid hM1
  have C7b := SE1.out _ _ _ hM1.out
  replace C7b := Lib.hid C7b
  go_wp2_with fail
  refine (C7b.out).mono ?_
  intro e v7 hM
  obtain ⟨a7, c7, L7, r7, rfl, d7, z7, s7⟩ := hM.open
  clear hM
  
  go_upto_region 7 with fail
  have q7 : Bx (v7.alloc (.cells #[.int .i64 b, .slice a7 L7.length c7, .int .i64 r7] 29)) v7.heap.size b _ a7 c7 L7 r7 := ⟨heap_new _ _, SliceAt.same d7 (by repeat (first | exact Fr.refl _ _ | apply Fr.alloc | apply Fr.drewN | apply Fr.drew | apply Fr.undrew | apply Fr.undrewN)), z7⟩
  have s7 := s7.same (show Same v7 (v7.alloc (.cells #[.int .i64 b, .slice a7 L7.length c7, .int .i64 r7] 29)) from (by repeat (first | exact Fr.refl _ _ | apply Fr.alloc | apply Fr.drewN | apply Fr.drew | apply Fr.undrew | apply Fr.undrewN)))
  clear d7 z7
  generalize v7.alloc (.cells #[.int .i64 b, .slice a7 L7.length c7, .int .i64 r7] 29) = w7 at *
  generalize v7.heap.size = b7 at *
  replace hw := Lib.hid (hw.out.same s7); replace hP' := Lib.hid (hP'.out.same s7); replace q5 := Lib.hid (q5.out.same s7); replace q6 := Lib.hid (q6.out.same s7)
  replace q7 := Lib.hid q7; replace s7 := Lib.hid s7
  replace s7 := s7.out
  replace kc := Lib.hid (s7.at kc.out id)
  clear C7b s7
  clear kc hM0 hM1
  clear hP'
  have C8 := ID.out w7
  replace C8 := Lib.hid C8
  go_wp2_with fail
  refine (C8.out).mono ?_
  intro e v8 hM
  obtain ⟨a8, c8, L8, r8, rfl, d8, z8, s8⟩ := hM.open
  clear hM
  
  go_upto_region 8 with fail
  have q8 : Bx (v8.alloc (.cells #[.int .i64 m, .slice a8 L8.length c8, .int .i64 r8] 29)) v8.heap.size m _ a8 c8 L8 r8 := ⟨heap_new _ _, SliceAt.same d8 (by repeat (first | exact Fr.refl _ _ | apply Fr.alloc | apply Fr.drewN | apply Fr.drew | apply Fr.undrew | apply Fr.undrewN)), z8⟩
  have s8 := s8.same (show Same v8 (v8.alloc (.cells #[.int .i64 m, .slice a8 L8.length c8, .int .i64 r8] 29)) from (by repeat (first | exact Fr.refl _ _ | apply Fr.alloc | apply Fr.drewN | apply Fr.drew | apply Fr.undrew | apply Fr.undrewN)))
  clear d8 z8
  generalize v8.alloc (.cells #[.int .i64 m, .slice a8 L8.length c8, .int .i64 r8] 29) = w8 at *
  generalize v8.heap.size = b8 at *
  replace hw := Lib.hid (hw.out.same s8); replace q5 := Lib.hid (q5.out.same s8); replace q6 := Lib.hid (q6.out.same s8); replace q7 := Lib.hid (q7.out.same s8)
  replace q8 := Lib.hid q8; replace s8 := Lib.hid s8
  clear C8 s8
  go_upto_region 10 with fail
  have x0 := cell_at q5.out.heap 0
  have x1 := cell_at q5.out.heap 1
  have x2 := cell_at q5.out.heap 2
  have xl := lt_of_heap q5.out.heap
  have y0 := cell_at q6.out.heap 0
  have y1 := cell_at q6.out.heap 1
  have y2 := cell_at q6.out.heap 2
  have yl := lt_of_heap q6.out.heap
  have C10 := imP hm.out (by omega) ⟨m, a5, c5, L5, r5⟩ ⟨b, a6, c6, L6, r6⟩ _ _ w8 q5.out.at' q6.out.at' ⟨rfl, q5.out.tab⟩ ⟨rfl, q6.out.tab⟩
  replace C10 := Lib.hid C10
  go_wp2_with fail
  refine (C10.out).mono ?_
  intro e v10 hM
  obtain ⟨a10, c10, L10, r10, rfl, d10, z10, s10⟩ := hM.open
  clear hM
  clear x0 x1 x2 xl y0 y1 y2 yl
  go_upto_region 11 with fail
  have q10 : Bx (v10.alloc (.cells #[.int .i64 b, .slice a10 L10.length c10, .int .i64 r10] 29)) v10.heap.size b _ a10 c10 L10 r10 := ⟨heap_new _ _, SliceAt.same d10 (by repeat (first | exact Fr.refl _ _ | apply Fr.alloc | apply Fr.drewN | apply Fr.drew | apply Fr.undrew | apply Fr.undrewN)), z10⟩
  have s10 := s10.same (show Same v10 (v10.alloc (.cells #[.int .i64 b, .slice a10 L10.length c10, .int .i64 r10] 29)) from (by repeat (first | exact Fr.refl _ _ | apply Fr.alloc | apply Fr.drewN | apply Fr.drew | apply Fr.undrew | apply Fr.undrewN)))
  clear d10 z10
  generalize v10.alloc (.cells #[.int .i64 b, .slice a10 L10.length c10, .int .i64 r10] 29) = w10 at *
  generalize v10.heap.size = b10 at *
  replace hw := Lib.hid (hw.out.same s10); replace q5 := Lib.hid (q5.out.same s10); replace q6 := Lib.hid (q6.out.same s10); replace q7 := Lib.hid (q7.out.same s10); replace q8 := Lib.hid (q8.out.same s10)
  replace q10 := Lib.hid q10; replace s10 := Lib.hid s10
  clear C10 s10
  have x0 := cell_at q5.out.heap 0
  have x1 := cell_at q5.out.heap 1
  have x2 := cell_at q5.out.heap 2
  have xl := lt_of_heap q5.out.heap
  have y0 := cell_at q7.out.heap 0
  have y1 := cell_at q7.out.heap 1
  have y2 := cell_at q7.out.heap 2
  have yl := lt_of_heap q7.out.heap
  have C11 := imP hm.out (by omega) ⟨m, a5, c5, L5, r5⟩ ⟨b, a7, c7, L7, r7⟩ _ _ w10 q5.out.at' q7.out.at' ⟨rfl, q5.out.tab⟩ ⟨rfl, q7.out.tab⟩
  replace C11 := Lib.hid C11
  go_wp2_with fail
  refine (C11.out).mono ?_
  intro e v11 hM
  obtain ⟨a11, c11, L11, r11, rfl, d11, z11, s11⟩ := hM.open
  clear hM
  clear x0 x1 x2 xl y0 y1 y2 yl
  go_upto_region 12 with fail
  have q11 : Bx (v11.alloc (.cells #[.int .i64 b, .slice a11 L11.length c11, .int .i64 r11] 29)) v11.heap.size b _ a11 c11 L11 r11 := ⟨heap_new _ _, SliceAt.same d11 (by repeat (first | exact Fr.refl _ _ | apply Fr.alloc | apply Fr.drewN | apply Fr.drew | apply Fr.undrew | apply Fr.undrewN)), z11⟩
  have s11 := s11.same (show Same v11 (v11.alloc (.cells #[.int .i64 b, .slice a11 L11.length c11, .int .i64 r11] 29)) from (by repeat (first | exact Fr.refl _ _ | apply Fr.alloc | apply Fr.drewN | apply Fr.drew | apply Fr.undrew | apply Fr.undrewN)))
  clear d11 z11
  generalize v11.alloc (.cells #[.int .i64 b, .slice a11 L11.length c11, .int .i64 r11] 29) = w11 at *
  generalize v11.heap.size = b11 at *
  replace hw := Lib.hid (hw.out.same s11); replace q5 := Lib.hid (q5.out.same s11); replace q6 := Lib.hid (q6.out.same s11); replace q7 := Lib.hid (q7.out.same s11); replace q8 := Lib.hid (q8.out.same s11); replace q10 := Lib.hid (q10.out.same s11)
  replace q11 := Lib.hid q11; replace s11 := Lib.hid s11
  clear C11 s11
  have x0 := cell_at q6.out.heap 0
  have x1 := cell_at q6.out.heap 1
  have x2 := cell_at q6.out.heap 2
  have xl := lt_of_heap q6.out.heap
  have y0 := cell_at q7.out.heap 0
  have y1 := cell_at q7.out.heap 1
  have y2 := cell_at q7.out.heap 2
  have yl := lt_of_heap q7.out.heap
  have C12 := Or_tab (n := b) (by omega) (d := ⟨b, a6, c6, L6, r6⟩) (d' := ⟨b, a7, c7, L7, r7⟩) (w := w11) q6.out.at' q7.out.at' ⟨rfl, q6.out.tab⟩ ⟨rfl, q7.out.tab⟩
  replace C12 := Lib.hid C12
  go_wp2_with fail
  refine (C12.out).mono ?_
  intro e v12 hM
  obtain ⟨a12, c12, L12, r12, rfl, d12, z12, s12⟩ := hM.open
  clear hM
  clear x0 x1 x2 xl y0 y1 y2 yl
  go_upto_region 13 with fail
  have q12 : Bx (v12.alloc (.cells #[.int .i64 b, .slice a12 L12.length c12, .int .i64 r12] 29)) v12.heap.size b _ a12 c12 L12 r12 := ⟨heap_new _ _, SliceAt.same d12 (by repeat (first | exact Fr.refl _ _ | apply Fr.alloc | apply Fr.drewN | apply Fr.drew | apply Fr.undrew | apply Fr.undrewN)), z12⟩
  have s12 := s12.same (show Same v12 (v12.alloc (.cells #[.int .i64 b, .slice a12 L12.length c12, .int .i64 r12] 29)) from (by repeat (first | exact Fr.refl _ _ | apply Fr.alloc | apply Fr.drewN | apply Fr.drew | apply Fr.undrew | apply Fr.undrewN)))
  clear d12 z12
  generalize v12.alloc (.cells #[.int .i64 b, .slice a12 L12.length c12, .int .i64 r12] 29) = w12 at *
  generalize v12.heap.size = b12 at *
  replace hw := Lib.hid (hw.out.same s12); replace q5 := Lib.hid (q5.out.same s12); replace q6 := Lib.hid (q6.out.same s12); replace q7 := Lib.hid (q7.out.same s12); replace q8 := Lib.hid (q8.out.same s12); replace q10 := Lib.hid (q10.out.same s12); replace q11 := Lib.hid (q11.out.same s12)
  replace q12 := Lib.hid q12; replace s12 := Lib.hid s12
  clear C12 s12
  have x0 := cell_at q5.out.heap 0
  have x1 := cell_at q5.out.heap 1
  have x2 := cell_at q5.out.heap 2
  have xl := lt_of_heap q5.out.heap
  have y0 := cell_at q12.out.heap 0
  have y1 := cell_at q12.out.heap 1
  have y2 := cell_at q12.out.heap 2
  have yl := lt_of_heap q12.out.heap
  have C13 := imP hm.out (by omega) ⟨m, a5, c5, L5, r5⟩ ⟨b, a12, c12, L12, r12⟩ _ _ w12 q5.out.at' q12.out.at' ⟨rfl, q5.out.tab⟩ ⟨rfl, q12.out.tab⟩
  replace C13 := Lib.hid C13
  go_wp2_with fail
  refine (C13.out).mono ?_
  intro e v13 hM
  obtain ⟨a13, c13, L13, r13, rfl, d13, z13, s13⟩ := hM.open
  clear hM
  clear x0 x1 x2 xl y0 y1 y2 yl
  go_upto_region 14 with fail
  have q13 : Bx (v13.alloc (.cells #[.int .i64 b, .slice a13 L13.length c13, .int .i64 r13] 29)) v13.heap.size b _ a13 c13 L13 r13 := ⟨heap_new _ _, SliceAt.same d13 (by repeat (first | exact Fr.refl _ _ | apply Fr.alloc | apply Fr.drewN | apply Fr.drew | apply Fr.undrew | apply Fr.undrewN)), z13⟩
  have s13 := s13.same (show Same v13 (v13.alloc (.cells #[.int .i64 b, .slice a13 L13.length c13, .int .i64 r13] 29)) from (by repeat (first | exact Fr.refl _ _ | apply Fr.alloc | apply Fr.drewN | apply Fr.drew | apply Fr.undrew | apply Fr.undrewN)))
  clear d13 z13
  generalize v13.alloc (.cells #[.int .i64 b, .slice a13 L13.length c13, .int .i64 r13] 29) = w13 at *
  generalize v13.heap.size = b13 at *
  replace hw := Lib.hid (hw.out.same s13); replace q5 := Lib.hid (q5.out.same s13); replace q6 := Lib.hid (q6.out.same s13); replace q7 := Lib.hid (q7.out.same s13); replace q8 := Lib.hid (q8.out.same s13); replace q10 := Lib.hid (q10.out.same s13); replace q11 := Lib.hid (q11.out.same s13); replace q12 := Lib.hid (q12.out.same s13)
  replace q13 := Lib.hid q13; replace s13 := Lib.hid s13
  clear C13 s13
  clear q12
  have x0 := cell_at q10.out.heap 0
  have x1 := cell_at q10.out.heap 1
  have x2 := cell_at q10.out.heap 2
  have xl := lt_of_heap q10.out.heap
  have y0 := cell_at q11.out.heap 0
  have y1 := cell_at q11.out.heap 1
  have y2 := cell_at q11.out.heap 2
  have yl := lt_of_heap q11.out.heap
  have C14 := Or_tab (n := b) (by omega) (d := ⟨b, a10, c10, L10, r10⟩) (d' := ⟨b, a11, c11, L11, r11⟩) (w := w13) q10.out.at' q11.out.at' ⟨rfl, q10.out.tab⟩ ⟨rfl, q11.out.tab⟩
  replace C14 := Lib.hid C14
  go_wp2_with fail
  refine (C14.out).mono ?_
  intro e v14 hM
  obtain ⟨a14, c14, L14, r14, rfl, d14, z14, s14⟩ := hM.open
  clear hM
  clear x0 x1 x2 xl y0 y1 y2 yl
  go_upto_region 15 with fail
  have q14 : Bx (v14.alloc (.cells #[.int .i64 b, .slice a14 L14.length c14, .int .i64 r14] 29)) v14.heap.size b _ a14 c14 L14 r14 := ⟨heap_new _ _, SliceAt.same d14 (by repeat (first | exact Fr.refl _ _ | apply Fr.alloc | apply Fr.drewN | apply Fr.drew | apply Fr.undrew | apply Fr.undrewN)), z14⟩
  have s14 := s14.same (show Same v14 (v14.alloc (.cells #[.int .i64 b, .slice a14 L14.length c14, .int .i64 r14] 29)) from (by repeat (first | exact Fr.refl _ _ | apply Fr.alloc | apply Fr.drewN | apply Fr.drew | apply Fr.undrew | apply Fr.undrewN)))
  clear d14 z14
  generalize v14.alloc (.cells #[.int .i64 b, .slice a14 L14.length c14, .int .i64 r14] 29) = w14 at *
  generalize v14.heap.size = b14 at *
  replace hw := Lib.hid (hw.out.same s14); replace q5 := Lib.hid (q5.out.same s14); replace q6 := Lib.hid (q6.out.same s14); replace q7 := Lib.hid (q7.out.same s14); replace q8 := Lib.hid (q8.out.same s14); replace q10 := Lib.hid (q10.out.same s14); replace q11 := Lib.hid (q11.out.same s14); replace q13 := Lib.hid (q13.out.same s14)
  replace q14 := Lib.hid q14; replace s14 := Lib.hid s14
  clear C14 s14
  have x0 := cell_at q8.out.heap 0
  have x1 := cell_at q8.out.heap 1
  have x2 := cell_at q8.out.heap 2
  have xl := lt_of_heap q8.out.heap
  have y0 := cell_at q6.out.heap 0
  have y1 := cell_at q6.out.heap 1
  have y2 := cell_at q6.out.heap 2
  have yl := lt_of_heap q6.out.heap
  have C15 := imP hm.out (by omega) ⟨m, a8, c8, L8, r8⟩ ⟨b, a6, c6, L6, r6⟩ _ _ w14 q8.out.at' q6.out.at' ⟨rfl, q8.out.tab⟩ ⟨rfl, q6.out.tab⟩
  replace C15 := Lib.hid C15
  go_wp2_with fail
  refine (C15.out).mono ?_
  intro e v15 hM
  obtain ⟨a15, c15, L15, r15, rfl, d15, z15, s15⟩ := hM.open
  clear hM
  clear x0 x1 x2 xl y0 y1 y2 yl
  go_upto_region 16 with fail
  have q15 : Bx (v15.alloc (.cells #[.int .i64 b, .slice a15 L15.length c15, .int .i64 r15] 29)) v15.heap.size b _ a15 c15 L15 r15 := ⟨heap_new _ _, SliceAt.same d15 (by repeat (first | exact Fr.refl _ _ | apply Fr.alloc | apply Fr.drewN | apply Fr.drew | apply Fr.undrew | apply Fr.undrewN)), z15⟩
  have s15 := s15.same (show Same v15 (v15.alloc (.cells #[.int .i64 b, .slice a15 L15.length c15, .int .i64 r15] 29)) from (by repeat (first | exact Fr.refl _ _ | apply Fr.alloc | apply Fr.drewN | apply Fr.drew | apply Fr.undrew | apply Fr.undrewN)))
  clear d15 z15
  generalize v15.alloc (.cells #[.int .i64 b, .slice a15 L15.length c15, .int .i64 r15] 29) = w15 at *
  generalize v15.heap.size = b15 at *
  replace hw := Lib.hid (hw.out.same s15); replace q5 := Lib.hid (q5.out.same s15); replace q6 := Lib.hid (q6.out.same s15); replace q7 := Lib.hid (q7.out.same s15); replace q8 := Lib.hid (q8.out.same s15); replace q10 := Lib.hid (q10.out.same s15); replace q11 := Lib.hid (q11.out.same s15); replace q13 := Lib.hid (q13.out.same s15); replace q14 := Lib.hid (q14.out.same s15)
  replace q15 := Lib.hid q15; replace s15 := Lib.hid s15
  clear C15 s15
  clear q8 q11
  have x0 := cell_at q5.out.heap 0
  have x1 := cell_at q5.out.heap 1
  have x2 := cell_at q5.out.heap 2
  have xl := lt_of_heap q5.out.heap
  have y0 := cell_at q7.out.heap 0
  have y1 := cell_at q7.out.heap 1
  have y2 := cell_at q7.out.heap 2
  have yl := lt_of_heap q7.out.heap
  have C16 := piP hm.out (by omega) ⟨m, a5, c5, L5, r5⟩ ⟨b, a7, c7, L7, r7⟩ _ _ w15 q5.out.at' q7.out.at' ⟨rfl, q5.out.tab⟩ ⟨rfl, q7.out.tab⟩
  replace C16 := Lib.hid C16
  go_wp2_with fail
  refine (C16.out).mono ?_
  intro e v16 hM
  obtain ⟨a16, c16, L16, r16, rfl, d16, z16, s16⟩ := hM.open
  clear hM
  clear x0 x1 x2 xl y0 y1 y2 yl
  go_upto_region 17 with fail
  have q16 : Bx (v16.alloc (.cells #[.int .i64 b, .slice a16 L16.length c16, .int .i64 r16] 29)) v16.heap.size b _ a16 c16 L16 r16 := ⟨heap_new _ _, SliceAt.same d16 (by repeat (first | exact Fr.refl _ _ | apply Fr.alloc | apply Fr.drewN | apply Fr.drew | apply Fr.undrew | apply Fr.undrewN)), z16⟩
  have s16 := s16.same (show Same v16 (v16.alloc (.cells #[.int .i64 b, .slice a16 L16.length c16, .int .i64 r16] 29)) from (by repeat (first | exact Fr.refl _ _ | apply Fr.alloc | apply Fr.drewN | apply Fr.drew | apply Fr.undrew | apply Fr.undrewN)))
  clear d16 z16
  generalize v16.alloc (.cells #[.int .i64 b, .slice a16 L16.length c16, .int .i64 r16] 29) = w16 at *
  generalize v16.heap.size = b16 at *
  replace hw := Lib.hid (hw.out.same s16); replace q5 := Lib.hid (q5.out.same s16); replace q6 := Lib.hid (q6.out.same s16); replace q7 := Lib.hid (q7.out.same s16); replace q10 := Lib.hid (q10.out.same s16); replace q13 := Lib.hid (q13.out.same s16); replace q14 := Lib.hid (q14.out.same s16); replace q15 := Lib.hid (q15.out.same s16)
  replace q16 := Lib.hid q16; replace s16 := Lib.hid s16
  clear C16 s16
  clear q5
  have x0 := cell_at q10.out.heap 0
  have x1 := cell_at q10.out.heap 1
  have x2 := cell_at q10.out.heap 2
  have xl := lt_of_heap q10.out.heap
  have y0 := cell_at q7.out.heap 0
  have y1 := cell_at q7.out.heap 1
  have y2 := cell_at q7.out.heap 2
  have yl := lt_of_heap q7.out.heap
  have C17 := And_tab (n := b) (by omega) (d := ⟨b, a10, c10, L10, r10⟩) (d' := ⟨b, a7, c7, L7, r7⟩) (w := w16) q10.out.at' q7.out.at' ⟨rfl, q10.out.tab⟩ ⟨rfl, q7.out.tab⟩
  replace C17 := Lib.hid C17
  go_wp2_with fail
  refine (C17.out).mono ?_
  intro e v17 hM
  obtain ⟨a17, c17, L17, r17, rfl, d17, z17, s17⟩ := hM.open
  clear hM
  clear x0 x1 x2 xl y0 y1 y2 yl
  go_upto_region 18 with fail
  have q17 : Bx (v17.alloc (.cells #[.int .i64 b, .slice a17 L17.length c17, .int .i64 r17] 29)) v17.heap.size b _ a17 c17 L17 r17 := ⟨heap_new _ _, SliceAt.same d17 (by repeat (first | exact Fr.refl _ _ | apply Fr.alloc | apply Fr.drewN | apply Fr.drew | apply Fr.undrew | apply Fr.undrewN)), z17⟩
  have s17 := s17.same (show Same v17 (v17.alloc (.cells #[.int .i64 b, .slice a17 L17.length c17, .int .i64 r17] 29)) from (by repeat (first | exact Fr.refl _ _ | apply Fr.alloc | apply Fr.drewN | apply Fr.drew | apply Fr.undrew | apply Fr.undrewN)))
  clear d17 z17
  generalize v17.alloc (.cells #[.int .i64 b, .slice a17 L17.length c17, .int .i64 r17] 29) = w17 at *
  generalize v17.heap.size = b17 at *
  replace hw := Lib.hid (hw.out.same s17); replace q6 := Lib.hid (q6.out.same s17); replace q7 := Lib.hid (q7.out.same s17); replace q10 := Lib.hid (q10.out.same s17); replace q13 := Lib.hid (q13.out.same s17); replace q14 := Lib.hid (q14.out.same s17); replace q15 := Lib.hid (q15.out.same s17); replace q16 := Lib.hid (q16.out.same s17)
  replace q17 := Lib.hid q17; replace s17 := Lib.hid s17
  clear C17 s17
  clear q10 q7
  have x0 := cell_at q6.out.heap 0
  have x1 := cell_at q6.out.heap 1
  have x2 := cell_at q6.out.heap 2
  have xl := lt_of_heap q6.out.heap
  have y0 := cell_at q16.out.heap 0
  have y1 := cell_at q16.out.heap 1
  have y2 := cell_at q16.out.heap 2
  have yl := lt_of_heap q16.out.heap
  have C18 := And_tab (n := b) (by omega) (d := ⟨b, a6, c6, L6, r6⟩) (d' := ⟨b, a16, c16, L16, r16⟩) (w := w17) q6.out.at' q16.out.at' ⟨rfl, q6.out.tab⟩ ⟨rfl, q16.out.tab⟩
  replace C18 := Lib.hid C18
  go_wp2_with fail
  refine (C18.out).mono ?_
  intro e v18 hM
  obtain ⟨a18, c18, L18, r18, rfl, d18, z18, s18⟩ := hM.open
  clear hM
  clear x0 x1 x2 xl y0 y1 y2 yl
  go_upto_region 19 with fail
  have q18 : Bx (v18.alloc (.cells #[.int .i64 b, .slice a18 L18.length c18, .int .i64 r18] 29)) v18.heap.size b _ a18 c18 L18 r18 := ⟨heap_new _ _, SliceAt.same d18 (by repeat (first | exact Fr.refl _ _ | apply Fr.alloc | apply Fr.drewN | apply Fr.drew | apply Fr.undrew | apply Fr.undrewN)), z18⟩
  have s18 := s18.same (show Same v18 (v18.alloc (.cells #[.int .i64 b, .slice a18 L18.length c18, .int .i64 r18] 29)) from (by repeat (first | exact Fr.refl _ _ | apply Fr.alloc | apply Fr.drewN | apply Fr.drew | apply Fr.undrew | apply Fr.undrewN)))
  clear d18 z18
  generalize v18.alloc (.cells #[.int .i64 b, .slice a18 L18.length c18, .int .i64 r18] 29) = w18 at *
  generalize v18.heap.size = b18 at *
  replace hw := Lib.hid (hw.out.same s18); replace q6 := Lib.hid (q6.out.same s18); replace q13 := Lib.hid (q13.out.same s18); replace q14 := Lib.hid (q14.out.same s18); replace q15 := Lib.hid (q15.out.same s18); replace q16 := Lib.hid (q16.out.same s18); replace q17 := Lib.hid (q17.out.same s18)
  replace q18 := Lib.hid q18; replace s18 := Lib.hid s18
  clear C18 s18
  clear q16
  have x0 := cell_at q13.out.heap 0
  have x1 := cell_at q13.out.heap 1
  have x2 := cell_at q13.out.heap 2
  have xl := lt_of_heap q13.out.heap
  have y0 := cell_at q14.out.heap 0
  have y1 := cell_at q14.out.heap 1
  have y2 := cell_at q14.out.heap 2
  have yl := lt_of_heap q14.out.heap
  have C20 := equal_dg (d := ⟨b, a13, c13, L13, r13⟩) (d' := ⟨b, a14, c14, L14, r14⟩) (w := w18) q13.out.at' q14.out.at' ⟨rfl, q13.out.tab⟩ ⟨rfl, q14.out.tab⟩
  replace C20 := Lib.hid C20
  go_wp2_with fail
  refine C20.out.mono ?_
  rintro e w20 ⟨rfl, s20⟩
  clear x0 x1 x2 xl y0 y1 y2 yl
  rw [decide_eq_true hu.out]
  replace hw := Lib.hid (hw.out.same s20); replace q6 := Lib.hid (q6.out.same s20); replace q13 := Lib.hid (q13.out.same s20); replace q14 := Lib.hid (q14.out.same s20); replace q15 := Lib.hid (q15.out.same s20); replace q17 := Lib.hid (q17.out.same s20); replace q18 := Lib.hid (q18.out.same s20)
  clear s20 C20
  clear q13 q14
  have x0 := cell_at q15.out.heap 0
  have x1 := cell_at q15.out.heap 1
  have x2 := cell_at q15.out.heap 2
  have xl := lt_of_heap q15.out.heap
  have y0 := cell_at q6.out.heap 0
  have y1 := cell_at q6.out.heap 1
  have y2 := cell_at q6.out.heap 2
  have yl := lt_of_heap q6.out.heap
  have C21 := equal_dg (d := ⟨b, a15, c15, L15, r15⟩) (d' := ⟨b, a6, c6, L6, r6⟩) (w := w20) q15.out.at' q6.out.at' ⟨rfl, q15.out.tab⟩ ⟨rfl, q6.out.tab⟩
  replace C21 := Lib.hid C21
  go_wp2_with fail
  refine C21.out.mono ?_
  rintro e w21 ⟨rfl, s21⟩
  clear x0 x1 x2 xl y0 y1 y2 yl
  rw [decide_eq_true hid.out]
  replace hw := Lib.hid (hw.out.same s21); replace q6 := Lib.hid (q6.out.same s21); replace q15 := Lib.hid (q15.out.same s21); replace q17 := Lib.hid (q17.out.same s21); replace q18 := Lib.hid (q18.out.same s21)
  clear s21 C21
  clear q15 q6
  have z17 := q17.out.tab.zero
  have z18 := q18.out.tab.zero
  have hz : r17 = 0 ↔ r18 = 0 := z17.trans (hme.out.trans z18.symm)
  have hzb : ((r17 == 0) == (r18 == 0)) = true := by
    by_cases h : r17 = 0
    · simp [h, hz.1 h]
    · have h' : ¬ r18 = 0 := fun hh => h (hz.2 hh)
      rw [show (r17 == 0) = false from beq_eq_false_iff_ne.2 h, show (r18 == 0) = false from beq_eq_false_iff_ne.2 h']; rfl
  clear z17 z18 hz
  have x0 := cell_at q17.out.heap 0
  have x1 := cell_at q17.out.heap 1
  have x2 := cell_at q17.out.heap 2
  have xl := lt_of_heap q17.out.heap
  have y0 := cell_at q18.out.heap 0
  have y1 := cell_at q18.out.heap 1
  have y2 := cell_at q18.out.heap 2
  have yl := lt_of_heap q18.out.heap
  go_wp2_with fail
  go_ret
  exact ⟨by first | rfl | rw [hzb] | simpa using hzb, hw.out⟩
end Go.Proofs.YtcdkklddingfpaaGreat
