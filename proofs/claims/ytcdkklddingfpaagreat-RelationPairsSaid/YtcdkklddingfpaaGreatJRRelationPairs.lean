/- RelationPairs: the given statement. Printed by wip/mkrow.py. RelationPairs walked. Printed by wip/mkrel.py. -/
import Derived.Test.YtcdkklddingfpaaGreatJRlN
import Derived.Test.YtcdkklddingfpaaGreatJRowL
namespace Go.Proofs.YtcdkklddingfpaaGreat
open Go.RowKit
set_option linter.unusedVariables false
set_option linter.unusedSimpArgs false

theorem filter_none (x : Nat) : ∀ k, k ≤ x → ((List.range k).filter fun y => x == y) = []
  | 0, _ => rfl
  | k + 1, h => by
    rw [List.range_succ, List.filter_append, filter_none x k (by omega)]
    have : (x == k) = false := by simp; omega
    simp [List.filter_cons, this]
theorem filter_one (x : Nat) : ∀ k, x < k → ((List.range k).filter fun y => x == y) = [x]
  | k + 1, h => by
    rw [List.range_succ, List.filter_append]
    by_cases e : x = k
    · subst e
      rw [filter_none x x (by omega)]
      simp [List.filter_cons]
    · rw [filter_one x k (by omega)]
      have : (x == k) = false := by simp; omega
      simp [List.filter_cons, this]
theorem DgE.bad {E : Int} {n : Nat} {t : List Bool} {w w' : World} {e : Ending} (h : DgE E n t w e w') (h0 : E ≠ 0) : DErr w E e w' := by
  rcases h with ⟨_, h⟩ | ⟨h, _⟩
  · exact h
  · exact absurd h h0
theorem prs_id (k : Nat) : prsT k (fun x y => decide ((x, y) ∈ idL k)) = idL k := by
  unfold prsT idL
  have h : ∀ x, x < k → ((List.range k).filter fun y => decide ((x, y) ∈ (List.range k).map fun i => (i, i))) = [x] := fun x hx => by
    have e1 : ((List.range k).filter fun y => decide ((x, y) ∈ (List.range k).map fun i => (i, i))) = (List.range k).filter (fun y => x == y) := by
      refine List.filter_congr (fun y hy => ?_)
      have hy' := List.mem_range.1 hy
      rw [Bool.eq_iff_iff, decide_eq_true_eq, beq_iff_eq]
      exact (idL_mem (k := k)).trans ⟨fun h => h.1, fun h => ⟨h, hx⟩⟩
    rw [e1]
    exact filter_one x k hx
  unfold List.flatMap
  rw [List.map_congr_left (g := fun x => [(x, x)]) (fun x hx => by rw [h x (List.mem_range.1 hx)]; rfl)]
  have : ∀ l : List Nat, (l.map fun x => [(x, x)]).flatten = l.map fun i => (i, i) := fun l => by
    induction l with
    | nil => rfl
    | cons a l ih => rw [List.map_cons, List.flatten_cons, ih]; rfl
  exact this _
set_option maxRecDepth 100000 in
set_option maxHeartbeats 16000000 in
theorem rpairs_any (x : Int) (hx : 0 ≤ x ∧ x ≤ 255) (lk : List Nat) (h20 : lk.length = 20) (hlk : ∀ y ∈ lk, y < 256) (u v : Int) (hu : -9223372036854775808 ≤ u ∧ u ≤ 9223372036854775807) (hv : -9223372036854775808 ≤ v ∧ v ≤ 9223372036854775807) (w : World) :
    Calls Tryz.prog 8 #[.int .u8 x, .agg (bytC lk).toArray, .agg #[.int .i64 u, .int .i64 v]] w fun e w' => e = .returned (.bool true) ∧ Same w w' := by
  obtain ⟨k, hk⟩ : ∃ k : Nat, k = x.toNat % 13 := ⟨_, rfl⟩
  have hk12 : k ≤ 12 := by omega
  have h1 : x.tmod 13 = (k : Int) := by rw [Int.tmod_eq_emod_of_nonneg hx.1]; omega
  have h2 : IntKind.u8.wrap (k : Int) = k := by unfold IntKind.wrap; simp [IntKind.bits, IntKind.signed]; omega
  have h3 : wrap64 (k : Int) = k := by unfold wrap64; omega
  have h4 : IntKind.i64.wrap (k : Int) = k := IntWalk.i64_in _ (by omega)
  have hkb : k ≤ 2 ^ bitsF k := (bitsF_is (n := k) (by omega)).1
  have hb4 : bitsF k ≤ 4 := (bitsF_is (n := k) (by omega)).bd (by omega)
  have KN := fun W => known_any W
  clear hk hx
  have PR := fun W => lpairs_any lk k W h20 hlk (by omega)
  have hP := lkP_lt lk k 10
  have hPl := lkP_len lk k 10
  obtain ⟨P, hPd⟩ : ∃ P, P = lkP lk k 10 := ⟨_, rfl⟩
  rw [← hPd] at PR hP hPl
  have hcs : (bytC lk).toArray.size = 20 := by simp [bytC, h20]
  generalize (bytC lk).toArray = cs at *
  clear h20 hlk hPd
  have ID := fun W => Identity_any (n := k) (by omega) W
  obtain ⟨b, hb⟩ : ∃ b, b = bitsF k := ⟨_, rfl⟩
  rw [← hb] at hkb hb4
  obtain ⟨m, hm⟩ : ∃ m, m = 2 * b := ⟨_, rfl⟩
  have hpo : ∀ l : List (Nat × Nat), (posT (relT b l) 0).length ≤ 1024 := fun l => Nat.le_trans (posT_len _ _) (by rw [relT_len]; exact show 2 ^ (2 * b) ≤ 2 ^ 10 from Nat.pow_le_pow_right (by omega) (by omega))
  have FP := fun a cap W h => fromP (k := k) (by omega) hb P hP a cap W (by omega) h
  have FX := fun a cap W h => FromPairs_any (n := k) (by omega) (P.map ipr ++ [(u, v)]) a (P.length + 1) cap W (by simp) (by omega) h
  have PA := fun (d : Dg) (W : World) (hat : d.at W) (T : d.tab (2 * b) (relT b P)) => paP (k := k) (by omega) hb hkb hP (hpo P) d W hat T
  have PI := fun (d : Dg) (W : World) (hat : d.at W) (T : d.tab (2 * b) (relT b (idL k))) => paP (k := k) (by omega) hb hkb (idL_lt k) (hpo _) d W hat T
  rw [prs_id] at PI
  have OD := fun a c W h => ordered_any P k a _ c W (by omega) rfl h (by omega)
  have LB := fun W => lbits_any k W (by omega)
  have CK := fun (d : Dg) (t : List Bool) (W : World) (hat : d.at W) (T : d.tab (2 * b) t) => check_tab d _ t W hat T
  have hpr := fun (i : Nat) (h : i < (idL k).length) a c W (hat : SliceAt W 40 2 (.slice a (idL k).length c) (idL k).length (prC (idL k))) => SliceAt.pair (l := (idL k).map ipr) (by rw [prI_nat]; exact hat) (k := i) (by simpa using h) (by simp)
  have hig := fun (i : Nat) (h : i < (idL k).length) => show (idL k)[i] = (i, i) by simp [idL]
  have hil := idL_len k
  have hOB : (prsT k fun x y => decide ((x, y) ∈ P)).length ≤ 5000 := by rw [← ordP_all]; exact ordP_len _ (by omega) (Nat.le_refl _) (by omega)
  have hbad : (u < 0 ∨ (k : Int) ≤ u ∨ v < 0 ∨ (k : Int) ≤ v) → (if ∀ p ∈ P.map ipr ++ [(u, v)], inR k p then (0 : Int) else 2) = 2 := fun h => if_neg (fun hh => by
    have := hh (u, v) (by simp)
    unfold inR at this
    simp only at this
    omega)
  have hprI : prI (P.map ipr ++ [(u, v)]) = prC P ++ [.int .i64 u, .int .i64 v] := by
    rw [← prI_nat]
    have : ∀ l : List (Int × Int), prI (l ++ [(u, v)]) = prI l ++ [.int .i64 u, .int .i64 v] := fun l => by
      induction l with
      | nil => rfl
      | cons p l ih => rw [List.cons_append, prI, ih, prI]; rfl
    exact this _
  simp only [hprI] at FX
  rw [← hb] at LB ID
  generalize (prsT k fun x y => decide ((x, y) ∈ P)) = OB at *
  generalize relT b ((P.map ipr ++ [(u, v)]).map natP) = tX at *
  generalize (if ∀ p ∈ P.map ipr ++ [(u, v)], inR k p then (0 : Int) else 2) = EX at *
  simp only [← hb, ← hm] at FP PA PI CK ID FX
  obtain ⟨i3, hi3, hi3z, hi3s, hi3b⟩ := info_parts infoP
  have hmb : IntKind.i64.wrap (2 * (b : Int)) = m := by rw [IntWalk.i64_in _ (by omega)]; omega
  have hPl2 : P.length ≤ 1000 := by omega
  replace KN := Lib.hid KN; replace PR := Lib.hid PR; replace hP := Lib.hid hP; replace FP := Lib.hid FP; replace FX := Lib.hid FX; replace PA := Lib.hid PA; replace PI := Lib.hid PI; replace OD := Lib.hid OD; replace LB := Lib.hid LB; replace CK := Lib.hid CK; replace ID := Lib.hid ID; replace hpr := Lib.hid hpr; replace hig := Lib.hid hig; replace hil := Lib.hid hil; replace hbad := Lib.hid hbad; replace hm := Lib.hid hm; replace hb := Lib.hid hb
  go_enter Tryz.func8, Tryz.ntmps8
  go_upto_region 1 with fail
  have kb := heap_old (heap_new w (.cells cs 48)) (.cells #[.int .i64 u, .int .i64 v] 40)
  have kc := heap_new (w.alloc (.cells cs 48)) (.cells #[.int .i64 u, .int .i64 v] 40)
  have hz1 : (w.alloc (.cells cs 48)).heap.size = w.heap.size + 1 := by simp
  have hw : Same w ((w.alloc (.cells cs 48)).alloc (.cells #[.int .i64 u, .int .i64 v] 40)) := (by repeat (first | exact Fr.refl _ _ | apply Fr.alloc | apply Fr.drewN | apply Fr.drew | apply Fr.undrew | apply Fr.undrewN))
  rw [hz1] at kc
  generalize (w.alloc (.cells cs 48)).alloc (.cells #[.int .i64 u, .int .i64 v] 40) = W0 at *
  generalize w.heap.size + 1 = bc at *
  generalize w.heap.size = bb at *
  clear hz1
  go_wp2_with fail
  refine (KN.out _).mono ?_
  rintro e w1 ⟨rfl, s1⟩
  replace kb := Lib.hid (s1.at kb id)
  replace kc := Lib.hid (s1.at kc id)
  replace hw := Lib.hid (hw.same s1)
  clear s1
  have bl := lt_of_heap kb.out
  go_upto_region 4 with fail
  refine wp_region_lit ?_
  refine wpList_load_row rfl 48 (.tmp 4) rfl bb rfl 48 cs (0, 0) _ (kb.out) Tryz.underlying48 rfl (by rw [infoL, hcs]) ?_
  (try simp only [Act.put, List.setIfInBounds_toArray, List.set_cons_zero, List.set_cons_succ])
  go_wp2_with fail
  refine (PR.out _).mono ?_
  rintro e w2 ⟨aP, cP, rfl, hoP, s2⟩
  replace kc := Lib.hid (s2.at kc.out id)
  have hB1 := hw.out.size
  have hB2 := s2.size
  generalize w1.heap.size = B0 at *
  replace hw := Lib.hid (hw.out.same s2)
  clear s2 bl kb
  have hP' := SliceAt.of_owns hoP
  have hs2 := Fr.refl (fun _ => False) w2
  replace hP' := Lib.hid hP'; replace hoP := Lib.hid hoP; replace hs2 := Lib.hid hs2
  go_upto_region 5 with fail
  have C5 := FP.out _ _ _ hP'.out
  replace C5 := Lib.hid C5
  go_wp2_with fail
  refine (C5.out).mono ?_
  intro e v5 hM
  obtain ⟨a5, c5, L5, r5, rfl, d5, z5, s5⟩ := hM.open
  clear hM
  
  go_upto_region 6 with fail
  have q5 : Bx (v5.alloc (.cells #[.int .i64 m, .slice a5 L5.length c5, .int .i64 r5] 29)) v5.heap.size m _ a5 c5 L5 r5 := ⟨heap_new _ _, SliceAt.same d5 (by repeat (first | exact Fr.refl _ _ | apply Fr.alloc | apply Fr.drewN | apply Fr.drew | apply Fr.undrew | apply Fr.undrewN)), z5⟩
  have s5 := s5.same (show Same v5 (v5.alloc (.cells #[.int .i64 m, .slice a5 L5.length c5, .int .i64 r5] 29)) from (by repeat (first | exact Fr.refl _ _ | apply Fr.alloc | apply Fr.drewN | apply Fr.drew | apply Fr.undrew | apply Fr.undrewN)))
  clear d5 z5
  generalize v5.alloc (.cells #[.int .i64 m, .slice a5 L5.length c5, .int .i64 r5] 29) = w5 at *
  generalize v5.heap.size = b5 at *
  replace hw := Lib.hid (hw.out.same s5); replace hP' := Lib.hid (hP'.out.same s5); replace hs2 := Lib.hid (hs2.out.same s5)
  replace q5 := Lib.hid q5; replace s5 := Lib.hid s5
  replace s5 := s5.out
  replace kc := Lib.hid (s5.at kc.out id)
  clear C5 s5
  have x0 := cell_at q5.out.heap 0
  have x1 := cell_at q5.out.heap 1
  have x2 := cell_at q5.out.heap 2
  have xl := lt_of_heap q5.out.heap
  have C6 := PA.out ⟨m, a5, c5, L5, r5⟩ _ q5.out.at' ⟨rfl, q5.out.tab⟩
  replace C6 := Lib.hid C6
  go_wp2_with fail
  refine C6.out.mono ?_
  rintro e w6 ⟨a6, c6, rfl, hr6, s6⟩
  clear x0 x1 x2 xl
  replace hw := Lib.hid (hw.out.same s6); replace hP' := Lib.hid (hP'.out.same s6); replace hs2 := Lib.hid (hs2.out.same s6); replace q5 := Lib.hid (q5.out.same s6); replace kc := Lib.hid (s6.at kc.out id)
  clear s6 C6
  replace hr6 := Lib.hid hr6
  go_upto_region 7 with fail
  have x0 := cell_at q5.out.heap 0
  have x1 := cell_at q5.out.heap 1
  have x2 := cell_at q5.out.heap 2
  have xl := lt_of_heap q5.out.heap
  have CK7 := fun W h => CK.out ⟨m, a5, c5, L5, r5⟩ _ W h ⟨rfl, q5.out.tab⟩
  replace CK7 := Lib.hid CK7
  refine wp_region_sched (fun k => k = b5) [0, 0, 0, 0, 0, 0, 0, 1, 2, 0, 0, 0, 0, 1, 0, 2, 0, 0, 0, 0, 0, 0, 0, 2, 2, 0, 0] [0, 1, 2, 3, 4, 5, 6, 7, 8, 9, 10, 11, 12, 14, 13, 15, 16, 17, 18, 19, 20, 21, 22, 23, 24, 25, 26] (by kernel_rfl) (by kernel_rfl) ?_
  repeat (first | (refine sched_w rfl rfl (fun _ hK => ?_); go_simp; refine hK _ ?_; clear hK) | (refine sched_s rfl rfl (fun _ hK => ?_); go_simp; first | (refine hK _ ?_; clear hK) | (refine ⟨_, fun _ => rfl, hK _ ?_⟩; clear hK)))
  refine sched_g rfl rfl (fun _ hK => ?_)
  go_simp
  refine (CK7.out _ (SliceAt.same q5.out.at' (by repeat (first | exact Fr.refl _ _ | apply Fr.undrew | apply Fr.undrewN | apply Fr.drew | apply Fr.drewN | apply Fr.alloc)))).mono ?_
  rintro e w7 ⟨rfl, s7⟩
  refine hK _ _ (Kp.of_same s7) ?_
  clear hK
  (try simp only [Act.put, List.setIfInBounds_toArray, List.set_cons_zero, List.set_cons_succ])
  replace s7 := (show Same w6 _ from (by repeat (first | exact Fr.refl _ _ | apply Fr.undrew | apply Fr.undrewN | apply Fr.drew | apply Fr.drewN | apply Fr.alloc))).same s7
  clear x0 x1 x2 xl CK7
  replace hw := Lib.hid (hw.out.same s7); replace hP' := Lib.hid (hP'.out.same s7); replace hs2 := Lib.hid (hs2.out.same s7); replace hr6 := Lib.hid (hr6.out.same s7); replace q5 := Lib.hid (q5.out.same s7); replace kc := Lib.hid (s7.at kc.out id)
  clear s7
  have x0 := cell_at q5.out.heap 0
  have x1 := cell_at q5.out.heap 1
  have x2 := cell_at q5.out.heap 2
  have xl := lt_of_heap q5.out.heap
  repeat (first | (refine sched_w rfl rfl (fun _ hK => ?_); go_simp; refine hK _ ?_; clear hK) | (refine sched_s rfl rfl (fun _ hK => ?_); go_simp; first | (refine hK _ ?_; clear hK) | (refine ⟨_, fun _ => rfl, hK _ ?_⟩; clear hK)))
  refine sched_g rfl rfl (fun _ hK => ?_)
  go_simp
  refine (LB.out _).mono ?_
  rintro e w8 ⟨rfl, s8⟩
  refine hK _ _ (Kp.of_same s8) ?_
  clear hK
  (try simp only [Act.put, List.setIfInBounds_toArray, List.set_cons_zero, List.set_cons_succ])
  clear x0 x1 x2 xl
  replace hw := Lib.hid (hw.out.same s8); replace hP' := Lib.hid (hP'.out.same s8); replace hs2 := Lib.hid (hs2.out.same s8); replace hr6 := Lib.hid (hr6.out.same s8); replace kc := Lib.hid (s8.at kc.out id)
  clear s8 q5
  repeat (first | (refine sched_w rfl rfl (fun _ hK => ?_); go_simp; refine hK _ ?_; clear hK) | (refine sched_s rfl rfl (fun _ hK => ?_); go_simp; first | (refine hK _ ?_; clear hK) | (refine ⟨_, fun _ => rfl, hK _ ?_⟩; clear hK)))
  refine sched_g rfl rfl (fun _ hK => ?_)
  go_simp
  refine (OD.out _ _ _ hP'.out).mono ?_
  rintro e w9 ⟨a9, c9, rfl, ho9, s9⟩
  refine hK _ _ (Kp.of_same s9) ?_
  clear hK
  (try simp only [Act.put, List.setIfInBounds_toArray, List.set_cons_zero, List.set_cons_succ])
  have hr9 := SliceAt.of_owns ho9
  replace hw := Lib.hid (hw.out.same s9); replace hP' := Lib.hid (hP'.out.same s9); replace hs2 := Lib.hid (hs2.out.same s9); replace hr6 := Lib.hid (hr6.out.same s9); replace kc := Lib.hid (s9.at kc.out id)
  clear s9 ho9
  repeat (first | (refine sched_w rfl rfl (fun _ hK => ?_); go_simp; refine hK _ ?_; clear hK) | (refine sched_s rfl rfl (fun _ hK => ?_); go_simp; first | (refine hK _ ?_; clear hK) | (refine ⟨_, fun _ => rfl, hK _ ?_⟩; clear hK)))
  refine sched_g rfl rfl (fun _ hK => ?_)
  go_simp
  refine (samePairs_any OB OB a6 a9 OB.length OB.length c6 c9 _ rfl rfl hr6.out hr9 (by omega)).mono ?_
  rintro e w10 ⟨rfl, s10⟩
  refine hK _ _ (Kp.of_same s10) ?_
  clear hK
  (try simp only [Act.put, List.setIfInBounds_toArray, List.set_cons_zero, List.set_cons_succ])
  simp only [decide_true]
  replace hw := Lib.hid (hw.out.same s10); replace hs2 := Lib.hid (hs2.out.same s10); replace kc := Lib.hid (s10.at kc.out id)
  clear s10 hr6 hr9 hP'
  repeat (first | (refine sched_w rfl rfl (fun _ hK => ?_); go_simp; refine hK _ ?_; clear hK) | (refine sched_s rfl rfl (fun _ hK => ?_); go_simp; first | (refine hK _ ?_; clear hK) | (refine ⟨_, fun _ => rfl, hK _ ?_⟩; clear hK)))
  refine sched_nil (NoPanic.normal ?_)
  have e0 := cell_at kc.out 0
  have e1 := cell_at kc.out 1
  have el := lt_of_heap kc.out
  by_cases hin : u < 0 ∨ (k : Int) ≤ u ∨ v < 0 ∨ (k : Int) ≤ v
  · have hEX := hbad.out hin
    subst hEX
    have ho10 := owns_same hoP.out hs2.out
    have hz10 := hs2.out.size
    replace ho10 := Lib.hid ho10
    by_cases c1 : u < 0
    all_goals by_cases c2 : (k : Int) ≤ u
    all_goals by_cases c3 : v < 0
    all_goals by_cases c4 : (k : Int) ≤ v
    all_goals
      first
        | omega
        | skip
    all_goals
      first
        | have d1 : (u < 0) = True := by simpa using c1
        | have d1 : (u < 0) = False := by simpa using c1
      first
        | have d2 : ((k : Int) ≤ u) = True := by simpa using c2
        | have d2 : ((k : Int) ≤ u) = False := by simpa using c2
      first
        | have d3 : (v < 0) = True := by simpa using c3
        | have d3 : (v < 0) = False := by simpa using c3
      first
        | have d4 : ((k : Int) ≤ v) = True := by simpa using c4
        | have d4 : ((k : Int) ≤ v) = False := by simpa using c4
      replace c1 := Lib.hid c1; replace c2 := Lib.hid c2; replace c3 := Lib.hid c3; replace c4 := Lib.hid c4; replace hin := Lib.hid hin
      go_upto_region 10 with fail
      go_wp2_with (at_builtin; refine wpList_append1 rfl (.tmp 89) (.tmp 91) 36 rfl B0 40 i3 (.agg #[.int .i64 0, .int .i64 0]) 2 16 Tryz.underlying36 hi3 hi3z hi3s hi3b rfl (by decide) (by decide) aP P.length cP (prC P) rfl (owns_same ho10.out (by repeat (first | exact Fr.refl _ _ | apply Fr.alloc | apply Fr.drewN | apply Fr.drew | apply Fr.undrew | apply Fr.undrewN))) (by omega) w10.heap.size [.int .i64 u, .int .i64 v] rfl rfl (heap_new _ _) (by simp [Value.oneCell']) (by simp; omega) ?_; intro a11 c11 w11 ho11 hG11)
      have hs11 : Same w w11 := grew_fresh (hw.out.same (by repeat (first | exact Fr.refl _ _ | apply Fr.alloc | apply Fr.drewN | apply Fr.drew | apply Fr.undrew | apply Fr.undrewN))) hG11 (fun k hk => by have := (ho10.out.lt k hk).1; omega)
      have hr11 := SliceAt.of_owns ho11
      clear ho11 hG11 e0 e1 el hw
      have hw := Lib.hid hs11
      clear hs11 kc hs2
      have F11 := FX.out _ _ _ hr11
      replace F11 := Lib.hid F11; replace hr11 := Lib.hid hr11
      go_wp2_with fail
      refine F11.out.mono ?_
      intro e w12 hM
      obtain ⟨rfl, s12⟩ := DgE.bad hM (by decide)
      clear hM
      replace hw := Lib.hid (hw.out.same s12)
      clear s12 F11 hr11
      go_upto_region 11 with fail
      have kz := heap_new w12 (.cells #[.int .i64 0, .slice none 0 0, .int .i64 0] 29)
      have sz : Same w12 (w12.alloc (.cells #[.int .i64 0, .slice none 0 0, .int .i64 0] 29)) := (by repeat (first | exact Fr.refl _ _ | apply Fr.alloc | apply Fr.drewN | apply Fr.drew | apply Fr.undrew | apply Fr.undrewN))
      replace hw := Lib.hid (hw.out.same sz)
      generalize w12.alloc (.cells #[.int .i64 0, .slice none 0 0, .int .i64 0] 29) = w13 at *
      generalize w12.heap.size = bz at *
      clear sz
      replace kz := Lib.hid kz
      have x0 := cell_at kz.out 0
      have x1 := cell_at kz.out 1
      have x2 := cell_at kz.out 2
      have xl := lt_of_heap kz.out
      go_wp2_with fail
      refine (none11 _).mono ?_
      rintro e w14 ⟨rfl, s14⟩
      clear x0 x1 x2 xl
      replace hw := Lib.hid (hw.out.same s14)
      clear s14 kz
      go_upto_region 13 with fail
      have C15 := ID.out w14
      replace C15 := Lib.hid C15
      go_wp2_with fail
      refine (C15.out).mono ?_
      intro e v15 hM
      obtain ⟨a15, c15, L15, r15, rfl, d15, z15, s15⟩ := hM.open
      clear hM
      
      go_upto_region 14 with fail
      have q15 : Bx (v15.alloc (.cells #[.int .i64 m, .slice a15 L15.length c15, .int .i64 r15] 29)) v15.heap.size m _ a15 c15 L15 r15 := ⟨heap_new _ _, SliceAt.same d15 (by repeat (first | exact Fr.refl _ _ | apply Fr.alloc | apply Fr.drewN | apply Fr.drew | apply Fr.undrew | apply Fr.undrewN)), z15⟩
      have s15 := s15.same (show Same v15 (v15.alloc (.cells #[.int .i64 m, .slice a15 L15.length c15, .int .i64 r15] 29)) from (by repeat (first | exact Fr.refl _ _ | apply Fr.alloc | apply Fr.drewN | apply Fr.drew | apply Fr.undrew | apply Fr.undrewN)))
      clear d15 z15
      generalize v15.alloc (.cells #[.int .i64 m, .slice a15 L15.length c15, .int .i64 r15] 29) = w15 at *
      generalize v15.heap.size = b15 at *
      replace hw := Lib.hid (hw.out.same s15)
      replace q15 := Lib.hid q15; replace s15 := Lib.hid s15
      clear C15 s15
      have x0 := cell_at q15.out.heap 0
      have x1 := cell_at q15.out.heap 1
      have x2 := cell_at q15.out.heap 2
      have xl := lt_of_heap q15.out.heap
      have C16 := PI.out ⟨m, a15, c15, L15, r15⟩ _ q15.out.at' ⟨rfl, q15.out.tab⟩
      replace C16 := Lib.hid C16
      go_wp2_with fail
      refine C16.out.mono ?_
      rintro e w16 ⟨a16, c16, rfl, hr16, s16⟩
      clear x0 x1 x2 xl
      replace hw := Lib.hid (hw.out.same s16); replace q15 := Lib.hid (q15.out.same s16)
      clear s16 C16
      replace hr16 := Lib.hid hr16
      go_upto_region 15 with fail
      clear q15
      have hkl : ((idL k).length : Int) = k := by rw [hil.out]
      go_wp2_with fail
      go_loopw [19] (fun i wr => ∃ j : Nat, i = .int .i64 j ∧ j ≤ k ∧ Same w16 wr) (fun i _ => k - (intOf i).toNat)
      case atStart => exact ⟨0, rfl, by omega, Fr.refl _ _⟩
      case round =>
        obtain ⟨j, rfl, hj, hs⟩ := hrel
        by_cases hjk : j < k
        · have hjl : j < (idL k).length := by rw [hil.out]; exact hjk
          obtain ⟨bp, op, rfl, hbp, y0, y1⟩ := hpr.out j hjl _ _ _ (hr16.out.same hs)
          simp only [List.getElem_map, ipr, hig.out j hjl] at y0 y1
          have hpe : pre (j : Int) (j : Int) (j : Int) (j : Int) = true := by simp [pre]
          replace hs := Lib.hid hs
          go_wp2_with fail
          go_roundw
          case rel => exact ⟨j + 1, by go_num, by omega, hs.out.same (by repeat (first | exact Fr.refl _ _ | apply Fr.alloc | apply Fr.drewN | apply Fr.drew | apply Fr.undrew | apply Fr.undrewN))⟩
          case measure => simp [intOf]; omega
        · obtain rfl : j = k := by omega
          replace hw := Lib.hid (hw.out.same hs)
          clear hs
          go_wp2_with fail
          go_ret
          exact ⟨rfl, hw.out.same (by repeat (first | exact Fr.refl _ _ | apply Fr.alloc | apply Fr.drewN | apply Fr.drew | apply Fr.undrew | apply Fr.undrewN))⟩
  · have c1 : (u < 0) = False := by simp; omega
    have c2 : ((k : Int) ≤ u) = False := by simp; omega
    have c3 : (v < 0) = False := by simp; omega
    have c4 : ((k : Int) ≤ v) = False := by simp; omega
    replace hin := Lib.hid hin
    go_upto_region 13 with fail
    obtain ⟨w14, rfl⟩ : ∃ W, W = w10 := ⟨_, rfl⟩
    clear e0 e1 el kc hs2
    have C15 := ID.out w14
    replace C15 := Lib.hid C15
    go_wp2_with fail
    refine (C15.out).mono ?_
    intro e v15 hM
    obtain ⟨a15, c15, L15, r15, rfl, d15, z15, s15⟩ := hM.open
    clear hM
    
    go_upto_region 14 with fail
    have q15 : Bx (v15.alloc (.cells #[.int .i64 m, .slice a15 L15.length c15, .int .i64 r15] 29)) v15.heap.size m _ a15 c15 L15 r15 := ⟨heap_new _ _, SliceAt.same d15 (by repeat (first | exact Fr.refl _ _ | apply Fr.alloc | apply Fr.drewN | apply Fr.drew | apply Fr.undrew | apply Fr.undrewN)), z15⟩
    have s15 := s15.same (show Same v15 (v15.alloc (.cells #[.int .i64 m, .slice a15 L15.length c15, .int .i64 r15] 29)) from (by repeat (first | exact Fr.refl _ _ | apply Fr.alloc | apply Fr.drewN | apply Fr.drew | apply Fr.undrew | apply Fr.undrewN)))
    clear d15 z15
    generalize v15.alloc (.cells #[.int .i64 m, .slice a15 L15.length c15, .int .i64 r15] 29) = w15 at *
    generalize v15.heap.size = b15 at *
    replace hw := Lib.hid (hw.out.same s15)
    replace q15 := Lib.hid q15; replace s15 := Lib.hid s15
    clear C15 s15
    have x0 := cell_at q15.out.heap 0
    have x1 := cell_at q15.out.heap 1
    have x2 := cell_at q15.out.heap 2
    have xl := lt_of_heap q15.out.heap
    have C16 := PI.out ⟨m, a15, c15, L15, r15⟩ _ q15.out.at' ⟨rfl, q15.out.tab⟩
    replace C16 := Lib.hid C16
    go_wp2_with fail
    refine C16.out.mono ?_
    rintro e w16 ⟨a16, c16, rfl, hr16, s16⟩
    clear x0 x1 x2 xl
    replace hw := Lib.hid (hw.out.same s16); replace q15 := Lib.hid (q15.out.same s16)
    clear s16 C16
    replace hr16 := Lib.hid hr16
    go_upto_region 15 with fail
    clear q15
    have hkl : ((idL k).length : Int) = k := by rw [hil.out]
    go_wp2_with fail
    go_loopw [19] (fun i wr => ∃ j : Nat, i = .int .i64 j ∧ j ≤ k ∧ Same w16 wr) (fun i _ => k - (intOf i).toNat)
    case atStart => exact ⟨0, rfl, by omega, Fr.refl _ _⟩
    case round =>
      obtain ⟨j, rfl, hj, hs⟩ := hrel
      by_cases hjk : j < k
      · have hjl : j < (idL k).length := by rw [hil.out]; exact hjk
        obtain ⟨bp, op, rfl, hbp, y0, y1⟩ := hpr.out j hjl _ _ _ (hr16.out.same hs)
        simp only [List.getElem_map, ipr, hig.out j hjl] at y0 y1
        have hpe : pre (j : Int) (j : Int) (j : Int) (j : Int) = true := by simp [pre]
        replace hs := Lib.hid hs
        go_wp2_with fail
        go_roundw
        case rel => exact ⟨j + 1, by go_num, by omega, hs.out.same (by repeat (first | exact Fr.refl _ _ | apply Fr.alloc | apply Fr.drewN | apply Fr.drew | apply Fr.undrew | apply Fr.undrewN))⟩
        case measure => simp [intOf]; omega
      · obtain rfl : j = k := by omega
        replace hw := Lib.hid (hw.out.same hs)
        clear hs
        go_wp2_with fail
        go_ret
        exact ⟨rfl, hw.out.same (by repeat (first | exact Fr.refl _ _ | apply Fr.alloc | apply Fr.drewN | apply Fr.drew | apply Fr.undrew | apply Fr.undrewN))⟩
end Go.Proofs.YtcdkklddingfpaaGreat
namespace Go.Proofs.YtcdkklddingfpaaGreat.relationPairs
open Go.ChangeShapes Go.WideShapes Go.ChangeAt Go.RowKit
set_option linter.unusedVariables false

theorem own : ownKnob Tryz.prog.godebug = none := by kernel_rfl

set_option maxRecDepth 100000 in
theorem lifted (os : Os) (started : os.Started) (H : Type) (enc : TypeId × Value → H) :
    ReturnsInHanded {} Tryz.checked os 8 .any (Rows.relationPairsSpec.pre6 enc Tryz.prog Tryz.f8 Rows.relationPairsRow.domain false) (Rows.relationPairsSpec.post enc Tryz.prog Tryz.f8 false true false false) := by
  refine returnsInHanded_of_change (C := Tryz.checked) own started (by kernel_rfl) Tryz.func8
    (ChangeSpec.witness6 (enc := enc) (C := Tryz.checked) false ⟨#[], #[.int .u8 0, .agg #[.int .u8 0, .int .u8 0, .int .u8 0, .int .u8 0, .int .u8 0, .int .u8 0, .int .u8 0, .int .u8 0, .int .u8 0, .int .u8 0, .int .u8 0, .int .u8 0, .int .u8 0, .int .u8 0, .int .u8 0, .int .u8 0, .int .u8 0, .int .u8 0, .int .u8 0, .int .u8 0], .agg #[.int .i64 0, .int .i64 0]], []⟩ 8 (by kernel_rfl) (by kernel_rfl) (by kernel_rfl) (by kernel_rfl)) ?_
  intro W base args ds gs before hval0 hW hcnd _
  have hval : ∀ (j : Nat) t v, Tryz.f8.params[j]? = some t → args[j]? = some v → Value.okWide Tryz.prog W .any base t v := hval0
  have hW' := hW
  obtain ⟨p, q, hA0, hV, rfl, hfz, hnd⟩ := hW
  have hA : DataW.TrodAll enc Tryz.prog W 0 (fun _ => true) true Tryz.f8.params.toList args.toList ds p := hA0
  rw [Tryz.params8] at hA hval
  obtain ⟨v0, vs0, d0, ds0, p0, q0, hargs, rfl, rfl, h0, r0⟩ := trodAll_cons hA
  obtain ⟨v1, vs1, d1, ds1, p1, q1, rfl, rfl, rfl, h1, r1⟩ := trodAll_cons r0
  obtain ⟨v2, vs2, d2, ds2, p2, q2, rfl, rfl, rfl, h2, r2⟩ := trodAll_cons r1
  obtain ⟨rfl, rfl, rfl⟩ := trodAll_nil r2
  obtain rfl : args = #[v0, v1, v2] := by cases args; simp_all
  obtain ⟨rfl, rfl⟩ := trodVars_none hV
  obtain ⟨a0, rfl, rfl, rfl, w0⟩ := open_int Tryz.underlying5 (hval 0 5 v0 rfl rfl) h0
  have k1 := h1
  obtain ⟨l1, rfl, L1, B1⟩ := open_links (hval 1 48 v1 rfl rfl) h1
  have k2 := h2
  obtain ⟨x2, y2, rfl, X2, Y2⟩ := open_pairL (hval 2 40 v2 rfl rfl) h2
  clear hA0 hval0
  simp only [List.append_nil] at hW'
  refine (rpairs_any a0 (u8_wf w0) l1 L1 B1 x2 y2 X2 Y2 W).mono fun e W' ⟨he, hg⟩ => ?_
  subst he
  exact ⟨_, rfl, post_fr (pa := ([] ++ (p1 ++ (p2 ++ [])))) (pv := []) hW' (fun _ _ _ => (trodAll_cons_mk (shut_bool Tryz.underlying4 _) trodAll_mk0)) (fun sp SP => (trodAll_cons_mk (shut_int Tryz.underlying5 w0) (trodAll_cons_mk (stays (by kernel_rfl) (of_decide_eq_true (by kernel_rfl)) k1 hg (fun x hx => hW'.lt x (by simp [hx])) (fun x hx => SP x (by simp [hx]))) (trodAll_cons_mk (stays (by kernel_rfl) (of_decide_eq_true (by kernel_rfl)) k2 hg (fun x hx => hW'.lt x (by simp [hx])) (fun x hx => SP x (by simp [hx]))) trodAll_mk0)))) (fun _ _ => rfl) (by simp) hg (ok_one (by kernel_rfl) rfl (okWide_bool_mk Tryz.underlying4 _))⟩

theorem over : Rows.relationPairsRow.holds Tryz.pinned (OpenSpec.ofChange Rows.relationPairsSpec) :=
  OpenClaim.holds_of_wide 8 Tryz.f8 rfl rfl rfl rfl rfl rfl rfl ⟨rfl, rfl, rfl, rfl, rfl⟩ rfl rfl rfl rfl rfl (by kernel_rfl) Tryz.func8 (by kernel_rfl)
    (of_decide_eq_true (by kernel_rfl)) (by unfold Func.isWrapper; first | (rw [if_pos (by decide +kernel)]; kernel_rfl) | (rw [if_neg (by decide +kernel)]; exact ⟨rfl, rfl⟩))
    (fun os started H enc _ => lifted os started H enc)
end Go.Proofs.YtcdkklddingfpaaGreat.relationPairs

namespace Go.Proofs.YtcdkklddingfpaaGreat
/-- The given statement. -/
theorem relationPairs_holds : Rows.RelationPairsSaid := relationPairs.over
#print axioms relationPairs_holds
end Go.Proofs.YtcdkklddingfpaaGreat
