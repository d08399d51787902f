/- BddChecks: the law's walk. Printed by wip/mkchk.py. -/
import Derived.Test.YtaebjalpebgliaaRChk
import Derived.Test.YtaebjalpebgliaaErrs
import Derived.Test.YtaebjalpebgliaaLawP
import Derived.Test.YtaebjalpebgliaaLSame
namespace Go.Proofs.Ytaebjalpebgliaa
open Go.RowKit
set_option linter.unusedVariables false
set_option linter.unusedSimpArgs false

theorem chk_eq (n : Int) (L : List Nd) (r : Int) (hl : L.length ≤ 16384) : checkF n L r (tableF n.toNat [] 0 (tab L n.toNat 0 r)).1 (tableF n.toNat [] 0 (tab L n.toNat 0 r)).2 = rchkF n L r := by
  unfold rchkF
  by_cases h1 : n < 0 ∨ 40 < n
  · unfold checkF; rw [if_pos h1, if_pos h1]
  · rw [if_neg h1]
    by_cases h2 : firstErr n L L.length 0 ≠ 0
    · unfold checkF; rw [if_neg h1, if_neg (by omega), if_pos h2, if_pos h2]
    · rw [if_neg h2]
      by_cases h3 : r < 0 ∨ (L.length : Int) + 1 < r
      · unfold checkF; rw [if_neg h1, if_neg (by omega), if_neg h2, if_pos h3, if_pos h3]
      · rw [if_neg h3, checkF_ord (by omega) (by omega) hl (by simpa using h2) (by omega) (by omega)]

theorem check_is (n r : Int) (aL : Option Addr) (capL : Nat) (L : List Nd) (w : World) (hL : NodesAt w aL L capL) (hl : L.length ≤ 12) : ChkIs ⟨n, aL, capL, L, r⟩ (rchkF n L r) w := by
  intro W hW
  have := check_nds n r aL capL L W (hL.same hW) (by omega) (tableF n.toNat [] 0 (tab L n.toNat 0 r)).1 (tableF n.toNat [] 0 (tab L n.toNat 0 r)).2 (fun h1 h2 h3 h4 h5 => check_vis h1 h3 h4 h5 (by omega))
  rw [chk_eq n L r (by omega)] at this
  exact this

set_option maxRecDepth 100000 in
set_option maxHeartbeats 16000000 in
theorem bddChecks_any (n r : Int) (aL : Option Addr) (capL : Nat) (L : List Nd) (m s : Int) (aM : Option Addr) (capM : Nat) (M : List Nd) (w : World) (hL : NodesAt w aL L capL) (hM : NodesAt w aM M capM) :
    Calls Try.prog 11 #[.agg #[.int .i64 n, .slice aL L.length capL, .int .i64 r], .agg #[.int .i64 m, .slice aM M.length capM, .int .i64 s]] w fun e w' => e = .returned (.bool true) ∧ Same w w' := by
  by_cases hbig : 12 < L.length ∨ (¬ 12 < L.length ∧ 12 < M.length)
  · obtain ⟨p, hp⟩ : ∃ p, p = L.length := ⟨_, rfl⟩
    obtain ⟨q, hq⟩ : ∃ q, q = M.length := ⟨_, rfl⟩
    rw [← hp, ← hq] at hbig ⊢
    replace hL := Lib.hid hL; replace hM := Lib.hid hM; replace hp := Lib.hid hp; replace hq := Lib.hid hq
    rcases hbig with h | ⟨h0, h⟩
    all_goals
      have h2 := h
      go_enter Try.func11, Try.ntmps11
      go_wp2_with fail
      refine (known_true _).mono ?_
      rintro e w1 ⟨rfl, hs1⟩
      have hw1 := (show Same w _ from (by repeat (first | exact Fr.refl _ _ | apply Fr.alloc | apply Fr.drewN | apply Fr.drew | apply Fr.undrew | apply Fr.undrewN))).same hs1
      have kf := hs1.at (heap_old (heap_new w _) _) id
      have kg : w1.heap[w.heap.size + 1]? = some (.cells #[.int .i64 m, .slice aM q capM, .int .i64 s] 31 (0, 0)) := hs1.at (heap_new_at (by simp) _) id
      have x0 := cell_at kf 0; have x1 := cell_at kf 1; have x2 := cell_at kf 2
      have xb := lt_of_heap kf
      have y0 := cell_at kg 0; have y1 := cell_at kg 1; have y2 := cell_at kg 2
      have yb := lt_of_heap kg
      replace hs1 := Lib.hid hs1; replace hw1 := Lib.hid hw1; replace kf := Lib.hid kf; replace kg := Lib.hid kg
      go_wp2_with fail
      refine (known_true _).mono ?_
      rintro e w2 ⟨rfl, hs2⟩
      have hw2 := hw1.out.same hs2
      replace hs2 := Lib.hid hs2; replace hw2 := Lib.hid hw2
      go_wp2_with fail
      go_ret
      exact ⟨rfl, hw2.out⟩
  · have hl1 : L.length ≤ 12 := by omega
    have hl2 : M.length ≤ 12 := by omega
    have CE := check_is n r aL capL L w hL hl1
    have NO := fun W (hW : Same w W) => nodes_any n r aL capL L W (hL.same hW) (by omega)
    have RC := fun a c W (h : SliceAt W 83 3 (.slice a L.length c) L.length (ndCells L)) => rcheck_any n r a c L W h (by omega)
    have EQ := fun W (hW : Same w W) => equal_nds n m r s aL aM capL capM L M W (hL.same hW) (hM.same hW) (by omega) (by omega)
    have SA := fun W (hW : Same w W) => same_nds n m r s aL aM capL capM L M W (hL.same hW) (hM.same hW) (by omega) (by omega)
    have EF := fun W (hW : Same w W) => equal_nds n n r r aL aL capL capL L L W (hL.same hW) (hL.same hW) (by omega) (by omega)
    simp only [and_self, decide_true] at EF
    obtain ⟨c, hc⟩ : ∃ c, c = rchkF n L r := ⟨_, rfl⟩
    rw [← hc] at CE RC
    have CK := CE
    unfold ChkIs at CK
    simp only [Dg.v] at CK
    obtain ⟨b, hb⟩ : ∃ b : Bool, b = decide (n = m ∧ r = s ∧ L = M) := ⟨_, rfl⟩
    rw [← hb] at EQ SA
    have TA := fun W (hW : Same w W) (h0 : c ≠ 0) => table_chk ⟨n, aL, capL, L, r⟩ c W h0 (CE.same hW)
    have VA := fun W (hW : Same w W) (h0 : c ≠ 0) => value_chk ⟨n, aL, capL, L, r⟩ c none 0 0 W h0 (CE.same hW)
    have CO := fun W (hW : Same w W) (h0 : c ≠ 0) => count_chk ⟨n, aL, capL, L, r⟩ c W h0 (CE.same hW)
    have AN := fun W (hW : Same w W) (h0 : c ≠ 0) => any_chk ⟨n, aL, capL, L, r⟩ c W h0 (CE.same hW)
    have AL := fun W (hW : Same w W) (h0 : c ≠ 0) => all_chk ⟨n, aL, capL, L, r⟩ c W h0 (CE.same hW)
    have SU := fun W (hW : Same w W) (h0 : c ≠ 0) => support_chk ⟨n, aL, capL, L, r⟩ c W h0 (CE.same hW)
    have NT := fun W (hW : Same w W) (h0 : c ≠ 0) => not_chk ⟨n, aL, capL, L, r⟩ c W h0 (CE.same hW)
    have AD := fun W (hW : Same w W) (h0 : c ≠ 0) => and_chk ⟨n, aL, capL, L, r⟩ c W h0 (CE.same hW)
    have IT := fun W (hW : Same w W) (h0 : c ≠ 0) => ite_chk ⟨n, aL, capL, L, r⟩ c W h0 (CE.same hW)
    have RS := fun W (hW : Same w W) (h0 : c ≠ 0) => (restrict_chk ⟨n, aL, capL, L, r⟩ c 0 true W h0 (CE.same hW)).mono fun e w' h => h.out
    have EX := fun W (hW : Same w W) (h0 : c ≠ 0) => (exists_chk ⟨n, aL, capL, L, r⟩ c none 0 0 W h0 (CE.same hW)).mono fun e w' h => h.out
    have RN := fun W (hW : Same w W) (h0 : c ≠ 0) => (rename_chk ⟨n, aL, capL, L, r⟩ c 1 none 0 0 W h0 (CE.same hW)).mono fun e w' h => h.out
    unfold NodesRet at NO
    unfold DOut at NT AD IT RS EX RN
    simp only [Dg.v, List.length_nil, ndCells] at TA VA CO AN AL SU NT AD IT RS EX RN
    obtain ⟨p, hp⟩ : ∃ p, p = L.length := ⟨_, rfl⟩
    obtain ⟨q, hq⟩ : ∃ q, q = M.length := ⟨_, rfl⟩
    rw [← hp] at CK NO RC EQ SA EF TA VA CO AN AL SU NT AD IT RS EX RN hl1 ⊢
    rw [← hq] at EQ SA hl2 ⊢
    have hl3 : ¬ 12 < p := by omega
    have hl4 : ¬ 12 < q := by omega
    clear hbig CE
    replace hL := Lib.hid hL; replace hM := Lib.hid hM; replace hp := Lib.hid hp; replace hq := Lib.hid hq; replace hc := Lib.hid hc; replace hb := Lib.hid hb; replace CK := Lib.hid CK; replace NO := Lib.hid NO; replace RC := Lib.hid RC; replace EQ := Lib.hid EQ; replace SA := Lib.hid SA; replace EF := Lib.hid EF; replace TA := Lib.hid TA; replace VA := Lib.hid VA; replace CO := Lib.hid CO; replace AN := Lib.hid AN; replace AL := Lib.hid AL; replace SU := Lib.hid SU; replace NT := Lib.hid NT; replace AD := Lib.hid AD; replace IT := Lib.hid IT; replace RS := Lib.hid RS; replace EX := Lib.hid EX; replace RN := Lib.hid RN
    go_enter Try.func11, Try.ntmps11
    go_wp2_with fail
    refine (known_true _).mono ?_
    rintro e w1 ⟨rfl, hs1⟩
    have hw1 := (show Same w _ from (by repeat (first | exact Fr.refl _ _ | apply Fr.alloc | apply Fr.drewN | apply Fr.drew | apply Fr.undrew | apply Fr.undrewN))).same hs1
    have kf := hs1.at (heap_old (heap_new w _) _) id
    have kg : w1.heap[w.heap.size + 1]? = some (.cells #[.int .i64 m, .slice aM q capM, .int .i64 s] 31 (0, 0)) := hs1.at (heap_new_at (by simp) _) id
    have x0 := cell_at kf 0; have x1 := cell_at kf 1; have x2 := cell_at kf 2
    have xb := lt_of_heap kf
    have y0 := cell_at kg 0; have y1 := cell_at kg 1; have y2 := cell_at kg 2
    have yb := lt_of_heap kg
    replace hs1 := Lib.hid hs1; replace hw1 := Lib.hid hw1; replace kf := Lib.hid kf; replace kg := Lib.hid kg
    go_wp2_with fail
    refine wp_region_sched (Lk w.heap.size) [0, 1, 1, 2, 0, 1, 2, 0] [0, 4, 1, 2, 5, 3, 6, 7] (by kernel_rfl) (by kernel_rfl) ?_
    repeat (first | (refine sched_w rfl rfl (fun _ hK => ?_); go_simp; refine hK _ ?_; clear hK) | (refine sched_s rfl rfl (fun _ hK => ?_); go_simp; first | (refine hK _ ?_; clear hK) | (refine ⟨_, fun _ => rfl, hK _ ?_⟩; clear hK)))
    refine sched_g rfl rfl (fun _ hK => ?_)
    go_simp
    refine (NO.out _ (hw1.out.same (by repeat (first | exact Fr.refl _ _ | apply Fr.alloc | apply Fr.drewN | apply Fr.drew | apply Fr.undrew | apply Fr.undrewN)))).mono ?_
    rintro e w2 ⟨aN, cN, rfl, hNN, hsw2⟩
    have hw2 : Same w1 w2 := (show Same w1 _ from (by repeat (first | exact Fr.refl _ _ | apply Fr.alloc | apply Fr.drewN | apply Fr.drew | apply Fr.undrew | apply Fr.undrewN))).same hsw2
    refine hK _ _ (Kp.of_same hsw2) ?_
    clear hK
    try simp only [Act.put, List.setIfInBounds_toArray, List.set_cons_zero, List.set_cons_succ]
    have kw2 := hw2.at kf.out id
    have lw2 := hw2.at kg.out id
    clear x0 x1 x2 xb y0 y1 y2 yb
    have x0 := cell_at kw2 0; have x1 := cell_at kw2 1; have x2 := cell_at kw2 2
    have xb := lt_of_heap kw2
    have y0 := cell_at lw2 0; have y1 := cell_at lw2 1; have y2 := cell_at lw2 2
    have yb := lt_of_heap lw2
    replace hw2 := Lib.hid hw2; replace hsw2 := Lib.hid hsw2; replace kw2 := Lib.hid kw2; replace lw2 := Lib.hid lw2
    replace hNN := Lib.hid hNN
    repeat (first | (refine sched_w rfl rfl (fun _ hK => ?_); go_simp; refine hK _ ?_; clear hK) | (refine sched_s rfl rfl (fun _ hK => ?_); go_simp; first | (refine hK _ ?_; clear hK) | (refine ⟨_, fun _ => rfl, hK _ ?_⟩; clear hK)))
    refine sched_g rfl rfl (fun _ hK => ?_)
    go_simp
    refine (RC.out _ _ _ (hNN.out.same (by repeat (first | exact Fr.refl _ _ | apply Fr.alloc | apply Fr.drewN | apply Fr.drew | apply Fr.undrew | apply Fr.undrewN)))).mono ?_
    rintro e w3 ⟨rfl, hsw3⟩
    have hw3 : Same w1 w3 := (show Same w1 _ from hw2.out.same (by repeat (first | exact Fr.refl _ _ | apply Fr.alloc | apply Fr.drewN | apply Fr.drew | apply Fr.undrew | apply Fr.undrewN))).same hsw3
    refine hK _ _ (Kp.of_same hsw3) ?_
    clear hK
    try simp only [Act.put, List.setIfInBounds_toArray, List.set_cons_zero, List.set_cons_succ]
    have kw3 := hw3.at kf.out id
    have lw3 := hw3.at kg.out id
    clear x0 x1 x2 xb y0 y1 y2 yb
    have x0 := cell_at kw3 0; have x1 := cell_at kw3 1; have x2 := cell_at kw3 2
    have xb := lt_of_heap kw3
    have y0 := cell_at lw3 0; have y1 := cell_at lw3 1; have y2 := cell_at lw3 2
    have yb := lt_of_heap lw3
    replace hw3 := Lib.hid hw3; replace hsw3 := Lib.hid hsw3; replace kw3 := Lib.hid kw3; replace lw3 := Lib.hid lw3
    repeat (first | (refine sched_w rfl rfl (fun _ hK => ?_); go_simp; refine hK _ ?_; clear hK) | (refine sched_s rfl rfl (fun _ hK => ?_); go_simp; first | (refine hK _ ?_; clear hK) | (refine ⟨_, fun _ => rfl, hK _ ?_⟩; clear hK)))
    refine sched_nil (NoPanic.normal ?_)
    go_wp2_with fail
    refine wp_region_sched (L2 w.heap.size (w.heap.size + 1)) [1, 2, 0, 0, 0, 1, 1, 2, 1, 1, 2, 0, 0, 0, 1, 1, 2, 0, 0] [2, 0, 1, 3, 4, 5, 6, 8, 9, 7, 10, 11, 12, 13, 14, 15, 16, 17, 18] (by kernel_rfl) (by kernel_rfl) ?_
    repeat (first | (refine sched_w rfl rfl (fun _ hK => ?_); go_simp; refine hK _ ?_; clear hK) | (refine sched_s rfl rfl (fun _ hK => ?_); go_simp; first | (refine hK _ ?_; clear hK) | (refine ⟨_, fun _ => rfl, hK _ ?_⟩; clear hK)))
    refine sched_g rfl rfl (fun _ hK => ?_)
    go_simp
    refine (CK.out _ (hw1.out.same (hw3.out.same (by repeat (first | exact Fr.refl _ _ | apply Fr.alloc | apply Fr.drewN | apply Fr.drew | apply Fr.undrew | apply Fr.undrewN))))).mono ?_
    rintro e w4 ⟨rfl, hsw4⟩
    have hw4 : Same w1 w4 := (show Same w1 _ from hw3.out.same (by repeat (first | exact Fr.refl _ _ | apply Fr.alloc | apply Fr.drewN | apply Fr.drew | apply Fr.undrew | apply Fr.undrewN))).same hsw4
    refine hK _ _ (Kp.of_same hsw4) ?_
    clear hK
    try simp only [Act.put, List.setIfInBounds_toArray, List.set_cons_zero, List.set_cons_succ]
    have kw4 := hw4.at kf.out id
    have lw4 := hw4.at kg.out id
    clear x0 x1 x2 xb y0 y1 y2 yb
    have x0 := cell_at kw4 0; have x1 := cell_at kw4 1; have x2 := cell_at kw4 2
    have xb := lt_of_heap kw4
    have y0 := cell_at lw4 0; have y1 := cell_at lw4 1; have y2 := cell_at lw4 2
    have yb := lt_of_heap lw4
    replace hw4 := Lib.hid hw4; replace hsw4 := Lib.hid hsw4; replace kw4 := Lib.hid kw4; replace lw4 := Lib.hid lw4
    repeat (first | (refine sched_w rfl rfl (fun _ hK => ?_); go_simp; refine hK _ ?_; clear hK) | (refine sched_s rfl rfl (fun _ hK => ?_); go_simp; first | (refine hK _ ?_; clear hK) | (refine ⟨_, fun _ => rfl, hK _ ?_⟩; clear hK)))
    refine sched_g rfl rfl (fun _ hK => ?_)
    go_simp
    refine (EQ.out _ (hw1.out.same (hw4.out.same (by repeat (first | exact Fr.refl _ _ | apply Fr.alloc | apply Fr.drewN | apply Fr.drew | apply Fr.undrew | apply Fr.undrewN))))).mono ?_
    rintro e w5 ⟨rfl, hsw5⟩
    have hw5 : Same w1 w5 := (show Same w1 _ from hw4.out.same (by repeat (first | exact Fr.refl _ _ | apply Fr.alloc | apply Fr.drewN | apply Fr.drew | apply Fr.undrew | apply Fr.undrewN))).same hsw5
    refine hK _ _ (Kp.of_same hsw5) ?_
    clear hK
    try simp only [Act.put, List.setIfInBounds_toArray, List.set_cons_zero, List.set_cons_succ]
    have kw5 := hw5.at kf.out id
    have lw5 := hw5.at kg.out id
    clear x0 x1 x2 xb y0 y1 y2 yb
    have x0 := cell_at kw5 0; have x1 := cell_at kw5 1; have x2 := cell_at kw5 2
    have xb := lt_of_heap kw5
    have y0 := cell_at lw5 0; have y1 := cell_at lw5 1; have y2 := cell_at lw5 2
    have yb := lt_of_heap lw5
    replace hw5 := Lib.hid hw5; replace hsw5 := Lib.hid hsw5; replace kw5 := Lib.hid kw5; replace lw5 := Lib.hid lw5
    repeat (first | (refine sched_w rfl rfl (fun _ hK => ?_); go_simp; refine hK _ ?_; clear hK) | (refine sched_s rfl rfl (fun _ hK => ?_); go_simp; first | (refine hK _ ?_; clear hK) | (refine ⟨_, fun _ => rfl, hK _ ?_⟩; clear hK)))
    refine sched_g rfl rfl (fun _ hK => ?_)
    go_simp
    refine (SA.out _ (hw1.out.same (hw5.out.same (by repeat (first | exact Fr.refl _ _ | apply Fr.alloc | apply Fr.drewN | apply Fr.drew | apply Fr.undrew | apply Fr.undrewN))))).mono ?_
    rintro e w6 ⟨rfl, hsw6⟩
    have hw6 : Same w1 w6 := (show Same w1 _ from hw5.out.same (by repeat (first | exact Fr.refl _ _ | apply Fr.alloc | apply Fr.drewN | apply Fr.drew | apply Fr.undrew | apply Fr.undrewN))).same hsw6
    refine hK _ _ (Kp.of_same hsw6) ?_
    clear hK
    try simp only [Act.put, List.setIfInBounds_toArray, List.set_cons_zero, List.set_cons_succ]
    have kw6 := hw6.at kf.out id
    have lw6 := hw6.at kg.out id
    clear x0 x1 x2 xb y0 y1 y2 yb
    have x0 := cell_at kw6 0; have x1 := cell_at kw6 1; have x2 := cell_at kw6 2
    have xb := lt_of_heap kw6
    have y0 := cell_at lw6 0; have y1 := cell_at lw6 1; have y2 := cell_at lw6 2
    have yb := lt_of_heap lw6
    replace hw6 := Lib.hid hw6; replace hsw6 := Lib.hid hsw6; replace kw6 := Lib.hid kw6; replace lw6 := Lib.hid lw6
    have hbb : (b != b) = false := by simp
    repeat (first | (refine sched_w rfl rfl (fun _ hK => ?_); go_simp; refine hK _ ?_; clear hK) | (refine sched_s rfl rfl (fun _ hK => ?_); go_simp; first | (refine hK _ ?_; clear hK) | (refine ⟨_, fun _ => rfl, hK _ ?_⟩; clear hK)))
    refine sched_g rfl rfl (fun _ hK => ?_)
    go_simp
    refine (EF.out _ (hw1.out.same (hw6.out.same (by repeat (first | exact Fr.refl _ _ | apply Fr.alloc | apply Fr.drewN | apply Fr.drew | apply Fr.undrew | apply Fr.undrewN))))).mono ?_
    rintro e w7 ⟨rfl, hsw7⟩
    have hw7 : Same w1 w7 := (show Same w1 _ from hw6.out.same (by repeat (first | exact Fr.refl _ _ | apply Fr.alloc | apply Fr.drewN | apply Fr.drew | apply Fr.undrew | apply Fr.undrewN))).same hsw7
    refine hK _ _ (Kp.of_same hsw7) ?_
    clear hK
    try simp only [Act.put, List.setIfInBounds_toArray, List.set_cons_zero, List.set_cons_succ]
    have kw7 := hw7.at kf.out id
    have lw7 := hw7.at kg.out id
    clear x0 x1 x2 xb y0 y1 y2 yb
    have x0 := cell_at kw7 0; have x1 := cell_at kw7 1; have x2 := cell_at kw7 2
    have xb := lt_of_heap kw7
    have y0 := cell_at lw7 0; have y1 := cell_at lw7 1; have y2 := cell_at lw7 2
    have yb := lt_of_heap lw7
    replace hw7 := Lib.hid hw7; replace hsw7 := Lib.hid hsw7; replace kw7 := Lib.hid kw7; replace lw7 := Lib.hid lw7
    repeat (first | (refine sched_w rfl rfl (fun _ hK => ?_); go_simp; refine hK _ ?_; clear hK) | (refine sched_s rfl rfl (fun _ hK => ?_); go_simp; first | (refine hK _ ?_; clear hK) | (refine ⟨_, fun _ => rfl, hK _ ?_⟩; clear hK)))
    refine sched_nil (NoPanic.normal ?_)
    clear y0 y1 y2 yb
    have hz := hw1.out.same hw7.out
    replace hz := Lib.hid hz
    by_cases h0 : c = 0
    · have h01 : (c == 0) = true := by simpa using h0
      clear h0
      go_wp2_with fail
      go_ret
      exact ⟨rfl, hz.out⟩
    · have h01 : (c == 0) = false := by simpa using h0
      replace h0 := Lib.hid h0
      go_wp2_with fail
      refine (TA.out _ (hz.out.same (by repeat (first | exact Fr.refl _ _ | apply Fr.alloc | apply Fr.drewN | apply Fr.drew | apply Fr.undrew | apply Fr.undrewN))) h0.out).mono ?_
      rintro e w8 ⟨rfl, hsV⟩
      have hV : Same w7 w8 := (show Same w7 _ from (by repeat (first | exact Fr.refl _ _ | apply Fr.alloc | apply Fr.drewN | apply Fr.drew | apply Fr.undrew | apply Fr.undrewN))).same hsV
      replace kw7 := Lib.hid (hV.at kw7.out id)
      replace hz := Lib.hid (hz.out.same hV)
      clear hsV hV x0 x1 x2 xb
      have kx := kw7.out
      have x0 := cell_at kx 0; have x1 := cell_at kx 1; have x2 := cell_at kx 2
      have xb := lt_of_heap kx
      clear kx
      go_wp2_with fail
      refine (NT.out _ (hz.out.same (by repeat (first | exact Fr.refl _ _ | apply Fr.alloc | apply Fr.drewN | apply Fr.drew | apply Fr.undrew | apply Fr.undrewN))) h0.out).mono ?_
      rintro e w9 ⟨a_x, c_x, rfl, hO_x, hsV⟩
      have hV : Same w8 w9 := (show Same w8 _ from (by repeat (first | exact Fr.refl _ _ | apply Fr.alloc | apply Fr.drewN | apply Fr.drew | apply Fr.undrew | apply Fr.undrewN))).same hsV
      replace hO_x := Lib.hid hO_x
      replace kw7 := Lib.hid (hV.at kw7.out id)
      replace hz := Lib.hid (hz.out.same hV)
      clear hsV hV x0 x1 x2 xb
      have kx := kw7.out
      have x0 := cell_at kx 0; have x1 := cell_at kx 1; have x2 := cell_at kx 2
      have xb := lt_of_heap kx
      clear kx
      go_wp2_with fail
      refine (AD.out _ (hz.out.same (by repeat (first | exact Fr.refl _ _ | apply Fr.alloc | apply Fr.drewN | apply Fr.drew | apply Fr.undrew | apply Fr.undrewN))) h0.out).mono ?_
      rintro e w10 ⟨a_y, c_y, rfl, hO_y, hsV⟩
      have hV : Same w9 w10 := (show Same w9 _ from (by repeat (first | exact Fr.refl _ _ | apply Fr.alloc | apply Fr.drewN | apply Fr.drew | apply Fr.undrew | apply Fr.undrewN))).same hsV
      have k_x : BoxAt w10 w9.heap.size 0 a_x [] c_x 0 := ⟨hsV.at (heap_new w9 _) id, hO_x.out.same hV⟩
      replace k_x := Lib.hid k_x
      clear hO_x
      replace hO_y := Lib.hid hO_y
      replace kw7 := Lib.hid (hV.at kw7.out id)
      replace hz := Lib.hid (hz.out.same hV)
      clear hsV hV x0 x1 x2 xb
      have kx := kw7.out
      have x0 := cell_at kx 0; have x1 := cell_at kx 1; have x2 := cell_at kx 2
      have xb := lt_of_heap kx
      clear kx
      go_wp2_with fail
      refine (IT.out _ (hz.out.same (by repeat (first | exact Fr.refl _ _ | apply Fr.alloc | apply Fr.drewN | apply Fr.drew | apply Fr.undrew | apply Fr.undrewN))) h0.out).mono ?_
      rintro e w11 ⟨a_z, c_z, rfl, hO_z, hsV⟩
      have hV : Same w10 w11 := (show Same w10 _ from (by repeat (first | exact Fr.refl _ _ | apply Fr.alloc | apply Fr.drewN | apply Fr.drew | apply Fr.undrew | apply Fr.undrewN))).same hsV
      have k_y : BoxAt w11 w10.heap.size 0 a_y [] c_y 0 := ⟨hsV.at (heap_new w10 _) id, hO_y.out.same hV⟩
      replace k_y := Lib.hid k_y
      clear hO_y
      replace k_x := Lib.hid (k_x.out.same hV)
      replace hO_z := Lib.hid hO_z
      replace kw7 := Lib.hid (hV.at kw7.out id)
      replace hz := Lib.hid (hz.out.same hV)
      clear hsV hV x0 x1 x2 xb
      have kx := kw7.out
      have x0 := cell_at kx 0; have x1 := cell_at kx 1; have x2 := cell_at kx 2
      have xb := lt_of_heap kx
      clear kx
      go_wp2_with fail
      refine (RS.out _ (hz.out.same (by repeat (first | exact Fr.refl _ _ | apply Fr.alloc | apply Fr.drewN | apply Fr.drew | apply Fr.undrew | apply Fr.undrewN))) h0.out).mono ?_
      rintro e w12 ⟨a_u, c_u, rfl, hO_u, hsV⟩
      have hV : Same w11 w12 := (show Same w11 _ from (by repeat (first | exact Fr.refl _ _ | apply Fr.alloc | apply Fr.drewN | apply Fr.drew | apply Fr.undrew | apply Fr.undrewN))).same hsV
      have k_z : BoxAt w12 w11.heap.size 0 a_z [] c_z 0 := ⟨hsV.at (heap_new w11 _) id, hO_z.out.same hV⟩
      replace k_z := Lib.hid k_z
      clear hO_z
      replace k_x := Lib.hid (k_x.out.same hV)
      replace k_y := Lib.hid (k_y.out.same hV)
      replace hO_u := Lib.hid hO_u
      replace kw7 := Lib.hid (hV.at kw7.out id)
      replace hz := Lib.hid (hz.out.same hV)
      clear hsV hV x0 x1 x2 xb
      have kx := kw7.out
      have x0 := cell_at kx 0; have x1 := cell_at kx 1; have x2 := cell_at kx 2
      have xb := lt_of_heap kx
      clear kx
      go_wp2_with fail
      refine (EX.out _ (hz.out.same (by repeat (first | exact Fr.refl _ _ | apply Fr.alloc | apply Fr.drewN | apply Fr.drew | apply Fr.undrew | apply Fr.undrewN))) h0.out).mono ?_
      rintro e w13 ⟨a_v, c_v, rfl, hO_v, hsV⟩
      have hV : Same w12 w13 := (show Same w12 _ from (by repeat (first | exact Fr.refl _ _ | apply Fr.alloc | apply Fr.drewN | apply Fr.drew | apply Fr.undrew | apply Fr.undrewN))).same hsV
      have k_u : BoxAt w13 w12.heap.size 0 a_u [] c_u 0 := ⟨hsV.at (heap_new w12 _) id, hO_u.out.same hV⟩
      replace k_u := Lib.hid k_u
      clear hO_u
      replace k_x := Lib.hid (k_x.out.same hV)
      replace k_y := Lib.hid (k_y.out.same hV)
      replace k_z := Lib.hid (k_z.out.same hV)
      replace hO_v := Lib.hid hO_v
      replace kw7 := Lib.hid (hV.at kw7.out id)
      replace hz := Lib.hid (hz.out.same hV)
      clear hsV hV x0 x1 x2 xb
      have kx := kw7.out
      have x0 := cell_at kx 0; have x1 := cell_at kx 1; have x2 := cell_at kx 2
      have xb := lt_of_heap kx
      clear kx
      go_wp2_with fail
      refine (RN.out _ (hz.out.same (by repeat (first | exact Fr.refl _ _ | apply Fr.alloc | apply Fr.drewN | apply Fr.drew | apply Fr.undrew | apply Fr.undrewN))) h0.out).mono ?_
      rintro e w14 ⟨a_t, c_t, rfl, hO_t, hsV⟩
      have hV : Same w13 w14 := (show Same w13 _ from (by repeat (first | exact Fr.refl _ _ | apply Fr.alloc | apply Fr.drewN | apply Fr.drew | apply Fr.undrew | apply Fr.undrewN))).same hsV
      have k_v : BoxAt w14 w13.heap.size 0 a_v [] c_v 0 := ⟨hsV.at (heap_new w13 _) id, hO_v.out.same hV⟩
      replace k_v := Lib.hid k_v
      clear hO_v
      replace k_x := Lib.hid (k_x.out.same hV)
      replace k_y := Lib.hid (k_y.out.same hV)
      replace k_z := Lib.hid (k_z.out.same hV)
      replace k_u := Lib.hid (k_u.out.same hV)
      replace hO_t := Lib.hid hO_t
      replace kw7 := Lib.hid (hV.at kw7.out id)
      replace hz := Lib.hid (hz.out.same hV)
      clear hsV hV x0 x1 x2 xb
      have kx := kw7.out
      have x0 := cell_at kx 0; have x1 := cell_at kx 1; have x2 := cell_at kx 2
      have xb := lt_of_heap kx
      clear kx
      go_wp2_with fail
      refine (VA.out _ (hz.out.same (by repeat (first | exact Fr.refl _ _ | apply Fr.alloc | apply Fr.drewN | apply Fr.drew | apply Fr.undrew | apply Fr.undrewN))) h0.out).mono ?_
      rintro e w15 ⟨rfl, hsV⟩
      have hV : Same w14 w15 := (show Same w14 _ from (by repeat (first | exact Fr.refl _ _ | apply Fr.alloc | apply Fr.drewN | apply Fr.drew | apply Fr.undrew | apply Fr.undrewN))).same hsV
      have k_t : BoxAt w15 w14.heap.size 0 a_t [] c_t 0 := ⟨hsV.at (heap_new w14 _) id, hO_t.out.same hV⟩
      replace k_t := Lib.hid k_t
      clear hO_t
      replace k_x := Lib.hid (k_x.out.same hV)
      replace k_y := Lib.hid (k_y.out.same hV)
      replace k_z := Lib.hid (k_z.out.same hV)
      replace k_u := Lib.hid (k_u.out.same hV)
      replace k_v := Lib.hid (k_v.out.same hV)
      replace kw7 := Lib.hid (hV.at kw7.out id)
      replace hz := Lib.hid (hz.out.same hV)
      clear hsV hV x0 x1 x2 xb
      have kx := kw7.out
      have x0 := cell_at kx 0; have x1 := cell_at kx 1; have x2 := cell_at kx 2
      have xb := lt_of_heap kx
      clear kx
      go_wp2_with fail
      refine (CO.out _ (hz.out.same (by repeat (first | exact Fr.refl _ _ | apply Fr.alloc | apply Fr.drewN | apply Fr.drew | apply Fr.undrew | apply Fr.undrewN))) h0.out).mono ?_
      rintro e w16 ⟨rfl, hsV⟩
      have hV : Same w15 w16 := (show Same w15 _ from (by repeat (first | exact Fr.refl _ _ | apply Fr.alloc | apply Fr.drewN | apply Fr.drew | apply Fr.undrew | apply Fr.undrewN))).same hsV
      replace k_x := Lib.hid (k_x.out.same hV)
      replace k_y := Lib.hid (k_y.out.same hV)
      replace k_z := Lib.hid (k_z.out.same hV)
      replace k_u := Lib.hid (k_u.out.same hV)
      replace k_v := Lib.hid (k_v.out.same hV)
      replace k_t := Lib.hid (k_t.out.same hV)
      replace kw7 := Lib.hid (hV.at kw7.out id)
      replace hz := Lib.hid (hz.out.same hV)
      clear hsV hV x0 x1 x2 xb
      have kx := kw7.out
      have x0 := cell_at kx 0; have x1 := cell_at kx 1; have x2 := cell_at kx 2
      have xb := lt_of_heap kx
      clear kx
      go_wp2_with fail
      refine (AN.out _ (hz.out.same (by repeat (first | exact Fr.refl _ _ | apply Fr.alloc | apply Fr.drewN | apply Fr.drew | apply Fr.undrew | apply Fr.undrewN))) h0.out).mono ?_
      rintro e w17 ⟨rfl, hsV⟩
      have hV : Same w16 w17 := (show Same w16 _ from (by repeat (first | exact Fr.refl _ _ | apply Fr.alloc | apply Fr.drewN | apply Fr.drew | apply Fr.undrew | apply Fr.undrewN))).same hsV
      replace k_x := Lib.hid (k_x.out.same hV)
      replace k_y := Lib.hid (k_y.out.same hV)
      replace k_z := Lib.hid (k_z.out.same hV)
      replace k_u := Lib.hid (k_u.out.same hV)
      replace k_v := Lib.hid (k_v.out.same hV)
      replace k_t := Lib.hid (k_t.out.same hV)
      replace kw7 := Lib.hid (hV.at kw7.out id)
      replace hz := Lib.hid (hz.out.same hV)
      clear hsV hV x0 x1 x2 xb
      have kx := kw7.out
      have x0 := cell_at kx 0; have x1 := cell_at kx 1; have x2 := cell_at kx 2
      have xb := lt_of_heap kx
      clear kx
      go_wp2_with fail
      refine (AL.out _ (hz.out.same (by repeat (first | exact Fr.refl _ _ | apply Fr.alloc | apply Fr.drewN | apply Fr.drew | apply Fr.undrew | apply Fr.undrewN))) h0.out).mono ?_
      rintro e w18 ⟨rfl, hsV⟩
      have hV : Same w17 w18 := (show Same w17 _ from (by repeat (first | exact Fr.refl _ _ | apply Fr.alloc | apply Fr.drewN | apply Fr.drew | apply Fr.undrew | apply Fr.undrewN))).same hsV
      replace k_x := Lib.hid (k_x.out.same hV)
      replace k_y := Lib.hid (k_y.out.same hV)
      replace k_z := Lib.hid (k_z.out.same hV)
      replace k_u := Lib.hid (k_u.out.same hV)
      replace k_v := Lib.hid (k_v.out.same hV)
      replace k_t := Lib.hid (k_t.out.same hV)
      replace kw7 := Lib.hid (hV.at kw7.out id)
      replace hz := Lib.hid (hz.out.same hV)
      clear hsV hV x0 x1 x2 xb
      have kx := kw7.out
      have x0 := cell_at kx 0; have x1 := cell_at kx 1; have x2 := cell_at kx 2
      have xb := lt_of_heap kx
      clear kx
      go_wp2_with fail
      refine (SU.out _ (hz.out.same (by repeat (first | exact Fr.refl _ _ | apply Fr.alloc | apply Fr.drewN | apply Fr.drew | apply Fr.undrew | apply Fr.undrewN))) h0.out).mono ?_
      rintro e w19 ⟨rfl, hsV⟩
      have hV : Same w18 w19 := (show Same w18 _ from (by repeat (first | exact Fr.refl _ _ | apply Fr.alloc | apply Fr.drewN | apply Fr.drew | apply Fr.undrew | apply Fr.undrewN))).same hsV
      replace k_x := Lib.hid (k_x.out.same hV)
      replace k_y := Lib.hid (k_y.out.same hV)
      replace k_z := Lib.hid (k_z.out.same hV)
      replace k_u := Lib.hid (k_u.out.same hV)
      replace k_v := Lib.hid (k_v.out.same hV)
      replace k_t := Lib.hid (k_t.out.same hV)
      replace kw7 := Lib.hid (hV.at kw7.out id)
      replace hz := Lib.hid (hz.out.same hV)
      clear hsV hV x0 x1 x2 xb
      have kx := kw7.out
      have x0 := cell_at kx 0; have x1 := cell_at kx 1; have x2 := cell_at kx 2
      have xb := lt_of_heap kx
      clear kx
      clear x0 x1 x2 xb
      have kx := k_x.out.1
      have x0 := cell_at kx 0; have x1 := cell_at kx 1; have x2 := cell_at kx 2
      have xb := lt_of_heap kx
      clear kx
      have NN := fun W (hW : Same w19 W) => none_true a_x c_x W (k_x.out.2.same hW)
      replace NN := Lib.hid NN
      go_wp2_with fail
      refine (NN.out _ (by repeat (first | exact Fr.refl _ _ | apply Fr.alloc | apply Fr.drewN | apply Fr.drew | apply Fr.undrew | apply Fr.undrewN))).mono ?_
      rintro e w20 ⟨rfl, hsV⟩
      have hV : Same w19 w20 := (show Same w19 _ from (by repeat (first | exact Fr.refl _ _ | apply Fr.alloc | apply Fr.drewN | apply Fr.drew | apply Fr.undrew | apply Fr.undrewN))).same hsV
      replace k_y := Lib.hid (k_y.out.same hV)
      replace k_z := Lib.hid (k_z.out.same hV)
      replace k_u := Lib.hid (k_u.out.same hV)
      replace k_v := Lib.hid (k_v.out.same hV)
      replace k_t := Lib.hid (k_t.out.same hV)
      replace hz := Lib.hid (hz.out.same hV)
      clear hsV hV x0 x1 x2 xb NN k_x
      have kx := k_y.out.1
      have x0 := cell_at kx 0; have x1 := cell_at kx 1; have x2 := cell_at kx 2
      have xb := lt_of_heap kx
      clear kx
      have NN := fun W (hW : Same w20 W) => none_true a_y c_y W (k_y.out.2.same hW)
      replace NN := Lib.hid NN
      go_wp2_with fail
      refine (NN.out _ (by repeat (first | exact Fr.refl _ _ | apply Fr.alloc | apply Fr.drewN | apply Fr.drew | apply Fr.undrew | apply Fr.undrewN))).mono ?_
      rintro e w21 ⟨rfl, hsV⟩
      have hV : Same w20 w21 := (show Same w20 _ from (by repeat (first | exact Fr.refl _ _ | apply Fr.alloc | apply Fr.drewN | apply Fr.drew | apply Fr.undrew | apply Fr.undrewN))).same hsV
      replace k_z := Lib.hid (k_z.out.same hV)
      replace k_u := Lib.hid (k_u.out.same hV)
      replace k_v := Lib.hid (k_v.out.same hV)
      replace k_t := Lib.hid (k_t.out.same hV)
      replace hz := Lib.hid (hz.out.same hV)
      clear hsV hV x0 x1 x2 xb NN k_y
      have kx := k_z.out.1
      have x0 := cell_at kx 0; have x1 := cell_at kx 1; have x2 := cell_at kx 2
      have xb := lt_of_heap kx
      clear kx
      have NN := fun W (hW : Same w21 W) => none_true a_z c_z W (k_z.out.2.same hW)
      replace NN := Lib.hid NN
      go_wp2_with fail
      refine (NN.out _ (by repeat (first | exact Fr.refl _ _ | apply Fr.alloc | apply Fr.drewN | apply Fr.drew | apply Fr.undrew | apply Fr.undrewN))).mono ?_
      rintro e w22 ⟨rfl, hsV⟩
      have hV : Same w21 w22 := (show Same w21 _ from (by repeat (first | exact Fr.refl _ _ | apply Fr.alloc | apply Fr.drewN | apply Fr.drew | apply Fr.undrew | apply Fr.undrewN))).same hsV
      replace k_u := Lib.hid (k_u.out.same hV)
      replace k_v := Lib.hid (k_v.out.same hV)
      replace k_t := Lib.hid (k_t.out.same hV)
      replace hz := Lib.hid (hz.out.same hV)
      clear hsV hV x0 x1 x2 xb NN k_z
      have kx := k_u.out.1
      have x0 := cell_at kx 0; have x1 := cell_at kx 1; have x2 := cell_at kx 2
      have xb := lt_of_heap kx
      clear kx
      have NN := fun W (hW : Same w22 W) => none_true a_u c_u W (k_u.out.2.same hW)
      replace NN := Lib.hid NN
      go_wp2_with fail
      refine (NN.out _ (by repeat (first | exact Fr.refl _ _ | apply Fr.alloc | apply Fr.drewN | apply Fr.drew | apply Fr.undrew | apply Fr.undrewN))).mono ?_
      rintro e w23 ⟨rfl, hsV⟩
      have hV : Same w22 w23 := (show Same w22 _ from (by repeat (first | exact Fr.refl _ _ | apply Fr.alloc | apply Fr.drewN | apply Fr.drew | apply Fr.undrew | apply Fr.undrewN))).same hsV
      replace k_v := Lib.hid (k_v.out.same hV)
      replace k_t := Lib.hid (k_t.out.same hV)
      replace hz := Lib.hid (hz.out.same hV)
      clear hsV hV x0 x1 x2 xb NN k_u
      have kx := k_v.out.1
      have x0 := cell_at kx 0; have x1 := cell_at kx 1; have x2 := cell_at kx 2
      have xb := lt_of_heap kx
      clear kx
      have NN := fun W (hW : Same w23 W) => none_true a_v c_v W (k_v.out.2.same hW)
      replace NN := Lib.hid NN
      go_wp2_with fail
      refine (NN.out _ (by repeat (first | exact Fr.refl _ _ | apply Fr.alloc | apply Fr.drewN | apply Fr.drew | apply Fr.undrew | apply Fr.undrewN))).mono ?_
      rintro e w24 ⟨rfl, hsV⟩
      have hV : Same w23 w24 := (show Same w23 _ from (by repeat (first | exact Fr.refl _ _ | apply Fr.alloc | apply Fr.drewN | apply Fr.drew | apply Fr.undrew | apply Fr.undrewN))).same hsV
      replace k_t := Lib.hid (k_t.out.same hV)
      replace hz := Lib.hid (hz.out.same hV)
      clear hsV hV x0 x1 x2 xb NN k_v
      have kx := k_t.out.1
      have x0 := cell_at kx 0; have x1 := cell_at kx 1; have x2 := cell_at kx 2
      have xb := lt_of_heap kx
      clear kx
      have NN := fun W (hW : Same w24 W) => none_true a_t c_t W (k_t.out.2.same hW)
      replace NN := Lib.hid NN
      go_wp2_with fail
      refine (NN.out _ (by repeat (first | exact Fr.refl _ _ | apply Fr.alloc | apply Fr.drewN | apply Fr.drew | apply Fr.undrew | apply Fr.undrewN))).mono ?_
      rintro e w25 ⟨rfl, hsV⟩
      have hV : Same w24 w25 := (show Same w24 _ from (by repeat (first | exact Fr.refl _ _ | apply Fr.alloc | apply Fr.drewN | apply Fr.drew | apply Fr.undrew | apply Fr.undrewN))).same hsV
      replace hz := Lib.hid (hz.out.same hV)
      clear hsV hV x0 x1 x2 xb NN k_t
      go_wp2_with fail
      go_ret
      exact ⟨rfl, hz.out⟩
end Go.Proofs.Ytaebjalpebgliaa
