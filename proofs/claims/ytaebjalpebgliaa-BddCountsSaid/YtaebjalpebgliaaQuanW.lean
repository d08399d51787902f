/- bdd.quantify, Exists, Forall. -/
import Derived.Test.YtaebjalpebgliaaRestr
import Derived.Test.YtaebjalpebgliaaRows5
import Derived.Test.YtaebjalpebgliaaRQuant
namespace Go.Proofs.Ytaebjalpebgliaa
open Go.RowKit
set_option linter.unusedVariables false
set_option linter.unusedSimpArgs false

theorem renErr_sorted {m : Int} {qs : List Int} (h : renErr m qs qs.length 0 = 0) : ∀ i j, i ≤ j → j < qs.length → toF qs i ≤ toF qs j := by
  have H := renErr_up qs.length 0 h
  intro i j hij hj
  induction j with
  | zero => have : i = 0 := by omega
            subst this; omega
  | succ j ih =>
    rcases Nat.lt_or_eq_of_le hij with hlt | rfl
    · have h1 := (H (j + 1) (by omega) (by omega)).2.2 (by omega)
      rw [Nat.add_sub_cancel] at h1
      have := ih (by omega) (by omega)
      omega
    · omega

theorem three_abs {w2 : World} {A B C : Obj} {P : World → Prop} (h : ∀ W3, (W3.heap[w2.heap.size]? = some A ∧ W3.heap[w2.heap.size + 1]? = some B ∧ W3.heap[w2.heap.size + 1 + 1]? = some C ∧ Same w2 W3) → P W3) : P (((w2.alloc A).alloc B).alloc C) :=
  h _ ⟨heap_old (heap_old (heap_new _ _) _) _, heap_old (heap_new_at (by simp) _) _, heap_new_at (by simp) _, ((((Fr.refl _ _).alloc _).alloc _).alloc _)⟩

set_option maxRecDepth 100000 in
set_option maxHeartbeats 8000000 in
theorem quant_ok {F : FuncId} {dof : Is → Int → Int → Option (Is × Int)} {o : Bool → Bool → Bool} (eF : ∀ (args : Array Value) (W : World), (callFunc F args).run Try.prog W = .ok (.enter F args) W) (hC : DoC F dof) (hV : DoVal dof) (hid : Idem o)
    (d : Dg) (n : Nat) (t : List Bool) (hdo : DoOk n o dof) (qs : List Int) (aQ : Option Addr) (capQ : Nat) (w : World) (hn : n ≤ 10) (hat : d.at w) (T : d.tab n t) (hl7 : qs.length ≤ 1000) (hQ : RowAt w (.slice aQ qs.length capQ) qs.length (intCells qs)) (hr0 : renErr n qs qs.length 0 = 0) :
    Calls Try.prog 67 #[d.v, .slice aQ qs.length capQ, .func (.func F) #[] #[]] w (DRet w n (tableF n [] 0 (chT (fun x => decide (x ∈ qs)) o n 0 t)).1 (tableF n [] 0 (chT (fun x => decide (x ∈ qs)) o n 0 t)).2) := by
  have C := fun W (hW : Same w W) => check_tab d n t W (SliceAt.same hat hW) T
  obtain ⟨hL, hr, ht⟩ := T.2.ord
  obtain ⟨c1, c2, s', q, c3, c4, c5, c6, c7⟩ := chg_there hn T.2 (wn := fun x => decide (x ∈ qs)) hid hdo
  have FIN := fin_tab hn c4 c5 c6 c7
  have hsm := T.2.small
  have hp10 : 2 ^ n ≤ 2 ^ 10 := Nat.pow_le_pow_right (by omega) hn
  have e := T.1
  rw [Dg.v, e] at C ⊢
  unfold Dg.at at hat
  clear T
  generalize d.L = L at *
  generalize d.r = r at *
  generalize d.a = a at *
  generalize d.cap = cap at *
  obtain ⟨O, hO⟩ : ∃ O, O = tableF n [] 0 (chT (fun x => decide (x ∈ qs)) o n 0 t) := ⟨_, rfl⟩
  rw [← hO] at FIN ⊢
  have hlow : 0 < L.length → ∀ k, (Value.slice a L.length cap).ownBlock = some k → k < w.heap.size := lit_own_below hat
  have ADD := fun B p m a' cap' W (hB : BuilderAt W B p m a' cap' []) (hw : Same w W) (hwB : w.heap.size ≤ B) => add_any B p m a' cap' [] n r a cap L W hB (hat.same hw) (fun h0 i hi => Nat.lt_of_lt_of_le (hlow h0 i hi) hwB) hL.val.laid hr.1 hr.2 (by simp; omega)
  obtain ⟨N, hN⟩ : ∃ N, N = (addF L ([], [0, 1])).1 := ⟨_, rfl⟩
  obtain ⟨k, hk⟩ : ∃ k, k = (addF L ([], [0, 1])).2.getD r.toNat 0 := ⟨_, rfl⟩
  rw [← hN, ← hk] at ADD c3 c2
  rw [← hN] at c1
  have hsrt := renErr_sorted hr0
  have CS := fun W (hW : Same w W) => checkSet_any n qs aQ capQ W hl7 (hQ.same hW)
  rw [hr0] at CS
  have hQlow : 0 < qs.length → ∀ k, (Value.slice aQ qs.length capQ).ownBlock = some k → k < w.heap.size := fun h => hQ.below h
  have hmm := @run_makeMap Try.prog
  replace C := Lib.hid C; replace FIN := Lib.hid FIN; replace ADD := Lib.hid ADD; replace c1 := Lib.hid c1; replace c2 := Lib.hid c2; replace c3 := Lib.hid c3; replace c4 := Lib.hid c4; replace c5 := Lib.hid c5; replace c6 := Lib.hid c6; replace c7 := Lib.hid c7; replace hat := Lib.hid hat; replace hL := Lib.hid hL; replace hr := Lib.hid hr; replace ht := Lib.hid ht; replace e := Lib.hid e; replace hlow := Lib.hid hlow; replace hN := Lib.hid hN; replace hk := Lib.hid hk; replace hO := Lib.hid hO; replace hsrt := Lib.hid hsrt; replace CS := Lib.hid CS; replace hQlow := Lib.hid hQlow; replace hQ := Lib.hid hQ; replace hr0 := Lib.hid hr0; replace hC := Lib.hid hC; replace hV := Lib.hid hV; replace hid := Lib.hid hid; replace hdo := Lib.hid hdo
  go_enter Try.func67, Try.ntmps67
  go_wp2_with fail
  refine (C.out _ (by repeat (first | exact Fr.refl _ _ | apply Fr.alloc | apply Fr.drewN | apply Fr.drew | apply Fr.undrew | apply Fr.undrewN))).mono ?_
  rintro e w1 ⟨rfl, hs1⟩
  have kb : w1.heap[w.heap.size]? = some (.cells #[.int .i64 n, .slice a L.length cap, .int .i64 r] 31 (0, 0)) := hs1.at (heap_old (heap_old (heap_old (heap_new _ _) _) _) _) id
  have kv : w1.heap[w.heap.size + 1]? = some (.cells #[.slice aQ qs.length capQ] 42 (0, 0)) := hs1.at (heap_old (heap_old (heap_new_at (by simp) _) _) _) id
  have kx : w1.heap[w.heap.size + 1 + 1]? = some (.cells #[.func (.func F) #[] #[]] 102 (0, 0)) := hs1.at (heap_old (heap_new_at (by simp) _) _) id
  have kt : w1.heap[w.heap.size + 1 + 1 + 1]? = some (.cells #[.int .i64 0, .slice none 0 0, .int .i64 0] 31 (0, 0)) := hs1.at (heap_new_at (by simp) _) id
  have hs : Same w w1 := (show Same w _ from (by repeat (first | exact Fr.refl _ _ | apply Fr.alloc | apply Fr.drewN | apply Fr.drew | apply Fr.undrew | apply Fr.undrewN))).same hs1
  have x0 := cell_at kb 0; have x1 := cell_at kb 1; have x2 := cell_at kb 2
  have y0 := cell_at kv 0
  have tb := lt_of_heap kt
  replace kb := Lib.hid kb; replace kv := Lib.hid kv; replace kx := Lib.hid kx; replace kt := Lib.hid kt; replace hs := Lib.hid hs; replace hs1 := Lib.hid hs1
  go_wp2_with fail
  refine (CS.out _ hs.out).mono ?_
  rintro e w2 ⟨rfl, rfl⟩
  go_wp2_with fail
  refine (begin_any _).mono ?_
  rintro e w2 ⟨p, m, rfl, hB, hs2⟩
  have kb2 := hs2.at kb.out id
  have kv2 := hs2.at kv.out id
  have kx2 := hs2.at kx.out id
  have kt2 := hs2.at kt.out id
  have hw2 := hs.out.same hs2
  have hsz := hs.out.size
  have hsz2 := hs2.size
  clear x0 x1 x2 y0
  have x0 := cell_at kb2 0; have x1 := cell_at kb2 1; have x2 := cell_at kb2 2
  have xb := lt_of_heap kb2
  replace kb2 := Lib.hid kb2; replace kv2 := Lib.hid kv2; replace kx2 := Lib.hid kx2; replace kt2 := Lib.hid kt2; replace hw2 := Lib.hid hw2; replace hB := Lib.hid hB; replace hs2 := Lib.hid hs2
  go_wp2_with fail
  refine three_abs (fun W3 h3 => ?_)
  obtain ⟨h30, h31, h32, hs3⟩ := h3
  have hM3 : MapAt ndv (Value.int .i64) W3 w2.heap.size ([] : List (Nd × Int)) := (mapAt_made_at (w := w2) rfl).of_block (by rw [h30]; exact (heap_new _ _).symm)
  have kb3 := hs3.at kb2.out id
  have kv3 := hs3.at kv2.out id
  have kx3 := hs3.at kx2.out id
  have kt3 := hs3.at kt2.out id
  have hB3 := hB.out.same hs3
  have hw3 := hw2.out.same hs3
  have hsz3 := lt_of_heap h32
  have hmp : m < w2.heap.size ∧ p < w2.heap.size := ⟨hB.out.map.lt, lt_of_heap hB.out.blk⟩
  have hpB := hB.out.pb
  have z0 := cell_at h31 0
  have zb := lt_of_heap h31
  clear x0 x1 x2 xb
  have x0 := cell_at kb3 0; have x1 := cell_at kb3 1; have x2 := cell_at kb3 2
  have xb := lt_of_heap kb3
  have hkB0 : w.heap.size < w1.heap.size := by omega
  have hkB3 : w.heap.size + 1 + 1 + 1 < w1.heap.size := by omega
  have hB2w : w1.heap.size ≤ w2.heap.size := by omega
  replace h30 := Lib.hid h30; replace h31 := Lib.hid h31; replace h32 := Lib.hid h32; replace hs3 := Lib.hid hs3; replace hM3 := Lib.hid hM3; replace kb3 := Lib.hid kb3; replace kv3 := Lib.hid kv3; replace kx3 := Lib.hid kx3; replace kt3 := Lib.hid kt3; replace hB3 := Lib.hid hB3; replace hw3 := Lib.hid hw3; replace hmp := Lib.hid hmp
  refine wp_region_plan (L2 (w2.heap.size + 1) w.heap.size) [1, 1, 1, 2, 0, 0, 2, 3, 0] (.fork [4, 5, 0, 1, 2] 3 (.run [6, 7, 8]) 6 (.run [3, 7, 8])) (by kernel_rfl) (by kernel_rfl) ?_
  refine plan_fork ?_
  repeat (first | (refine sched_w rfl rfl (fun _ hK => ?_); go_simp; refine hK _ ?_; clear hK) | (refine sched_s rfl rfl (fun _ hK => ?_); go_simp; first | (refine hK _ ?_; clear hK) | (refine ⟨_, fun _ => rfl, hK _ ?_⟩; clear hK)))
  refine sched_nil ⟨?_, ?_⟩
  · refine fork_g rfl rfl (fun _ hK => ?_)
    go_simp
    have hB3d : BuilderAt W3.drew w1.heap.size p m none 0 [] := hB3.out.same (by repeat (first | exact Fr.refl _ _ | apply Fr.undrew | apply Fr.undrewN | apply Fr.drew | apply Fr.drewN | apply Fr.alloc))
    refine (ADD.out w1.heap.size p m none 0 _ hB3d (hw3.out.same (by repeat (first | exact Fr.refl _ _ | apply Fr.undrew | apply Fr.undrewN | apply Fr.drew | apply Fr.drewN | apply Fr.alloc))) hsz).mono ?_
    rintro e w4 hr4
    obtain ⟨rfl, a1, cap1, hB4, hG4⟩ := hr4.of
    have hG4' : Grew (fun i => BB p m i ∨ False) W3.drew w4 (.slice none ([] : List Nd).length 0) (.slice a1 N.length cap1) := by simpa [or_false] using hG4
    have hs4 : Same w w4 := Grew.same_base (w0 := w) hB3d hG4' (hw3.out.same (by repeat (first | exact Fr.refl _ _ | apply Fr.undrew | apply Fr.undrewN | apply Fr.drew | apply Fr.drewN | apply Fr.alloc))) hsz
    have low4 : ∀ j o, j < w1.heap.size → W3.heap[j]? = some o → w4.heap[j]? = some o := fun j o hj h => by rw [hG4.below hB3d hj]; exact h
    have kp4 := number_keeps hB3d hG4' (show W3.drew.heap[w2.heap.size + 1]? = _ from h31.out) (by decide) (by decide)
    have km4 := number_keeps hB3d hG4' (show W3.drew.heap[w2.heap.size + 1 + 1]? = _ from h32.out) (by decide) (by decide)
    have kb4 := low4 _ _ (by omega) kb3.out
    have kv4 := low4 _ _ (by omega) kv3.out
    have kx4 := low4 _ _ (by omega) kx3.out
    have kt4 := low4 _ _ (by omega) kt3.out
    have hM4 := number_keeps_map hB3d hG4' (hM3.out.of_block rfl) (by have := hmp.out.1; omega)
    have hKp : Kp (L2 (w2.heap.size + 1) w.heap.size) W3.drew w4 := ⟨hG4.1.size, fun j hj _ => by
      rcases hj with rfl | rfl
      · rw [kp4]; exact h31.out.symm
      · rw [kb4]; exact kb3.out.symm⟩
    have hsz4 : w2.heap.size + 1 + 1 < w4.heap.size := lt_of_heap km4
    have hBmc : w1.heap.size ≤ w4.heap.size := by omega
    have hSB : ∀ i, i = w2.heap.size → w1.heap.size ≤ i := fun i h => by omega
    have hB5 : BuilderAt (w4.alloc (.map #[] 0)) w1.heap.size p m a1 cap1 N := hB4.same (by repeat (first | exact Fr.refl _ _ | apply Fr.alloc | apply Fr.drewN | apply Fr.drew | apply Fr.undrew | apply Fr.undrewN))
    have hs5 : Same w (w4.alloc (.map #[] 0)) := hs4.same (by repeat (first | exact Fr.refl _ _ | apply Fr.alloc | apply Fr.drewN | apply Fr.drew | apply Fr.undrew | apply Fr.undrewN))
    have kb5 := heap_old (o := .map #[] 0) kb4
    have kt5 := heap_old (o := .map #[] 0) kt4
    have CH := change_any (quant_env (F := F) eF hC.out hV.out (B := w1.heap.size) (p := p) (m := m) (mc := w4.heap.size) (mm := w2.heap.size) (ks := w.heap.size + 1) (kd := w.heap.size + 1 + 1) (kb := w2.heap.size + 1) (km := w2.heap.size + 1 + 1) (qs := qs) (aQ := aQ) (capQ := capQ) (by have := hmp.out; omega) (by have := hmp.out; omega) hBmc (by omega) (by omega) (by omega) hl7 hsrt.out (fun h k hk => Nat.lt_of_lt_of_le (hQlow.out h k hk) hsz) hB2w)
      (n + 1) a1 cap1 ((N, []), []) k s' q (w4.alloc (.map #[] 0)) hB5 ⟨heap_old kv4 _, heap_old kx4 _, heap_old kp4 _, heap_old km4 _, hM4.of_block (Below.heap_alloc _ _ _ hM4.lt), hQ.out.same hs5⟩ (mapAt_made_at rfl) c1.out (VM.nil _) (VM.nil _) c2.out c3.out c7.out
    replace hB5 := Lib.hid hB5; replace hs5 := Lib.hid hs5; replace kb5 := Lib.hid kb5; replace kt5 := Lib.hid kt5; replace CH := Lib.hid CH; replace hSB := Lib.hid hSB
    clear low4 hr4 hG4 hG4' hB3d hB4 hs4 kp4 km4 kb4 kv4 kx4 kt4 hM4
    refine hK _ _ hKp ?_
    clear hK hKp
    try simp only [Act.put, List.setIfInBounds_toArray, List.set_cons_zero, List.set_cons_succ]
    refine plan_run ?_
    refine sched_g rfl rfl (fun _ hK => ?_); go_simp; refine hK _ _ (Kp.of_same (by repeat (first | exact Fr.refl _ _ | apply Fr.undrew | apply Fr.undrewN | apply Fr.drew | apply Fr.drewN | apply Fr.alloc))) ?_; clear hK
    refine sched_l rfl (by decide) (fun _ hK => ?_); go_simp; refine CH.out.mono ?_; rintro e w6 ⟨rfl, a6, cap6, hB6, hP6, hC6, hG6⟩; have hs6 : Same w w6 := chg_same hB5.out hBmc hSB.out hG6 hs5.out hsz; have kb6 := (chg_low hB5.out hBmc hSB.out hG6 (lt_of_heap kb5.out) hkB0).trans kb5.out; have kt6 := (chg_low hB5.out hBmc hSB.out hG6 (lt_of_heap kt5.out) hkB3).trans kt5.out; have kp6 := hP6.bld; refine hK _ _ ?_; clear hK x0 x1 x2 xb z0 zb; (try simp only [Act.put, List.setIfInBounds_toArray, List.set_cons_zero, List.set_cons_succ]); have x0 := cell_at kb6 0; have x1 := cell_at kb6 1; have x2 := cell_at kb6 2; have xb := lt_of_heap kb6; have z0 := cell_at kp6 0; have zb := lt_of_heap kp6; replace hs6 := Lib.hid hs6; replace kb6 := Lib.hid kb6; replace kt6 := Lib.hid kt6; replace hB6 := Lib.hid hB6; replace kp6 := Lib.hid kp6; clear hG6 hP6 hC6 CH; (repeat (first | (refine sched_w rfl rfl (fun _ hK => ?_); go_simp; refine hK _ ?_; clear hK) | (refine sched_s rfl rfl (fun _ hK => ?_); go_simp; first | (refine hK _ ?_; clear hK) | (refine ⟨_, fun _ => rfl, hK _ ?_⟩; clear hK)))); refine sched_nil (NoPanic.normal ?_); go_wp2_with fail; refine (FIN.out w1.heap.size p m a6 cap6 w6 hB6.out).mono ?_; rintro e w7 ⟨ao, co, rfl, hO7, hs7⟩; have kt := hs7.at kt6.out id; have hs := hs6.out.same hs7; replace hO7 := Lib.hid hO7; obtain ⟨⟨t0, t1, t2, f0, f1, f2, tb⟩, d0, d1, d2, hF, hK, hSl⟩ := res3 (a := .int .i64 n) (c := .slice ao O.1.length co) (d := .int .i64 O.2) kt hs (by omega); replace hF := Lib.hid hF; replace hK := Lib.hid hK; replace hSl := Lib.hid hSl; replace kt := Lib.hid kt; replace hs := Lib.hid hs; have hOF := hSl.out _ _ _ _ _ hO7.out (by decide); replace hOF := Lib.hid hOF; clear x0 x1 x2 xb z0 zb; go_wp2_with fail; refine bodyPost_ret (v := .tuple #[.agg #[.int .i64 n, .slice ao O.1.length co, .int .i64 O.2], .int .i64 0]) (by simp [results, Try.results67, go_sem, d0, d1, d2]) rfl ?_; exact ⟨ao, co, rfl, hOF.out, hF.out⟩
  · refine fork_g rfl rfl (fun _ hK => ?_)
    go_simp
    refine hK _ _ (Kp.of_same (by repeat (first | exact Fr.refl _ _ | apply Fr.undrew | apply Fr.undrewN | apply Fr.drew | apply Fr.drewN | apply Fr.alloc))) ?_
    clear hK
    try simp only [Act.put, List.setIfInBounds_toArray, List.set_cons_zero, List.set_cons_succ]
    refine plan_run ?_
    refine sched_g rfl rfl (fun _ hK => ?_)
    go_simp
    have hB3d : BuilderAt ((W3.alloc (.map #[] 0)).drew) w1.heap.size p m none 0 [] := hB3.out.same (by repeat (first | exact Fr.refl _ _ | apply Fr.undrew | apply Fr.undrewN | apply Fr.drew | apply Fr.drewN | apply Fr.alloc))
    have hs34 : Same W3 (W3.alloc (.map #[] 0)).drew := (by repeat (first | exact Fr.refl _ _ | apply Fr.undrew | apply Fr.undrewN | apply Fr.drew | apply Fr.drewN | apply Fr.alloc))
    have h31d : ((W3.alloc (.map #[] 0)).drew).heap[w2.heap.size + 1]? = _ := heap_old h31.out _
    have h32d : ((W3.alloc (.map #[] 0)).drew).heap[w2.heap.size + 1 + 1]? = _ := heap_old h32.out _
    have hmcd : mI ((W3.alloc (.map #[] 0)).drew) W3.heap.size [] := (mapAt_made_at (w := W3) rfl).of_block rfl
    refine (ADD.out w1.heap.size p m none 0 _ hB3d (hw3.out.same hs34) hsz).mono ?_
    rintro e w4 hr4
    obtain ⟨rfl, a1, cap1, hB4, hG4⟩ := hr4.of
    have hG4' : Grew (fun i => BB p m i ∨ False) (W3.alloc (.map #[] 0)).drew w4 (.slice none ([] : List Nd).length 0) (.slice a1 N.length cap1) := by simpa [or_false] using hG4
    have hs4 : Same w w4 := Grew.same_base (w0 := w) hB3d hG4' (hw3.out.same hs34) hsz
    have low4 : ∀ j o, j < w1.heap.size → W3.heap[j]? = some o → w4.heap[j]? = some o := fun j o hj h => by rw [hG4.below hB3d hj]; exact hs34.at h id
    have kp4 := number_keeps hB3d hG4' h31d (by decide) (by decide)
    have km4 := number_keeps hB3d hG4' h32d (by decide) (by decide)
    have kb4 := low4 _ _ (by omega) kb3.out
    have kv4 := low4 _ _ (by omega) kv3.out
    have kx4 := low4 _ _ (by omega) kx3.out
    have kt4 := low4 _ _ (by omega) kt3.out
    have hM4 := number_keeps_map hB3d hG4' (hM3.out.of_block (hs34.block _ hM3.out.lt id)) (by have := hmp.out.1; omega)
    have hC4 := number_keeps_map hB3d hG4' hmcd (by have := hmp.out.1; have := hsz3; omega)
    have hKp : Kp (L2 (w2.heap.size + 1) w.heap.size) (W3.alloc (.map #[] 0)).drew w4 := ⟨hG4.1.size, fun j hj _ => by
      rcases hj with rfl | rfl
      · rw [kp4]; exact h31d.symm
      · rw [kb4]; exact (hs34.at kb3.out id).symm⟩
    have hBmc : w1.heap.size ≤ W3.heap.size := by omega
    have hSB : ∀ i, i = w2.heap.size → w1.heap.size ≤ i := fun i h => by omega
    have hB5 : BuilderAt w4 w1.heap.size p m a1 cap1 N := hB4
    have hs5 : Same w w4 := hs4
    have kb5 := kb4
    have kt5 := kt4
    have CH := change_any (quant_env (F := F) eF hC.out hV.out (B := w1.heap.size) (p := p) (m := m) (mc := W3.heap.size) (mm := w2.heap.size) (ks := w.heap.size + 1) (kd := w.heap.size + 1 + 1) (kb := w2.heap.size + 1) (km := w2.heap.size + 1 + 1) (qs := qs) (aQ := aQ) (capQ := capQ) (by have := hmp.out; omega) (by have := hmp.out; omega) hBmc (by omega) (by omega) (by omega) hl7 hsrt.out (fun h k hk => Nat.lt_of_lt_of_le (hQlow.out h k hk) hsz) hB2w)
      (n + 1) a1 cap1 ((N, []), []) k s' q w4 hB5 ⟨kv4, kx4, kp4, km4, hM4, hQ.out.same hs5⟩ hC4 c1.out (VM.nil _) (VM.nil _) c2.out c3.out c7.out
    replace hB5 := Lib.hid hB5; replace hs5 := Lib.hid hs5; replace kb5 := Lib.hid kb5; replace kt5 := Lib.hid kt5; replace CH := Lib.hid CH; replace hSB := Lib.hid hSB
    clear low4 hr4 hG4 hG4' hB3d hB4 hs4 kp4 km4 kb4 kv4 kx4 kt4 hM4 hC4 hs34 h31d h32d hmcd
    refine hK _ _ hKp ?_
    clear hK hKp
    try simp only [Act.put, List.setIfInBounds_toArray, List.set_cons_zero, List.set_cons_succ]
    refine sched_l rfl (by decide) (fun _ hK => ?_); go_simp; refine CH.out.mono ?_; rintro e w6 ⟨rfl, a6, cap6, hB6, hP6, hC6, hG6⟩; have hs6 : Same w w6 := chg_same hB5.out hBmc hSB.out hG6 hs5.out hsz; have kb6 := (chg_low hB5.out hBmc hSB.out hG6 (lt_of_heap kb5.out) hkB0).trans kb5.out; have kt6 := (chg_low hB5.out hBmc hSB.out hG6 (lt_of_heap kt5.out) hkB3).trans kt5.out; have kp6 := hP6.bld; refine hK _ _ ?_; clear hK x0 x1 x2 xb z0 zb; (try simp only [Act.put, List.setIfInBounds_toArray, List.set_cons_zero, List.set_cons_succ]); have x0 := cell_at kb6 0; have x1 := cell_at kb6 1; have x2 := cell_at kb6 2; have xb := lt_of_heap kb6; have z0 := cell_at kp6 0; have zb := lt_of_heap kp6; replace hs6 := Lib.hid hs6; replace kb6 := Lib.hid kb6; replace kt6 := Lib.hid kt6; replace hB6 := Lib.hid hB6; replace kp6 := Lib.hid kp6; clear hG6 hP6 hC6 CH; (repeat (first | (refine sched_w rfl rfl (fun _ hK => ?_); go_simp; refine hK _ ?_; clear hK) | (refine sched_s rfl rfl (fun _ hK => ?_); go_simp; first | (refine hK _ ?_; clear hK) | (refine ⟨_, fun _ => rfl, hK _ ?_⟩; clear hK)))); refine sched_nil (NoPanic.normal ?_); go_wp2_with fail; refine (FIN.out w1.heap.size p m a6 cap6 w6 hB6.out).mono ?_; rintro e w7 ⟨ao, co, rfl, hO7, hs7⟩; have kt := hs7.at kt6.out id; have hs := hs6.out.same hs7; replace hO7 := Lib.hid hO7; obtain ⟨⟨t0, t1, t2, f0, f1, f2, tb⟩, d0, d1, d2, hF, hK, hSl⟩ := res3 (a := .int .i64 n) (c := .slice ao O.1.length co) (d := .int .i64 O.2) kt hs (by omega); replace hF := Lib.hid hF; replace hK := Lib.hid hK; replace hSl := Lib.hid hSl; replace kt := Lib.hid kt; replace hs := Lib.hid hs; have hOF := hSl.out _ _ _ _ _ hO7.out (by decide); replace hOF := Lib.hid hOF; clear x0 x1 x2 xb z0 zb; go_wp2_with fail; refine bodyPost_ret (v := .tuple #[.agg #[.int .i64 n, .slice ao O.1.length co, .int .i64 O.2], .int .i64 0]) (by simp [results, Try.results67, go_sem, d0, d1, d2]) rfl ?_; exact ⟨ao, co, rfl, hOF.out, hF.out⟩

/-- A call returns a diagram or, with an error, the zero one. -/
def QAny (E m : Int) (O : List Nd × Int) (w : World) (e : Ending) (w' : World) : Prop :=
  ∃ gm ga gL gc gr, e = .returned (.tuple #[.agg #[.int .i64 gm, .slice ga (gL : List Nd).length gc, .int .i64 gr], .int .i64 E]) ∧ SliceAt w' 80 3 (.slice ga gL.length gc) gL.length (ndCells gL) ∧ Same w w' ∧
    (E ≠ 0 → gm = 0 ∧ gL = [] ∧ gr = 0) ∧ (E = 0 → gm = m ∧ gL = O.1 ∧ gr = O.2)

theorem DErr.any {E m : Int} {O : List Nd × Int} {w w' : World} {e : Ending} (h0 : E ≠ 0) (h : DErr w E e w') : QAny E m O w e w' := by
  obtain ⟨rfl, hs⟩ := h
  exact ⟨0, none, [], 0, 0, rfl, SliceAt.nil _ _ _, hs, fun _ => ⟨rfl, rfl, rfl⟩, fun h => absurd h h0⟩

theorem DRet.any {m : Int} {O : List Nd × Int} {w w' : World} {e : Ending} (h : DRet w m O.1 O.2 e w') : QAny 0 m O w e w' := by
  obtain ⟨a, c, rfl, hO, hs⟩ := h
  exact ⟨m, a, O.1, c, O.2, rfl, hO, hs, fun h => absurd rfl h, fun _ => ⟨rfl, rfl, rfl⟩⟩

theorem quant_table {o : Bool → Bool → Bool} (ho : Idem o) (hi : Inter o) {n : Nat} {t : List Bool} (ht : t.length = 2 ^ n) {qs : List Int} (h : renErr n qs qs.length 0 = 0) : quantT o n (qs.map Int.toNat) t = chT (fun x => decide (x ∈ qs)) o n 0 t := by
  have H := renErr_up qs.length 0 h
  have hmem : ∀ x ∈ qs, 0 ≤ x ∧ x < n := by
    intro x hx
    obtain ⟨i, hi, rfl⟩ := (toF_mem qs x).1 hx
    have := H i (by omega) (by omega)
    exact ⟨this.1, this.2.1⟩
  have hstrict : ∀ i j, i < j → j < qs.length → toF qs i < toF qs j := by
    intro i j hij hj
    have h1 := renErr_sorted h i (j - 1) (by omega) (by omega)
    have h2 := (H j (by omega) (by omega)).2.2 (by omega)
    omega
  rw [quant_chT ho hi n t ht _ (qs.map Int.toNat) rfl ?_ ?_]
  · congr 1
    funext x
    simp only [inV, oneV, List.any_map]
    by_cases hx : x ∈ qs
    · rw [decide_eq_true hx]
      refine List.any_eq_true.2 ⟨x, hx, ?_⟩
      have := hmem x hx
      simp only [Function.comp, decide_eq_true_eq]; omega
    · rw [decide_eq_false hx]
      refine List.any_eq_false.2 (fun y hy => ?_)
      have := hmem y hy
      simp only [Function.comp, decide_eq_true_eq]
      intro e
      have : x = y := by omega
      exact hx (this ▸ hy)
  · rw [List.Nodup, List.pairwise_map, List.pairwise_iff_getElem]
    intro i j hi hj hij e
    have := hstrict i j hij hj
    have g1 := hmem _ (List.getElem_mem hi)
    have g2 := hmem _ (List.getElem_mem hj)
    simp only [toF, List.getD_eq_getElem?_getD, List.getElem?_eq_getElem hi, List.getElem?_eq_getElem hj, Option.getD_some] at this
    omega
  · intro u hu
    obtain ⟨x, hx, rfl⟩ := List.mem_map.1 hu
    have := hmem x hx
    omega

set_option maxRecDepth 100000 in
set_option maxHeartbeats 2000000 in
theorem quant_bad (F : FuncId) (d : Dg) (n : Nat) (t : List Bool) (qs : List Int) (aQ : Option Addr) (capQ : Nat) (w : World) (hat : d.at w) (T : d.tab n t) (hl7 : qs.length ≤ 1000) (hQ : RowAt w (.slice aQ qs.length capQ) qs.length (intCells qs)) (hr0 : renErr n qs qs.length 0 ≠ 0) :
    Calls Try.prog 67 #[d.v, .slice aQ qs.length capQ, .func (.func F) #[] #[]] w (DErr w (renErr n qs qs.length 0)) := by
  have C := fun W (hW : Same w W) => check_tab d n t W (SliceAt.same hat hW) T
  have e := T.1
  rw [Dg.v, e] at C ⊢
  unfold Dg.at at hat
  clear T
  generalize d.L = L at *
  generalize d.r = r at *
  generalize d.a = a at *
  generalize d.cap = cap at *
  have CS := fun W (hW : Same w W) => checkSet_any n qs aQ capQ W hl7 (hQ.same hW)
  obtain ⟨E, hE⟩ : ∃ E, E = renErr n qs qs.length 0 := ⟨_, rfl⟩
  rw [← hE] at CS hr0 ⊢
  have hE1 : (E != 0) = true := by simpa using hr0
  replace C := Lib.hid C; replace CS := Lib.hid CS; replace hat := Lib.hid hat; replace e := Lib.hid e; replace hQ := Lib.hid hQ; replace hE := Lib.hid hE; replace hr0 := Lib.hid hr0
  go_enter Try.func67, Try.ntmps67
  go_wp2_with fail
  refine (C.out _ (by repeat (first | exact Fr.refl _ _ | apply Fr.alloc | apply Fr.drewN | apply Fr.drew | apply Fr.undrew | apply Fr.undrewN))).mono ?_
  rintro e w1 ⟨rfl, hs1⟩
  have kb : w1.heap[w.heap.size]? = some (.cells #[.int .i64 n, .slice a L.length cap, .int .i64 r] 31 (0, 0)) := hs1.at (heap_old (heap_old (heap_old (heap_new _ _) _) _) _) id
  have kv : w1.heap[w.heap.size + 1]? = some (.cells #[.slice aQ qs.length capQ] 42 (0, 0)) := hs1.at (heap_old (heap_old (heap_new_at (by simp) _) _) _) id
  have kt : w1.heap[w.heap.size + 1 + 1 + 1]? = some (.cells #[.int .i64 0, .slice none 0 0, .int .i64 0] 31 (0, 0)) := hs1.at (heap_new_at (by simp) _) id
  have hs : Same w w1 := (show Same w _ from (by repeat (first | exact Fr.refl _ _ | apply Fr.alloc | apply Fr.drewN | apply Fr.drew | apply Fr.undrew | apply Fr.undrewN))).same hs1
  have x0 := cell_at kb 0; have x1 := cell_at kb 1; have x2 := cell_at kb 2
  have y0 := cell_at kv 0
  have hs' := hs
  obtain ⟨⟨t0, t1, t2, f0, f1, f2, tb⟩, d0, d1, d2, hF, hK, hSl⟩ := res3 (a := .int .i64 0) (c := .slice none 0 0) (d := .int .i64 0) kt hs (by omega); replace hF := Lib.hid hF; replace hK := Lib.hid hK; replace hSl := Lib.hid hSl; replace kt := Lib.hid kt; replace hs := Lib.hid hs
  replace kb := Lib.hid kb; replace kv := Lib.hid kv; replace hs1 := Lib.hid hs1; replace hs' := Lib.hid hs'
  go_wp2_with fail
  refine (CS.out _ hs'.out).mono ?_
  rintro e w2 ⟨rfl, rfl⟩
  go_wp2_with fail
  refine bodyPost_ret (v := .tuple #[.agg #[.int .i64 0, .slice none 0 0, .int .i64 0], .int .i64 E]) (by simp [results, Try.results67, go_sem, d0, d1, d2]) rfl ?_
  exact ⟨rfl, hF.out⟩

theorem quant_any (all : Bool) (F : FuncId) {dof : Is → Int → Int → Option (Is × Int)} (eF : ∀ (args : Array Value) (W : World), (callFunc F args).run Try.prog W = .ok (.enter F args) W) (hC : DoC F dof) (hV : DoVal dof)
    (d : Dg) (n : Nat) (t : List Bool) (hdo : DoOk n (qOp all) dof) (qs : List Int) (aQ : Option Addr) (capQ : Nat) (w : World) (hn : n ≤ 10) (hat : d.at w) (T : d.tab n t) (hl7 : qs.length ≤ 1000) (hQ : RowAt w (.slice aQ qs.length capQ) qs.length (intCells qs)) :
    Calls Try.prog 67 #[d.v, .slice aQ qs.length capQ, .func (.func F) #[] #[]] w (QAny (renErr n qs qs.length 0) n (tableF n [] 0 (quantT (qOp all) n (qs.map Int.toNat) t)) w) := by
  have ho : Idem (qOp all) := by
    cases all
    · rw [qOp_false]; exact or_idem
    · rw [qOp_true]; exact and_idem
  have hi : Inter (qOp all) := by
    cases all
    · rw [qOp_false]; exact or_inter
    · rw [qOp_true]; exact and_inter
  by_cases h : renErr n qs qs.length 0 = 0
  · rw [quant_table ho hi T.2.len h, h]
    exact (quant_ok eF hC hV ho d n t hdo qs aQ capQ w hn hat T hl7 hQ h).mono (fun e w' hd => DRet.any hd)
  · exact (quant_bad F d n t qs aQ capQ w hat T hl7 hQ h).mono (fun e w' hd => DErr.any h hd)

theorem exQ (d : Dg) (n : Nat) (t : List Bool) (qs : List Int) (aQ : Option Addr) (capQ : Nat) (w : World) (hn : n ≤ 10) (hat : d.at w) (T : d.tab n t) (hl7 : qs.length ≤ 1000) (hQ : RowAt w (.slice aQ qs.length capQ) qs.length (intCells qs)) :
    Calls Try.prog 67 #[d.v, .slice aQ qs.length capQ, .func (.func 68) #[] #[]] w (QAny (renErr n qs qs.length 0) n (tableF n [] 0 (quantT (qOp false) n (qs.map Int.toNat) t)) w) :=
  quant_any false _ enter_E (doE_c (n + 1)) (doE_val (n + 1)) d n t (by rw [qOp_false]; exact doE_ok n (by omega)) qs aQ capQ w hn hat T hl7 hQ
theorem faQ (d : Dg) (n : Nat) (t : List Bool) (qs : List Int) (aQ : Option Addr) (capQ : Nat) (w : World) (hn : n ≤ 10) (hat : d.at w) (T : d.tab n t) (hl7 : qs.length ≤ 1000) (hQ : RowAt w (.slice aQ qs.length capQ) qs.length (intCells qs)) :
    Calls Try.prog 67 #[d.v, .slice aQ qs.length capQ, .func (.func 69) #[] #[]] w (QAny (renErr n qs qs.length 0) n (tableF n [] 0 (quantT (qOp true) n (qs.map Int.toNat) t)) w) :=
  quant_any true _ enter_A (doA_c (n + 1)) (doA_val (n + 1)) d n t (by rw [qOp_true]; exact doA_ok n (by omega)) qs aQ capQ w hn hat T hl7 hQ

set_option maxRecDepth 100000 in
set_option maxHeartbeats 2000000 in
theorem exists_any (d : Dg) (n : Nat) (t : List Bool) (qs : List Int) (aQ : Option Addr) (capQ : Nat) (w : World) (hn : n ≤ 10) (hat : d.at w) (T : d.tab n t) (hl7 : qs.length ≤ 1000) (hQ : RowAt w (.slice aQ qs.length capQ) qs.length (intCells qs)) :
    Calls Try.prog 39 #[d.v, .slice aQ qs.length capQ] w (QAny (renErr n qs qs.length 0) n (tableF n [] 0 (quantT (qOp false) n (qs.map Int.toNat) t)) w) := by
  have Q := fun W (hW : Same w W) => exQ d n t qs aQ capQ W hn (SliceAt.same hat hW) T hl7 (hQ.same hW)
  obtain ⟨O, hO⟩ : ∃ O, O = tableF n [] 0 (quantT (qOp false) n (qs.map Int.toNat) t) := ⟨_, rfl⟩
  obtain ⟨E, hE⟩ : ∃ E, E = renErr n qs qs.length 0 := ⟨_, rfl⟩
  rw [← hO, ← hE] at Q ⊢
  have e := T.1
  rw [Dg.v, e] at Q ⊢
  replace Q := Lib.hid Q; replace hO := Lib.hid hO; replace hE := Lib.hid hE; replace hat := Lib.hid hat; replace hQ := Lib.hid hQ; replace T := Lib.hid T; replace e := Lib.hid e
  go_enter Try.func39, Try.ntmps39
  go_wp2_with fail
  refine (Q.out _ (by repeat (first | exact Fr.refl _ _ | apply Fr.alloc | apply Fr.drewN | apply Fr.drew | apply Fr.undrew | apply Fr.undrewN))).mono ?_
  rintro e w1 ⟨gm, ga, gL, gc, gr, rfl, hG, hs1, hb, hg⟩
  have kt : w1.heap[w.heap.size + 1]? = some (.cells #[.int .i64 0, .slice none 0 0, .int .i64 0] 31 (0, 0)) := hs1.at (heap_new_at (by simp) _) id
  have hs : Same w w1 := (show Same w _ from (by repeat (first | exact Fr.refl _ _ | apply Fr.alloc | apply Fr.drewN | apply Fr.drew | apply Fr.undrew | apply Fr.undrewN))).same hs1
  obtain ⟨⟨t0, t1, t2, f0, f1, f2, tb⟩, d0, d1, d2, hF, hK, hSl⟩ := res3 (a := .int .i64 gm) (c := .slice ga gL.length gc) (d := .int .i64 gr) kt hs (by omega); replace hF := Lib.hid hF; replace hK := Lib.hid hK; replace hSl := Lib.hid hSl; replace kt := Lib.hid kt; replace hs := Lib.hid hs
  have hOF := hSl.out _ _ _ _ _ hG (by decide)
  replace hOF := Lib.hid hOF; replace hG := Lib.hid hG; replace hs1 := Lib.hid hs1; replace hb := Lib.hid hb; replace hg := Lib.hid hg
  go_wp2_with fail
  refine bodyPost_ret (v := .tuple #[.agg #[.int .i64 gm, .slice ga gL.length gc, .int .i64 gr], .int .i64 E]) (by simp [results, Try.results39, go_sem, d0, d1, d2]) rfl ?_
  exact ⟨gm, ga, gL, gc, gr, rfl, hOF.out, hF.out, hb.out, hg.out⟩

set_option maxRecDepth 100000 in
set_option maxHeartbeats 2000000 in
theorem forall_any (d : Dg) (n : Nat) (t : List Bool) (qs : List Int) (aQ : Option Addr) (capQ : Nat) (w : World) (hn : n ≤ 10) (hat : d.at w) (T : d.tab n t) (hl7 : qs.length ≤ 1000) (hQ : RowAt w (.slice aQ qs.length capQ) qs.length (intCells qs)) :
    Calls Try.prog 40 #[d.v, .slice aQ qs.length capQ] w (QAny (renErr n qs qs.length 0) n (tableF n [] 0 (quantT (qOp true) n (qs.map Int.toNat) t)) w) := by
  have Q := fun W (hW : Same w W) => faQ d n t qs aQ capQ W hn (SliceAt.same hat hW) T hl7 (hQ.same hW)
  obtain ⟨O, hO⟩ : ∃ O, O = tableF n [] 0 (quantT (qOp true) n (qs.map Int.toNat) t) := ⟨_, rfl⟩
  obtain ⟨E, hE⟩ : ∃ E, E = renErr n qs qs.length 0 := ⟨_, rfl⟩
  rw [← hO, ← hE] at Q ⊢
  have e := T.1
  rw [Dg.v, e] at Q ⊢
  replace Q := Lib.hid Q; replace hO := Lib.hid hO; replace hE := Lib.hid hE; replace hat := Lib.hid hat; replace hQ := Lib.hid hQ; replace T := Lib.hid T; replace e := Lib.hid e
  go_enter Try.func40, Try.ntmps40
  go_wp2_with fail
  refine (Q.out _ (by repeat (first | exact Fr.refl _ _ | apply Fr.alloc | apply Fr.drewN | apply Fr.drew | apply Fr.undrew | apply Fr.undrewN))).mono ?_
  rintro e w1 ⟨gm, ga, gL, gc, gr, rfl, hG, hs1, hb, hg⟩
  have kt : w1.heap[w.heap.size + 1]? = some (.cells #[.int .i64 0, .slice none 0 0, .int .i64 0] 31 (0, 0)) := hs1.at (heap_new_at (by simp) _) id
  have hs : Same w w1 := (show Same w _ from (by repeat (first | exact Fr.refl _ _ | apply Fr.alloc | apply Fr.drewN | apply Fr.drew | apply Fr.undrew | apply Fr.undrewN))).same hs1
  obtain ⟨⟨t0, t1, t2, f0, f1, f2, tb⟩, d0, d1, d2, hF, hK, hSl⟩ := res3 (a := .int .i64 gm) (c := .slice ga gL.length gc) (d := .int .i64 gr) kt hs (by omega); replace hF := Lib.hid hF; replace hK := Lib.hid hK; replace hSl := Lib.hid hSl; replace kt := Lib.hid kt; replace hs := Lib.hid hs
  have hOF := hSl.out _ _ _ _ _ hG (by decide)
  replace hOF := Lib.hid hOF; replace hG := Lib.hid hG; replace hs1 := Lib.hid hs1; replace hb := Lib.hid hb; replace hg := Lib.hid hg
  go_wp2_with fail
  refine bodyPost_ret (v := .tuple #[.agg #[.int .i64 gm, .slice ga gL.length gc, .int .i64 gr], .int .i64 E]) (by simp [results, Try.results40, go_sem, d0, d1, d2]) rfl ?_
  exact ⟨gm, ga, gL, gc, gr, rfl, hOF.out, hF.out, hb.out, hg.out⟩
end Go.Proofs.Ytaebjalpebgliaa
