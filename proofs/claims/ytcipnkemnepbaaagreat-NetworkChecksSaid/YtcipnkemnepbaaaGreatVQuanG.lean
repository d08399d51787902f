/- quantify and Exists over facts of the change that they compute, for diagrams of more variables. -/
import Derived.Test.YtcipnkemnepbaaaGreatVRelP
namespace Go.Proofs.YtcipnkemnepbaaaGreat
open Go.RowKit
set_option linter.unusedVariables false
set_option linter.unusedSimpArgs false

theorem fin_gen {N : List Nd} {n : Nat} {k : Int} {t : List Bool} (hs : (tableF n [] 0 t).1.length ≤ 16384) (ho : Ord N n) (hv : VNum N k) (ht : tab N n 0 k = t) (hl : N.length ≤ 90000000) (B p m : Nat) (a : Option Addr) (cap : Nat) (W : World) (hB : BuilderAt W B p m a cap N) :
    Calls Tryz.prog 50 #[.pointer (some ⟨p, 0, none⟩), .int .i64 n, .int .i64 k] W (DRet W n (tableF n [] 0 t).1 (tableF n [] 0 t).2) := by
  obtain ⟨s', v1, v2⟩ := finish_table ho hv
  rw [ht] at v1 v2
  refine (finish_any B p m a cap N n k (n + 1) s' _ W hB ho.val.laid hl hv.1 hv.2 v1 (by rw [v2]; omega)).mono ?_
  intro e w3 hD
  unfold finishF at hD
  rw [if_pos (by rw [v2]; exact hs), v2] at hD
  exact hD

set_option maxRecDepth 100000 in
set_option maxHeartbeats 8000000 in
theorem quant_gen {F : FuncId} {dof : Is → Int → Int → Option (Is × Int)} {o : Bool → Bool → Bool} (eF : ∀ (args : Array Value) (W : World), (callFunc F args).run Tryz.prog W = .ok (.enter F args) W) (hC : DoC F dof) (hV : DoVal dof) (hid : Idem o)
    (d : Dg) (n : Nat) (t : List Bool) (qs : List Int) (aQ : Option Addr) (capQ : Nat) (w : World) (hn : n ≤ 40) (hat : d.at w) (T : d.tab n t) (hl7 : qs.length ≤ 1000) (hQ : RowAt w (.slice aQ qs.length capQ) qs.length (intCells qs)) (hr0 : renErr n qs qs.length 0 = 0) (hshort : (tableF n [] 0 (chT (fun x => decide (x ∈ qs)) o n 0 t)).1.length ≤ 16384)
    (CH0 : VNd (addF d.L ([], [0, 1])).1 ∧ VNum (addF d.L ([], [0, 1])).1 ((addF d.L ([], [0, 1])).2.getD d.r.toNat 0) ∧ ∃ s' q, changeF (fun x => decide (x ∈ qs)) dof (n + 1) (((addF d.L ([], [0, 1])).1, []), []) ((addF d.L ([], [0, 1])).2.getD d.r.toNat 0) = some (s', q) ∧ Ord s'.1.1 n ∧ VNum s'.1.1 q ∧ tab s'.1.1 n 0 q = chT (fun x => decide (x ∈ qs)) o n 0 t ∧ s'.1.1.length ≤ 90000000) :
    Calls Tryz.prog 158 #[d.v, .slice aQ qs.length capQ, .func (.func F) #[] #[]] w (DRet w n (tableF n [] 0 (chT (fun x => decide (x ∈ qs)) o n 0 t)).1 (tableF n [] 0 (chT (fun x => decide (x ∈ qs)) o n 0 t)).2) := by
  have C := fun W (hW : Same w W) => check_tab d n t W (SliceAt.same hat hW) T
  obtain ⟨hL, hr, ht⟩ := T.2.ord
  obtain ⟨c1, c2, s', q, c3, c4, c5, c6, c7⟩ := CH0
  have FIN := fin_gen hshort c4 c5 c6 c7
  have hsm := T.2.short
  have e := T.1
  rw [Dg.v, e] at C ⊢
  unfold Dg.at at hat
  clear T
  generalize d.L = L at *
  generalize d.r = r at *
  generalize d.a = a at *
  generalize d.cap = cap at *
  obtain ⟨O, hO⟩ : ∃ O, O = tableF n [] 0 (chT (fun x => decide (x ∈ qs)) o n 0 t) := ⟨_, rfl⟩
  rw [← hO] at FIN ⊢
  have hlow : 0 < L.length → ∀ k, (Value.slice a L.length cap).ownBlock = some k → k < w.heap.size := lit_own_below hat
  have ADD := fun B p m a' cap' W (hB : BuilderAt W B p m a' cap' []) (hw : Same w W) (hwB : w.heap.size ≤ B) => add_any B p m a' cap' [] n r a cap L W hB (hat.same hw) (fun h0 i hi => Nat.lt_of_lt_of_le (hlow h0 i hi) hwB) hL.val.laid hr.1 hr.2 (by simp; omega)
  obtain ⟨N, hN⟩ : ∃ N, N = (addF L ([], [0, 1])).1 := ⟨_, rfl⟩
  obtain ⟨k, hk⟩ : ∃ k, k = (addF L ([], [0, 1])).2.getD r.toNat 0 := ⟨_, rfl⟩
  rw [← hN, ← hk] at ADD c3 c2
  rw [← hN] at c1
  have hsrt := renErr_sorted hr0
  have CS := fun W (hW : Same w W) => checkSet_any n qs aQ capQ W hl7 (hQ.same hW)
  rw [hr0] at CS
  have hQlow : 0 < qs.length → ∀ k, (Value.slice aQ qs.length capQ).ownBlock = some k → k < w.heap.size := fun h => hQ.below h
  have hmm := @run_makeMap Tryz.prog
  replace C := Lib.hid C; replace FIN := Lib.hid FIN; replace ADD := Lib.hid ADD; replace c1 := Lib.hid c1; replace c2 := Lib.hid c2; replace c3 := Lib.hid c3; replace c4 := Lib.hid c4; replace c5 := Lib.hid c5; replace c6 := Lib.hid c6; replace c7 := Lib.hid c7; replace hat := Lib.hid hat; replace hL := Lib.hid hL; replace hr := Lib.hid hr; replace ht := Lib.hid ht; replace e := Lib.hid e; replace hlow := Lib.hid hlow; replace hN := Lib.hid hN; replace hk := Lib.hid hk; replace hO := Lib.hid hO; replace hsrt := Lib.hid hsrt; replace CS := Lib.hid CS; replace hQlow := Lib.hid hQlow; replace hQ := Lib.hid hQ; replace hr0 := Lib.hid hr0; replace hC := Lib.hid hC; replace hV := Lib.hid hV; replace hid := Lib.hid hid
  go_enter Tryz.func158, Tryz.ntmps158
  go_wp2_with fail
  refine (C.out _ fs2).mono ?_
  rintro e w1 ⟨rfl, hs1⟩
  have kb : w1.heap[w.heap.size]? = some (.cells #[.int .i64 n, .slice a L.length cap, .int .i64 r] 56 (0, 0)) := hs1.at (heap_old (heap_old (heap_old (heap_new _ _) _) _) _) id
  have kv : w1.heap[w.heap.size + 1]? = some (.cells #[.slice aQ qs.length capQ] 31 (0, 0)) := hs1.at (heap_old (heap_old (heap_new_at (by simp) _) _) _) id
  have kx : w1.heap[w.heap.size + 1 + 1]? = some (.cells #[.func (.func F) #[] #[]] 212 (0, 0)) := hs1.at (heap_old (heap_new_at (by simp) _) _) id
  have kt : w1.heap[w.heap.size + 1 + 1 + 1]? = some (.cells #[.int .i64 0, .slice none 0 0, .int .i64 0] 56 (0, 0)) := hs1.at (heap_new_at (by simp) _) id
  have hs : Same w w1 := (show Same w _ from fs2).same hs1
  have x0 := cell_at kb 0; have x1 := cell_at kb 1; have x2 := cell_at kb 2
  have y0 := cell_at kv 0
  have tb := lt_of_heap kt
  replace kb := Lib.hid kb; replace kv := Lib.hid kv; replace kx := Lib.hid kx; replace kt := Lib.hid kt; replace hs := Lib.hid hs; replace hs1 := Lib.hid hs1
  go_wp2_with fail
  refine (CS.out _ hs.out).mono ?_
  rintro e w2 ⟨rfl, rfl⟩
  go_wp2_with fail
  refine (begin_any _).mono ?_
  rintro e w2 ⟨p, m, rfl, hB, hs2⟩
  have kb2 := hs2.at kb.out id
  have kv2 := hs2.at kv.out id
  have kx2 := hs2.at kx.out id
  have kt2 := hs2.at kt.out id
  have hw2 := hs.out.same hs2
  have hsz := hs.out.size
  have hsz2 := hs2.size
  clear x0 x1 x2 y0
  have x0 := cell_at kb2 0; have x1 := cell_at kb2 1; have x2 := cell_at kb2 2
  have xb := lt_of_heap kb2
  replace kb2 := Lib.hid kb2; replace kv2 := Lib.hid kv2; replace kx2 := Lib.hid kx2; replace kt2 := Lib.hid kt2; replace hw2 := Lib.hid hw2; replace hB := Lib.hid hB; replace hs2 := Lib.hid hs2
  go_wp2_with fail
  refine three_abs (fun W3 h3 => ?_)
  obtain ⟨h30, h31, h32, hs3⟩ := h3
  have hM3 : MapAt ndv (Value.int .i64) W3 w2.heap.size ([] : List (Nd × Int)) := (mapAt_made_at (w := w2) rfl).of_block (by rw [h30]; exact (heap_new _ _).symm)
  have kb3 := hs3.at kb2.out id
  have kv3 := hs3.at kv2.out id
  have kx3 := hs3.at kx2.out id
  have kt3 := hs3.at kt2.out id
  have hB3 := hB.out.same hs3
  have hw3 := hw2.out.same hs3
  have hsz3 := lt_of_heap h32
  have hmp : m < w2.heap.size ∧ p < w2.heap.size := ⟨hB.out.map.lt, lt_of_heap hB.out.blk⟩
  have hpB := hB.out.pb
  have z0 := cell_at h31 0
  have zb := lt_of_heap h31
  clear x0 x1 x2 xb
  have x0 := cell_at kb3 0; have x1 := cell_at kb3 1; have x2 := cell_at kb3 2
  have xb := lt_of_heap kb3
  have hkB0 : w.heap.size < w1.heap.size := by omega
  have hkB3 : w.heap.size + 1 + 1 + 1 < w1.heap.size := by omega
  have hB2w : w1.heap.size ≤ w2.heap.size := by omega
  replace h30 := Lib.hid h30; replace h31 := Lib.hid h31; replace h32 := Lib.hid h32; replace hs3 := Lib.hid hs3; replace hM3 := Lib.hid hM3; replace kb3 := Lib.hid kb3; replace kv3 := Lib.hid kv3; replace kx3 := Lib.hid kx3; replace kt3 := Lib.hid kt3; replace hB3 := Lib.hid hB3; replace hw3 := Lib.hid hw3; replace hmp := Lib.hid hmp
  refine wp_region_plan (L2 (w2.heap.size + 1) w.heap.size) [1, 1, 1, 2, 0, 0, 2, 3, 0] (.fork [4, 5, 0, 1, 2] 3 (.run [6, 7, 8]) 6 (.run [3, 7, 8])) (by kernel_rfl) (by kernel_rfl) ?_
  refine plan_fork ?_
  repeat (first | (refine sched_w rfl rfl (fun _ hK => ?_); go_simp; refine hK _ ?_; clear hK) | (refine sched_s rfl rfl (fun _ hK => ?_); go_simp; first | (refine hK _ ?_; clear hK) | (refine ⟨_, fun _ => rfl, hK _ ?_⟩; clear hK)))
  refine sched_nil ⟨?_, ?_⟩
  · refine fork_g rfl rfl (fun _ hK => ?_)
    go_simp
    have hB3d : BuilderAt W3.drew w1.heap.size p m none 0 [] := hB3.out.same fs3
    refine (ADD.out w1.heap.size p m none 0 _ hB3d (hw3.out.same fs3) hsz).mono ?_
    rintro e w4 hr4
    obtain ⟨rfl, a1, cap1, hB4, hG4⟩ := hr4.of
    have hG4' : Grew (fun i => BB p m i ∨ False) W3.drew w4 (.slice none ([] : List Nd).length 0) (.slice a1 N.length cap1) := by simpa [or_false] using hG4
    have hs4 : Same w w4 := Grew.same_base (w0 := w) hB3d hG4' (hw3.out.same fs3) hsz
    have low4 : ∀ j o, j < w1.heap.size → W3.heap[j]? = some o → w4.heap[j]? = some o := fun j o hj h => by rw [hG4.below hB3d hj]; exact h
    have kp4 := number_keeps hB3d hG4' (show W3.drew.heap[w2.heap.size + 1]? = _ from h31.out) (by decide) (by decide)
    have km4 := number_keeps hB3d hG4' (show W3.drew.heap[w2.heap.size + 1 + 1]? = _ from h32.out) (by decide) (by decide)
    have kb4 := low4 _ _ (by omega) kb3.out
    have kv4 := low4 _ _ (by omega) kv3.out
    have kx4 := low4 _ _ (by omega) kx3.out
    have kt4 := low4 _ _ (by omega) kt3.out
    have hM4 := number_keeps_map hB3d hG4' (hM3.out.of_block rfl) (by have := hmp.out.1; omega)
    have hKp : Kp (L2 (w2.heap.size + 1) w.heap.size) W3.drew w4 := ⟨hG4.1.size, fun j hj _ => by
      rcases hj with rfl | rfl
      · rw [kp4]; exact h31.out.symm
      · rw [kb4]; exact kb3.out.symm⟩
    have hsz4 : w2.heap.size + 1 + 1 < w4.heap.size := lt_of_heap km4
    have hBmc : w1.heap.size ≤ w4.heap.size := by omega
    have hSB : ∀ i, i = w2.heap.size → w1.heap.size ≤ i := fun i h => by omega
    have hB5 : BuilderAt (w4.alloc (.map #[] 0)) w1.heap.size p m a1 cap1 N := hB4.same fs2
    have hs5 : Same w (w4.alloc (.map #[] 0)) := hs4.same fs2
    have kb5 := heap_old (o := .map #[] 0) kb4
    have kt5 := heap_old (o := .map #[] 0) kt4
    have CH := change_any (quant_env (F := F) eF hC.out hV.out (B := w1.heap.size) (p := p) (m := m) (mc := w4.heap.size) (mm := w2.heap.size) (ks := w.heap.size + 1) (kd := w.heap.size + 1 + 1) (kb := w2.heap.size + 1) (km := w2.heap.size + 1 + 1) (qs := qs) (aQ := aQ) (capQ := capQ) (by have := hmp.out; omega) (by have := hmp.out; omega) hBmc (by omega) (by omega) (by omega) hl7 hsrt.out (fun h k hk => Nat.lt_of_lt_of_le (hQlow.out h k hk) hsz) hB2w)
      (n + 1) a1 cap1 ((N, []), []) k s' q (w4.alloc (.map #[] 0)) hB5 ⟨heap_old kv4 _, heap_old kx4 _, heap_old kp4 _, heap_old km4 _, hM4.of_block (Below.heap_alloc _ _ _ hM4.lt), hQ.out.same hs5⟩ (mapAt_made_at rfl) c1.out (VM.nil _) (VM.nil _) c2.out c3.out c7.out
    replace hB5 := Lib.hid hB5; replace hs5 := Lib.hid hs5; replace kb5 := Lib.hid kb5; replace kt5 := Lib.hid kt5; replace CH := Lib.hid CH; replace hSB := Lib.hid hSB
    clear low4 hr4 hG4 hG4' hB3d hB4 hs4 kp4 km4 kb4 kv4 kx4 kt4 hM4
    refine hK _ _ hKp ?_
    clear hK hKp
    try simp only [Act.put, List.setIfInBounds_toArray, List.set_cons_zero, List.set_cons_succ]
    refine plan_run ?_
    refine sched_g rfl rfl (fun _ hK => ?_); go_simp; refine hK _ _ (Kp.of_same fs3) ?_; clear hK
    refine sched_l rfl (by decide) (fun _ hK => ?_); go_simp; refine CH.out.mono ?_; rintro e w6 ⟨rfl, a6, cap6, hB6, hP6, hC6, hG6⟩; have hs6 : Same w w6 := chg_same hB5.out hBmc hSB.out hG6 hs5.out hsz; have kb6 := (chg_low hB5.out hBmc hSB.out hG6 (lt_of_heap kb5.out) hkB0).trans kb5.out; have kt6 := (chg_low hB5.out hBmc hSB.out hG6 (lt_of_heap kt5.out) hkB3).trans kt5.out; have kp6 := hP6.bld; refine hK _ _ ?_; clear hK x0 x1 x2 xb z0 zb; (try simp only [Act.put, List.setIfInBounds_toArray, List.set_cons_zero, List.set_cons_succ]); have x0 := cell_at kb6 0; have x1 := cell_at kb6 1; have x2 := cell_at kb6 2; have xb := lt_of_heap kb6; have z0 := cell_at kp6 0; have zb := lt_of_heap kp6; replace hs6 := Lib.hid hs6; replace kb6 := Lib.hid kb6; replace kt6 := Lib.hid kt6; replace hB6 := Lib.hid hB6; replace kp6 := Lib.hid kp6; clear hG6 hP6 hC6 CH; (repeat (first | (refine sched_w rfl rfl (fun _ hK => ?_); go_simp; refine hK _ ?_; clear hK) | (refine sched_s rfl rfl (fun _ hK => ?_); go_simp; first | (refine hK _ ?_; clear hK) | (refine ⟨_, fun _ => rfl, hK _ ?_⟩; clear hK)))); refine sched_nil (NoPanic.normal ?_); go_wp2_with fail; refine (FIN.out w1.heap.size p m a6 cap6 w6 hB6.out).mono ?_; rintro e w7 ⟨ao, co, rfl, hO7, hs7⟩; have kt := hs7.at kt6.out id; have hs := hs6.out.same hs7; replace hO7 := Lib.hid hO7; obtain ⟨⟨t0, t1, t2, f0, f1, f2, tb⟩, d0, d1, d2, hF, hK, hSl⟩ := res3 (a := .int .i64 n) (c := .slice ao O.1.length co) (d := .int .i64 O.2) kt hs (by omega); replace hF := Lib.hid hF; replace hK := Lib.hid hK; replace hSl := Lib.hid hSl; replace kt := Lib.hid kt; replace hs := Lib.hid hs; have hOF := hSl.out _ _ _ _ _ hO7.out (by decide); replace hOF := Lib.hid hOF; clear x0 x1 x2 xb z0 zb; go_wp2_with fail; refine bodyPost_ret (v := .tuple #[.agg #[.int .i64 n, .slice ao O.1.length co, .int .i64 O.2], .int .i64 0]) (by simp [results, Tryz.results158, go_sem, d0, d1, d2]) rfl ?_; exact ⟨ao, co, rfl, hOF.out, hF.out⟩
  · refine fork_g rfl rfl (fun _ hK => ?_)
    go_simp
    refine hK _ _ (Kp.of_same fs3) ?_
    clear hK
    try simp only [Act.put, List.setIfInBounds_toArray, List.set_cons_zero, List.set_cons_succ]
    refine plan_run ?_
    refine sched_g rfl rfl (fun _ hK => ?_)
    go_simp
    have hB3d : BuilderAt ((W3.alloc (.map #[] 0)).drew) w1.heap.size p m none 0 [] := hB3.out.same fs3
    have hs34 : Same W3 (W3.alloc (.map #[] 0)).drew := fs3
    have h31d : ((W3.alloc (.map #[] 0)).drew).heap[w2.heap.size + 1]? = _ := heap_old h31.out _
    have h32d : ((W3.alloc (.map #[] 0)).drew).heap[w2.heap.size + 1 + 1]? = _ := heap_old h32.out _
    have hmcd : mI ((W3.alloc (.map #[] 0)).drew) W3.heap.size [] := (mapAt_made_at (w := W3) rfl).of_block rfl
    refine (ADD.out w1.heap.size p m none 0 _ hB3d (hw3.out.same hs34) hsz).mono ?_
    rintro e w4 hr4
    obtain ⟨rfl, a1, cap1, hB4, hG4⟩ := hr4.of
    have hG4' : Grew (fun i => BB p m i ∨ False) (W3.alloc (.map #[] 0)).drew w4 (.slice none ([] : List Nd).length 0) (.slice a1 N.length cap1) := by simpa [or_false] using hG4
    have hs4 : Same w w4 := Grew.same_base (w0 := w) hB3d hG4' (hw3.out.same hs34) hsz
    have low4 : ∀ j o, j < w1.heap.size → W3.heap[j]? = some o → w4.heap[j]? = some o := fun j o hj h => by rw [hG4.below hB3d hj]; exact hs34.at h id
    have kp4 := number_keeps hB3d hG4' h31d (by decide) (by decide)
    have km4 := number_keeps hB3d hG4' h32d (by decide) (by decide)
    have kb4 := low4 _ _ (by omega) kb3.out
    have kv4 := low4 _ _ (by omega) kv3.out
    have kx4 := low4 _ _ (by omega) kx3.out
    have kt4 := low4 _ _ (by omega) kt3.out
    have hM4 := number_keeps_map hB3d hG4' (hM3.out.of_block (hs34.block _ hM3.out.lt id)) (by have := hmp.out.1; omega)
    have hC4 := number_keeps_map hB3d hG4' hmcd (by have := hmp.out.1; have := hsz3; omega)
    have hKp : Kp (L2 (w2.heap.size + 1) w.heap.size) (W3.alloc (.map #[] 0)).drew w4 := ⟨hG4.1.size, fun j hj _ => by
      rcases hj with rfl | rfl
      · rw [kp4]; exact h31d.symm
      · rw [kb4]; exact (hs34.at kb3.out id).symm⟩
    have hBmc : w1.heap.size ≤ W3.heap.size := by omega
    have hSB : ∀ i, i = w2.heap.size → w1.heap.size ≤ i := fun i h => by omega
    have hB5 : BuilderAt w4 w1.heap.size p m a1 cap1 N := hB4
    have hs5 : Same w w4 := hs4
    have kb5 := kb4
    have kt5 := kt4
    have CH := change_any (quant_env (F := F) eF hC.out hV.out (B := w1.heap.size) (p := p) (m := m) (mc := W3.heap.size) (mm := w2.heap.size) (ks := w.heap.size + 1) (kd := w.heap.size + 1 + 1) (kb := w2.heap.size + 1) (km := w2.heap.size + 1 + 1) (qs := qs) (aQ := aQ) (capQ := capQ) (by have := hmp.out; omega) (by have := hmp.out; omega) hBmc (by omega) (by omega) (by omega) hl7 hsrt.out (fun h k hk => Nat.lt_of_lt_of_le (hQlow.out h k hk) hsz) hB2w)
      (n + 1) a1 cap1 ((N, []), []) k s' q w4 hB5 ⟨kv4, kx4, kp4, km4, hM4, hQ.out.same hs5⟩ hC4 c1.out (VM.nil _) (VM.nil _) c2.out c3.out c7.out
    replace hB5 := Lib.hid hB5; replace hs5 := Lib.hid hs5; replace kb5 := Lib.hid kb5; replace kt5 := Lib.hid kt5; replace CH := Lib.hid CH; replace hSB := Lib.hid hSB
    clear low4 hr4 hG4 hG4' hB3d hB4 hs4 kp4 km4 kb4 kv4 kx4 kt4 hM4 hC4 hs34 h31d h32d hmcd
    refine hK _ _ hKp ?_
    clear hK hKp
    try simp only [Act.put, List.setIfInBounds_toArray, List.set_cons_zero, List.set_cons_succ]
    refine sched_l rfl (by decide) (fun _ hK => ?_); go_simp; refine CH.out.mono ?_; rintro e w6 ⟨rfl, a6, cap6, hB6, hP6, hC6, hG6⟩; have hs6 : Same w w6 := chg_same hB5.out hBmc hSB.out hG6 hs5.out hsz; have kb6 := (chg_low hB5.out hBmc hSB.out hG6 (lt_of_heap kb5.out) hkB0).trans kb5.out; have kt6 := (chg_low hB5.out hBmc hSB.out hG6 (lt_of_heap kt5.out) hkB3).trans kt5.out; have kp6 := hP6.bld; refine hK _ _ ?_; clear hK x0 x1 x2 xb z0 zb; (try simp only [Act.put, List.setIfInBounds_toArray, List.set_cons_zero, List.set_cons_succ]); have x0 := cell_at kb6 0; have x1 := cell_at kb6 1; have x2 := cell_at kb6 2; have xb := lt_of_heap kb6; have z0 := cell_at kp6 0; have zb := lt_of_heap kp6; replace hs6 := Lib.hid hs6; replace kb6 := Lib.hid kb6; replace kt6 := Lib.hid kt6; replace hB6 := Lib.hid hB6; replace kp6 := Lib.hid kp6; clear hG6 hP6 hC6 CH; (repeat (first | (refine sched_w rfl rfl (fun _ hK => ?_); go_simp; refine hK _ ?_; clear hK) | (refine sched_s rfl rfl (fun _ hK => ?_); go_simp; first | (refine hK _ ?_; clear hK) | (refine ⟨_, fun _ => rfl, hK _ ?_⟩; clear hK)))); refine sched_nil (NoPanic.normal ?_); go_wp2_with fail; refine (FIN.out w1.heap.size p m a6 cap6 w6 hB6.out).mono ?_; rintro e w7 ⟨ao, co, rfl, hO7, hs7⟩; have kt := hs7.at kt6.out id; have hs := hs6.out.same hs7; replace hO7 := Lib.hid hO7; obtain ⟨⟨t0, t1, t2, f0, f1, f2, tb⟩, d0, d1, d2, hF, hK, hSl⟩ := res3 (a := .int .i64 n) (c := .slice ao O.1.length co) (d := .int .i64 O.2) kt hs (by omega); replace hF := Lib.hid hF; replace hK := Lib.hid hK; replace hSl := Lib.hid hSl; replace kt := Lib.hid kt; replace hs := Lib.hid hs; have hOF := hSl.out _ _ _ _ _ hO7.out (by decide); replace hOF := Lib.hid hOF; clear x0 x1 x2 xb z0 zb; go_wp2_with fail; refine bodyPost_ret (v := .tuple #[.agg #[.int .i64 n, .slice ao O.1.length co, .int .i64 O.2], .int .i64 0]) (by simp [results, Tryz.results158, go_sem, d0, d1, d2]) rfl ?_; exact ⟨ao, co, rfl, hOF.out, hF.out⟩

set_option maxRecDepth 100000 in
set_option maxHeartbeats 2000000 in
theorem exists_gen (d : Dg) (n : Nat) (E : Int) (O : List Nd × Int) (qs : List Int) (aQ : Option Addr) (capQ : Nat) (w : World) (hdn : d.n = n) (hat : d.at w) (hQ : RowAt w (.slice aQ qs.length capQ) qs.length (intCells qs))
    (Q : ∀ W, Same w W → Calls Tryz.prog 158 #[d.v, .slice aQ qs.length capQ, .func (.func 159) #[] #[]] W (QAny E n O W)) :
    Calls Tryz.prog 147 #[d.v, .slice aQ qs.length capQ] w (QAny E n O w) := by
  have e := hdn
  rw [Dg.v, e] at Q ⊢
  replace Q := Lib.hid Q; replace hat := Lib.hid hat; replace hQ := Lib.hid hQ; replace e := Lib.hid e
  go_enter Tryz.func147, Tryz.ntmps147
  go_wp2_with fail
  refine (Q.out _ fs2).mono ?_
  rintro e w1 ⟨gm, ga, gL, gc, gr, rfl, hG, hs1, hb, hg⟩
  have kt : w1.heap[w.heap.size + 1]? = some (.cells #[.int .i64 0, .slice none 0 0, .int .i64 0] 56 (0, 0)) := hs1.at (heap_new_at (by simp) _) id
  have hs : Same w w1 := (show Same w _ from fs2).same hs1
  obtain ⟨⟨t0, t1, t2, f0, f1, f2, tb⟩, d0, d1, d2, hF, hK, hSl⟩ := res3 (a := .int .i64 gm) (c := .slice ga gL.length gc) (d := .int .i64 gr) kt hs (by omega); replace hF := Lib.hid hF; replace hK := Lib.hid hK; replace hSl := Lib.hid hSl; replace kt := Lib.hid kt; replace hs := Lib.hid hs
  have hOF := hSl.out _ _ _ _ _ hG (by decide)
  replace hOF := Lib.hid hOF; replace hG := Lib.hid hG; replace hs1 := Lib.hid hs1; replace hb := Lib.hid hb; replace hg := Lib.hid hg
  go_wp2_with fail
  refine bodyPost_ret (v := .tuple #[.agg #[.int .i64 gm, .slice ga gL.length gc, .int .i64 gr], .int .i64 E]) (by simp [results, Tryz.results147, go_sem, d0, d1, d2]) rfl ?_
  exact ⟨gm, ga, gL, gc, gr, rfl, hOF.out, hF.out, hb.out, hg.out⟩

end Go.Proofs.YtcipnkemnepbaaaGreat
