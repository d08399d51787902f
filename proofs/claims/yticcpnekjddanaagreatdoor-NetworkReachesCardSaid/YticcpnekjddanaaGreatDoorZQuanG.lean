/-  -/
import Derived.Test.YticcpnekjddanaaGreatDoorZRelP
set_option maxRecDepth 100000
set_option maxHeartbeats 8000000
set_option linter.unusedVariables false
set_option linter.unusedSimpArgs false
namespace Go.Proofs.YticcpnekjddanaaGreatDoor
open Go.RowKit
theorem fin_gen {N : List Nd} {n : Nat} {k : Int} {t : List Bool} (hs : (qal n [] 0 t).1.length ≤ 16384) (ho : Ord N n) (hv : qaH N k) (ht : tab N n 0 k = t) (hl : N.length ≤ 90000000) (B p m : Nat) (a : Option Addr) (cap : Nat) (W : World) (hB : qah W B p m a cap N) :
 Calls Tryz.prog 72 #[.pointer (some ⟨p, 0, none⟩), .int .i64 n, .int .i64 k] W (qe0 W n (qal n [] 0 t).1 (qal n [] 0 t).2) := by
 obtain ⟨s', v1, v2⟩ := qb7 ho hv
 rw [ht] at v1 v2
 refine (qeG B p m a cap N n k (n + 1) s' _ W hB ho.val.laid hl hv.1 hv.2 v1 (by rw [v2]; omega)).mono ?_
 intro e w3 hD
 unfold qeF at hD
 rw [if_pos (by rw [v2]; exact hs), v2] at hD
 exact hD
theorem qnx {F : FuncId} {dof : Is → Int → Int → Option (Is × Int)} {o : Bool → Bool → Bool} (eF : ∀ (args : Array Value) (W : World), (callFunc F args).run Tryz.prog W = .ok (.enter F args) W) (hC : DoC F dof) (hV : qms dof) (hid : qmn o)
 (d : Dg) (n : Nat) (t : List Bool) (qs : List Int) (aQ : Option Addr) (capQ : Nat) (w : World) (hn : n ≤ 40) (hat : d.at w) (T : d.tab n t) (hl7 : qs.length ≤ 1000) (hQ : qan w (.slice aQ qs.length capQ) qs.length (gw qs)) (hr0 : qaw n qs qs.length 0 = 0) (hshort : (qal n [] 0 (chT (fun x => decide (x ∈ qs)) o n 0 t)).1.length ≤ 16384)
 (CH0 : VNd (qa5 d.L ([], [0, 1])).1 ∧ qaH (qa5 d.L ([], [0, 1])).1 ((qa5 d.L ([], [0, 1])).2.getD d.r.toNat 0) ∧ ∃ s' q, qa8 (fun x => decide (x ∈ qs)) dof (n + 1) (((qa5 d.L ([], [0, 1])).1, []), []) ((qa5 d.L ([], [0, 1])).2.getD d.r.toNat 0) = some (s', q) ∧ Ord s'.1.1 n ∧ qaH s'.1.1 q ∧ tab s'.1.1 n 0 q = chT (fun x => decide (x ∈ qs)) o n 0 t ∧ s'.1.1.length ≤ 90000000) :
 Calls Tryz.prog 137 #[d.v, .slice aQ qs.length capQ, .func (.func F) #[] #[]] w (qe0 w n (qal n [] 0 (chT (fun x => decide (x ∈ qs)) o n 0 t)).1 (qal n [] 0 (chT (fun x => decide (x ∈ qs)) o n 0 t)).2) := by
 have C := fun W (hW : qad w W) => qbR d n t W (qaa.same hat hW) T
 obtain ⟨hL, hr, ht⟩ := T.2.ord
 obtain ⟨c1, c2, s', q, c3, c4, c5, c6, c7⟩ := CH0
 have FIN := fin_gen hshort c4 c5 c6 c7
 have hsm := T.2.short
 have e := T.1
 rw [Dg.v, e] at C ⊢
 unfold Dg.at at hat
 clear T
 generalize d.L = L at *
 generalize d.r = r at *
 generalize d.a = a at *
 generalize d.cap = cap at *
 obtain ⟨O, hO⟩ : ∃ O, O = qal n [] 0 (chT (fun x => decide (x ∈ qs)) o n 0 t) := ⟨_, rfl⟩
 rw [← hO] at FIN ⊢
 have hlow : 0 < L.length → ∀ k, (Value.slice a L.length cap).ownBlock = some k → k < w.heap.size := qeb hat
 have ADD := fun B p m a' cap' W (hB : qah W B p m a' cap' []) (hw : qad w W) (hwB : w.heap.size ≤ B) => qme B p m a' cap' [] n r a cap L W hB (hat.same hw) (fun h0 i hi => Nat.lt_of_lt_of_le (hlow h0 i hi) hwB) hL.val.laid hr.1 hr.2 (by simp; omega)
 obtain ⟨N, hN⟩ : ∃ N, N = (qa5 L ([], [0, 1])).1 := ⟨_, rfl⟩
 obtain ⟨k, hk⟩ : ∃ k, k = (qa5 L ([], [0, 1])).2.getD r.toNat 0 := ⟨_, rfl⟩
 rw [← hN, ← hk] at ADD c3 c2
 rw [← hN] at c1
 have hsrt := qbU hr0
 have CS := fun W (hW : qad w W) => qdh n qs aQ capQ W hl7 (hQ.same hW)
 rw [hr0] at CS
 have hQlow : 0 < qs.length → ∀ k, (Value.slice aQ qs.length capQ).ownBlock = some k → k < w.heap.size := fun h => hQ.below h
 have hmm := @run_makeMap Tryz.prog
 replace C := gi C; replace FIN := gi FIN; replace ADD := gi ADD; replace c1 := gi c1; replace c2 := gi c2; replace c3 := gi c3; replace c4 := gi c4; replace c5 := gi c5; replace c6 := gi c6; replace c7 := gi c7; replace hat := gi hat; replace hL := gi hL; replace hr := gi hr; replace ht := gi ht; replace e := gi e; replace hlow := gi hlow; replace hN := gi hN; replace hk := gi hk; replace hO := gi hO; replace hsrt := gi hsrt; replace CS := gi CS; replace hQlow := gi hQlow; replace hQ := gi hQ; replace hr0 := gi hr0; replace hC := gi hC; replace hV := gi hV; replace hid := gi hid
 go_enter Tryz.func137, Tryz.ntmps137
 go_wp2_with fail
 refine (C.out _ fs2).mono ?_
 rintro e w1 ⟨rfl, hs1⟩
 have kb : w1.heap[w.heap.size]? = some (.cells #[.int .i64 n, .slice a L.length cap, .int .i64 r] 46 (0, 0)) := hs1.at (qab (qab (qab (gv _ _) _) _) _) id
 have kv : w1.heap[w.heap.size + 1]? = some (.cells #[.slice aQ qs.length capQ] 33 (0, 0)) := hs1.at (qab (qab (qae (by simp) _) _) _) id
 have kx : w1.heap[w.heap.size + 1 + 1]? = some (.cells #[.func (.func F) #[] #[]] 191 (0, 0)) := hs1.at (qab (qae (by simp) _) _) id
 have kt : w1.heap[w.heap.size + 1 + 1 + 1]? = some (.cells #[.int .i64 0, .slice none 0 0, .int .i64 0] 46 (0, 0)) := hs1.at (qae (by simp) _) id
 have hs : qad w w1 := (show qad w _ from fs2).same hs1
 obtain ⟨x0, x1, x2⟩ := g3 kb
 have y0 := gn kv 0
 have tb := gu kt
 replace kb := gi kb; replace kv := gi kv; replace kx := gi kx; replace kt := gi kt; replace hs := gi hs; replace hs1 := gi hs1
 go_wp2_with fail
 refine (CS.out _ hs.out).mono ?_
 rintro e w2 ⟨rfl, rfl⟩
 go_wp2_with fail
 refine (qfz _).mono ?_
 rintro e w2 ⟨p, m, rfl, hB, hs2⟩
 have kb2 := hs2.at kb.out id
 have kv2 := hs2.at kv.out id
 have kx2 := hs2.at kx.out id
 have kt2 := hs2.at kt.out id
 have hw2 := hs.out.same hs2
 have hsz := hs.out.size
 have hsz2 := hs2.size
 clear x0 x1 x2 y0
 obtain ⟨x0, x1, x2, xb⟩ := g3l kb2
 replace kb2 := gi kb2; replace kv2 := gi kv2; replace kx2 := gi kx2; replace kt2 := gi kt2; replace hw2 := gi hw2; replace hB := gi hB; replace hs2 := gi hs2
 go_wp2_with fail
 refine qmR (fun W3 h3 => ?_)
 obtain ⟨h30, h31, h32, hs3⟩ := h3
 have hM3 : qaR ndv (Value.int .i64) W3 w2.heap.size ([] : List (Nd × Int)) := (qbD (w := w2) rfl).of_block (by rw [h30]; exact (gv _ _).symm)
 have kb3 := hs3.at kb2.out id
 have kv3 := hs3.at kv2.out id
 have kx3 := hs3.at kx2.out id
 have kt3 := hs3.at kt2.out id
 have hB3 := hB.out.same hs3
 have hw3 := hw2.out.same hs3
 have hsz3 := gu h32
 have hmp : m < w2.heap.size ∧ p < w2.heap.size := ⟨hB.out.map.lt, gu hB.out.blk⟩
 have hpB := hB.out.pb
 have z0 := gn h31 0
 have zb := gu h31
 clear x0 x1 x2 xb
 obtain ⟨x0, x1, x2, xb⟩ := g3l kb3
 have hkB0 : w.heap.size < w1.heap.size := by omega
 have hkB3 : w.heap.size + 1 + 1 + 1 < w1.heap.size := by omega
 have hB2w : w1.heap.size ≤ w2.heap.size := by omega
 replace h30 := gi h30; replace h31 := gi h31; replace h32 := gi h32; replace hs3 := gi hs3; replace hM3 := gi hM3; replace kb3 := gi kb3; replace kv3 := gi kv3; replace kx3 := gi kx3; replace kt3 := gi kt3; replace hB3 := gi hB3; replace hw3 := gi hw3; replace hmp := gi hmp
 refine qb5 (L2 (w2.heap.size + 1) w.heap.size) [1, 1, 1, 2, 0, 0, 2, 3, 0] (.fork [4, 5, 0, 1, 2] 3 (.run [6, 7, 8]) 6 (.run [3, 7, 8])) (by kernel_rfl) (by kernel_rfl) ?_
 refine qc4 ?_
 repeat ((first | refine gB rfl rfl fun _ k => ?_ | refine gC rfl rfl fun _ k => ?_); go_simp; (first | refine k _ ?_ | refine ⟨_, fun _ => rfl, k _ ?_⟩); clear k)
 refine gO ⟨?_, ?_⟩
 · refine qd2 rfl rfl (fun _ hK => ?_)
   go_simp
   have hB3d : qah W3.drew w1.heap.size p m none 0 [] := hB3.out.same fs3
   refine (ADD.out w1.heap.size p m none 0 _ hB3d (hw3.out.same fs3) hsz).mono ?_
   rintro e w4 hr4
   obtain ⟨rfl, a1, cap1, hB4, hG4⟩ := hr4.of
   have hG4' : qaK (fun i => BB p m i ∨ False) W3.drew w4 (.slice none ([] : List Nd).length 0) (.slice a1 N.length cap1) := by simpa [or_false] using hG4
   have hs4 : qad w w4 := qaK.same_base (w0 := w) hB3d hG4' (hw3.out.same fs3) hsz
   have low4 : ∀ j o, j < w1.heap.size → W3.heap[j]? = some o → w4.heap[j]? = some o := fun j o hj h => by rw [hG4.below hB3d hj]; exact h
   have kp4 := qbz hB3d hG4' (show W3.drew.heap[w2.heap.size + 1]? = _ from h31.out) (by decide) (by decide)
   have km4 := qbz hB3d hG4' (show W3.drew.heap[w2.heap.size + 1 + 1]? = _ from h32.out) (by decide) (by decide)
   have kb4 := low4 _ _ (by omega) kb3.out
   have kv4 := low4 _ _ (by omega) kv3.out
   have kx4 := low4 _ _ (by omega) kx3.out
   have kt4 := low4 _ _ (by omega) kt3.out
   have hM4 := qbL hB3d hG4' (hM3.out.of_block rfl) (by have := hmp.out.1; omega)
   have hKp : Kp (L2 (w2.heap.size + 1) w.heap.size) W3.drew w4 := ⟨hG4.1.size, fun j hj _ => by
    rcases hj with rfl | rfl
    · rw [kp4]; exact h31.out.symm
    · rw [kb4]; exact kb3.out.symm⟩
   have hsz4 : w2.heap.size + 1 + 1 < w4.heap.size := gu km4
   have hBmc : w1.heap.size ≤ w4.heap.size := by omega
   have hSB : ∀ i, i = w2.heap.size → w1.heap.size ≤ i := fun i h => by omega
   have hB5 : qah (w4.alloc (.map #[] 0)) w1.heap.size p m a1 cap1 N := hB4.same fs2
   have hs5 : qad w (w4.alloc (.map #[] 0)) := hs4.same fs2
   have kb5 := qab (o := .map #[] 0) kb4
   have kt5 := qab (o := .map #[] 0) kt4
   have CH := qgJ (qif (F := F) eF hC.out hV.out (B := w1.heap.size) (p := p) (m := m) (mc := w4.heap.size) (mm := w2.heap.size) (ks := w.heap.size + 1) (kd := w.heap.size + 1 + 1) (kb := w2.heap.size + 1) (km := w2.heap.size + 1 + 1) (qs := qs) (aQ := aQ) (capQ := capQ) (by have := hmp.out; omega) (by have := hmp.out; omega) hBmc (by omega) (by omega) (by omega) hl7 hsrt.out (fun h k hk => Nat.lt_of_lt_of_le (hQlow.out h k hk) hsz) hB2w)
    (n + 1) a1 cap1 ((N, []), []) k s' q (w4.alloc (.map #[] 0)) hB5 ⟨qab kv4 _, qab kx4 _, qab kp4 _, qab km4 _, hM4.of_block (Below.heap_alloc _ _ _ hM4.lt), hQ.out.same hs5⟩ (qbD rfl) c1.out (VM.nil _) (VM.nil _) c2.out c3.out c7.out
   replace hB5 := gi hB5; replace hs5 := gi hs5; replace kb5 := gi kb5; replace kt5 := gi kt5; replace CH := gi CH; replace hSB := gi hSB
   clear low4 hr4 hG4 hG4' hB3d hB4 hs4 kp4 km4 kb4 kv4 kx4 kt4 hM4
   refine hK _ _ hKp ?_
   clear hK hKp
   try simp only [Act.put, gj]
   refine qcv ?_
   refine gF rfl rfl (fun _ hK => ?_); go_simp; refine hK _ _ (Kp.of_same fs3) ?_; clear hK
   refine gD rfl (by decide) (fun _ hK => ?_); go_simp; refine CH.out.mono ?_; rintro e w6 ⟨rfl, a6, cap6, hB6, hP6, hC6, hG6⟩; have hs6 : qad w w6 := qkl hB5.out hBmc hSB.out hG6 hs5.out hsz; have kb6 := (qhe hB5.out hBmc hSB.out hG6 (gu kb5.out) hkB0).trans kb5.out; have kt6 := (qhe hB5.out hBmc hSB.out hG6 (gu kt5.out) hkB3).trans kt5.out; have kp6 := hP6.bld; refine hK _ _ ?_; clear hK x0 x1 x2 xb z0 zb; (try simp only [Act.put, gj]); obtain ⟨x0, x1, x2, xb⟩ := g3l kb6; have z0 := gn kp6 0; have zb := gu kp6; replace hs6 := gi hs6; replace kb6 := gi kb6; replace kt6 := gi kt6; replace hB6 := gi hB6; replace kp6 := gi kp6; clear hG6 hP6 hC6 CH; (repeat ((first | refine gB rfl rfl fun _ k => ?_ | refine gC rfl rfl fun _ k => ?_); go_simp; (first | refine k _ ?_ | refine ⟨_, fun _ => rfl, k _ ?_⟩); clear k)); refine gO (NoPanic.normal ?_); go_wp2_with fail; refine (FIN.out w1.heap.size p m a6 cap6 w6 hB6.out).mono ?_; rintro e w7 ⟨ao, co, rfl, hO7, hs7⟩; have kt := hs7.at kt6.out id; have hs := hs6.out.same hs7; replace hO7 := gi hO7; obtain ⟨⟨t0, t1, t2, f0, f1, f2, tb⟩, d0, d1, d2, hF, hK, hSl⟩ := qqe (a := .int .i64 n) (c := .slice ao O.1.length co) (d := .int .i64 O.2) kt hs (by omega); replace hF := gi hF; replace hK := gi hK; replace hSl := gi hSl; replace kt := gi kt; replace hs := gi hs; have hOF := hSl.out _ _ _ _ _ hO7.out (by decide); replace hOF := gi hOF; clear x0 x1 x2 xb z0 zb; go_wp2_with fail; refine bodyPost_ret (v := .tuple #[.agg #[.int .i64 n, .slice ao O.1.length co, .int .i64 O.2], .int .i64 0]) (by simp [results, Tryz.results137, go_sem, d0, d1, d2]) rfl ?_; exact ⟨ao, co, rfl, hOF.out, hF.out⟩
 · refine qd2 rfl rfl (fun _ hK => ?_)
   go_simp
   refine hK _ _ (Kp.of_same fs3) ?_
   clear hK
   try simp only [Act.put, gj]
   refine qcv ?_
   refine gF rfl rfl (fun _ hK => ?_)
   go_simp
   have hB3d : qah ((W3.alloc (.map #[] 0)).drew) w1.heap.size p m none 0 [] := hB3.out.same fs3
   have hs34 : qad W3 (W3.alloc (.map #[] 0)).drew := fs3
   have h31d : ((W3.alloc (.map #[] 0)).drew).heap[w2.heap.size + 1]? = _ := qab h31.out _
   have h32d : ((W3.alloc (.map #[] 0)).drew).heap[w2.heap.size + 1 + 1]? = _ := qab h32.out _
   have hmcd : mI ((W3.alloc (.map #[] 0)).drew) W3.heap.size [] := (qbD (w := W3) rfl).of_block rfl
   refine (ADD.out w1.heap.size p m none 0 _ hB3d (hw3.out.same hs34) hsz).mono ?_
   rintro e w4 hr4
   obtain ⟨rfl, a1, cap1, hB4, hG4⟩ := hr4.of
   have hG4' : qaK (fun i => BB p m i ∨ False) (W3.alloc (.map #[] 0)).drew w4 (.slice none ([] : List Nd).length 0) (.slice a1 N.length cap1) := by simpa [or_false] using hG4
   have hs4 : qad w w4 := qaK.same_base (w0 := w) hB3d hG4' (hw3.out.same hs34) hsz
   have low4 : ∀ j o, j < w1.heap.size → W3.heap[j]? = some o → w4.heap[j]? = some o := fun j o hj h => by rw [hG4.below hB3d hj]; exact hs34.at h id
   have kp4 := qbz hB3d hG4' h31d (by decide) (by decide)
   have km4 := qbz hB3d hG4' h32d (by decide) (by decide)
   have kb4 := low4 _ _ (by omega) kb3.out
   have kv4 := low4 _ _ (by omega) kv3.out
   have kx4 := low4 _ _ (by omega) kx3.out
   have kt4 := low4 _ _ (by omega) kt3.out
   have hM4 := qbL hB3d hG4' (hM3.out.of_block (hs34.block _ hM3.out.lt id)) (by have := hmp.out.1; omega)
   have hC4 := qbL hB3d hG4' hmcd (by have := hmp.out.1; have := hsz3; omega)
   have hKp : Kp (L2 (w2.heap.size + 1) w.heap.size) (W3.alloc (.map #[] 0)).drew w4 := ⟨hG4.1.size, fun j hj _ => by
    rcases hj with rfl | rfl
    · rw [kp4]; exact h31d.symm
    · rw [kb4]; exact (hs34.at kb3.out id).symm⟩
   have hBmc : w1.heap.size ≤ W3.heap.size := by omega
   have hSB : ∀ i, i = w2.heap.size → w1.heap.size ≤ i := fun i h => by omega
   have hB5 : qah w4 w1.heap.size p m a1 cap1 N := hB4
   have hs5 : qad w w4 := hs4
   have kb5 := kb4
   have kt5 := kt4
   have CH := qgJ (qif (F := F) eF hC.out hV.out (B := w1.heap.size) (p := p) (m := m) (mc := W3.heap.size) (mm := w2.heap.size) (ks := w.heap.size + 1) (kd := w.heap.size + 1 + 1) (kb := w2.heap.size + 1) (km := w2.heap.size + 1 + 1) (qs := qs) (aQ := aQ) (capQ := capQ) (by have := hmp.out; omega) (by have := hmp.out; omega) hBmc (by omega) (by omega) (by omega) hl7 hsrt.out (fun h k hk => Nat.lt_of_lt_of_le (hQlow.out h k hk) hsz) hB2w)
    (n + 1) a1 cap1 ((N, []), []) k s' q w4 hB5 ⟨kv4, kx4, kp4, km4, hM4, hQ.out.same hs5⟩ hC4 c1.out (VM.nil _) (VM.nil _) c2.out c3.out c7.out
   replace hB5 := gi hB5; replace hs5 := gi hs5; replace kb5 := gi kb5; replace kt5 := gi kt5; replace CH := gi CH; replace hSB := gi hSB
   clear low4 hr4 hG4 hG4' hB3d hB4 hs4 kp4 km4 kb4 kv4 kx4 kt4 hM4 hC4 hs34 h31d h32d hmcd
   refine hK _ _ hKp ?_
   clear hK hKp
   try simp only [Act.put, gj]
   refine gD rfl (by decide) (fun _ hK => ?_); go_simp; refine CH.out.mono ?_; rintro e w6 ⟨rfl, a6, cap6, hB6, hP6, hC6, hG6⟩; have hs6 : qad w w6 := qkl hB5.out hBmc hSB.out hG6 hs5.out hsz; have kb6 := (qhe hB5.out hBmc hSB.out hG6 (gu kb5.out) hkB0).trans kb5.out; have kt6 := (qhe hB5.out hBmc hSB.out hG6 (gu kt5.out) hkB3).trans kt5.out; have kp6 := hP6.bld; refine hK _ _ ?_; clear hK x0 x1 x2 xb z0 zb; (try simp only [Act.put, gj]); obtain ⟨x0, x1, x2, xb⟩ := g3l kb6; have z0 := gn kp6 0; have zb := gu kp6; replace hs6 := gi hs6; replace kb6 := gi kb6; replace kt6 := gi kt6; replace hB6 := gi hB6; replace kp6 := gi kp6; clear hG6 hP6 hC6 CH; (repeat ((first | refine gB rfl rfl fun _ k => ?_ | refine gC rfl rfl fun _ k => ?_); go_simp; (first | refine k _ ?_ | refine ⟨_, fun _ => rfl, k _ ?_⟩); clear k)); refine gO (NoPanic.normal ?_); go_wp2_with fail; refine (FIN.out w1.heap.size p m a6 cap6 w6 hB6.out).mono ?_; rintro e w7 ⟨ao, co, rfl, hO7, hs7⟩; have kt := hs7.at kt6.out id; have hs := hs6.out.same hs7; replace hO7 := gi hO7; obtain ⟨⟨t0, t1, t2, f0, f1, f2, tb⟩, d0, d1, d2, hF, hK, hSl⟩ := qqe (a := .int .i64 n) (c := .slice ao O.1.length co) (d := .int .i64 O.2) kt hs (by omega); replace hF := gi hF; replace hK := gi hK; replace hSl := gi hSl; replace kt := gi kt; replace hs := gi hs; have hOF := hSl.out _ _ _ _ _ hO7.out (by decide); replace hOF := gi hOF; clear x0 x1 x2 xb z0 zb; go_wp2_with fail; refine bodyPost_ret (v := .tuple #[.agg #[.int .i64 n, .slice ao O.1.length co, .int .i64 O.2], .int .i64 0]) (by simp [results, Tryz.results137, go_sem, d0, d1, d2]) rfl ?_; exact ⟨ao, co, rfl, hOF.out, hF.out⟩
theorem qlA (d : Dg) (n : Nat) (E : Int) (O : List Nd × Int) (qs : List Int) (aQ : Option Addr) (capQ : Nat) (w : World) (hdn : d.n = n) (hat : d.at w) (hQ : qan w (.slice aQ qs.length capQ) qs.length (gw qs))
 (Q : ∀ W, qad w W → Calls Tryz.prog 137 #[d.v, .slice aQ qs.length capQ, .func (.func 138) #[] #[]] W (QAny E n O W)) :
 Calls Tryz.prog 125 #[d.v, .slice aQ qs.length capQ] w (QAny E n O w) := by
 have e := hdn
 rw [Dg.v, e] at Q ⊢
 replace Q := gi Q; replace hat := gi hat; replace hQ := gi hQ; replace e := gi e
 go_enter Tryz.func125, Tryz.ntmps125
 go_wp2_with fail
 refine (Q.out _ fs2).mono ?_
 rintro e w1 ⟨gm, ga, gL, gc, gr, rfl, hG, hs1, hb, hg⟩
 have kt : w1.heap[w.heap.size + 1]? = some (.cells #[.int .i64 0, .slice none 0 0, .int .i64 0] 46 (0, 0)) := hs1.at (qae (by simp) _) id
 have hs : qad w w1 := (show qad w _ from fs2).same hs1
 obtain ⟨⟨t0, t1, t2, f0, f1, f2, tb⟩, d0, d1, d2, hF, hK, hSl⟩ := qqe (a := .int .i64 gm) (c := .slice ga gL.length gc) (d := .int .i64 gr) kt hs (by omega); replace hF := gi hF; replace hK := gi hK; replace hSl := gi hSl; replace kt := gi kt; replace hs := gi hs
 have hOF := hSl.out _ _ _ _ _ hG (by decide)
 replace hOF := gi hOF; replace hG := gi hG; replace hs1 := gi hs1; replace hb := gi hb; replace hg := gi hg
 go_wp2_with fail
 refine bodyPost_ret (v := .tuple #[.agg #[.int .i64 gm, .slice ga gL.length gc, .int .i64 gr], .int .i64 E]) (by simp [results, Tryz.results125, go_sem, d0, d1, d2]) rfl ?_
 exact ⟨gm, ga, gL, gc, gr, rfl, hOF.out, hF.out, hb.out, hg.out⟩
end Go.Proofs.YticcpnekjddanaaGreatDoor
