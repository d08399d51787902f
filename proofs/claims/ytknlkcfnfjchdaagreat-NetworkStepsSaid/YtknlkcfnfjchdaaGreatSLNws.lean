/- NetworkSteps walked. NetworkEnables walked. -/
import Derived.Test.YtknlkcfnfjchdaaGreatSNwsQ
import Derived.Test.YtknlkcfnfjchdaaGreatSLStpM
namespace Go.Proofs.YtknlkcfnfjchdaaGreat
open Go.RowKit
set_option linter.unusedVariables false
set_option linter.unusedSimpArgs false

theorem GrpN.tl {N : Nw} (h : GrpN N) : ∀ i, i ≤ N.As.length → (tupsF (N.ns.take i)).length ≤ 100000 := fun i _ => by
  have h1 := tups_len (N.ns.take i) 5 (fun n hn => by
    have hm := List.mem_of_mem_take hn
    obtain ⟨j, hj, rfl⟩ := List.mem_iff_getElem.1 hm
    have := h.grp.ns j
    simpa [List.getD, hj] using this)
  have h2 : (N.ns.take i).length ≤ 3 := by rw [List.length_take, N.ns_len]; have := h.m3; omega
  have h3 : 5 ^ (N.ns.take i).length ≤ 5 ^ 3 := Nat.pow_le_pow_right (by omega) h2
  have : (5 : Nat) ^ 3 = 125 := by decide
  omega
theorem GrpN.t1000 {N : Nw} (h : GrpN N) : ∀ A ∈ N.As, A.n ≤ 1000 := fun A hA => by have := h.grp.n5 A hA; omega

set_option maxRecDepth 100000 in
set_option maxHeartbeats 16000000 in
theorem steps13_any (B : List Nat) (h86 : B.length = 86) (hB : ∀ y ∈ B, y < 256) (y : Int) (hy : 0 ≤ y ∧ y ≤ 255) (w : World) :
    Calls Tryz.prog 4 #[.agg (bytC B).toArray, .int .u8 y] w fun e w' => e = .returned (.bool true) ∧ Same w w' := by
  obtain ⟨i3, hi3, hi3z, hi3s, hi3b⟩ := info_parts info4
  obtain ⟨j3, hj3, hj3z, hj3s, hj3b⟩ := info_parts info_iiT
  have KN := fun W => known13_any W
  have EV := fun W => events_any y W
  have MK := fun W => Make13_any B h86 hB 2 (by omega) W
  obtain ⟨cs, hcs⟩ : ∃ cs, cs = (bytC B).toArray := ⟨_, rfl⟩
  have hsz : cs.size = 86 := by rw [hcs]; simp [bytC, h86]
  rw [← hcs] at MK ⊢
  clear hB hy
  replace KN := Lib.hid KN; replace MK := Lib.hid MK; replace EV := Lib.hid EV; replace hsz := Lib.hid hsz; replace hcs := Lib.hid hcs
  go_enter Tryz.func4, Tryz.ntmps4
  go_upto_region 1 with fail
  have kg := heap_new w (.cells cs 30)
  have s0 : Same w (w.alloc (.cells cs 30)) := fs2
  generalize w.alloc (.cells cs 30) = W0 at *
  obtain ⟨bg, hbg⟩ : ∃ b, b = w.heap.size := ⟨_, rfl⟩
  rw [← hbg] at kg ⊢
  replace kg := Lib.hid kg; replace s0 := Lib.hid s0; replace hbg := Lib.hid hbg
  go_wp2_with fail
  refine (KN.out _).mono ?_
  rintro e w1 ⟨rfl, s1⟩
  replace kg := Lib.hid (s1.at kg.out id)
  have hs1 := s0.out.same s1
  clear s1 s0 KN
  replace hs1 := Lib.hid hs1
  go_upto_region 3 with fail
  refine wp_region_lit ?_
  refine wpList_load_row rfl 30 (.tmp 2) rfl bg 0 rfl cs.toList _ (by have := range_row kg.out 0 86; rw [List.drop_zero, List.take_of_length_le (by simp [hsz.out])] at this; exact this) Tryz.underlying30 rfl (by rw [infoGp13]; simp [hsz.out]) ?_
  (try simp only [Act.put, List.setIfInBounds_toArray, List.set_cons_zero, List.set_cons_succ])
  refine wpList_step (fun K hK => ?_)
  go_simp
  refine (MK.out _).mono ?_
  rintro e w2 ⟨N, rfl, hat, hmd, s2⟩
  have hG := hmd.grp (by omega)
  have hs2 := hs1.out.same s2
  clear s2 hs1 MK hmd kg
  refine hK _ _ ?_
  clear hK
  unfold Nw.v
  (try simp only [Act.put, List.setIfInBounds_toArray, List.set_cons_zero, List.set_cons_succ])
  replace hat := Lib.hid hat; replace hG := Lib.hid hG; replace hs2 := Lib.hid hs2
  go_upto_region 4 with fail
  have kn := heap_new w2 (.cells #[.slice N.aA N.As.length N.cA, .slice N.aO N.o.length N.cO] 36)
  have sP : Same w2 (w2.alloc (.cells #[.slice N.aA N.As.length N.cA, .slice N.aO N.o.length N.cO] 36)) := fs2
  generalize w2.alloc (.cells #[.slice N.aA N.As.length N.cA, .slice N.aO N.o.length N.cO] 36) = WA at *
  generalize w2.heap.size = bn at *
  replace hs2 := Lib.hid (hs2.out.same sP)
  replace hat := Lib.hid (hat.out.same sP)
  clear sP
  replace kn := Lib.hid kn
  go_wp2_with fail
  refine (EV.out _).mono ?_
  rintro e w3 ⟨aE, cE, rfl, hoE, sP⟩
  have hE := (SliceAt.of_owns hoE).row
  replace kn := Lib.hid (sP.at kn.out id)
  replace hs2 := Lib.hid (hs2.out.same sP)
  replace hat := Lib.hid (hat.out.same sP)
  clear sP EV hoE
  have OK := hG.out.net
  have FI := hG.out.grp.fits
  have h9 := hG.out.grp.all
  have h12 := OK.ok.m12
  have hEl := evL_len y
  have hEe := evL_err y
  obtain ⟨n2, hn2⟩ : ∃ n, n = 2 * N.all := ⟨_, rfl⟩
  obtain ⟨E, hEd⟩ : ∃ E, E = evL y := ⟨_, rfl⟩
  rw [← hEd] at hE hEl hEe ⊢
  obtain ⟨qE, hqE⟩ : ∃ q, q = E.length := ⟨_, rfl⟩
  rw [← hqE] at hE hEl hEe ⊢
  have RE := fun W (hW : Same w3 W) => (Relation_net N OK FI E aE qE cE W (hat.out.same hW) hqE.symm (hE.same hW) (by omega)).mono (fun e w' h => DgE.ok0 h (by rw [← hqE]; exact hEe))
  have AL := fun W (hW : Same w3 W) => lall13 N W (hat.out.same hW) (fun A hA => ⟨(OK.ok.au A hA).n0, (OK.ok.au A hA).n4⟩) (by omega)
  rw [← OK.ok.all_range] at AL
  have TU := fun W (hW : Same w3 W) => ltuples13 N W (hat.out.same hW) (fun k hk => by
    have h1 := OK.ok.n4 hk
    have h2 := hG.out.t1000 _ (List.getElem_mem hk)
    exact ⟨_, h1.2, by omega, rfl⟩) h12 hG.out.tl
  have ST := fun (x : List Nat) (hx : x ∈ tupsF N.ns) (e : Int) a c W (hW : Same w3 W) (hR : RowAt W (.slice a N.As.length c) N.As.length (intCells (natI x))) => lstep13 N OK.ok OK.sm e x (tup_lt hx).1 (tup_lt hx).2 a c W (hat.out.same hW) hR
  have CO := fun (x : List Nat) (hx : x.length = N.As.length) a c W (hW : Same w3 W) (hR : RowAt W (.slice a N.As.length c) N.As.length (intCells (natI x))) => lcode13 N OK.ok x a c W (hat.out.same hW) hx hR
  have VA := fun (d : Dg) (l : List Bool) (hl : l.length = n2) a c W (hd : d.at W) (T : d.tab n2 (N.rel (stepsB N.As E))) (hR : RowAt W (.slice a n2 c) n2 (boolCells l)) => value_ev d hl a c W hd T hR
  have CK := fun (d : Dg) W (hd : d.at W) (T : d.tab n2 (N.rel (stepsB N.As E))) => check_tab d n2 _ W hd T
  have CT := fun (d : Dg) W (hd : d.at W) (T : d.tab n2 (N.rel (stepsB N.As E))) => count_tab d n2 _ W hd T
  have hrc := fun (x z : List Nat) (hx : x ∈ tupsF N.ns) (hz : z ∈ tupsF N.ns) => rel_code OK.ok (stepsB N.As E) hx hz
  have hcnt := rel_cnt OK.ok (F := stepsB N.As E) (fun x z h => stepsB_ok OK.ok h)
  obtain ⟨T, hT⟩ : ∃ T, T = tupsF N.ns := ⟨_, rfl⟩
  have hTl : T.length ≤ 125 := by rw [hT]; exact hG.out.grp.tups
  have hTm : ∀ x ∈ T, x.length = N.As.length := fun x hx => (tup_lt (by rw [← hT]; exact hx)).1
  have hTI : tupI N.ns = T.map natI := by rw [hT]; rfl
  unfold TupE at TU
  rw [hTI] at TU
  obtain ⟨SP, hSP⟩ : ∃ f : Nat → Nat, f = fun j => sumP (stepsB N.As E) T (T.take j) := ⟨_, rfl⟩
  have hS0 : SP 0 = 0 := by rw [hSP]; rfl
  have hSs : ∀ j (hj : j < T.length), SP (j + 1) = SP j + (T.filter (stepsB N.As E T[j])).length := fun j hj => by rw [hSP]; exact sumP_take _ _ _ hj
  have hSe : (N.rel (stepsB N.As E)).count true = SP T.length := by rw [hSP]; simp only; rw [List.take_length, hcnt, hT]
  have hSb : ∀ j, SP j ≤ 15625 := fun j => by
    rw [hSP]
    refine Nat.le_trans (sumP_le _ _ _) ?_
    have h1 : (T.take j).length ≤ 125 := by rw [List.length_take]; omega
    exact Nat.le_trans (Nat.mul_le_mul h1 hTl) (by decide)
  rw [← hn2] at RE hrc
  obtain ⟨tR, htR⟩ : ∃ t, t = N.rel (stepsB N.As E) := ⟨_, rfl⟩
  simp only [← htR] at RE VA CK CT hrc hSe
  have hNL := fun (x : List Nat) (L : List (List Nat)) (h : NxL N x E L) => h.len
  have hNm := fun (x : List Nat) (L : List (List Nat)) (h : NxL N x E L) (z : List Nat) (hz : z ∈ L) => (h.mem z).1 hz
  have hNk := fun (x : List Nat) (E' : List Int) (L : List (List Nat)) (h : NxL N x E' L) => (show L.length ≤ 125 by rw [h.len]; exact Nat.le_trans (List.length_filter_le _ _) (by rw [← hT]; exact hTl))
  have hNn := fun (x : List Nat) (hx : x ∈ T) (E' : List Int) (L : List (List Nat)) (e : Int) (z : List Nat) (h : NxL N x E' L) hl hs hn => NxL.new (e := e) (y := z) OK.ok (by rw [← hT]; exact hx) h hl hs hn
  have hNo := fun (x : List Nat) (hx : x ∈ T) (E' : List Int) (L : List (List Nat)) (e : Int) (z : List Nat) (h : NxL N x E' L) hl hs hn => NxL.old (e := e) (y := z) OK.ok (by rw [← hT]; exact hx) h hl hs hn
  rw [← hT] at ST hrc hNL
  rw [← hT] at hNm
  have hTsub : ∀ z, z ∈ tupsF N.ns → z ∈ T := fun z hz => by rw [hT]; exact hz
  have hcl : ∀ x, (codeL N.bs N.on x).length = N.all := fun x => codeL_len _ _ _
  unfold StE at ST
  obtain ⟨cl, hclf⟩ : ∃ f : List Nat → List Bool, f = codeL N.bs N.on := ⟨_, rfl⟩
  rw [← hclf] at CO hrc hcl
  have hn9 : N.all ≤ 9 := h9
  clear hat OK FI h9 hT hTI hSP htR hclf hcnt hG hEe
  generalize N.all = n at *
  generalize N.As.length = m at *
  generalize N.o.length = qo at *
  generalize N.aA = aA at *
  generalize N.cA = cA at *
  generalize N.aO = aO at *
  generalize N.cO = cO at *
  obtain ⟨qT, hqT⟩ : ∃ q, q = T.length := ⟨_, rfl⟩
  rw [← hqT] at hTl hSe
  have hEr : RowAt w3 (.slice aE qE cE) qE (intCells E) := hE
  have hsw : Same w3 w3 := Fr.refl _ _
  replace RE := Lib.hid RE; replace AL := Lib.hid AL; replace TU := Lib.hid TU; replace ST := Lib.hid ST; replace CO := Lib.hid CO; replace VA := Lib.hid VA; replace CK := Lib.hid CK; replace CT := Lib.hid CT; replace hrc := Lib.hid hrc; replace hTm := Lib.hid hTm; replace hTsub := Lib.hid hTsub; replace hS0 := Lib.hid hS0; replace hSs := Lib.hid hSs; replace hSe := Lib.hid hSe; replace hSb := Lib.hid hSb; replace hNL := Lib.hid hNL; replace hNm := Lib.hid hNm; replace hNk := Lib.hid hNk; replace hNn := Lib.hid hNn; replace hNo := Lib.hid hNo; replace hcl := Lib.hid hcl; replace hn2 := Lib.hid hn2; replace hEd := Lib.hid hEd; replace hqE := Lib.hid hqE; replace hEr := Lib.hid hEr; replace hsw := Lib.hid hsw; replace hqT := Lib.hid hqT
  clear hE
  have x0 := cell_at kn.out 0
  have x1 := cell_at kn.out 1
  have xl := lt_of_heap kn.out
  go_upto_region 5 with fail
  go_wp2_with fail
  refine (RE.out _ hsw.out).mono ?_
  intro e v1 hM1
  obtain ⟨a1, c1, L1, r1, rfl, d1, z1, s1⟩ := hM1.open
  clear hM1
  clear x0 x1 xl
  go_upto_region 6 with fail
  have q1 : Bd (v1.alloc (.cells #[.int .i64 n2, .slice a1 L1.length c1, .int .i64 r1] 54)) v1.heap.size n2 _ a1 c1 L1 r1 := ⟨heap_new _ _, SliceAt.same d1 fs2, z1⟩
  have sP := s1.same (show Same v1 (v1.alloc (.cells #[.int .i64 n2, .slice a1 L1.length c1, .int .i64 r1] 54)) from fs2)
  clear d1 z1 s1
  generalize v1.alloc (.cells #[.int .i64 n2, .slice a1 L1.length c1, .int .i64 r1] 54) = W1 at *
  generalize v1.heap.size = b1 at *
  replace kn := Lib.hid (sP.at kn.out id)
  replace hsw := Lib.hid (hsw.out.same sP)
  clear sP RE
  replace q1 := Lib.hid q1
  have x0 := cell_at kn.out 0
  have x1 := cell_at kn.out 1
  have xl := lt_of_heap kn.out
  have z0 := cell_at q1.out.heap 0
  have z1 := cell_at q1.out.heap 1
  have z2 := cell_at q1.out.heap 2
  have zl := lt_of_heap q1.out.heap
  have f1 : IntKind.i64.wrap (2 * (n : Int)) = (n2 : Int) := by rw [IntWalk.i64_in _ (by omega)]; have := hn2.out; omega
  refine wp_region_sched (fun k => k = bn ∨ k = b1) [0, 0, 0, 0, 1, 1, 2, 0, 0, 0, 0, 1, 2, 0, 0] [0, 1, 2, 3, 4, 5, 6, 7, 8, 9, 10, 11, 12, 13, 14] (by kernel_rfl) (by kernel_rfl) ?_
  repeat (first | (refine sched_w rfl rfl (fun _ hK => ?_); go_simp; refine hK _ ?_; clear hK) | (refine sched_s rfl rfl (fun _ hK => ?_); go_simp; first | (refine hK _ ?_; clear hK) | (refine ⟨_, fun _ => rfl, hK _ ?_⟩; clear hK)))
  refine sched_g rfl rfl (fun _ hK => ?_)
  go_simp
  refine (AL.out _ (hsw.out.same fs3)).mono ?_
  rintro e v4 ⟨rfl, s4⟩
  refine hK _ _ (Kp.of_same s4) ?_
  clear hK
  (try simp only [Act.put, List.setIfInBounds_toArray, List.set_cons_zero, List.set_cons_succ])
  have sP := (show Same W1 _ from fs3).same s4
  clear s4
  clear x0 x1 xl
  clear z0 z1 z2 zl
  replace kn := Lib.hid (sP.at kn.out id)
  replace q1 := Lib.hid (q1.out.same sP)
  replace hsw := Lib.hid (hsw.out.same sP)
  clear sP AL
  have z0 := cell_at q1.out.heap 0
  have z1 := cell_at q1.out.heap 1
  have z2 := cell_at q1.out.heap 2
  have zl := lt_of_heap q1.out.heap
  repeat (first | (refine sched_w rfl rfl (fun _ hK => ?_); go_simp; refine hK _ ?_; clear hK) | (refine sched_s rfl rfl (fun _ hK => ?_); go_simp; first | (refine hK _ ?_; clear hK) | (refine ⟨_, fun _ => rfl, hK _ ?_⟩; clear hK)))
  refine sched_g rfl rfl (fun _ hK => ?_)
  go_simp
  refine (CK.out ⟨n2, a1, c1, L1, r1⟩ _ (SliceAt.same q1.out.at' fs3) ⟨rfl, q1.out.tab⟩).mono ?_
  rintro e v5 ⟨rfl, s5⟩
  refine hK _ _ (Kp.of_same s5) ?_
  clear hK
  (try simp only [Act.put, List.setIfInBounds_toArray, List.set_cons_zero, List.set_cons_succ])
  have sP := (show Same v4 _ from fs3).same s5
  clear s5
  clear z0 z1 z2 zl
  replace kn := Lib.hid (sP.at kn.out id)
  replace q1 := Lib.hid (q1.out.same sP)
  replace hsw := Lib.hid (hsw.out.same sP)
  clear sP CK
  repeat (first | (refine sched_w rfl rfl (fun _ hK => ?_); go_simp; refine hK _ ?_; clear hK) | (refine sched_s rfl rfl (fun _ hK => ?_); go_simp; first | (refine hK _ ?_; clear hK) | (refine ⟨_, fun _ => rfl, hK _ ?_⟩; clear hK)))
  refine sched_nil (NoPanic.normal ?_)
  have z0 := cell_at q1.out.heap 0
  have z1 := cell_at q1.out.heap 1
  have z2 := cell_at q1.out.heap 2
  have zl := lt_of_heap q1.out.heap
  go_wp2_with fail
  refine (CT.out ⟨n2, a1, c1, L1, r1⟩ _ q1.out.at' ⟨rfl, q1.out.tab⟩).mono ?_
  rintro e v6 ⟨rfl, sP⟩
  rw [hSe.out]
  clear z0 z1 z2 zl
  replace kn := Lib.hid (sP.at kn.out id)
  replace q1 := Lib.hid (q1.out.same sP)
  replace hsw := Lib.hid (hsw.out.same sP)
  clear sP CT f1
  have x0 := cell_at kn.out 0
  have x1 := cell_at kn.out 1
  have xl := lt_of_heap kn.out
  go_wp2_with fail
  refine (TU.out _ hsw.out).mono ?_
  rintro e v7 ⟨a3, k3, c3, gs, rfl, hTG, hlg, hk3, sP⟩
  clear x0 x1 xl
  replace kn := Lib.hid (sP.at kn.out id)
  replace q1 := Lib.hid (q1.out.same sP)
  replace hsw := Lib.hid (hsw.out.same sP)
  clear sP TU
  have hk3T : k3 = qT := by rw [hk3, List.length_map, ← hqT.out]
  clear hk3
  replace hTG := Lib.hid hTG; replace hlg := Lib.hid hlg
  subst hk3T
  go_wp2_with fail
  go_loopw [11, 62] (fun p i wr => ∃ j : Nat, i = .int .i64 j ∧ j ≤ k3 ∧ p = .int .i64 (SP j) ∧ Same v7 wr) (fun _ i _ => k3 - (intOf i).toNat)
  case atStart => exact ⟨0, rfl, by omega, by rw [hS0.out]; rfl, Fr.refl _ _⟩
  case round =>
    obtain ⟨j, rfl, hj, rfl, hs⟩ := hrel
    have hsw7 := hsw.out.same hs
    have kn7 := hs.at kn.out id
    by_cases hjk : j < k3
    · obtain ⟨wo, rfl⟩ : ∃ wo, wo = wr := ⟨_, rfl⟩
      have hjT : j < T.length := by rw [← hqT.out]; exact hjk
      have hjl : j < gs.length := by rw [hTG.out.len]; exact hjk
      obtain ⟨b, off, rfl, hbl, c0, hR⟩ := (hTG.out.gs.same hs).get hjl
      have hgl : gs[j].l = natI T[j] := by
        have h1 := lst_get gs hjl
        have h2 : (lst gs)[j]'(by rw [lst_len]; exact hjl) = (T.map natI)[j]'(by rw [List.length_map]; exact hjT) := by simp only [hlg.out]
        rw [← h1, h2, List.getElem_map]
      have hxT : T[j] ∈ T := List.getElem_mem hjT
      have hTx := hTm.out _ hxT
      rw [hgl] at c0 hR
      have hlm : (natI T[j]).length = m := by rw [natI_len, hTx]
      rw [hlm] at c0 hR
      have hSj := hSs.out j hjT
      have hSb1 := hSb.out j
      have hSb2 := hSb.out (j + 1)
      generalize gs[j].a = ga at *
      generalize gs[j].cap = gc at *
      generalize T[j] = x at *
      clear hgl hlm
      obtain ⟨S, hS⟩ : ∃ S, S = SP j := ⟨_, rfl⟩
      rw [← hS] at hSj hSb1 ⊢
      replace hs := Lib.hid hs; replace hsw7 := Lib.hid hsw7; replace kn7 := Lib.hid kn7; replace hR := Lib.hid hR; replace hxT := Lib.hid hxT; replace hTx := Lib.hid hTx; replace hSj := Lib.hid hSj; replace hS := Lib.hid hS
      go_wp2_with fail
      clear c0
      go_loopw [14, 68] (fun v i wr => ∃ (k q c : Nat) (a : Option Addr) (hs : List Grp) (L : List (List Nat)), i = .int .i64 k ∧ k ≤ qE ∧ v = .slice a q c ∧ TG wo.heap.size wr a q c hs ∧ lst hs = L.map natI ∧ q = L.length ∧ NxL N x (E.take k) L ∧ Same wo wr) (fun _ i _ => qE - (intOf i).toNat)
      case atStart => exact ⟨0, 0, 0, none, [], [], rfl, by omega, rfl, TG.nil _ _, rfl, rfl, NxL.nil N x, Fr.refl _ _⟩
      case round =>
        obtain ⟨k, q, c, a, gs2, L, rfl, hk, rfl, hG2, hl2, hqL, hNx, hs2⟩ := hrel
        have hq125 : q ≤ 125 := by rw [hqL]; exact hNk.out _ _ _ hNx
        have hws := hs2.size
        by_cases hkq : k < qE
        · obtain ⟨be, oe, rfl, hbe, e0⟩ := (hEr.out.same (hsw7.out.same hs2)).ints hkq
          have htk : E.take (k + 1) = E.take k ++ [toF E k] := by
            have hkE : k < E.length := by rw [← hqE.out]; exact hkq
            rw [List.take_succ_eq_append_getElem hkE]
            simp [toF, List.getD, hkE]
          have hnew := fun z hl hs hn => hNn.out x hxT.out (E.take k) L (toF E k) z hNx hl hs hn
          have hold := fun z hl hs hn => hNo.out x hxT.out (E.take k) L (toF E k) z hNx hl hs hn
          have hNm2 : ∀ z ∈ L, z ∈ T := fun z hz => by
            have h1 := (hNx.mem z).1 hz
            have h2 := hTsub.out z h1.1
            exact h2
          have hskp := fun hn => NxL.skip (e := toF E k) hNx hn
          rw [← htk] at hnew hold hskp
          clear htk
          generalize toF E k = ev at *
          have STk := ST.out x hxT.out ev ga gc wr (hsw7.out.same hs2) (hR.out.same hs2)
          have kn8 := hs2.at kn7.out id
          replace hG2 := Lib.hid hG2; replace hl2 := Lib.hid hl2; replace hqL := Lib.hid hqL; replace hNx := Lib.hid hNx; replace hs2 := Lib.hid hs2; replace hnew := Lib.hid hnew; replace hold := Lib.hid hold; replace hskp := Lib.hid hskp; replace STk := Lib.hid STk; replace kn8 := Lib.hid kn8; replace hNm2 := Lib.hid hNm2
          have u0 := cell_at kn8.out 0
          have u1 := cell_at kn8.out 1
          have ul := lt_of_heap kn8.out
          go_wp2_with fail
          refine STk.out.mono ?_
          rintro e v8 ⟨a8, q8, c8, r8, rfl, sP, hyes, hno⟩
          clear u0 u1 ul
          clear e0 STk
          replace hG2 := Lib.hid (hG2.out.same sP)
          replace hs2 := Lib.hid (hs2.out.same sP)
          have hz8 := sP.size
          clear sP kn8
          replace hyes := Lib.hid hyes; replace hno := Lib.hid hno
          cases r8
          · have hk2 := hskp.out (hno.out rfl)
            clear hnew hold hskp hyes hno
            replace hk2 := Lib.hid hk2
            go_wp2_with fail
            go_roundw
            case rel => exact ⟨k + 1, q, c, a, gs2, L, by go_num, by omega, rfl, hG2.out.same fs2, hl2.out, hqL.out, hk2.out, hs2.out.same fs2⟩
            case measure => simp [intOf]; omega
          · obtain ⟨z, hzl, rfl, hzS, hst⟩ := hyes.out rfl
            have hold2 := hold.out z hzl hst
            have hnew2 := hnew.out z hzl hst
            clear hnew hold hskp hyes hno
            replace hzl := Lib.hid hzl; replace hzS := Lib.hid hzS; replace hst := Lib.hid hst; replace hold2 := Lib.hid hold2; replace hnew2 := Lib.hid hnew2
            go_upto_region 18 with fail
            have ky := heap_new v8 (.cells #[.slice a8 q8 c8] 31)
            have sP : Same v8 (v8.alloc (.cells #[.slice a8 q8 c8] 31)) := fs2
            generalize v8.alloc (.cells #[.slice a8 q8 c8] 31) = V8 at *
            generalize v8.heap.size = by' at *
            replace hG2 := Lib.hid (hG2.out.same sP)
            replace hs2 := Lib.hid (hs2.out.same sP)
            replace hzS := Lib.hid (hzS.out.same sP)
            clear sP
            have CG := containsG_any gs2 (fun l => decide (l = natI z)) 28 #[.pointer (some ⟨by', 0, none⟩)] a q c V8 hG2.out.gs enter_nsteps1 (by omega) (fun g hg W hW =>
              nsteps1 g.l (natI z) g.a a8 g.l.length q8 g.cap c8 by' W rfl (by rw [natI_len, hzl.out]) ((hG2.out.gs.2 g hg).same hW) (hzS.out.row.same hW) (by
                have h1 : g.l ∈ lst gs2 := List.mem_map.2 ⟨g, hg, rfl⟩
                rw [hl2.out] at h1
                obtain ⟨t, ht, e⟩ := List.mem_map.1 h1
                rw [← e, natI_len, hTm.out t (hNm2.out t ht)]
                omega) (hW.at ky id))
            rw [hl2.out, any_natI] at CG
            replace ky := Lib.hid ky; replace CG := Lib.hid CG
            go_wp2_with fail
            refine CG.out.mono ?_
            rintro e v9 ⟨rfl, sP⟩
            replace hG2 := Lib.hid (hG2.out.same sP)
            replace hs2 := Lib.hid (hs2.out.same sP)
            replace hzS := Lib.hid (hzS.out.same sP)
            replace ky := Lib.hid (sP.at ky.out id)
            clear sP CG
            have hzz := hs2.out.size
            by_cases hin : z ∈ L
            · rw [decide_eq_true hin]
              have hk2 := hold2.out hin
              replace hin := Lib.hid hin; replace hk2 := Lib.hid hk2
              go_wp2_with fail
              go_roundw
              case rel => exact ⟨k + 1, q, c, a, gs2, L, by go_num, by omega, rfl, hG2.out.same fs2, hl2.out, hqL.out, hk2.out, hs2.out.same fs2⟩
              case measure => simp [intOf]; omega
            · rw [decide_eq_false hin]
              have hk2 := hnew2.out hin
              replace hin := Lib.hid hin; replace hk2 := Lib.hid hk2
              have u0 := cell_at ky.out 0
              have ul := lt_of_heap ky.out
              go_wp2_with (at_builtin; refine wpList_append1 rfl (.tmp 86) (.tmp 88) 59 rfl wo.heap.size 31 j3 (.slice none 0 0) 1 24 Tryz.underlying59 hj3 hj3z hj3s hj3b rfl (by decide) (by decide) a q c (gs2.map Grp.v) rfl (owns_same hG2.out.own fs2) (by omega) v9.heap.size [.slice a8 q8 c8] rfl rfl (heap_new _ _) (by simp [Value.oneCell']) (by simp; omega) ?_; intro a6 c6 w6 ho6 hG6; replace ho6 := Lib.hid ho6; replace hG6 := Lib.hid hG6)
              have hv6 : Grp.v ⟨a8, c8, natI z⟩ = .slice a8 q8 c8 := by unfold Grp.v; simp only [natI_len, hzl.out]
              have hWs : Same v9 (v9.alloc (.cells #[.slice a8 q8 c8] 31)) := fs2
              have hG7 := TG.push (g := ⟨a8, c8, natI z⟩) hG2.out hWs (by rw [hv6]; simp only [natI_len, hzl.out]; exact hzS.out.same hWs) (by rw [hv6]; exact ho6.out) hG6.out
              have hs7 : Same wo w6 := grew_fresh (hs2.out.same hWs) hG6.out (fun i hi => (hG2.out.own.lt i hi).1)
              clear ho6 hG6 hv6 hWs u0 ul
              replace hG7 := Lib.hid hG7; replace hs7 := Lib.hid hs7
              go_roundw
              case rel => exact ⟨k + 1, q + 1, c6, a6, _, L ++ [z], by go_num, by omega, rfl, hG7.out, by rw [lst, List.map_append, ← lst, hl2.out, List.map_append]; rfl, by rw [List.length_append, ← hqL.out]; rfl, hk2.out, hs7.out⟩
              case measure => simp [intOf]; omega
        · obtain rfl : k = qE := by omega
          rw [hqE.out, List.take_length] at hNx
          have hqS : SP (j + 1) = S + q := by rw [hSj.out, hqL, hNL.out _ _ hNx]
          have hS9 : S + q ≤ 15625 := by rw [← hqS]; exact hSb2
          have hmL := fun (i : Nat) (hi : i < L.length) => hNm.out x L hNx L[i] (List.getElem_mem hi)
          obtain ⟨wp, rfl⟩ : ∃ wp, wp = wr := ⟨_, rfl⟩
          have hsp := hsw7.out.same hs2
          have hRp := hR.out.same hs2
          have kn9 := hs2.at kn7.out id
          have q19 := (q1.out.same hs.out).same hs2
          replace hG2 := Lib.hid hG2; replace hl2 := Lib.hid hl2; replace hqL := Lib.hid hqL; replace hNx := Lib.hid hNx; replace hs2 := Lib.hid hs2; replace hqS := Lib.hid hqS; replace hmL := Lib.hid hmL; replace hsp := Lib.hid hsp; replace hRp := Lib.hid hRp; replace kn9 := Lib.hid kn9; replace q19 := Lib.hid q19
          go_wp2_with fail
          go_loopw [97] (fun v wr => ∃ i : Nat, v = .int .i64 i ∧ i ≤ q ∧ Same wp wr) (fun v _ => q - (intOf v).toNat)
          case atStart => exact ⟨0, rfl, by omega, Fr.refl _ _⟩
          case round =>
            obtain ⟨i, rfl, hi, hs3⟩ := hrel
            by_cases hiq : i < q
            · have hiL : i < L.length := by rw [← hqL.out]; exact hiq
              have hig : i < gs2.length := by rw [hG2.out.len]; exact hiq
              obtain ⟨b4, o4, rfl, hb4, e0, hR4⟩ := (hG2.out.gs.same hs3).get hig
              have hgl : gs2[i].l = natI L[i] := by
                have h1 := lst_get gs2 hig
                have h2 : (lst gs2)[i]'(by rw [lst_len]; exact hig) = (L.map natI)[i]'(by rw [List.length_map]; exact hiL) := by simp only [hl2.out]
                rw [← h1, h2, List.getElem_map]
              obtain ⟨hzT, hzs⟩ := hmL.out i hiL
              have hzl := hTm.out _ hzT
              have hlm : (natI L[i]).length = m := by rw [natI_len, hzl]
              rw [hgl] at e0 hR4
              rw [hlm] at e0 hR4
              generalize gs2[i].a = g4 at *
              generalize gs2[i].cap = k4 at *
              generalize L[i] = z at *
              have kn4 := hs3.at kn9.out id
              have hw4 := hsp.out.same hs3
              have hx4 := hRp.out.same hs3
              clear hgl hlm
              replace hs3 := Lib.hid hs3; replace hR4 := Lib.hid hR4; replace hzT := Lib.hid hzT; replace hzs := Lib.hid hzs; replace hzl := Lib.hid hzl; replace kn4 := Lib.hid kn4; replace hw4 := Lib.hid hw4; replace hx4 := Lib.hid hx4
              go_upto_region 25 with fail
              have u0 := cell_at kn4.out 0
              have u1 := cell_at kn4.out 1
              have ul := lt_of_heap kn4.out
              clear e0
              refine wp_region_sched (fun k => k = bn) [1, 0, 2, 1, 0, 2, 0, 0] [1, 4, 0, 3, 2, 5, 6, 7] (by kernel_rfl) (by kernel_rfl) ?_
              repeat (first | (refine sched_w rfl rfl (fun _ hK => ?_); go_simp; refine hK _ ?_; clear hK) | (refine sched_s rfl rfl (fun _ hK => ?_); go_simp; first | (refine hK _ ?_; clear hK) | (refine ⟨_, fun _ => rfl, hK _ ?_⟩; clear hK)))
              refine sched_g rfl rfl (fun _ hK => ?_)
              go_simp
              refine (CO.out x hTx.out ga gc _ (hw4.out.same fs3) (hx4.out.same fs3)).mono ?_
              rintro e wu1 ⟨a5, c5, rfl, ho5, s5⟩
              refine hK _ _ (Kp.of_same s5) ?_
              clear hK
              (try simp only [Act.put, List.setIfInBounds_toArray, List.set_cons_zero, List.set_cons_succ])
              have sP := (show Same wr _ from fs3).same s5
              have hA5 := (SliceAt.of_owns ho5).row
              clear s5 ho5
              clear u0 u1 ul
              replace hw4 := Lib.hid (hw4.out.same sP)
              replace hR4 := Lib.hid (hR4.out.same sP)
              have hs5 := hs3.out.same sP
              clear sP kn4
              replace hA5 := Lib.hid hA5; replace hs5 := Lib.hid hs5
              refine sched_g rfl rfl (fun _ hK => ?_)
              go_simp
              refine (CO.out z hzl.out g4 k4 _ (hw4.out.same fs3) (hR4.out.same fs3)).mono ?_
              rintro e wu2 ⟨a6, c6, rfl, ho6, s6⟩
              refine hK _ _ (Kp.of_same s6) ?_
              clear hK
              (try simp only [Act.put, List.setIfInBounds_toArray, List.set_cons_zero, List.set_cons_succ])
              have sP := (show Same wu1 _ from fs3).same s6
              have hA6 := (SliceAt.of_owns ho6).row
              clear s6 ho6
              replace hA5 := Lib.hid (hA5.out.same sP)
              replace hs5 := Lib.hid (hs5.out.same sP)
              clear sP hw4 hR4
              replace hA6 := Lib.hid hA6
              repeat (first | (refine sched_w rfl rfl (fun _ hK => ?_); go_simp; refine hK _ ?_; clear hK) | (refine sched_s rfl rfl (fun _ hK => ?_); go_simp; first | (refine hK _ ?_; clear hK) | (refine ⟨_, fun _ => rfl, hK _ ?_⟩; clear hK)))
              refine sched_nil (NoPanic.normal ?_)
              have sP : Same wu2 wu2 := Fr.refl _ _
              obtain ⟨wq, hwq⟩ : ∃ wq, wq = wu2 := ⟨_, rfl⟩
              have hln := hcl.out x
              have hlz := hcl.out z
              generalize hcx : cl x = A at *
              generalize hcz : cl z = Z at *
              have hzc : ∀ k, zipC A Z (k + 1) = zipC A Z k ++ [A.getD k false, Z.getD k false] := fun k => rfl
              replace hcx := Lib.hid hcx; replace hcz := Lib.hid hcz; replace hzc := Lib.hid hzc; replace hln := Lib.hid hln; replace hlz := Lib.hid hlz
              go_wp2_with fail
              go_loopw [23, 109] (fun v i wr => ∃ (t c : Nat) (a : Option Addr), i = .int .i64 t ∧ t ≤ n ∧ v = .slice a (2 * t) c ∧ wr.ownsRow wu2.heap.size 4 1 (.slice a (2 * t) c) (2 * t) (boolCells (zipC A Z t)) ∧ Same wu2 wr) (fun _ i _ => n - (intOf i).toNat)
              case atStart => exact ⟨0, 0, none, rfl, by omega, rfl, World.ownsRow_nil _ _ _ _, fs2⟩
              case round =>
                obtain ⟨t, c7, a7, rfl, ht, rfl, ho7, hs7⟩ := hrel
                have hz7 := hs7.size
                by_cases htn : t < n
                · obtain ⟨b5, o5, rfl, hb5, e5⟩ := (hA5.out.same hs7).bool3 (k := t) (by rw [hln.out]; exact htn) hln.out
                  obtain ⟨b6, o6, rfl, hb6, e6⟩ := (hA6.out.same hs7).bool3 (k := t) (by rw [hlz.out]; exact htn) hlz.out
                  have hzt := hzc.out t
                  have g5 : A.getD t false = A[t]'(by rw [hln.out]; exact htn) := by simp [List.getD, show t < A.length by rw [hln.out]; exact htn]
                  have g6 : Z.getD t false = Z[t]'(by rw [hlz.out]; exact htn) := by simp [List.getD, show t < Z.length by rw [hlz.out]; exact htn]
                  rw [g5, g6] at hzt
                  generalize A[t]'(by rw [hln.out]; exact htn) = x5 at *
                  generalize Z[t]'(by rw [hlz.out]; exact htn) = x6 at *
                  obtain ⟨T2, hT2⟩ : ∃ T2, T2 = 2 * t := ⟨_, rfl⟩
                  rw [← hT2] at ho7 ⊢
                  have hT9 : T2 ≤ 1000 := by omega
                  clear g5 g6
                  replace ho7 := Lib.hid ho7; replace hs7 := Lib.hid hs7; replace hzt := Lib.hid hzt; replace hT2 := Lib.hid hT2
                  go_upto_region 30 with fail
                  refine wp_region_sched (fun k => k = b5 ∨ k = b6) [0, 0, 0, 0, 1, 0, 0, 0, 1, 2, 3, 0] [0, 1, 2, 3, 5, 6, 7, 4, 8, 9, 10, 11] (by kernel_rfl) (by kernel_rfl) ?_
                  repeat (first | (refine sched_w rfl rfl (fun _ hK => ?_); go_simp; refine hK _ ?_; clear hK) | (refine sched_s rfl rfl (fun _ hK => ?_); go_simp; first | (refine hK _ ?_; clear hK) | (refine ⟨_, fun _ => rfl, hK _ ?_⟩; clear hK)))
                  refine sched_g rfl rfl (fun _ hK => ?_); go_simp; refine hK _ _ (Kp.of_same fs3) ?_; clear hK
                  (try simp only [Act.put, List.setIfInBounds_toArray, List.set_cons_zero, List.set_cons_succ])
                  refine sched_l rfl (by decide) (fun _ hK => ?_)
                  refine step_appN rfl (.tmp 112) (.tmp 121) 65 rfl wu2.heap.size 4 i3 (.bool false) 1 1 Tryz.underlying65 hi3 hi3z hi3s hi3b rfl (by decide) (by decide) (.slice a7 T2 c7) T2 (boolCells (zipC A Z t)) (by go_simp) (owns_same ho7.out fs3) ⟨wr.heap.size, 0, none⟩ 2 2 [.bool x5, .bool x6] (by go_simp) rfl ?_ (by simp [Value.oneCell']) (by omega) (by simp; omega) ?_
                  · intro q u hu
                    match q, hu with
                    | 0, hu => simp at hu; subst hu; exact cell_at (heap_new_at (by simp) _) 0
                    | 1, hu => simp at hu; subst hu; exact cell_at (heap_new_at (by simp) _) 1
                  intro a9 c9 w9 ho9 hG9
                  have hs9 : Same wu2 w9 := grew_fresh (hs7.out.same fs3) hG9 (fun i hi => (ho7.out.lt i hi).1)
                  have hT3 : 2 * (t + 1) = T2 + 2 := by have := hT2.out; omega
                  have ho9' : w9.ownsRow wu2.heap.size 4 1 (.slice a9 (2 * (t + 1)) c9) (2 * (t + 1)) (boolCells (zipC A Z (t + 1))) := by
                    rw [hzt.out, hT3]; simpa [boolCells] using ho9
                  clear ho9 hG9
                  replace hs9 := Lib.hid hs9; replace hT3 := Lib.hid hT3; replace ho9' := Lib.hid ho9'
                  refine hK _ _ ?_; clear hK; try simp only [Act.put, List.setIfInBounds_toArray, List.set_cons_zero, List.set_cons_succ]
                  repeat (first | (refine sched_w rfl rfl (fun _ hK => ?_); go_simp; refine hK _ ?_; clear hK) | (refine sched_s rfl rfl (fun _ hK => ?_); go_simp; first | (refine hK _ ?_; clear hK) | (refine ⟨_, fun _ => rfl, hK _ ?_⟩; clear hK)))
                  refine sched_nil (NoPanic.normal ?_)
                  go_wp2_with fail
                  go_roundw
                  case rel => exact ⟨t + 1, c9, a9, by go_num, by omega, by rw [hT3.out], owns_same ho9'.out fs2, hs9.out.same fs2⟩
                  case measure => simp [intOf]; omega
                · obtain rfl : t = n := by omega
                  have hval : evT n2 tR (fun u => (zipC A Z t).getD u false) = true := by
                    have h1 := hrc.out x z hxT.out hzT.out
                    rw [hcx.out, hcz.out] at h1
                    rw [h1]; exact hzs.out
                  have hR7 := (SliceAt.of_owns ho7).row
                  have h2t : 2 * t = n2 := hn2.out.symm
                  rw [h2t] at hR7 ⊢
                  have q17 := q19.out.same (hs5.out.same hs7)
                  have hs8 := hs5.out.same hs7
                  have VAk := VA.out ⟨n2, a1, c1, L1, r1⟩ (zipC A Z t) (by rw [zipC_len]; exact h2t) a7 c7 wr q17.at' ⟨rfl, q17.tab⟩ hR7
                  rw [hval] at VAk
                  clear hR7 ho7 h2t hval
                  unfold Dg.v at VAk
                  simp only at VAk
                  replace q17 := Lib.hid q17; replace hs8 := Lib.hid hs8; replace VAk := Lib.hid VAk; replace hs7 := Lib.hid hs7
                  have u0 := cell_at q17.out.heap 0
                  have u1 := cell_at q17.out.heap 1
                  have u2 := cell_at q17.out.heap 2
                  have ul := lt_of_heap q17.out.heap
                  go_wp2_with fail
                  refine VAk.out.mono ?_
                  rintro e w9 ⟨rfl, sP⟩
                  clear u0 u1 u2 ul
                  replace hs8 := Lib.hid (hs8.out.same sP)
                  clear sP VAk q17 hs7
                  go_wp2_with fail
                  go_roundw
                  case rel => exact ⟨i + 1, by go_num, by omega, hs8.out⟩
                  case measure => simp [intOf]; omega
            · obtain rfl : i = q := by omega
              have hsv := hs.out.same (hs2.out.same hs3)
              replace hs3 := Lib.hid hs3; replace hsv := Lib.hid hsv
              go_wp2_with fail
              go_roundw
              case rel => exact ⟨j + 1, by go_num, by omega, by rw [hqS.out]; simp, hsv.out⟩
              case measure => simp [intOf]; omega
    · obtain rfl : j = k3 := by omega
      replace hs := Lib.hid hs; replace hsw7 := Lib.hid hsw7
      go_wp2_with fail
      go_ret
      exact ⟨rfl, hs2.out.same hsw7.out⟩
end Go.Proofs.YtknlkcfnfjchdaaGreat
