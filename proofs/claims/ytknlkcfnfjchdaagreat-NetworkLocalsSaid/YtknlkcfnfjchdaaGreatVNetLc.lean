/- package network: Local walked. -/
import Derived.Test.YtknlkcfnfjchdaaGreatVNetT
import Derived.Test.YtknlkcfnfjchdaaGreatVNetC
namespace Go.Proofs.YtknlkcfnfjchdaaGreat
open Go.RowKit
set_option linter.unusedVariables false
set_option linter.unusedSimpArgs false

/-- The states that Local chooses. -/
def locS (N : Nw) (a : Nat) (S : List Nat) (i : Nat) : List Nat := if i = a then S else List.range (N.ns.getD i 0)
theorem enter_Local1 (args : Array Value) (W : World) : (callFunc 114 args).run Tryz.prog W = .ok (.enter 114 args) W := by kernel_rfl
set_option maxRecDepth 100000 in
set_option maxHeartbeats 2000000 in
theorem local1_any (N : Nw) (OK : NetOk N) {i : Nat} (hi : i < N.As.length) (a : Nat) (S : List Nat) (aQ : Option Addr) (qQ cQ : Nat) (hS : S.length = qQ) (ba bq bn : Nat) (w : World) (hat : N.at w)
    (ka : w.heap[ba]? = some (.cells #[.int .i64 a] 3 (0, 0))) (kq : w.heap[bq]? = some (.cells #[.slice aQ qQ cQ] 31 (0, 0)))
    (kn : w.heap[bn]? = some (.cells #[.slice N.aA N.As.length N.cA, .slice N.aO N.o.length N.cO] 36 (0, 0))) (hQ : RowAt w (.slice aQ qQ cQ) qQ (intCells (natI S))) :
    Calls Tryz.prog 114 #[.int .i64 i, .pointer (some ⟨ba, 0, none⟩), .pointer (some ⟨bq, 0, none⟩), .pointer (some ⟨bn, 0, none⟩)] w fun e w' => ∃ a' c, e = .returned (.slice a' (locS N a S i).length c) ∧ RowAt w' (.slice a' (locS N a S i).length c) (locS N a S i).length (intCells (natI (locS N a S i))) ∧ Same w w' := by
  have hm12 := OK.ok.m12
  unfold locS
  have c0 := cell_at ka 0
  have cl := lt_of_heap ka
  by_cases hia : i = a
  · subst hia
    simp only [if_pos rfl]
    have d0 := cell_at kq 0
    have dl := lt_of_heap kq
    clear ka kq kn hat OK
    subst hS
    generalize N.As.length = m at *
    replace hQ := Lib.hid hQ
    go_enter Tryz.func114, Tryz.ntmps114
    go_wp2_with fail
    go_ret
    exact ⟨_, _, rfl, hQ.out, Fr.refl _ _⟩
  · simp only [if_neg hia]
    obtain ⟨b, off, h1, h2, h3, h4, h5, h6⟩ := hat.au.row hi
    rw [(OK.ok.n4 hi).2] at h4
    have hn4 := (OK.ok.n4 hi).1
    have SQ := fun W => sequence_any 0 (N.ns.getD i 0) W (by omega) (by omega)
    rw [gL_id] at SQ
    rw [List.length_range]
    generalize N.ns.getD i 0 = x at *
    clear hat OK h3 h5 h6 hQ kq ka
    generalize N.As.length = m at *
    generalize N.o.length = qo at *
    generalize N.aA = aA at *
    generalize N.cA = cA at *
    generalize N.aO = aO at *
    generalize N.cO = cO at *
    subst h1
    replace SQ := Lib.hid SQ; replace kn := Lib.hid kn
    go_enter Tryz.func114, Tryz.ntmps114
    have y0 := cell_at kn.out 0
    have y1 := cell_at kn.out 1
    have yl := lt_of_heap kn.out
    go_wp2_with fail
    refine (SQ.out _).mono ?_
    rintro e w1 ⟨a', c', rfl, ho, hs⟩
    have hr := (SliceAt.of_owns ho).row
    clear y0 y1 yl
    clear c0 cl h2 h4
    replace hr := Lib.hid hr; replace hs := Lib.hid hs
    go_wp2_with fail
    go_ret
    exact ⟨_, _, rfl, hr.out, hs.out⟩

set_option maxRecDepth 100000 in
set_option maxHeartbeats 8000000 in
theorem Local_net (N : Nw) (OK : NetOk N) (a : Int) (Q : List Int) (aQ : Option Addr) (qQ cQ : Nat) (hq : Q.length = qQ) (hq9 : qQ ≤ 1000) (w : World) (hat : N.at w) (hQ : RowAt w (.slice aQ qQ cQ) qQ (intCells Q)) (E : Int) (T : List Bool)
    (hE : (a < 0 ∨ (N.As.length : Int) ≤ a) ∧ E = 10 ∨ ∃ k : Nat, a = k ∧ k < N.As.length ∧ E = renErr (N.ns.getD k 0 : Nat) Q Q.length 0 ∧ (E = 0 → ∃ S : List Nat, Q = natI S ∧ T = N.set (N.chosen (locS N k S)))) :
    Calls Tryz.prog 55 #[.agg #[.slice N.aA N.As.length N.cA, .slice N.aO N.o.length N.cO], .int .i64 a, .slice aQ qQ cQ] w (DgE E N.all T w) := by
  have h10 := OK.h10
  have PL := fun W (hW : Same w W) => OK.place W (hat.same hW)
  have CS := fun (k : Nat) W (hW : Same w W) => checkSet_any (N.ns.getD k 0 : Nat) Q aQ cQ W (by omega) (by rw [hq]; exact hQ.same hW)
  rw [hq] at CS
  have hR : ∀ (k : Nat) (hk : k < N.As.length) W (hW : Same w W), ∃ b off, N.aA = some ⟨b, off, none⟩ ∧ b < W.heap.size ∧ W.cell? ⟨b, off + k * 4 + 1, none⟩ = some (.int .i64 ((N.ns.getD k 0 : Nat) : Int)) := fun k hk W hW => by
    obtain ⟨b, off, h1, h2, h3, h4, h5, h6⟩ := (hat.au.same hW).row hk
    rw [(OK.ok.n4 hk).2] at h4
    exact ⟨b, off, h1, h2, h4⟩
  have VA := fun (k : Nat) (S : List Nat) (hk : k < N.As.length) (hS : Q = natI S) (h0 : renErr (N.ns.getD k 0 : Nat) Q Q.length 0 = 0) aT aB cT cB (ba bq bn : Nat) W (hW : Same w W) (hly : LyAt N aT aB cT cB W)
      (ka : W.heap[ba]? = some (.cells #[.int .i64 k] 3 (0, 0))) (kq : W.heap[bq]? = some (.cells #[.slice aQ qQ cQ] 31 (0, 0)))
      (kn : W.heap[bn]? = some (.cells #[.slice N.aA N.As.length N.cA, .slice N.aO N.o.length N.cO] 36 (0, 0))) =>
    choose_any N OK.ok (by omega) 114 #[.pointer (some ⟨ba, 0, none⟩), .pointer (some ⟨bq, 0, none⟩), .pointer (some ⟨bn, 0, none⟩)] (locS N k S) aT aB cT cB W (hat.same hW) hly enter_Local1
      (fun _ i hi => by
        unfold locS
        by_cases hik : i = k
        · subst hik
          rw [if_pos rfl]
          exact ⟨by have : (natI S).length = qQ := by rw [← hS, hq]
                    rw [natI_len] at this; omega, by rw [← hS]; exact h0⟩
        · rw [if_neg hik]
          refine ⟨by rw [List.length_range]; have := OK.ns64 hi; omega, range_err _⟩)
      (fun _ i hi W' hW' => local1_any N OK hi k S aQ qQ cQ (by rw [← hq, hS, natI_len]) ba bq bn W' (hat.same (hW.same hW')) (hW'.at ka id) (hW'.at kq id) (hW'.at kn id) (by have := hQ.same (hW.same hW'); rw [hS] at this; exact this))
  clear hat OK hQ h10
  obtain ⟨nf, hnf⟩ : ∃ f : Nat → Nat, f = fun k => N.ns.getD k 0 := ⟨_, rfl⟩
  have hnf' : ∀ k, N.ns.getD k 0 = nf k := fun k => by rw [hnf]
  simp only [hnf'] at CS hR VA hE
  clear hnf hnf'
  obtain ⟨ch, hch⟩ : ∃ f : Nat → List Nat → List Bool, f = fun k S => N.set (N.chosen (locS N k S)) := ⟨_, rfl⟩
  have hch' : ∀ k S, N.set (N.chosen (locS N k S)) = ch k S := fun k S => by rw [hch]
  simp only [hch'] at VA hE
  clear hch hch'
  have hq' := Lib.hid hq
  clear hq
  generalize N.all = n at *
  generalize N.emp = em at *
  generalize N.As.length = m at *
  generalize N.o.length = qo at *
  generalize N.aA = aA at *
  generalize N.cA = cA at *
  generalize N.aO = aO at *
  generalize N.cO = cO at *
  replace PL := Lib.hid PL; replace VA := Lib.hid VA; replace CS := Lib.hid CS; replace hR := Lib.hid hR
  go_enter Tryz.func55, Tryz.ntmps55
  go_upto_region 1 with fail
  have kn := heap_old (heap_old (heap_old (heap_new w (.cells #[.slice aA m cA, .slice aO qo cO] 36)) (.cells #[.int .i64 a] 3)) (.cells #[.slice aQ qQ cQ] 31)) (.cells #[.int .i64 0, .slice none 0 0, .int .i64 0] 54)
  have ka := heap_old (heap_old (heap_new (w.alloc (.cells #[.slice aA m cA, .slice aO qo cO] 36)) (.cells #[.int .i64 a] 3)) (.cells #[.slice aQ qQ cQ] 31)) (.cells #[.int .i64 0, .slice none 0 0, .int .i64 0] 54)
  have kq := heap_old (heap_new ((w.alloc (.cells #[.slice aA m cA, .slice aO qo cO] 36)).alloc (.cells #[.int .i64 a] 3)) (.cells #[.slice aQ qQ cQ] 31)) (.cells #[.int .i64 0, .slice none 0 0, .int .i64 0] 54)
  have kr := heap_new (((w.alloc (.cells #[.slice aA m cA, .slice aO qo cO] 36)).alloc (.cells #[.int .i64 a] 3)).alloc (.cells #[.slice aQ qQ cQ] 31)) (.cells #[.int .i64 0, .slice none 0 0, .int .i64 0] 54)
  simp only [← al1] at ka kq kr
  have hs : Same w ((((w.alloc (.cells #[.slice aA m cA, .slice aO qo cO] 36)).alloc (.cells #[.int .i64 a] 3)).alloc (.cells #[.slice aQ qQ cQ] 31)).alloc (.cells #[.int .i64 0, .slice none 0 0, .int .i64 0] 54)) := fs3
  generalize (((w.alloc (.cells #[.slice aA m cA, .slice aO qo cO] 36)).alloc (.cells #[.int .i64 a] 3)).alloc (.cells #[.slice aQ qQ cQ] 31)).alloc (.cells #[.int .i64 0, .slice none 0 0, .int .i64 0] 54) = W0 at *
  obtain ⟨bn, hbn⟩ : ∃ b, b = w.heap.size := ⟨_, rfl⟩
  rw [← hbn] at kn ka kq kr ⊢
  obtain ⟨ba, hba⟩ : ∃ b, b = bn + 1 := ⟨_, rfl⟩
  rw [← hba] at ka kq kr ⊢
  obtain ⟨bq, hbq⟩ : ∃ b, b = ba + 1 := ⟨_, rfl⟩
  rw [← hbq] at kq kr ⊢
  obtain ⟨br, hbr⟩ : ∃ b, b = bq + 1 := ⟨_, rfl⟩
  rw [← hbr] at kr ⊢
  have hbw : w.heap.size ≤ br := by omega
  clear hbn hba hbq hbr
  replace kn := Lib.hid kn; replace ka := Lib.hid ka; replace kq := Lib.hid kq; replace kr := Lib.hid kr; replace hs := Lib.hid hs; replace hE := Lib.hid hE
  have y0 := cell_at kn.out 0
  have y1 := cell_at kn.out 1
  have yl := lt_of_heap kn.out
  go_wp2_with fail
  refine (PL.out _ hs.out).mono ?_
  rintro e w1 ⟨aT, aB, cT, cB, rfl, hly, s1⟩
  clear y0 y1 yl
  replace kn := Lib.hid (s1.at kn.out id)
  replace ka := Lib.hid (s1.at ka.out id)
  replace kq := Lib.hid (s1.at kq.out id)
  replace kr := Lib.hid (s1.at kr.out id)
  replace hs := Lib.hid (hs.out.same s1)
  clear s1
  replace hly := Lib.hid hly
  go_upto_region 2 with fail
  have s2 : Same w1 (w1.alloc (.cells #[.slice aT m cT, .slice aB m cB, .int .i64 n, .bool em] 124)) := fs2
  have kl := heap_new w1 (.cells #[.slice aT m cT, .slice aB m cB, .int .i64 n, .bool em] 124)
  replace hly := Lib.hid (hly.out.same s2)
  replace kn := Lib.hid (s2.at kn.out id)
  replace ka := Lib.hid (s2.at ka.out id)
  replace kq := Lib.hid (s2.at kq.out id)
  replace kr := Lib.hid (s2.at kr.out id)
  replace hs := Lib.hid (hs.out.same s2)
  clear s2
  generalize w1.alloc (.cells #[.slice aT m cT, .slice aB m cB, .int .i64 n, .bool em] 124) = W1 at *
  generalize w1.heap.size = bl at *
  replace kl := Lib.hid kl
  have x0 := cell_at kl.out 0
  have x1 := cell_at kl.out 1
  have x2 := cell_at kl.out 2
  have x3 := cell_at kl.out 3
  have xl := lt_of_heap kl.out
  have y0 := cell_at kn.out 0
  have y1 := cell_at kn.out 1
  have yl := lt_of_heap kn.out
  have a0 := cell_at ka.out 0
  have al := lt_of_heap ka.out
  rcases hE.out with ⟨h1, rfl⟩ | ⟨k, rfl, hk, hEe, hT⟩
  · have hcase : (a < 0) = True ∨ (a < 0) = False ∧ ((m : Int) ≤ a) = True := by
      rcases (show a < 0 ∨ 0 ≤ a by omega) with h | h
      · exact Or.inl (eq_true h)
      · exact Or.inr ⟨eq_false (by omega), eq_true (by omega)⟩
    replace h1 := Lib.hid h1
    rcases hcase with hc | ⟨hc, hd⟩
    · obtain ⟨x0, x1, x2, z0, z1, z2, xl⟩ := box_facts kr.out
      go_wp2_with fail
      obtain ⟨d0, d1, d2, hsF⟩ := dg_zeroed hs.out (hbw) kr.out
      refine bodyPost_ret (v := .tuple #[.agg #[.int .i64 0, .slice none 0 0, .int .i64 0], .int .i64 (10)]) (by simp [results, Tryz.results55, go_sem, d0, d1, d2]) rfl ?_
      exact .inl ⟨by decide, rfl, hsF⟩
    · obtain ⟨x0, x1, x2, z0, z1, z2, xl⟩ := box_facts kr.out
      go_wp2_with fail
      obtain ⟨d0, d1, d2, hsF⟩ := dg_zeroed hs.out (hbw) kr.out
      refine bodyPost_ret (v := .tuple #[.agg #[.int .i64 0, .slice none 0 0, .int .i64 0], .int .i64 (10)]) (by simp [results, Tryz.results55, go_sem, d0, d1, d2]) rfl ?_
      exact .inl ⟨by decide, rfl, hsF⟩
  · obtain ⟨b0, off0, rfl, hb0, c1⟩ := hR.out k hk _ hs.out
    have CSk := fun W hW => CS.out k W hW
    obtain ⟨er, her⟩ : ∃ e, e = renErr (nf k : Nat) Q qQ 0 := ⟨_, rfl⟩
    simp only [← her] at CSk
    rw [hq'.out, ← her] at hEe
    subst hEe
    have VAk := fun S h1 h2 => VA.out k S hk h1 h2
    rw [hq'.out, ← her] at VAk
    generalize hnk : nf k = nk at *
    have hk0 : ((k : Int) < 0) = False := by simp
    have hkm : ((m : Int) ≤ (k : Int)) = False := by simp; omega
    have hkm2 : ¬ m ≤ k := by omega
    replace CSk := Lib.hid CSk; replace VAk := Lib.hid VAk; replace hT := Lib.hid hT; replace her := Lib.hid her; replace hnk := Lib.hid hnk
    go_upto_region 6 with fail
    refine wp_region_sched (fun q => q = bn ∨ q = ba ∨ q = bq ∨ q = b0) [1, 0, 1, 1, 0, 0, 1, 3, 0] [1, 0, 2, 3, 4, 5, 6, 7, 8] (by kernel_rfl) (by kernel_rfl) ?_
    have q0 := cell_at kq.out 0
    have ql := lt_of_heap kq.out
    repeat (first | (refine sched_w rfl rfl (fun _ hK => ?_); go_simp; refine hK _ ?_; clear hK) | (refine sched_s rfl rfl (fun _ hK => ?_); go_simp; first | (refine hK _ ?_; clear hK) | (refine ⟨_, fun _ => rfl, hK _ ?_⟩; clear hK)))
    refine sched_l rfl (by decide) (fun _ hK => ?_)
    go_simp
    refine (CSk.out _ (hs.out.same fs3)).mono ?_
    rintro e w' ⟨rfl, rfl⟩
    refine hK _ _ ?_
    clear hK
    (try simp only [Act.put, List.setIfInBounds_toArray, List.set_cons_zero, List.set_cons_succ])
    repeat (first | (refine sched_w rfl rfl (fun _ hK => ?_); go_simp; refine hK _ ?_; clear hK) | (refine sched_s rfl rfl (fun _ hK => ?_); go_simp; first | (refine hK _ ?_; clear hK) | (refine ⟨_, fun _ => rfl, hK _ ?_⟩; clear hK)))
    refine sched_nil (NoPanic.normal ?_)
    have s2 : Same W1 W1.drew := fs3
    replace kn := Lib.hid (s2.at kn.out id)
    replace ka := Lib.hid (s2.at ka.out id)
    replace kq := Lib.hid (s2.at kq.out id)
    replace kr := Lib.hid (s2.at kr.out id)
    replace kl := Lib.hid (s2.at kl.out id)
    replace hly := Lib.hid (hly.out.same s2)
    replace hs := Lib.hid (hs.out.same s2)
    clear s2
    generalize W1.drew = W2 at *
    clear y0 y1 yl
    clear a0 al q0 ql c1 hb0
    by_cases h0 : E = 0
    · subst h0
      obtain ⟨S, hS1, hS2⟩ := hT.out rfl
      subst hS2
      replace hS1 := Lib.hid hS1
      have x0 := cell_at kl.out 0
      have x1 := cell_at kl.out 1
      have x2 := cell_at kl.out 2
      have x3 := cell_at kl.out 3
      have xl := lt_of_heap kl.out
      have y0 := cell_at kn.out 0
      have y1 := cell_at kn.out 1
      have yl := lt_of_heap kn.out
      go_wp2_with fail
      refine (VAk.out S hS1.out (by trivial) _ _ _ _ _ _ _ _ hs.out hly.out ka.out kq.out kn.out).mono ?_
      intro e w3 hM
      obtain ⟨a3, c3, L3, r3, rfl, d3, tt3, s3⟩ := hM.open
      clear x0 x1 x2 x3 xl
      clear y0 y1 yl
      replace kr := Lib.hid (s3.at kr.out id)
      have hs3 := hs.out.same s3
      clear hM s3
      replace d3 := Lib.hid d3; replace tt3 := Lib.hid tt3; replace hs3 := Lib.hid hs3
      obtain ⟨x0, x1, x2, z0, z1, z2, xl⟩ := box_facts kr.out
      go_wp2_with fail
      obtain ⟨q0, q1, q2, hdF, hsF⟩ := dg_stored hs3.out (by omega) (d := ⟨n, a3, c3, L3, r3⟩) d3.out kr.out
      refine bodyPost_ret (v := .tuple #[.agg #[.int .i64 n, .slice a3 L3.length c3, .int .i64 r3], .int .i64 0]) (by simp [results, Tryz.results55, go_sem, q0, q1, q2]) rfl ?_
      exact .inr ⟨rfl, _, rfl, hdF, ⟨rfl, tt3.out⟩, hsF⟩
    · have hb : (E != 0) = true := by simpa using h0
      replace h0 := Lib.hid h0
      obtain ⟨x0, x1, x2, z0, z1, z2, xl⟩ := box_facts kr.out
      go_wp2_with fail
      obtain ⟨d0, d1, d2, hsF⟩ := dg_zeroed hs.out (hbw) kr.out
      refine bodyPost_ret (v := .tuple #[.agg #[.int .i64 0, .slice none 0 0, .int .i64 0], .int .i64 (E)]) (by simp [results, Tryz.results55, go_sem, d0, d1, d2]) rfl ?_
      exact .inl ⟨h0.out, rfl, hsF⟩
end Go.Proofs.YtknlkcfnfjchdaaGreat
