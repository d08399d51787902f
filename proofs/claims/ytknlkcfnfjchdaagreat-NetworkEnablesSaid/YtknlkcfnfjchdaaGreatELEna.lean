/- NetworkEnables walked. The law of package network: possible walked. -/
import Derived.Test.YtknlkcfnfjchdaaGreatELStpM
import Derived.Test.YtknlkcfnfjchdaaGreatELIs
namespace Go.Proofs.YtknlkcfnfjchdaaGreat
open Go.RowKit
set_option linter.unusedVariables false
set_option linter.unusedSimpArgs false

theorem tup_lt {N : Nw} {x : List Nat} (hx : x ∈ tupsF N.ns) : x.length = N.As.length ∧ ∀ i (hi : i < N.As.length), x.getD i 0 < N.As[i].n.toNat := by
  obtain ⟨h1, h2⟩ := tups_iff.1 hx
  refine ⟨by rw [h1, N.ns_len], fun i hi => ?_⟩
  have := okT_iff.1 h2 i (by rw [N.ns_len]; exact hi)
  rw [N.ns_get hi] at this
  exact this
/-- Whether an event is possible in a tuple. -/
def pos1 (N : Nw) (x : List Nat) (e : Int) : Bool := (tupsF N.ns).any fun y => stepB N.As e x y
def posB (N : Nw) (E : List Int) (x : List Nat) : Bool := E.any (pos1 N x)
theorem StE.pos {N : Nw} (OK : NwOk N) {e : Int} {x : List Nat} {w w' : World} {E : Ending} (h : StE N e x w E w') : ∃ a q c, E = .returned (.tuple #[.slice a q c, .bool (pos1 N x e)]) ∧ Same w w' := by
  obtain ⟨a, q, c, b, rfl, hs, h1, h2⟩ := h
  have hb : b = pos1 N x e := by
    unfold pos1
    cases b with
    | true =>
      obtain ⟨y, hy, _, _, hst⟩ := h1 rfl
      exact (List.any_eq_true.2 ⟨y, tups_iff.2 ⟨by rw [hy, N.ns_len], (stepB_ok OK hst).2⟩, hst⟩).symm
    | false =>
      refine (List.any_eq_false.2 (fun y _ => ?_)).symm
      rw [h2 rfl y]; simp
  exact ⟨a, q, c, by rw [hb], hs⟩

set_option maxRecDepth 100000 in
set_option maxHeartbeats 4000000 in
theorem lpos13 (N : Nw) (OK : NwOk N) (hz : ∀ A ∈ N.As, A.small) (x : List Nat) (hx : x ∈ tupsF N.ns) (E : List Int) (aX : Option Addr) (cX : Nat) (aE : Option Addr) (qE cE : Nat) (w : World) (hat : N.at w) (hX : RowAt w (.slice aX N.As.length cX) N.As.length (intCells (natI x))) (hqE : E.length = qE) (hE : RowAt w (.slice aE qE cE) qE (intCells E)) (hq9 : qE ≤ 1000) :
    Calls Tryz.prog 47 #[.agg #[.slice N.aA N.As.length N.cA, .slice N.aO N.o.length N.cO], .slice aX N.As.length cX, .slice aE qE cE] w fun e w' => e = .returned (.bool (posB N E x)) ∧ Same w w' := by
  have ST := fun (e : Int) W (hW : Same w W) => (lstep13 N OK hz e x (tup_lt hx).1 (tup_lt hx).2 aX cX W (hat.same hW) (hX.same hW)).mono (fun E w' h => h.pos OK)
  have her := fun (k : Nat) (hk : k < qE) W (hW : Same w W) => (hE.same hW).ints hk
  have hst : ∀ k, k < qE → (E.take (k + 1)).any (pos1 N x) = ((E.take k).any (pos1 N x) || pos1 N x (toF E k)) := fun k hk => by
    rw [List.take_succ_eq_append_getElem (by rw [hqE]; exact hk), List.any_append]
    simp [toF, List.getD, show k < E.length by rw [hqE]; exact hk]
  have hyes : ∀ k, k < qE → pos1 N x (toF E k) = true → E.any (pos1 N x) = true := fun k hk h => List.any_eq_true.2 ⟨toF E k, by
    have e : toF E k = E[k]'(by rw [hqE]; exact hk) := by simp [toF, List.getD, show k < E.length by rw [hqE]; exact hk]
    rw [e]; exact List.getElem_mem _, h⟩
  have hend : (E.take qE).any (pos1 N x) = E.any (pos1 N x) := by rw [List.take_of_length_le (by omega)]
  unfold posB
  generalize pos1 N x = P at *
  clear hat hX hE hz hqE OK hx
  generalize N.As.length = m at *
  generalize N.o.length = qo at *
  generalize N.aA = aA at *
  generalize N.cA = cA at *
  generalize N.aO = aO at *
  generalize N.cO = cO at *
  replace ST := Lib.hid ST; replace her := Lib.hid her; replace hst := Lib.hid hst; replace hyes := Lib.hid hyes; replace hend := Lib.hid hend
  go_enter Tryz.func47, Tryz.ntmps47
  go_upto_region 1 with fail
  have kn := heap_new w (.cells #[.slice aA m cA, .slice aO qo cO] 36)
  have s0 : Same w (w.alloc (.cells #[.slice aA m cA, .slice aO qo cO] 36)) := fs2
  generalize w.alloc (.cells #[.slice aA m cA, .slice aO qo cO] 36) = W0 at *
  generalize w.heap.size = bn at *
  replace kn := Lib.hid kn; replace s0 := Lib.hid s0
  go_wp2_with fail
  go_loopw [13] (fun i wr => ∃ k : Nat, i = .int .i64 k ∧ k ≤ qE ∧ (E.take k).any P = false ∧ Same W0 wr) (fun i _ => qE - (intOf i).toNat)
  case atStart => exact ⟨0, rfl, by omega, rfl, Fr.refl _ _⟩
  case round =>
    obtain ⟨k, rfl, hk, hno, hs⟩ := hrel
    have hsw := s0.out.same hs
    by_cases hkq : k < qE
    · obtain ⟨b, off, rfl, hb, c0⟩ := her.out k hkq _ hsw
      have hstk := hst.out k hkq
      have hyk := hyes.out k hkq
      have kn2 := hs.at kn.out id
      generalize toF E k = e at *
      have STe := ST.out e
      generalize hpe : P e = r at *
      replace hno := Lib.hid hno; replace hs := Lib.hid hs; replace hsw := Lib.hid hsw; replace hstk := Lib.hid hstk; replace hyk := Lib.hid hyk; replace kn2 := Lib.hid kn2; replace STe := Lib.hid STe; replace hpe := Lib.hid hpe
      have x0 := cell_at kn2.out 0
      have x1 := cell_at kn2.out 1
      have xl := lt_of_heap kn2.out
      go_wp2_with fail
      refine (STe.out _ hsw.out).mono ?_
      rintro e2 w2 ⟨a2, q2, c2, rfl, sP⟩
      clear x0 x1 xl
      clear c0
      have hs2 := hs.out.same sP
      have hsw2 := hsw.out.same sP
      clear sP
      replace hs2 := Lib.hid hs2; replace hsw2 := Lib.hid hsw2
      cases r
      · go_wp2_with fail
        go_roundw
        case rel => exact ⟨k + 1, by go_num, by omega, by rw [hstk.out, hno.out]; rfl, hs2.out⟩
        case measure => simp [intOf]; omega
      · have hr := hyk.out rfl
        replace hr := Lib.hid hr
        go_wp2_with fail
        go_ret
        exact ⟨by rw [hr.out]; try rfl, hsw2.out⟩
    · obtain rfl : k = qE := by omega
      have hr : E.any P = false := by rw [← hend.out]; exact hno
      replace hno := Lib.hid hno; replace hs := Lib.hid hs; replace hsw := Lib.hid hsw; replace hr := Lib.hid hr
      go_wp2_with fail
      go_ret
      exact ⟨by rw [hr.out]; try rfl, hsw.out⟩
set_option maxRecDepth 100000 in
theorem enables1 (N : Nw) (OK : NwOk N) (hz : ∀ A ∈ N.As, A.small) (x : List Nat) (hx : x ∈ tupsF N.ns) (E : List Int) (aX : Option Addr) (cX : Nat) (aE : Option Addr) (qE cE bn be : Nat) (w : World) (hat : N.at w) (hX : RowAt w (.slice aX N.As.length cX) N.As.length (intCells (natI x))) (hqE : E.length = qE) (hE : RowAt w (.slice aE qE cE) qE (intCells E)) (hq9 : qE ≤ 1000)
    (kn : w.heap[bn]? = some (.cells #[.slice N.aA N.As.length N.cA, .slice N.aO N.o.length N.cO] 36 (0, 0))) (ke : w.heap[be]? = some (.cells #[.slice aE qE cE] 31 (0, 0))) :
    Calls Tryz.prog 46 #[.slice aX N.As.length cX, .pointer (some ⟨bn, 0, none⟩), .pointer (some ⟨be, 0, none⟩)] w fun e w' => e = .returned (.bool (posB N E x)) ∧ Same w w' := by
  have PO := fun W (hW : Same w W) => lpos13 N OK hz x hx E aX cX aE qE cE W (hat.same hW) (hX.same hW) hqE (hE.same hW) hq9
  clear hat hX hE hz OK
  generalize posB N E x = r at *
  generalize N.As.length = m at *
  generalize N.o.length = qo at *
  generalize N.aA = aA at *
  generalize N.cA = cA at *
  generalize N.aO = aO at *
  generalize N.cO = cO at *
  replace PO := Lib.hid PO; replace kn := Lib.hid kn; replace ke := Lib.hid ke
  go_enter Tryz.func46, Tryz.ntmps46
  have x0 := cell_at kn.out 0
  have x1 := cell_at kn.out 1
  have xl := lt_of_heap kn.out
  have y0 := cell_at ke.out 0
  have yl := lt_of_heap ke.out
  go_wp2_with fail
  refine (PO.out _ (Fr.refl _ _)).mono ?_
  rintro e w2 ⟨rfl, sP⟩
  clear x0 x1 xl
  clear y0 yl
  replace sP := Lib.hid sP
  go_wp2_with fail
  go_ret
  exact ⟨rfl, sP.out⟩
theorem enter_enables1 (args : Array Value) (W : World) : (callFunc 46 args).run Tryz.prog W = .ok (.enter 46 args) W := by kernel_rfl
/-- Enabled's table is that of possible. -/
theorem enabled_set {N : Nw} (OK : NwOk N) (E : List Int) : ∃ F, Sup N.ns F ∧ imT N.all 1 (N.rel (stepsB N.As E)) (N.set (okT N.ns)) = N.set F ∧ ∀ x ∈ tupsF N.ns, F x = posB N E x := by
  refine ⟨imG 1 N.As N.ns E (okT N.ns), imG_sup OK 1 E _, im_set OK (by omega) E _, fun x hx => Bool.eq_iff_iff.2 ⟨fun hh => ?_, fun hh => ?_⟩⟩
  · obtain ⟨y, hy, hb⟩ := List.any_eq_true.1 hh
    simp only [Nat.one_ne_zero, ↓reduceIte, Bool.and_eq_true] at hb
    obtain ⟨e, he, h1⟩ := List.any_eq_true.1 hb.1
    exact List.any_eq_true.2 ⟨e, he, List.any_eq_true.2 ⟨y, hy, h1⟩⟩
  · obtain ⟨e, he, h1⟩ := List.any_eq_true.1 hh
    obtain ⟨y, hy, h2⟩ := List.any_eq_true.1 h1
    refine List.any_eq_true.2 ⟨y, hy, ?_⟩
    simp only [Nat.one_ne_zero, ↓reduceIte, Bool.and_eq_true]
    exact ⟨List.any_eq_true.2 ⟨e, he, h2⟩, (tups_iff.1 hy).2⟩

theorem GrpN.tl {N : Nw} (h : GrpN N) : ∀ i, i ≤ N.As.length → (tupsF (N.ns.take i)).length ≤ 100000 := fun i _ => by
  have h1 := tups_len (N.ns.take i) 5 (fun n hn => by
    have hm := List.mem_of_mem_take hn
    obtain ⟨j, hj, rfl⟩ := List.mem_iff_getElem.1 hm
    have := h.grp.ns j
    simpa [List.getD, hj] using this)
  have h2 : (N.ns.take i).length ≤ 3 := by rw [List.length_take, N.ns_len]; have := h.m3; omega
  have h3 : 5 ^ (N.ns.take i).length ≤ 5 ^ 3 := Nat.pow_le_pow_right (by omega) h2
  have : (5 : Nat) ^ 3 = 125 := by decide
  omega
theorem GrpN.t1000 {N : Nw} (h : GrpN N) : ∀ A ∈ N.As, A.n ≤ 1000 := fun A hA => by have := h.grp.n5 A hA; omega

set_option maxRecDepth 100000 in
set_option maxHeartbeats 16000000 in
theorem enables_any (B : List Nat) (h86 : B.length = 86) (hB : ∀ y ∈ B, y < 256) (E : List Int) (aE : Option Addr) (cE : Nat) (w : World) (hE : RowAt w (.slice aE E.length cE) E.length (intCells E)) :
    Calls Tryz.prog 8 #[.agg (bytC B).toArray, .slice aE E.length cE] w fun e w' => e = .returned (.bool true) ∧ Same w w' := by
  have KN := fun W => known13_any W
  have MK := fun W => Make13_any B h86 hB 3 (by omega) W
  obtain ⟨cs, hcs⟩ : ∃ cs, cs = (bytC B).toArray := ⟨_, rfl⟩
  have hsz : cs.size = 86 := by rw [hcs]; simp [bytC, h86]
  rw [← hcs] at MK ⊢
  clear hB
  obtain ⟨qE, hqE⟩ : ∃ q, q = E.length := ⟨_, rfl⟩
  rw [← hqE] at hE ⊢
  replace KN := Lib.hid KN; replace MK := Lib.hid MK; replace hsz := Lib.hid hsz; replace hcs := Lib.hid hcs; replace hE := Lib.hid hE; replace hqE := Lib.hid hqE
  go_enter Tryz.func8, Tryz.ntmps8
  go_upto_region 1 with fail
  have kg := heap_old (heap_new w (.cells cs 30)) (.cells #[.slice aE qE cE] 31)
  have ke := heap_new (w.alloc (.cells cs 30)) (.cells #[.slice aE qE cE] 31)
  have s0 : Same w ((w.alloc (.cells cs 30)).alloc (.cells #[.slice aE qE cE] 31)) := fs2
  rw [← al1] at ke
  generalize (w.alloc (.cells cs 30)).alloc (.cells #[.slice aE qE cE] 31) = W0 at *
  obtain ⟨bg, hbg⟩ : ∃ b, b = w.heap.size := ⟨_, rfl⟩
  rw [← hbg] at kg ke ⊢
  replace kg := Lib.hid kg; replace ke := Lib.hid ke; replace s0 := Lib.hid s0; replace hbg := Lib.hid hbg
  go_wp2_with fail
  refine (KN.out _).mono ?_
  rintro e w1 ⟨rfl, s1⟩
  replace kg := Lib.hid (s1.at kg.out id)
  replace ke := Lib.hid (s1.at ke.out id)
  have hs1 := s0.out.same s1
  clear s1 s0
  replace hs1 := Lib.hid hs1
  have x0 := cell_at ke.out 0
  have xl := lt_of_heap ke.out
  by_cases h8 : 8 < qE
  · have h8i : (8 : Int) < qE := by omega
    go_wp2_with fail
    refine (KN.out _).mono ?_
    rintro e w2 ⟨rfl, s2⟩
    have hs2 := hs1.out.same s2
    clear s2 x0 xl
    replace hs2 := Lib.hid hs2
    go_wp2_with fail
    go_ret
    exact ⟨rfl, hs2.out⟩
  have h8i : ((8 : Int) < qE) = False := by simp; omega
  go_upto_region 3 with fail
  clear x0 xl h8i
  refine wp_region_lit ?_
  refine wpList_load_row rfl 30 (.tmp 2) rfl bg 0 rfl cs.toList _ (by have := range_row kg.out 0 86; rw [List.drop_zero, List.take_of_length_le (by simp [hsz.out])] at this; exact this) Tryz.underlying30 rfl (by rw [infoGp13]; simp [hsz.out]) ?_
  (try simp only [Act.put, List.setIfInBounds_toArray, List.set_cons_zero, List.set_cons_succ])
  refine wpList_step (fun K hK => ?_)
  go_simp
  refine (MK.out _).mono ?_
  rintro e w2 ⟨N, rfl, hat, hmd, s2⟩
  have hG := hmd.grp (by omega)
  replace ke := Lib.hid (s2.at ke.out id)
  have hs2 := hs1.out.same s2
  have hE2 := hE.out.same hs2
  clear s2 hs1 MK hmd kg
  refine hK _ _ ?_
  clear hK
  unfold Nw.v
  (try simp only [Act.put, List.setIfInBounds_toArray, List.set_cons_zero, List.set_cons_succ])
  have OK := hG.net
  have FI := hG.grp.fits
  have h10 := OK.h10
  have hd20 := hG.grp.all
  obtain ⟨n2, hn2⟩ : ∃ n, n = 2 * N.all := ⟨_, rfl⟩
  have RE := fun W (hW : Same w2 W) => Relation_net N OK FI E aE qE cE W (hat.same hW) hqE.out.symm (hE2.same hW) (by omega)
  have EN := fun W (hW : Same w2 W) => Enabled_net N OK FI E aE qE cE W (hat.same hW) hqE.out.symm (hE2.same hW) (by omega)
  have CS := fun W (hW : Same w2 W) => checkSet_any 32 E aE cE W (by have := hqE.out; omega) (by rw [← hqE.out]; exact hE2.same hW)
  rw [← hqE.out] at CS RE EN
  have AL := fun W (hW : Same w2 W) => lall13 N W (hat.same hW) (fun A hA => ⟨(OK.ok.au A hA).n0, (OK.ok.au A hA).n4⟩) (by have := OK.ok.m12; omega)
  rw [← OK.ok.all_range] at AL
  obtain ⟨F, hF, hFe, hFp⟩ := enabled_set OK.ok E
  rw [hFe] at EN
  have IS := fun (bn be : Nat) (d : Dg) W (hW : Same w2 W) (hd : d.at W) (T : d.tab N.all (N.set F)) (kn : W.heap[bn]? = some (.cells #[.slice N.aA N.As.length N.cA, .slice N.aO N.o.length N.cO] 36 (0, 0))) (ke : W.heap[be]? = some (.cells #[.slice aE qE cE] 31 (0, 0))) =>
    is_any N OK.ok (by omega) hG.t1000 hG.tl d F (posB N E) hF hFp 46 #[.pointer (some ⟨bn, 0, none⟩), .pointer (some ⟨be, 0, none⟩)] W (hat.same hW) hd T enter_enables1 (fun x hx W' a c hW' hR =>
      enables1 N OK.ok OK.sm x hx E a c aE qE cE bn be W' (hat.same (hW.same hW')) hR hqE.out.symm (hE2.same (hW.same hW')) (by omega) (hW'.at kn id) (hW'.at ke id))
  obtain ⟨er, her⟩ : ∃ e, e = renErr 32 E qE 0 := ⟨_, rfl⟩
  rw [← her] at CS RE EN
  rw [← hn2] at RE
  generalize N.set F = tE at *
  generalize N.rel (stepsB N.As E) = tR at *
  have h9 : N.all ≤ 9 := hd20
  clear OK hat FI h10 hG hF hFe hFp hE2 her hd20
  generalize N.all = n at *
  generalize N.As.length = m at *
  generalize N.o.length = qo at *
  generalize N.aA = aA at *
  generalize N.cA = cA at *
  generalize N.aO = aO at *
  generalize N.cO = cO at *
  replace RE := Lib.hid RE; replace EN := Lib.hid EN; replace CS := Lib.hid CS; replace AL := Lib.hid AL; replace IS := Lib.hid IS; replace hn2 := Lib.hid hn2; replace hs2 := Lib.hid hs2
  go_upto_region 4 with fail
  have kn := heap_new w2 (.cells #[.slice aA m cA, .slice aO qo cO] 36)
  have hsw : Same w2 (w2.alloc (.cells #[.slice aA m cA, .slice aO qo cO] 36)) := fs2
  generalize w2.alloc (.cells #[.slice aA m cA, .slice aO qo cO] 36) = WA at *
  generalize w2.heap.size = bn at *
  replace ke := Lib.hid (hsw.at ke.out id)
  replace kn := Lib.hid kn; replace hsw := Lib.hid hsw
  have x0 := cell_at kn.out 0
  have x1 := cell_at kn.out 1
  have xl := lt_of_heap kn.out
  have y0 := cell_at ke.out 0
  have yl := lt_of_heap ke.out
  go_wp2_with fail
  refine (EN.out _ hsw.out).mono ?_
  intro e v1 hM1
  by_cases h0 : er = 0
  · subst h0
    obtain ⟨a1, c1, L1, r1, rfl, d1, z1, s1⟩ := (hM1.ok0 rfl).open
    clear hM1
    clear x0 x1 xl
    clear y0 yl
    go_upto_region 5 with fail
    have q1 : Bd (v1.alloc (.cells #[.int .i64 n, .slice a1 L1.length c1, .int .i64 r1] 54)) v1.heap.size n _ a1 c1 L1 r1 := ⟨heap_new _ _, SliceAt.same d1 fs2, z1⟩
    have sP := s1.same (show Same v1 (v1.alloc (.cells #[.int .i64 n, .slice a1 L1.length c1, .int .i64 r1] 54)) from fs2)
    clear d1 z1 s1
    generalize v1.alloc (.cells #[.int .i64 n, .slice a1 L1.length c1, .int .i64 r1] 54) = W1 at *
    generalize v1.heap.size = b1 at *
    replace kn := Lib.hid (sP.at kn.out id)
    replace ke := Lib.hid (sP.at ke.out id)
    replace hsw := Lib.hid (hsw.out.same sP)
    clear sP
    replace q1 := Lib.hid q1
    have x0 := cell_at kn.out 0
    have x1 := cell_at kn.out 1
    have xl := lt_of_heap kn.out
    have y0 := cell_at ke.out 0
    have yl := lt_of_heap ke.out
    go_wp2_with fail
    refine (RE.out _ hsw.out).mono ?_
    intro e v2 hM2
    obtain ⟨a2, c2, L2, r2, rfl, d2, z2, s2⟩ := (hM2.ok0 rfl).open
    clear hM2
    clear x0 x1 xl
    clear y0 yl
    go_upto_region 6 with fail
    have q2 : Bd (v2.alloc (.cells #[.int .i64 n2, .slice a2 L2.length c2, .int .i64 r2] 54)) v2.heap.size n2 _ a2 c2 L2 r2 := ⟨heap_new _ _, SliceAt.same d2 fs2, z2⟩
    have sP := s2.same (show Same v2 (v2.alloc (.cells #[.int .i64 n2, .slice a2 L2.length c2, .int .i64 r2] 54)) from fs2)
    clear d2 z2 s2
    generalize v2.alloc (.cells #[.int .i64 n2, .slice a2 L2.length c2, .int .i64 r2] 54) = W2 at *
    generalize v2.heap.size = b2 at *
    replace kn := Lib.hid (sP.at kn.out id)
    replace ke := Lib.hid (sP.at ke.out id)
    replace q1 := Lib.hid (q1.out.same sP)
    replace hsw := Lib.hid (hsw.out.same sP)
    clear sP
    replace q2 := Lib.hid q2
    have y0 := cell_at ke.out 0
    have yl := lt_of_heap ke.out
    go_wp2_with fail
    refine (CS.out _ hsw.out).mono ?_
    rintro e v3 ⟨rfl, rfl⟩
    clear y0 yl
    have x0 := cell_at kn.out 0
    have x1 := cell_at kn.out 1
    have xl := lt_of_heap kn.out
    have y0 := cell_at q2.out.heap 0
    have y1 := cell_at q2.out.heap 1
    have y2 := cell_at q2.out.heap 2
    have yl := lt_of_heap q2.out.heap
    have z0 := cell_at q1.out.heap 0
    have z1 := cell_at q1.out.heap 1
    have z2 := cell_at q1.out.heap 2
    have zl := lt_of_heap q1.out.heap
    have f1 : IntKind.i64.wrap (2 * (n : Int)) = (n2 : Int) := by rw [IntWalk.i64_in _ (by omega)]; have := hn2.out; omega
    go_upto_region 9 with fail
    refine wp_region_sched (fun k => k = bn ∨ k = b2 ∨ k = b1) [0, 0, 0, 0, 0, 0, 0, 0, 1, 1, 2, 0, 0, 0, 0, 1, 1, 0, 2, 0, 0] [0, 1, 2, 3, 4, 5, 6, 7, 8, 9, 10, 11, 12, 13, 14, 17, 15, 16, 18, 19, 20] (by kernel_rfl) (by kernel_rfl) ?_
    repeat (first | (refine sched_w rfl rfl (fun _ hK => ?_); go_simp; refine hK _ ?_; clear hK) | (refine sched_s rfl rfl (fun _ hK => ?_); go_simp; first | (refine hK _ ?_; clear hK) | (refine ⟨_, fun _ => rfl, hK _ ?_⟩; clear hK)))
    refine sched_g rfl rfl (fun _ hK => ?_)
    go_simp
    refine (AL.out _ (hsw.out.same fs3)).mono ?_
    rintro e v4 ⟨rfl, s4⟩
    refine hK _ _ (Kp.of_same s4) ?_
    clear hK
    (try simp only [Act.put, List.setIfInBounds_toArray, List.set_cons_zero, List.set_cons_succ])
    have sP := (show Same W2 _ from fs3).same s4
    clear s4
    clear x0 x1 xl
    clear y0 y1 y2 yl
    clear z0 z1 z2 zl
    replace kn := Lib.hid (sP.at kn.out id)
    replace ke := Lib.hid (sP.at ke.out id)
    replace q1 := Lib.hid (q1.out.same sP)
    replace hsw := Lib.hid (hsw.out.same sP)
    clear sP q2
    have x0 := cell_at kn.out 0
    have x1 := cell_at kn.out 1
    have xl := lt_of_heap kn.out
    have z0 := cell_at q1.out.heap 0
    have z1 := cell_at q1.out.heap 1
    have z2 := cell_at q1.out.heap 2
    have zl := lt_of_heap q1.out.heap
    repeat (first | (refine sched_w rfl rfl (fun _ hK => ?_); go_simp; refine hK _ ?_; clear hK) | (refine sched_s rfl rfl (fun _ hK => ?_); go_simp; first | (refine hK _ ?_; clear hK) | (refine ⟨_, fun _ => rfl, hK _ ?_⟩; clear hK)))
    refine sched_g rfl rfl (fun _ hK => ?_)
    go_simp
    refine (IS.out bn (bg + 1) ⟨n, a1, c1, L1, r1⟩ _ (hsw.out.same fs3) (SliceAt.same q1.out.at' fs3) ⟨rfl, q1.out.tab⟩ ((show Same v4 _ from fs3).at kn.out id) ((show Same v4 _ from fs3).at ke.out id)).mono ?_
    rintro e v5 ⟨rfl, s5⟩
    refine hK _ _ (Kp.of_same s5) ?_
    clear hK
    (try simp only [Act.put, List.setIfInBounds_toArray, List.set_cons_zero, List.set_cons_succ])
    have sP := (show Same v4 _ from fs3).same s5
    clear s5
    clear x0 x1 xl
    clear z0 z1 z2 zl
    have hend := hs2.out.same (hsw.out.same sP)
    clear sP
    replace hend := Lib.hid hend
    repeat (first | (refine sched_w rfl rfl (fun _ hK => ?_); go_simp; refine hK _ ?_; clear hK) | (refine sched_s rfl rfl (fun _ hK => ?_); go_simp; first | (refine hK _ ?_; clear hK) | (refine ⟨_, fun _ => rfl, hK _ ?_⟩; clear hK)))
    refine sched_nil (NoPanic.normal ?_)
    go_wp2_with fail
    go_ret
    exact ⟨rfl, hend.out.same fs2⟩
  · have h0' : (er == 0) = false := by simpa using h0
    have h0'' : (er != 0) = true := by simpa using h0
    rcases hM1 with ⟨_, rfl, s1⟩ | ⟨h, _⟩
    · clear x0 x1 xl
      clear y0 yl
      go_upto_region 5 with fail
      have q1 := heap_new v1 (.cells #[.int .i64 0, .slice none 0 0, .int .i64 0] 54)
      have sP := s1.same (show Same v1 (v1.alloc (.cells #[.int .i64 0, .slice none 0 0, .int .i64 0] 54)) from fs2)
      clear s1
      generalize v1.alloc (.cells #[.int .i64 0, .slice none 0 0, .int .i64 0] 54) = W1 at *
      generalize v1.heap.size = b1 at *
      replace kn := Lib.hid (sP.at kn.out id)
      replace ke := Lib.hid (sP.at ke.out id)
      replace hsw := Lib.hid (hsw.out.same sP)
      clear sP
      replace q1 := Lib.hid q1
      have x0 := cell_at kn.out 0
      have x1 := cell_at kn.out 1
      have xl := lt_of_heap kn.out
      have y0 := cell_at ke.out 0
      have yl := lt_of_heap ke.out
      go_wp2_with fail
      refine (RE.out _ hsw.out).mono ?_
      intro e v2 hM2
      rcases hM2 with ⟨_, rfl, s2⟩ | ⟨h, _⟩
      · clear x0 x1 xl
        clear y0 yl
        go_upto_region 6 with fail
        have q2 := heap_new v2 (.cells #[.int .i64 0, .slice none 0 0, .int .i64 0] 54)
        have sP := s2.same (show Same v2 (v2.alloc (.cells #[.int .i64 0, .slice none 0 0, .int .i64 0] 54)) from fs2)
        clear s2
        generalize v2.alloc (.cells #[.int .i64 0, .slice none 0 0, .int .i64 0] 54) = W2 at *
        generalize v2.heap.size = b2 at *
        replace ke := Lib.hid (sP.at ke.out id)
        replace q1 := Lib.hid (sP.at q1.out id)
        replace hsw := Lib.hid (hsw.out.same sP)
        clear sP
        replace q2 := Lib.hid q2
        have y0 := cell_at ke.out 0
        have yl := lt_of_heap ke.out
        go_wp2_with fail
        refine (CS.out _ hsw.out).mono ?_
        rintro e v3 ⟨rfl, rfl⟩
        clear y0 yl
        have y0 := cell_at q1.out 0
        have y1 := cell_at q1.out 1
        have y2 := cell_at q1.out 2
        have yl := lt_of_heap q1.out
        have z0 := cell_at q2.out 0
        have z1 := cell_at q2.out 1
        have z2 := cell_at q2.out 2
        have zl := lt_of_heap q2.out
        go_wp2_with fail
        go_ret
        exact ⟨rfl, hs2.out.same hsw.out⟩
      · exact absurd h h0
    · exact absurd h h0
end Go.Proofs.YtknlkcfnfjchdaaGreat
