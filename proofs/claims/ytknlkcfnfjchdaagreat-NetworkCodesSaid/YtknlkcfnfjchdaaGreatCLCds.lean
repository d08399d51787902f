/- NetworkCodes walked. Printed by mkcds.py. NetworkSteps: the pairs of the steps, plain. -/
import Derived.Test.YtknlkcfnfjchdaaGreatCLEna
import Derived.Test.YtknlkcfnfjchdaaGreatCLRig
import Derived.Test.YtknlkcfnfjchdaaGreatCNetDk
import Derived.Test.YtknlkcfnfjchdaaGreatCLCod
namespace Go.Proofs.YtknlkcfnfjchdaaGreat
open Go.RowKit
set_option linter.unusedVariables false
set_option linter.unusedSimpArgs false

/-- The tuple of the bits of a tuple's code is the tuple. -/
theorem tup_code {N : Nw} (h : NwOk N) {x : List Nat} (hx : x ∈ tupsF N.ns) (ρ : Nat → Bool) (hρ : ∀ v, v < N.all → ρ v = (codeL N.bs N.on x).getD v false) : tupA N.bs N.at' N.As.length ρ = x := by
  obtain ⟨hl, hlt⟩ := tup_lt hx
  refine list_of_getD (tupA_len _ _ _ _) hl (fun i hi => ?_)
  rw [tupA_get _ _ _ hi]
  have hle := h.le hi
  have hb := h.bits hi
  have hxi := hlt i hi
  have hn := N.ns_get hi
  have hx2 : x.getD i 0 < 2 ^ N.bs i := by omega
  have e : placeF ρ (N.bs i) (N.at' i) = placeF (bitF (N.bs i) (x.getD i 0)) (N.bs i) 0 := by
    have e1 : placeF ρ (N.bs i) (N.at' i) = placeF (fun u => ρ (N.at' i + u)) (N.bs i) 0 := by
      rw [place_shift, Nat.add_zero]
    rw [e1]
    refine place_cong _ (fun u hu => ?_)
    rw [hρ _ (by omega)]
    have h2 := codeL_at N.bs x (o := N.on) h.pm.nodup (i := i) (u := u) ((h.pm.mem i).2 hi) hu
    have e3 : N.at' i = atB N.bs N.on i := rfl
    rw [e3, h2]
    simp [encL, colF, List.getD, hu]
  rw [e, place_bit hx2]

theorem cds_p1 {N : Nw} (OK : NwOk N) (L : List Bool) : ∀ x ∈ tupsF N.ns, codeL N.bs N.on x = L → N.tp L = x ∧ okT N.ns (N.tp L) = true := fun x hx h => by
  have e : N.tp L = x := tup_code OK hx (fun v => L.getD v false) (fun v _ => by rw [h])
  exact ⟨e, by rw [e]; exact (tups_iff.1 hx).2⟩
theorem colF_getD (L : List Bool) {n : Nat} (h : L.length = n) : colF (fun v => L.getD v false) n = L := by
  have := seg_col L 0 n (by omega)
  simp only [Nat.zero_add, List.drop_zero] at this
  rw [← this, List.take_of_length_le (by omega)]
theorem cds_p2 {N : Nw} (OK : NwOk N) (L : List Bool) : L.length = N.all → okT N.ns (N.tp L) = true → N.tp L ∈ tupsF N.ns ∧ codeL N.bs N.on (N.tp L) = L := fun hl h => by
  refine ⟨tups_iff.2 ⟨by rw [N.tp_len, N.ns_len], h⟩, ?_⟩
  have h1 := codeL_tup (bs := N.bs) OK.pm (fun v => L.getD v false)
  have h2 : colF (fun v => L.getD v false) (sumB N.bs N.on) = L := colF_getD L hl
  rw [h2] at h1
  exact h1
theorem natI_toNat13 {y : List Int} (h : ∀ i, i < y.length → 0 ≤ y.getD i 0) : y = natI (y.map Int.toNat) := by
  refine List.ext_getElem? (fun i => ?_)
  simp only [natI, List.getElem?_map]
  by_cases hi : i < y.length
  · have := h i hi
    simp only [List.getD_eq_getElem?_getD, List.getElem?_eq_getElem hi, Option.getD_some] at this
    simp only [List.getElem?_eq_getElem hi, Option.map_some, Option.some.injEq]
    omega
  · simp [List.getElem?_eq_none (Nat.le_of_not_lt hi)]
/-- Encode's answer, the law's, and the code. -/
theorem cds_enc (N : Nw) (OK : NetOk N) (y : List Int) (nY : Nat) (hy : y.length = nY) (aY : Option Addr) (cY : Nat) (w2 : World) (hat : N.at w2) (hY : RowAt w2 (.slice aY nY cY) nY (intCells y)) :
    (∃ E : Nat, E ≠ 0 ∧ (∀ W, Same w2 W → Calls Tryz.prog 40 #[.agg #[.slice N.aA N.As.length N.cA, .slice N.aO N.o.length N.cO], .slice aY nY cY] W fun e W' => e = .returned (.tuple #[.slice none 0 0, .int .i64 E]) ∧ Same W W') ∧
      (∀ W, Same w2 W → Calls Tryz.prog 41 #[.agg #[.slice N.aA N.As.length N.cA, .slice N.aO N.o.length N.cO], .slice aY nY cY] W fun e W' => e = .returned (.int .i64 E) ∧ Same W W')) ∨
    (∃ C : List Bool, C.length = N.all ∧ (∀ W, Same w2 W → Calls Tryz.prog 40 #[.agg #[.slice N.aA N.As.length N.cA, .slice N.aO N.o.length N.cO], .slice aY nY cY] W fun e W' => ∃ g, e = .returned (.tuple #[.slice (some ⟨g, 0, none⟩) N.all N.all, .int .i64 0]) ∧ BoolsAt W' g C ∧ W.heap.size ≤ g ∧ Same W W') ∧
      (∀ W, Same w2 W → Calls Tryz.prog 41 #[.agg #[.slice N.aA N.As.length N.cA, .slice N.aO N.o.length N.cO], .slice aY nY cY] W fun e W' => e = .returned (.int .i64 0) ∧ Same W W') ∧
      (∀ W, Same w2 W → Calls Tryz.prog 29 #[.agg #[.slice N.aA N.As.length N.cA, .slice N.aO N.o.length N.cO], .slice aY nY cY] W fun e W' => ∃ a c, e = .returned (.slice a N.all c) ∧ RowAt W' (.slice a N.all c) N.all (boolCells C) ∧ Same W W')) := by
  by_cases hm : nY = N.As.length
  · by_cases hg : ∀ i, i < N.As.length → okI N.ns y i
    · right
      have hyx : y = natI (y.map Int.toNat) := natI_toNat13 (fun i hi => (hg i (by omega)).1)
      have hRI := fun W (hW : Same w2 W) => right13 N OK y nY hy aY cY 0 W (hat.same hW) (hY.same hW) (Or.inr (Or.inr ⟨hm, rfl, hg⟩))
      obtain ⟨x, hx⟩ : ∃ x : List Nat, x = y.map Int.toNat := ⟨_, rfl⟩
      rw [← hx] at hyx
      have hxl : x.length = N.As.length := by rw [hx, List.length_map, hy, hm]
      have hxo : ∀ i, i < N.As.length → x.getD i 0 < N.ns.getD i 0 := fun i hi => by
        have h1 := (hg i hi).2
        have h2 := toNat_getD (hg i hi).1
        rw [← hx] at h2
        omega
      subst hm hyx
      refine ⟨codeL N.bs N.on x, codeL_len _ _ _, fun W hW => Encode_net N OK x aY cY W (hat.same hW) hxl hxo (hY.same hW), hRI, fun W hW => ?_⟩
      refine (lcode13 N OK.ok x aY cY W (hat.same hW) hxl (hY.same hW)).mono ?_
      rintro e W' ⟨a, c, h1, h2, h3⟩
      exact ⟨a, c, h1, (SliceAt.of_owns h2).row, h3⟩
    · left
      have hb : ∃ i, i < N.As.length ∧ ¬ okI N.ns y i := Classical.byContradiction fun h => hg fun i hi => Classical.byContradiction fun h2 => h ⟨i, hi, h2⟩
      exact ⟨2, by decide, fun W hW => Encode_err N OK y nY hy aY cY 2 W (hat.same hW) (hY.same hW) (Or.inr ⟨hm, rfl, hb⟩), fun W hW => right13 N OK y nY hy aY cY 2 W (hat.same hW) (hY.same hW) (Or.inr (Or.inl ⟨hm, rfl, hb⟩))⟩
  · left
    exact ⟨4, by decide, fun W hW => Encode_err N OK y nY hy aY cY 4 W (hat.same hW) (hY.same hW) (Or.inl ⟨hm, rfl⟩), fun W hW => right13 N OK y nY hy aY cY 4 W (hat.same hW) (hY.same hW) (Or.inl ⟨hm, rfl⟩)⟩

set_option maxRecDepth 100000 in
set_option maxHeartbeats 16000000 in
theorem ncodes_any (B : List Nat) (h86 : B.length = 86) (hB : ∀ y ∈ B, y < 256) (y : List Int) (aY : Option Addr) (cY : Nat) (L : List Bool) (aL : Option Addr) (cL : Nat) (w : World) (hY : RowAt w (.slice aY y.length cY) y.length (intCells y)) (hRL : RowAt w (.slice aL L.length cL) L.length (boolCells L)) :
    Calls Tryz.prog 7 #[.agg (bytC B).toArray, .slice aY y.length cY, .slice aL L.length cL] w fun e w' => e = .returned (.bool true) ∧ Same w w' := by
  have KN := fun W => known13_any W
  have MK := fun W => Make13_any B h86 hB 3 (by omega) W
  obtain ⟨cs, hcs⟩ : ∃ cs, cs = (bytC B).toArray := ⟨_, rfl⟩
  have hsz : cs.size = 86 := by rw [hcs]; simp [bytC, h86]
  rw [← hcs] at MK ⊢
  clear hB
  obtain ⟨nY, hy⟩ : ∃ q, q = y.length := ⟨_, rfl⟩
  obtain ⟨nL, hL⟩ : ∃ q, q = L.length := ⟨_, rfl⟩
  have hnY9 : nY ≤ maxLen := by obtain ⟨_, a9, c9, he9, h8, h9, _⟩ := hY; omega
  have hnL9 : nL ≤ maxLen := by obtain ⟨_, a9, c9, he9, h8, h9, _⟩ := hRL; omega
  unfold maxLen at hnY9 hnL9
  rw [← hy] at hY ⊢
  rw [← hL] at hRL ⊢
  replace KN := Lib.hid KN; replace MK := Lib.hid MK; replace hsz := Lib.hid hsz; replace hcs := Lib.hid hcs; replace hY := Lib.hid hY; replace hRL := Lib.hid hRL; replace hy := Lib.hid hy; replace hL := Lib.hid hL
  go_enter Tryz.func7, Tryz.ntmps7
  go_upto_region 1 with fail
  have kg := heap_new w (.cells cs 30)
  have s0 : Same w (w.alloc (.cells cs 30)) := fs2
  generalize w.alloc (.cells cs 30) = W0 at *
  obtain ⟨bg, hbg⟩ : ∃ b, b = w.heap.size := ⟨_, rfl⟩
  rw [← hbg] at kg ⊢
  replace kg := Lib.hid kg; replace s0 := Lib.hid s0; replace hbg := Lib.hid hbg
  go_wp2_with fail
  refine (KN.out _).mono ?_
  rintro e w1 ⟨rfl, s1⟩
  replace kg := Lib.hid (s1.at kg.out id)
  have hs1 := s0.out.same s1
  clear s1 s0
  replace hs1 := Lib.hid hs1
  by_cases h5 : 5 < nY
  · have h5i : (5 : Int) < nY := by omega
    go_wp2_with fail
    refine (KN.out _).mono ?_
    rintro e w2 ⟨rfl, s2⟩
    have hs2 := hs1.out.same s2
    clear s2
    replace hs2 := Lib.hid hs2
    go_wp2_with fail
    go_ret
    exact ⟨rfl, hs2.out⟩
  have h5i : ((5 : Int) < nY) = False := by simp; omega
  by_cases h12 : 12 < nL
  · have h12i : (12 : Int) < nL := by omega
    go_wp2_with fail
    refine (KN.out _).mono ?_
    rintro e w2 ⟨rfl, s2⟩
    have hs2 := hs1.out.same s2
    clear s2
    replace hs2 := Lib.hid hs2
    go_wp2_with fail
    go_ret
    exact ⟨rfl, hs2.out⟩
  have h12i : ((12 : Int) < nL) = False := by simp; omega
  go_upto_region 3 with fail
  clear h5i h12i
  refine wp_region_lit ?_
  refine wpList_load_row rfl 30 (.tmp 3) rfl bg 0 rfl cs.toList _ (by have := range_row kg.out 0 86; rw [List.drop_zero, List.take_of_length_le (by simp [hsz.out])] at this; exact this) Tryz.underlying30 rfl (by rw [infoGp13]; simp [hsz.out]) ?_
  (try simp only [Act.put, List.setIfInBounds_toArray, List.set_cons_zero, List.set_cons_succ])
  refine wpList_step (fun K hK => ?_)
  go_simp
  refine (MK.out _).mono ?_
  rintro e w2 ⟨N, rfl, hat, hmd, s2⟩
  have hG := hmd.grp (by omega)
  have hsx := hs1.out.same s2
  have hRL := hRL.out.same hsx
  have hY2 := hY.out.same hsx
  clear s2 hs1 MK hmd kg hY
  refine hK _ _ ?_
  clear hK
  unfold Nw.v
  (try simp only [Act.put, List.setIfInBounds_toArray, List.set_cons_zero, List.set_cons_succ])
  have OK := hG.net
  have h9 : N.all ≤ 9 := hG.grp.all
  have hm3 := hG.m3
  have hC := cds_enc N OK y nY hy.out.symm aY cY w2 hat hY2
  have DK := fun W (hW : Same w2 W) => Decode_net N OK L nL hL.out.symm aL cL W (hat.same hW) (hRL.same hW)
  have AL := fun W (hW : Same w2 W) => lall13 N W (hat.same hW) (fun A hA => ⟨(OK.ok.au A hA).n0, (OK.ok.au A hA).n4⟩) (by have := OK.ok.m12; omega)
  rw [← OK.ok.all_range] at AL
  have TU := fun W (hW : Same w2 W) => ltuples13 N W (hat.same hW) (fun k hk => by
    have h1 := OK.ok.n4 hk
    have h2 := hG.t1000 _ (List.getElem_mem hk)
    exact ⟨_, h1.2, by omega, rfl⟩) OK.ok.m12 hG.tl
  have CO := fun (x : List Nat) (hx : x ∈ tupsF N.ns) a c W (hW : Same w2 W) (hR : RowAt W (.slice a N.As.length c) N.As.length (intCells (natI x))) => lcode13 N OK.ok x a c W (hat.same hW) (by rw [(tups_iff.1 hx).1, N.ns_len]) hR
  have hcl : ∀ x, (codeL N.bs N.on x).length = N.all := fun x => codeL_len _ _ _
  have hTl2 : (tupsF N.ns).length ≤ 100000 := by
    have := hG.tl N.As.length (Nat.le_refl _)
    rw [List.take_of_length_le (by rw [N.ns_len]; exact Nat.le_refl _)] at this
    exact this
  have hTm : ∀ x ∈ tupsF N.ns, x.length = N.As.length := fun x hx => by rw [(tups_iff.1 hx).1, N.ns_len]
  have hP1 := cds_p1 OK.ok L
  have hP2 := cds_p2 OK.ok L
  have hXm := N.tp_len L
  unfold TupE at TU
  unfold DkE at DK
  obtain ⟨Tt, hTt⟩ : ∃ T, T = tupsF N.ns := ⟨_, rfl⟩
  have hTI : tupI N.ns = Tt.map natI := by rw [hTt]; rfl
  rw [hTI] at TU
  simp only [← hTt] at CO hTl2 hTm hP1 hP2
  obtain ⟨cl, hcle⟩ : ∃ f : List Nat → List Bool, f = codeL N.bs N.on := ⟨_, rfl⟩
  rw [← hcle] at CO hcl hP1 hP2
  rw [← hL.out] at hP2 DK
  generalize N.tp L = X at *
  generalize okT N.ns X = okx at *
  clear hTt hTI hcle OK hat hG hY2
  generalize N.all = n at *
  generalize N.As.length = m at *
  generalize N.o.length = qo at *
  generalize N.aA = aA at *
  generalize N.cA = cA at *
  generalize N.aO = aO at *
  generalize N.cO = cO at *
  replace hL := Lib.hid hL.out.symm
  replace DK := Lib.hid DK; replace AL := Lib.hid AL; replace TU := Lib.hid TU; replace CO := Lib.hid CO; replace hcl := Lib.hid hcl; replace hTm := Lib.hid hTm; replace hP1 := Lib.hid hP1; replace hP2 := Lib.hid hP2; replace hXm := Lib.hid hXm; replace hRL := Lib.hid hRL; replace hsx := Lib.hid hsx
  go_upto_region 4 with fail
  have kn := heap_new w2 (.cells #[.slice aA m cA, .slice aO qo cO] 36)
  have hs : Same w2 (w2.alloc (.cells #[.slice aA m cA, .slice aO qo cO] 36)) := fs2
  generalize w2.alloc (.cells #[.slice aA m cA, .slice aO qo cO] 36) = WA at *
  generalize w2.heap.size = bn at *
  replace kn := Lib.hid kn; replace hs := Lib.hid hs
  have x0 := cell_at kn.out 0
  have x1 := cell_at kn.out 1
  have xl := lt_of_heap kn.out
  rcases hC with ⟨E, hE0, EN, RI⟩ | ⟨C, hCl, EN, RI, CT⟩
  · have hE1 : ¬ E = 0 := hE0
    replace EN := Lib.hid EN; replace RI := Lib.hid RI; replace hE0 := Lib.hid hE0
    go_wp2_with fail
    refine (EN.out _ hs.out).mono ?_
    rintro e w3 ⟨rfl, sP⟩
    clear x0 x1 xl
    replace kn := Lib.hid (sP.at kn.out id)
    replace hs := Lib.hid (hs.out.same sP)
    clear sP
    have x0 := cell_at kn.out 0
    have x1 := cell_at kn.out 1
    have xl := lt_of_heap kn.out
    go_wp2_with fail
    refine (RI.out _ hs.out).mono ?_
    rintro e w4 ⟨rfl, sP⟩
    clear x0 x1 xl
    replace kn := Lib.hid (sP.at kn.out id)
    replace hs := Lib.hid (hs.out.same sP)
    clear sP
    have x0 := cell_at kn.out 0
    have x1 := cell_at kn.out 1
    have xl := lt_of_heap kn.out
    go_wp2_with fail
    refine (DK.out _ hs.out).mono ?_
    rintro e w5 (⟨hne, rfl, sP⟩ | ⟨hle, hok, rfl, sP⟩ | ⟨hle, hok, g5, rfl, hg5, hgs5, sP⟩)
    · clear x0 x1 xl
      replace kn := Lib.hid (sP.at kn.out id)
      replace hs := Lib.hid (hs.out.same sP)
      clear sP
      have x0 := cell_at kn.out 0
      have x1 := cell_at kn.out 1
      have xl := lt_of_heap kn.out
      go_wp2_with fail
      refine (AL.out _ hs.out).mono ?_
      rintro e w6 ⟨rfl, sP⟩
      replace hs := Lib.hid (hs.out.same sP)
      clear sP
      go_wp2_with fail
      go_ret
      exact ⟨rfl, hsx.out.same (hs.out.same fs2)⟩
    · clear x0 x1 xl
      replace kn := Lib.hid (sP.at kn.out id)
      replace hs := Lib.hid (hs.out.same sP)
      clear sP
      have x0 := cell_at kn.out 0
      have x1 := cell_at kn.out 1
      have xl := lt_of_heap kn.out
      subst hle
      replace hok := Lib.hid hok
      go_wp2_with fail
      refine (AL.out _ hs.out).mono ?_
      rintro e w6 ⟨rfl, sP⟩
      clear x0 x1 xl
      replace kn := Lib.hid (sP.at kn.out id)
      replace hs := Lib.hid (hs.out.same sP)
      clear sP
      have x0 := cell_at kn.out 0
      have x1 := cell_at kn.out 1
      have xl := lt_of_heap kn.out
      go_wp2_with fail
      refine (TU.out _ hs.out).mono ?_
      rintro e w7 ⟨a3, k3, c3, gs, rfl, hTG, hlg, hk3, sP⟩
      clear x0 x1 xl
      replace kn := Lib.hid (sP.at kn.out id)
      replace hs := Lib.hid (hs.out.same sP)
      clear sP
      have hk5 : k3 ≤ 100000 := by rw [hk3, List.length_map]; exact hTl2
      have hkT : k3 = Tt.length := by rw [hk3, List.length_map]
      replace hTG := Lib.hid hTG; replace hlg := Lib.hid hlg; replace hk3 := Lib.hid hk3; replace hkT := Lib.hid hkT
      go_wp2_with fail
      go_loopw [86] (fun i wr => ∃ j : Nat, i = .int .i64 j ∧ j ≤ k3 ∧ Same w7 wr) (fun i _ => k3 - (intOf i).toNat)
      case atStart => exact ⟨0, rfl, by omega, Fr.refl _ _⟩
      case round =>
        obtain ⟨j, rfl, hj, hf⟩ := hrel
        have hsw := hs.out.same hf
        have kn2 := hf.at kn.out id
        by_cases hjk : j < k3
        · have hGs : GsAt wr (.slice a3 k3 c3) k3 gs := ⟨((SliceAt.of_owns hTG.out.own).same hf).row, fun g hg => ((hTG.out.el g hg).same hf).row⟩
          have hjl : j < gs.length := by rw [hTG.out.len]; exact hjk
          have hjT : j < Tt.length := by rw [← hkT.out]; exact hjk
          obtain ⟨b, off, rfl, hbl, c0, hR⟩ := hGs.get hjl
          have hgl : gs[j].l = natI Tt[j] := by
            have h1 := lst_get gs hjl
            have h2 : (lst gs)[j]'(by rw [lst_len]; exact hjl) = (Tt.map natI)[j]'(by rw [List.length_map]; exact hjT) := by simp only [hlg.out]
            rw [← h1, h2, List.getElem_map]
          have hTx := hTm.out _ (List.getElem_mem hjT)
          rw [hgl] at c0 hR
          have hlm : (natI Tt[j]).length = m := by rw [natI_len, hTx]
          rw [hlm] at c0 hR
          have hxT : Tt[j] ∈ Tt := List.getElem_mem hjT
          generalize gs[j].a = ga at *
          generalize gs[j].cap = gc at *
          generalize hxj : Tt[j] = x at *
          clear hGs hgl
          replace hf := Lib.hid hf; replace hsw := Lib.hid hsw; replace kn2 := Lib.hid kn2; replace hR := Lib.hid hR; replace hxT := Lib.hid hxT; replace hxj := Lib.hid hxj; replace hTx := Lib.hid hTx; replace hlm := Lib.hid hlm
          have u0 := cell_at kn2.out 0
          have u1 := cell_at kn2.out 1
          have ul := lt_of_heap kn2.out
          go_wp2_with fail
          refine (CO.out x hxT.out _ _ _ hsw.out hR.out).mono ?_
          rintro e w8 ⟨a5, c5, rfl, ho5, sP⟩
          clear c0
          clear u0 u1 ul
          have hR5 := (SliceAt.of_owns ho5).row
          replace hR := Lib.hid (hR.out.same sP)
          replace hsw := Lib.hid (hsw.out.same sP)
          replace hf := Lib.hid (hf.out.same sP)
          clear sP ho5 kn2
          replace hR5 := Lib.hid hR5
          go_wp2_with fail
          refine (equalB_any (cl x) L a5 aL _ _ c5 cL w8 (hcl.out x) hL.out hR5.out (hRL.out.same hsw.out) (by omega)).mono ?_
          rintro e w9 ⟨he, sP⟩
          replace hR := Lib.hid (hR.out.same sP)
          replace hsw := Lib.hid (hsw.out.same sP)
          replace hf := Lib.hid (hf.out.same sP)
          clear sP hR5
          have hne : decide (cl x = L) = false := decide_eq_false (fun h => by have h1 := (hP1.out x hxT.out h).2; rw [hok.out] at h1; cases h1)
          rw [hne] at he
          subst he
          go_wp2_with fail
          go_roundw
          case rel => exact ⟨j + 1, by go_num, by omega, hf.out.same fs2⟩
          case measure => simp [intOf]; omega
        · obtain rfl : j = k3 := by omega
          replace hsw := Lib.hid hsw
          go_wp2_with fail
          go_ret
          exact ⟨rfl, hsx.out.same (hsw.out.same fs2)⟩
    · clear x0 x1 xl
      replace kn := Lib.hid (sP.at kn.out id)
      replace hs := Lib.hid (hs.out.same sP)
      have hg6 := hg5
      clear hg5 hgs5 sP
      have x0 := cell_at kn.out 0
      have x1 := cell_at kn.out 1
      have xl := lt_of_heap kn.out
      subst hle
      replace hok := Lib.hid hok; replace hg6 := Lib.hid hg6
      go_wp2_with fail
      refine (AL.out _ hs.out).mono ?_
      rintro e w6 ⟨rfl, sP⟩
      clear x0 x1 xl
      replace hg6 := Lib.hid (sP.at hg6.out id)
      replace kn := Lib.hid (sP.at kn.out id)
      replace hs := Lib.hid (hs.out.same sP)
      clear sP
      have x0 := cell_at kn.out 0
      have x1 := cell_at kn.out 1
      have xl := lt_of_heap kn.out
      go_wp2_with fail
      refine (TU.out _ hs.out).mono ?_
      rintro e w7 ⟨a3, k3, c3, gs, rfl, hTG, hlg, hk3, sP⟩
      have hg7 := sP.at hg6.out id
      clear hg6
      replace hg7 := Lib.hid hg7
      clear x0 x1 xl
      replace kn := Lib.hid (sP.at kn.out id)
      replace hs := Lib.hid (hs.out.same sP)
      clear sP
      have hk5 : k3 ≤ 100000 := by rw [hk3, List.length_map]; exact hTl2
      have hkT : k3 = Tt.length := by rw [hk3, List.length_map]
      replace hTG := Lib.hid hTG; replace hlg := Lib.hid hlg; replace hk3 := Lib.hid hk3; replace hkT := Lib.hid hkT
      go_wp2_with fail
      go_loopw [86] (fun i wr => ∃ j : Nat, i = .int .i64 j ∧ j ≤ k3 ∧ (∀ i (h : i < Tt.length), i < j → Tt[i] ≠ X) ∧ Same w7 wr) (fun i _ => k3 - (intOf i).toNat)
      case atStart => exact ⟨0, rfl, by omega, fun i h hi => by omega, Fr.refl _ _⟩
      case round =>
        obtain ⟨j, rfl, hj, hup, hf⟩ := hrel
        have hsw := hs.out.same hf
        have kn2 := hf.at kn.out id
        by_cases hjk : j < k3
        · have hGs : GsAt wr (.slice a3 k3 c3) k3 gs := ⟨((SliceAt.of_owns hTG.out.own).same hf).row, fun g hg => ((hTG.out.el g hg).same hf).row⟩
          have hjl : j < gs.length := by rw [hTG.out.len]; exact hjk
          have hjT : j < Tt.length := by rw [← hkT.out]; exact hjk
          obtain ⟨b, off, rfl, hbl, c0, hR⟩ := hGs.get hjl
          have hgl : gs[j].l = natI Tt[j] := by
            have h1 := lst_get gs hjl
            have h2 : (lst gs)[j]'(by rw [lst_len]; exact hjl) = (Tt.map natI)[j]'(by rw [List.length_map]; exact hjT) := by simp only [hlg.out]
            rw [← h1, h2, List.getElem_map]
          have hTx := hTm.out _ (List.getElem_mem hjT)
          rw [hgl] at c0 hR
          have hlm : (natI Tt[j]).length = m := by rw [natI_len, hTx]
          rw [hlm] at c0 hR
          have hxT : Tt[j] ∈ Tt := List.getElem_mem hjT
          generalize gs[j].a = ga at *
          generalize gs[j].cap = gc at *
          generalize hxj : Tt[j] = x at *
          clear hGs hgl
          replace hf := Lib.hid hf; replace hsw := Lib.hid hsw; replace kn2 := Lib.hid kn2; replace hR := Lib.hid hR; replace hxT := Lib.hid hxT; replace hxj := Lib.hid hxj; replace hTx := Lib.hid hTx; replace hlm := Lib.hid hlm; replace hup := Lib.hid hup
          have u0 := cell_at kn2.out 0
          have u1 := cell_at kn2.out 1
          have ul := lt_of_heap kn2.out
          go_wp2_with fail
          refine (CO.out x hxT.out _ _ _ hsw.out hR.out).mono ?_
          rintro e w8 ⟨a5, c5, rfl, ho5, sP⟩
          clear c0
          clear u0 u1 ul
          have hR5 := (SliceAt.of_owns ho5).row
          replace hR := Lib.hid (hR.out.same sP)
          replace hsw := Lib.hid (hsw.out.same sP)
          replace hf := Lib.hid (hf.out.same sP)
          clear sP ho5 kn2
          replace hR5 := Lib.hid hR5
          go_wp2_with fail
          refine (equalB_any (cl x) L a5 aL _ _ c5 cL w8 (hcl.out x) hL.out hR5.out (hRL.out.same hsw.out) (by omega)).mono ?_
          rintro e w9 ⟨he, sP⟩
          replace hR := Lib.hid (hR.out.same sP)
          replace hsw := Lib.hid (hsw.out.same sP)
          replace hf := Lib.hid (hf.out.same sP)
          clear sP hR5
          by_cases hcx : cl x = L
          · rw [decide_eq_true hcx] at he
            subst he
            have hXx := (hP1.out x hxT.out hcx).1
            have hr9 := (row_new (w := w9) (sz := 1) (n := m) (hf.out.at hg7.out id) (by simp [intCells, natI, hXm.out]) (by unfold maxLen; omega)).row
            replace hXx := Lib.hid hXx; replace hcx := Lib.hid hcx; replace hr9 := Lib.hid hr9
            go_wp2_with fail
            refine (equalI_any (natI X) (natI x) _ _ m m m gc w9 (by rw [natI_len]; exact hXm.out) hlm.out hr9.out hR.out (by omega)).mono ?_
            rintro e w10 ⟨he, sP⟩
            rw [hXx.out, decide_eq_true rfl] at he
            subst he
            replace hsw := Lib.hid (hsw.out.same sP)
            clear sP
            go_wp2_with fail
            go_ret
            exact ⟨rfl, hsx.out.same (hsw.out.same fs2)⟩
          · rw [decide_eq_false hcx] at he
            subst he
            have hup1 : ∀ i (h : i < Tt.length), i < j + 1 → Tt[i] ≠ X := fun i h hi => by
              rcases Nat.lt_succ_iff_lt_or_eq.1 hi with h9 | rfl
              · exact hup.out i h h9
              · rw [hxj.out]; intro h9; rw [h9] at hcx; exact hcx (hP2.out (by trivial) hok.out).2
            replace hup1 := Lib.hid hup1; replace hcx := Lib.hid hcx
            go_wp2_with fail
            go_roundw
            case rel => exact ⟨j + 1, by go_num, by omega, hup1.out, hf.out.same fs2⟩
            case measure => simp [intOf]; omega
        · obtain rfl : j = k3 := by omega
          obtain ⟨i, hi, hie⟩ := List.mem_iff_getElem.1 (hP2.out (by trivial) hok.out).1
          exact absurd hie (hup i hi (by have := hkT.out; omega))
  · replace EN := Lib.hid EN; replace RI := Lib.hid RI; replace CT := Lib.hid CT; replace hCl := Lib.hid hCl
    go_wp2_with fail
    refine (EN.out _ hs.out).mono ?_
    rintro e w3 ⟨g, rfl, hB, hgs, sP⟩
    clear x0 x1 xl
    replace kn := Lib.hid (sP.at kn.out id)
    replace hs := Lib.hid (hs.out.same sP)
    clear sP
    have x0 := cell_at kn.out 0
    have x1 := cell_at kn.out 1
    have xl := lt_of_heap kn.out
    replace hB := Lib.hid hB; replace hgs := Lib.hid hgs
    go_wp2_with fail
    refine (RI.out _ hs.out).mono ?_
    rintro e w4 ⟨rfl, sP⟩
    have hB := hB.out.fr sP id
    clear x0 x1 xl
    replace kn := Lib.hid (sP.at kn.out id)
    replace hs := Lib.hid (hs.out.same sP)
    clear sP
    have x0 := cell_at kn.out 0
    have x1 := cell_at kn.out 1
    have xl := lt_of_heap kn.out
    replace hB := Lib.hid hB
    go_wp2_with fail
    refine (CT.out _ hs.out).mono ?_
    rintro e wc ⟨ac, cc, rfl, hRc, sP⟩
    have hB := hB.out.fr sP id
    clear x0 x1 xl
    replace kn := Lib.hid (sP.at kn.out id)
    replace hs := Lib.hid (hs.out.same sP)
    clear sP
    have x0 := cell_at kn.out 0
    have x1 := cell_at kn.out 1
    have xl := lt_of_heap kn.out
    have hrB := (row_new (w := wc) (sz := 1) (n := n) hB (by simp [boolCells, hCl.out]) (by unfold maxLen; omega)).row
    replace hrB := Lib.hid hrB; replace hRc := Lib.hid hRc
    go_wp2_with fail
    refine (equalB_any C C (some ⟨g, 0, none⟩) ac n n n cc wc hCl.out hCl.out hrB.out hRc.out (by omega)).mono ?_
    rintro e we ⟨he, sP⟩
    rw [decide_eq_true rfl] at he
    subst he
    clear x0 x1 xl
    replace kn := Lib.hid (sP.at kn.out id)
    replace hs := Lib.hid (hs.out.same sP)
    clear sP
    have x0 := cell_at kn.out 0
    have x1 := cell_at kn.out 1
    have xl := lt_of_heap kn.out
    clear hB hrB hRc
    go_wp2_with fail
    refine (DK.out _ hs.out).mono ?_
    rintro e w5 (⟨hne, rfl, sP⟩ | ⟨hle, hok, rfl, sP⟩ | ⟨hle, hok, g5, rfl, hg5, hgs5, sP⟩)
    · clear x0 x1 xl
      replace kn := Lib.hid (sP.at kn.out id)
      replace hs := Lib.hid (hs.out.same sP)
      clear sP
      have x0 := cell_at kn.out 0
      have x1 := cell_at kn.out 1
      have xl := lt_of_heap kn.out
      go_wp2_with fail
      refine (AL.out _ hs.out).mono ?_
      rintro e w6 ⟨rfl, sP⟩
      replace hs := Lib.hid (hs.out.same sP)
      clear sP
      go_wp2_with fail
      go_ret
      exact ⟨rfl, hsx.out.same (hs.out.same fs2)⟩
    · clear x0 x1 xl
      replace kn := Lib.hid (sP.at kn.out id)
      replace hs := Lib.hid (hs.out.same sP)
      clear sP
      have x0 := cell_at kn.out 0
      have x1 := cell_at kn.out 1
      have xl := lt_of_heap kn.out
      subst hle
      replace hok := Lib.hid hok
      go_wp2_with fail
      refine (AL.out _ hs.out).mono ?_
      rintro e w6 ⟨rfl, sP⟩
      clear x0 x1 xl
      replace kn := Lib.hid (sP.at kn.out id)
      replace hs := Lib.hid (hs.out.same sP)
      clear sP
      have x0 := cell_at kn.out 0
      have x1 := cell_at kn.out 1
      have xl := lt_of_heap kn.out
      go_wp2_with fail
      refine (TU.out _ hs.out).mono ?_
      rintro e w7 ⟨a3, k3, c3, gs, rfl, hTG, hlg, hk3, sP⟩
      clear x0 x1 xl
      replace kn := Lib.hid (sP.at kn.out id)
      replace hs := Lib.hid (hs.out.same sP)
      clear sP
      have hk5 : k3 ≤ 100000 := by rw [hk3, List.length_map]; exact hTl2
      have hkT : k3 = Tt.length := by rw [hk3, List.length_map]
      replace hTG := Lib.hid hTG; replace hlg := Lib.hid hlg; replace hk3 := Lib.hid hk3; replace hkT := Lib.hid hkT
      go_wp2_with fail
      go_loopw [86] (fun i wr => ∃ j : Nat, i = .int .i64 j ∧ j ≤ k3 ∧ Same w7 wr) (fun i _ => k3 - (intOf i).toNat)
      case atStart => exact ⟨0, rfl, by omega, Fr.refl _ _⟩
      case round =>
        obtain ⟨j, rfl, hj, hf⟩ := hrel
        have hsw := hs.out.same hf
        have kn2 := hf.at kn.out id
        by_cases hjk : j < k3
        · have hGs : GsAt wr (.slice a3 k3 c3) k3 gs := ⟨((SliceAt.of_owns hTG.out.own).same hf).row, fun g hg => ((hTG.out.el g hg).same hf).row⟩
          have hjl : j < gs.length := by rw [hTG.out.len]; exact hjk
          have hjT : j < Tt.length := by rw [← hkT.out]; exact hjk
          obtain ⟨b, off, rfl, hbl, c0, hR⟩ := hGs.get hjl
          have hgl : gs[j].l = natI Tt[j] := by
            have h1 := lst_get gs hjl
            have h2 : (lst gs)[j]'(by rw [lst_len]; exact hjl) = (Tt.map natI)[j]'(by rw [List.length_map]; exact hjT) := by simp only [hlg.out]
            rw [← h1, h2, List.getElem_map]
          have hTx := hTm.out _ (List.getElem_mem hjT)
          rw [hgl] at c0 hR
          have hlm : (natI Tt[j]).length = m := by rw [natI_len, hTx]
          rw [hlm] at c0 hR
          have hxT : Tt[j] ∈ Tt := List.getElem_mem hjT
          generalize gs[j].a = ga at *
          generalize gs[j].cap = gc at *
          generalize hxj : Tt[j] = x at *
          clear hGs hgl
          replace hf := Lib.hid hf; replace hsw := Lib.hid hsw; replace kn2 := Lib.hid kn2; replace hR := Lib.hid hR; replace hxT := Lib.hid hxT; replace hxj := Lib.hid hxj; replace hTx := Lib.hid hTx; replace hlm := Lib.hid hlm
          have u0 := cell_at kn2.out 0
          have u1 := cell_at kn2.out 1
          have ul := lt_of_heap kn2.out
          go_wp2_with fail
          refine (CO.out x hxT.out _ _ _ hsw.out hR.out).mono ?_
          rintro e w8 ⟨a5, c5, rfl, ho5, sP⟩
          clear c0
          clear u0 u1 ul
          have hR5 := (SliceAt.of_owns ho5).row
          replace hR := Lib.hid (hR.out.same sP)
          replace hsw := Lib.hid (hsw.out.same sP)
          replace hf := Lib.hid (hf.out.same sP)
          clear sP ho5 kn2
          replace hR5 := Lib.hid hR5
          go_wp2_with fail
          refine (equalB_any (cl x) L a5 aL _ _ c5 cL w8 (hcl.out x) hL.out hR5.out (hRL.out.same hsw.out) (by omega)).mono ?_
          rintro e w9 ⟨he, sP⟩
          replace hR := Lib.hid (hR.out.same sP)
          replace hsw := Lib.hid (hsw.out.same sP)
          replace hf := Lib.hid (hf.out.same sP)
          clear sP hR5
          have hne : decide (cl x = L) = false := decide_eq_false (fun h => by have h1 := (hP1.out x hxT.out h).2; rw [hok.out] at h1; cases h1)
          rw [hne] at he
          subst he
          go_wp2_with fail
          go_roundw
          case rel => exact ⟨j + 1, by go_num, by omega, hf.out.same fs2⟩
          case measure => simp [intOf]; omega
        · obtain rfl : j = k3 := by omega
          replace hsw := Lib.hid hsw
          go_wp2_with fail
          go_ret
          exact ⟨rfl, hsx.out.same (hsw.out.same fs2)⟩
    · clear x0 x1 xl
      replace kn := Lib.hid (sP.at kn.out id)
      replace hs := Lib.hid (hs.out.same sP)
      have hg6 := hg5
      clear hg5 hgs5 sP
      have x0 := cell_at kn.out 0
      have x1 := cell_at kn.out 1
      have xl := lt_of_heap kn.out
      subst hle
      replace hok := Lib.hid hok; replace hg6 := Lib.hid hg6
      go_wp2_with fail
      refine (AL.out _ hs.out).mono ?_
      rintro e w6 ⟨rfl, sP⟩
      clear x0 x1 xl
      replace hg6 := Lib.hid (sP.at hg6.out id)
      replace kn := Lib.hid (sP.at kn.out id)
      replace hs := Lib.hid (hs.out.same sP)
      clear sP
      have x0 := cell_at kn.out 0
      have x1 := cell_at kn.out 1
      have xl := lt_of_heap kn.out
      go_wp2_with fail
      refine (TU.out _ hs.out).mono ?_
      rintro e w7 ⟨a3, k3, c3, gs, rfl, hTG, hlg, hk3, sP⟩
      have hg7 := sP.at hg6.out id
      clear hg6
      replace hg7 := Lib.hid hg7
      clear x0 x1 xl
      replace kn := Lib.hid (sP.at kn.out id)
      replace hs := Lib.hid (hs.out.same sP)
      clear sP
      have hk5 : k3 ≤ 100000 := by rw [hk3, List.length_map]; exact hTl2
      have hkT : k3 = Tt.length := by rw [hk3, List.length_map]
      replace hTG := Lib.hid hTG; replace hlg := Lib.hid hlg; replace hk3 := Lib.hid hk3; replace hkT := Lib.hid hkT
      go_wp2_with fail
      go_loopw [86] (fun i wr => ∃ j : Nat, i = .int .i64 j ∧ j ≤ k3 ∧ (∀ i (h : i < Tt.length), i < j → Tt[i] ≠ X) ∧ Same w7 wr) (fun i _ => k3 - (intOf i).toNat)
      case atStart => exact ⟨0, rfl, by omega, fun i h hi => by omega, Fr.refl _ _⟩
      case round =>
        obtain ⟨j, rfl, hj, hup, hf⟩ := hrel
        have hsw := hs.out.same hf
        have kn2 := hf.at kn.out id
        by_cases hjk : j < k3
        · have hGs : GsAt wr (.slice a3 k3 c3) k3 gs := ⟨((SliceAt.of_owns hTG.out.own).same hf).row, fun g hg => ((hTG.out.el g hg).same hf).row⟩
          have hjl : j < gs.length := by rw [hTG.out.len]; exact hjk
          have hjT : j < Tt.length := by rw [← hkT.out]; exact hjk
          obtain ⟨b, off, rfl, hbl, c0, hR⟩ := hGs.get hjl
          have hgl : gs[j].l = natI Tt[j] := by
            have h1 := lst_get gs hjl
            have h2 : (lst gs)[j]'(by rw [lst_len]; exact hjl) = (Tt.map natI)[j]'(by rw [List.length_map]; exact hjT) := by simp only [hlg.out]
            rw [← h1, h2, List.getElem_map]
          have hTx := hTm.out _ (List.getElem_mem hjT)
          rw [hgl] at c0 hR
          have hlm : (natI Tt[j]).length = m := by rw [natI_len, hTx]
          rw [hlm] at c0 hR
          have hxT : Tt[j] ∈ Tt := List.getElem_mem hjT
          generalize gs[j].a = ga at *
          generalize gs[j].cap = gc at *
          generalize hxj : Tt[j] = x at *
          clear hGs hgl
          replace hf := Lib.hid hf; replace hsw := Lib.hid hsw; replace kn2 := Lib.hid kn2; replace hR := Lib.hid hR; replace hxT := Lib.hid hxT; replace hxj := Lib.hid hxj; replace hTx := Lib.hid hTx; replace hlm := Lib.hid hlm; replace hup := Lib.hid hup
          have u0 := cell_at kn2.out 0
          have u1 := cell_at kn2.out 1
          have ul := lt_of_heap kn2.out
          go_wp2_with fail
          refine (CO.out x hxT.out _ _ _ hsw.out hR.out).mono ?_
          rintro e w8 ⟨a5, c5, rfl, ho5, sP⟩
          clear c0
          clear u0 u1 ul
          have hR5 := (SliceAt.of_owns ho5).row
          replace hR := Lib.hid (hR.out.same sP)
          replace hsw := Lib.hid (hsw.out.same sP)
          replace hf := Lib.hid (hf.out.same sP)
          clear sP ho5 kn2
          replace hR5 := Lib.hid hR5
          go_wp2_with fail
          refine (equalB_any (cl x) L a5 aL _ _ c5 cL w8 (hcl.out x) hL.out hR5.out (hRL.out.same hsw.out) (by omega)).mono ?_
          rintro e w9 ⟨he, sP⟩
          replace hR := Lib.hid (hR.out.same sP)
          replace hsw := Lib.hid (hsw.out.same sP)
          replace hf := Lib.hid (hf.out.same sP)
          clear sP hR5
          by_cases hcx : cl x = L
          · rw [decide_eq_true hcx] at he
            subst he
            have hXx := (hP1.out x hxT.out hcx).1
            have hr9 := (row_new (w := w9) (sz := 1) (n := m) (hf.out.at hg7.out id) (by simp [intCells, natI, hXm.out]) (by unfold maxLen; omega)).row
            replace hXx := Lib.hid hXx; replace hcx := Lib.hid hcx; replace hr9 := Lib.hid hr9
            go_wp2_with fail
            refine (equalI_any (natI X) (natI x) _ _ m m m gc w9 (by rw [natI_len]; exact hXm.out) hlm.out hr9.out hR.out (by omega)).mono ?_
            rintro e w10 ⟨he, sP⟩
            rw [hXx.out, decide_eq_true rfl] at he
            subst he
            replace hsw := Lib.hid (hsw.out.same sP)
            clear sP
            go_wp2_with fail
            go_ret
            exact ⟨rfl, hsx.out.same (hsw.out.same fs2)⟩
          · rw [decide_eq_false hcx] at he
            subst he
            have hup1 : ∀ i (h : i < Tt.length), i < j + 1 → Tt[i] ≠ X := fun i h hi => by
              rcases Nat.lt_succ_iff_lt_or_eq.1 hi with h9 | rfl
              · exact hup.out i h h9
              · rw [hxj.out]; intro h9; rw [h9] at hcx; exact hcx (hP2.out (by trivial) hok.out).2
            replace hup1 := Lib.hid hup1; replace hcx := Lib.hid hcx
            go_wp2_with fail
            go_roundw
            case rel => exact ⟨j + 1, by go_num, by omega, hup1.out, hf.out.same fs2⟩
            case measure => simp [intOf]; omega
        · obtain rfl : j = k3 := by omega
          obtain ⟨i, hi, hie⟩ := List.mem_iff_getElem.1 (hP2.out (by trivial) hok.out).1
          exact absurd hie (hup i hi (by have := hkT.out; omega))
end Go.Proofs.YtknlkcfnfjchdaaGreat
