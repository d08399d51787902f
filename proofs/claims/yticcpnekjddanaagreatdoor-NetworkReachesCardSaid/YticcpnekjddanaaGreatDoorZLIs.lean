/-  -/
import Derived.Test.YticcpnekjddanaaGreatDoorZLIsP
import Derived.Test.YticcpnekjddanaaGreatDoorZIdxG
import Derived.Test.YticcpnekjddanaaGreatDoorZLNetC
set_option maxRecDepth 100000
set_option maxHeartbeats 16000000
set_option linter.unusedVariables false
set_option linter.unusedSimpArgs false
namespace Go.Proofs.YticcpnekjddanaaGreatDoor
open Go.RowKit
theorem qpS (ρ : Nat → Bool) {n i : Nat} (hi : i < n) : (gz (qck ρ i ++ List.replicate (n - i) false)).toArray.setIfInBounds i (.bool (ρ i)) = (gz (qck ρ (i + 1) ++ List.replicate (n - (i + 1)) false)).toArray := by
 have e : n - i = (n - (i + 1)) + 1 := by omega
 rw [e, List.replicate_succ, qcp]
 have hl : (qck ρ i).length = i := qbq _ _
 simp only [gz, List.map_append, List.map_cons, List.map_nil]
 have hl2 : (List.map Value.bool (qck ρ i)).length = i := by rw [List.length_map, hl]
 rw [← Array.toList_inj]
 simp only [Array.toList_setIfInBounds]
 rw [List.set_append_right _ _ (by rw [hl2]; exact Nat.le_refl _), hl2]
 simp
theorem wrap_D {D : Nat} (h : D ≤ 1048576) : IntKind.i64.wrap (D : Int) = D := IntWalk.i64_in _ (by omega)
theorem Fr.at_map {w w' : World} {T : TypeId} {sz n : Nat} {v : Value} {cs : List Value} {m : Nat} (h : qaa w T sz v n cs) (hm : ∃ es c, w.heap[m]? = some (.map es c)) (hf : Fr (fun k => k = m) w w') : qaa w' T sz v n cs :=
 h.fr hf (fun k cur hk e => by
  obtain ⟨es, c, hm⟩ := hm
  rw [show k = m from e, hm] at hk
  cases hk)
theorem qqx (N : Nw) (OK : qbs N) (h12 : N.all ≤ 20) (h1000 : ∀ A ∈ N.As, A.n ≤ 1000) (hTl : ∀ i, i ≤ N.As.length → (qaA (N.ns.take i)).length ≤ 100000) (d : Dg) (F p : List Nat → Bool) (hF : Sup N.ns F) (hFp : ∀ x ∈ qaA N.ns, F x = p x) (Fn : FuncId) (cs : Array Value)
 (w : World) (hat : N.at w) (hd : d.at w) (T : d.tab N.all (N.set F)) (ent : ∀ (args : Array Value) (W : World), (callFunc Fn args).run Tryz.prog W = .ok (.enter Fn args) W)
 (HC : ∀ x ∈ qaA N.ns, ∀ W a c, qad w W → qan W (.slice a N.As.length c) N.As.length (gw (qaz x)) → Calls Tryz.prog Fn (#[.slice a N.As.length c] ++ cs) W fun e W' => e = .returned (.bool (p x)) ∧ qad W W') :
 Calls Tryz.prog 9 #[.agg #[.slice N.aA N.As.length N.cA, .slice N.aO N.o.length N.cO], .agg #[.int .i64 d.n, .slice d.a d.L.length d.cap, .int .i64 d.r], .func (.func Fn) #[] cs] w fun e w' => e = .returned (.bool true) ∧ qad w w' := by
 obtain ⟨i3, hi3, hi3z, hi3s, hi3b⟩ := info_parts qmF
 have hmm := @run_makeMap Tryz.prog
 have hm12 := OK.m12
 have hn4 : ∀ A ∈ N.As, 0 ≤ A.n ∧ A.n ≤ 4096 := fun A hA => ⟨(OK.au A hA).n0, (OK.au A hA).n4⟩
 have AL := fun W (hW : qad w W) => lall13 N W (hat.same hW) hn4 (by omega)
 rw [← OK.all_range] at AL
 have TU := fun W (hW : qad w W) => qnX N W (hat.same hW) (fun k hk => by
  have h1 := OK.n4 hk
  have h2 := h1000 _ (List.getElem_mem hk)
  exact ⟨_, h1.2, by omega, rfl⟩) hm12 hTl
 have CO := fun (x : List Nat) (hx : x ∈ qaA N.ns) a c W (hW : qad w W) (hR : qan W (.slice a N.As.length c) N.As.length (gw (qaz x))) => lcode13 N OK x a c W (hat.same hW) (by rw [(qbH.1 hx).1, N.ns_len]) hR
 have hcl : ∀ x, (qbl N.bs N.on x).length = N.all := fun x => qcb _ _ _
 have NU := fun (x : List Nat) (a : Option Addr) (c : Nat) W (hR : qan W (.slice a N.all c) N.all (gz (qbl N.bs N.on x))) => qn1 (qbl N.bs N.on x) a c N.all W (hcl x) hR h12
 have CK := fun W (hW : qad w W) => qbR d N.all (N.set F) W (qaa.same hd hW) T
 have VA := fun (k : Nat) (hk : k < 2 ^ N.all) ab cb W (hW : qad w W) (hB : qan W (.slice ab N.all cb) N.all (gz (qck (qaY N.all k) N.all))) => qlY d hk ab cb W (qaa.same hd hW) T hB
 have hdn := T.1
 have hns := fun (k : Nat) (hk : k < 2 ^ N.all) => qpR OK hF hFp hk
 have hTl2 : (qaA N.ns).length ≤ 100000 := by
  have := hTl N.As.length (Nat.le_refl _)
  rw [List.take_of_length_le (by rw [N.ns_len]; exact Nat.le_refl _)] at this
  exact this
 have hTm : ∀ x ∈ qaA N.ns, x.length = N.As.length := fun x hx => by rw [(qbH.1 hx).1, N.ns_len]
 obtain ⟨dn, da, dc, dL, dr⟩ := d
 simp only at hdn CK VA ⊢
 subst hdn
 unfold Dg.v at CK VA
 simp only at CK VA
 clear hTl h1000 hn4 hF hFp T hat hd OK hcl
 unfold TupE at TU
 obtain ⟨Tt, hTt⟩ : ∃ T, T = qaA N.ns := ⟨_, rfl⟩
 have hTI : qoz N.ns = Tt.map qaz := by rw [hTt]; rfl
 rw [hTI] at TU
 have hny := fun (k : Nat) (hk : k < Tt.length) (hp : p Tt[k] = true) => qpQ N hk hp
 have hnn := fun (k : Nat) (hk : k < Tt.length) (hp : p Tt[k] = false) => nums_no N hk hp
 simp only [← hTt] at CO hns hTl2 hTm HC
 obtain ⟨nb, hnb⟩ : ∃ f : List Nat → Nat, f = fun x => qe3 (qbl N.bs N.on x) := ⟨_, rfl⟩
 have hnb' : ∀ x, qe3 (qbl N.bs N.on x) = nb x := fun x => by rw [hnb]
 simp only [hnb'] at NU hny
 obtain ⟨NL, hNL⟩ : ∃ f : List (List Nat) → List Int, f = qiN N p := ⟨_, rfl⟩
 rw [← hNL] at hny hnn hns
 have hN0 : NL [] = [] := by rw [hNL]; rfl
 obtain ⟨cl, hcl⟩ : ∃ f : List Nat → List Bool, f = qbl N.bs N.on := ⟨_, rfl⟩
 rw [← hcl] at CO NU
 generalize N.set F = t at *
 clear hTt hTI hnb hnb' hNL hcl
 generalize N.all = n at *
 generalize N.As.length = m at *
 generalize N.o.length = qo at *
 generalize N.aA = aA at *
 generalize N.cA = cA at *
 generalize N.aO = aO at *
 generalize N.cO = cO at *
 obtain ⟨qL, hqL⟩ : ∃ q, q = dL.length := ⟨_, rfl⟩
 rw [← hqL] at CK VA ⊢
 replace AL := gi AL; replace TU := gi TU; replace CO := gi CO; replace NU := gi NU; replace CK := gi CK; replace VA := gi VA; replace hns := gi hns; replace hny := gi hny; replace hnn := gi hnn; replace hTm := gi hTm; replace HC := gi HC; replace hN0 := gi hN0; replace hqL := gi hqL
 go_enter Tryz.func9, Tryz.ntmps9
 go_upto_region 1 with fail
 have kn := qab (gv w (.cells #[.slice aA m cA, .slice aO qo cO] 35)) (.cells #[.int .i64 n, .slice da qL dc, .int .i64 dr] 46)
 have kf := gv (w.alloc (.cells #[.slice aA m cA, .slice aO qo cO] 35)) (.cells #[.int .i64 n, .slice da qL dc, .int .i64 dr] 46)
 have s0 : qad w ((w.alloc (.cells #[.slice aA m cA, .slice aO qo cO] 35)).alloc (.cells #[.int .i64 n, .slice da qL dc, .int .i64 dr] 46)) := fs2
 rw [← al1] at kf
 generalize (w.alloc (.cells #[.slice aA m cA, .slice aO qo cO] 35)).alloc (.cells #[.int .i64 n, .slice da qL dc, .int .i64 dr] 46) = W0 at *
 obtain ⟨bn, hbn⟩ : ∃ b, b = w.heap.size := ⟨_, rfl⟩
 rw [← hbn] at kn kf ⊢
 replace kn := gi kn; replace kf := gi kf; replace s0 := gi s0; replace hbn := gi hbn
 obtain ⟨x0, x1, xl⟩ := g2l kn.out
 go_wp2_with fail
 refine (AL.out _ s0.out).mono ?_
 rintro e w1 ⟨rfl, sP⟩
 clear x0 x1 xl
 replace kn := gi (sP.at kn.out id)
 replace kf := gi (sP.at kf.out id)
 replace s0 := gi (s0.out.same sP)
 clear sP AL
 obtain ⟨x0, x1, x2, xl⟩ := g3l kf.out
 go_wp2_with fail
 refine (CK.out _ s0.out).mono ?_
 rintro e w2 ⟨rfl, sP⟩
 clear x0 x1 x2 xl
 replace kn := gi (sP.at kn.out id)
 replace kf := gi (sP.at kf.out id)
 replace s0 := gi (s0.out.same sP)
 clear sP CK
 obtain ⟨x0, x1, x2, xl⟩ := g3l kf.out
 go_upto_region 5 with fail
 have hM0 : qaR (Value.int .i64) Value.bool (w2.alloc (.map #[] 0)) w2.heap.size ([] : List (Int × Bool)) := qcj _
 have sP : qad w2 (w2.alloc (.map #[] 0)) := fs2
 generalize w2.alloc (.map #[] 0) = W2 at *
 have hbf : bn + 1 < w2.heap.size := gu kf.out
 generalize w2.heap.size = mb at *
 clear x0 x1 x2 xl
 replace kn := gi (sP.at kn.out id)
 replace kf := gi (sP.at kf.out id)
 replace s0 := gi (s0.out.same sP)
 clear sP
 replace hM0 := gi hM0
 obtain ⟨x0, x1, xl⟩ := g2l kn.out
 go_wp2_with fail
 refine (TU.out _ s0.out).mono ?_
 rintro e w3 ⟨a3, k3, c3, gs, rfl, hTG, hlg, hk3, sP⟩
 clear x0 x1 xl
 have hmz := hM0.out.lt
 have hM3 := hM0.out.of_block (sP.block mb hmz id)
 replace kn := gi (sP.at kn.out id)
 replace kf := gi (sP.at kf.out id)
 replace s0 := gi (s0.out.same sP)
 have hmz3 := hM3.lt
 clear sP TU hM0 hmz
 have hk5 : k3 ≤ 100000 := by rw [hk3, List.length_map]; exact hTl2
 have hkT : k3 = Tt.length := by rw [hk3, List.length_map]
 replace hTG := gi hTG; replace hlg := gi hlg; replace hM3 := gi hM3; replace hk3 := gi hk3; replace hkT := gi hkT
 go_wp2_with fail
 go_loopw [31] (fun i wr => ∃ (j : Nat) (M : List (Int × Bool)), i = .int .i64 j ∧ j ≤ k3 ∧ qaR (Value.int .i64) Value.bool wr mb M ∧ IsM M (NL (Tt.take j)) ∧ Fr (fun q => q = mb) w3 wr) (fun i _ => k3 - (intOf i).toNat)
 case atStart => exact ⟨0, [], rfl, by omega, hM3.out, by rw [List.take_zero, hN0.out]; exact IsM.nil, Fr.refl _ _⟩
 case round =>
  obtain ⟨j, M, rfl, hj, hM, hIM, hf⟩ := hrel
  have hmb : ∃ es c, w3.heap[mb]? = some (.map es c) := by
   obtain ⟨es, c, h1, _⟩ := hM3.out
   exact ⟨es, c, h1⟩
  have hsw : qad w wr := s0.out.trans hf (fun i hi e => by have h1 : i = mb := e; have := hbn.out; omega)
  have kn2 := hf.at kn.out (fun e => by have h1 : bn = mb := e; omega)
  have kf2 := hf.at kf.out (fun e => by have h1 : bn + 1 = mb := e; omega)
  by_cases hjk : j < k3
  · have hGs : qiA wr (.slice a3 k3 c3) k3 gs := ⟨(Fr.at_map (qaa.of_owns hTG.out.own) hmb hf).row, fun g hg => (Fr.at_map (hTG.out.el g hg) hmb hf).row⟩
    have hjl : j < gs.length := by rw [hTG.out.len]; exact hjk
    have hjT : j < Tt.length := by rw [← hkT.out]; exact hjk
    obtain ⟨b, off, rfl, hbl, c0, hR⟩ := hGs.get hjl
    have hgl : gs[j].l = qaz Tt[j] := by
     have h1 := qf7 gs hjl
     have h2 : (lst gs)[j]'(by rw [qdq]; exact hjl) = (Tt.map qaz)[j]'(by rw [List.length_map]; exact hjT) := by simp only [hlg.out]
     rw [← h1, h2, List.getElem_map]
    have hTx := hTm.out _ (List.getElem_mem hjT)
    rw [hgl] at c0 hR
    have hlm : (qaz Tt[j]).length = m := by rw [qaG, hTx]
    rw [hlm] at c0 hR
    have hnyj := hny.out j hjT
    have hnnj := hnn.out j hjT
    have HCj := HC.out _ (List.getElem_mem hjT) wr gs[j].a gs[j].cap hsw hR
    have COj := fun a c W (hW : qad w W) (hR : qan W (.slice a m c) m (gw (qaz Tt[j]))) => CO.out _ (List.getElem_mem hjT) a c W hW hR
    generalize gs[j].a = ga at *
    generalize gs[j].cap = gc at *
    generalize Tt[j] = x at *
    clear hGs hTx hgl hlm hmb
    replace hM := gi hM; replace hIM := gi hIM; replace hf := gi hf; replace hsw := gi hsw; replace kn2 := gi kn2; replace kf2 := gi kf2; replace hR := gi hR; replace hnyj := gi hnyj; replace hnnj := gi hnnj; replace HCj := gi HCj; replace COj := gi COj
    go_wp2_with fail
    refine HCj.out.mono ?_
    rintro e w4 ⟨rfl, sP⟩
    clear c0 HCj
    have hmz4 := hM.out.lt
    have hM4 := hM.out.of_block (sP.block mb hmz4 id)
    replace kn2 := gi (sP.at kn2.out id)
    replace hR := gi (hR.out.same sP)
    replace hsw := gi (hsw.out.same sP)
    replace hf := gi (hf.out.same sP)
    clear sP hM hmz4 kf2
    replace hM4 := gi hM4
    generalize hpx : p x = r
    cases r
    · have hst := hnnj.out hpx
      replace hst := gi hst; replace hpx := gi hpx
      go_wp2_with fail
      go_roundw
      case rel => exact ⟨j + 1, M, by go_num, by omega, hM4.out, by rw [hst.out]; exact hIM.out, hf.out⟩
      case measure => simp [intOf]; omega
    · have hst := hnyj.out hpx
      replace hst := gi hst; replace hpx := gi hpx
      obtain ⟨x0, x1, xl⟩ := g2l kn2.out
      go_wp2_with fail
      refine (COj.out _ _ _ hsw.out hR.out).mono ?_
      rintro e w5 ⟨a5, c5, rfl, ho5, sP⟩
      clear x0 x1 xl
      have hR5 := (qaa.of_owns ho5).row
      have hM5 := hM4.out.of_block (sP.block mb hM4.out.lt id)
      replace hsw := gi (hsw.out.same sP)
      replace hf := gi (hf.out.same sP)
      clear sP hM4 ho5 COj
      replace hR5 := gi hR5; replace hM5 := gi hM5
      go_wp2_with fail
      refine (NU.out x _ _ _ hR5.out).mono ?_
      rintro e w6 ⟨rfl, sP⟩
      have hM6 := hM5.out.of_block (sP.block mb hM5.out.lt id)
      replace hf := gi (hf.out.same sP)
      have hm6 := hM6.lt
      clear sP hM5 hR5
      replace hM6 := gi hM6
      go_wp2_with (at_mapUpdate; refine qbp rfl (.tmp 38) (.tmp 42) (.const (.bool true)) rfl qi3 mapIB mb M rfl hM6.out ((nb x : Nat) : Int) rfl true rfl ?_; intro ob hob; replace hob := gi hob)
      go_roundw
      case rel => exact ⟨j + 1, _, by go_num, by omega, hob.out, by rw [hst.out]; exact hIM.out.put _, hf.out.setObj _ _ (fun _ => rfl)⟩
      case measure => simp [intOf]; omega
  · obtain rfl : j = k3 := by omega
    rw [hkT.out, List.take_length] at hIM
    obtain ⟨wo, rfl⟩ : ∃ wo, wo = wr := ⟨_, rfl⟩
    have hmw := hM.lt
    obtain ⟨D, hD⟩ : ∃ D, D = 2 ^ n := ⟨_, rfl⟩
    have hD20 : D ≤ 1048576 := by
     rw [hD]
     exact Nat.le_trans (Nat.pow_le_pow_right (by omega) h12) (by decide)
    have u1 : wrap64 ((2 : Int) ^ n) = (D : Int) := by rw [qg9 n (by omega), hD]
    have u2 : IntKind.i64.wrap ((2 : Int) ^ n) = (D : Int) := by
     have e : ((2 : Int) ^ n) = ((2 ^ n : Nat) : Int) := by simp
     rw [e, ← hD]
     exact wrap_D hD20
    have u3 : min n 64 = n := by omega
    have hbz : bn + 1 < wo.heap.size := gu kf2
    clear hf kn2 hmb
    replace hM := gi hM; replace hIM := gi hIM; replace hsw := gi hsw; replace kf2 := gi kf2; replace hD := gi hD
    go_wp2_with fail
    clear u1 u2 u3
    go_loopw [46] (fun i wr => ∃ k : Nat, i = .int .i64 k ∧ k ≤ D ∧ qad wo wr) (fun i _ => D - (intOf i).toNat)
    case atStart => exact ⟨0, rfl, by omega, Fr.refl _ _⟩
    case round =>
     obtain ⟨k, rfl, hk, hs⟩ := hrel
     by_cases hkD : k < D
     · have hzs := hs.size
       replace hs := gi hs
       go_wp2_with (at_make; refine qeK _ rfl (.tmp 49) (.tmp 49) 55 rfl 4 i3 Tryz.underlying55 hi3 hi3z hi3s hi3b n rfl rfl (by omega) ?_)
       have kl := gv wr (.cells (gz (List.replicate n false)).toArray 4)
       have sP : qad wr (wr.alloc (.cells (gz (List.replicate n false)).toArray 4)) := fs2
       generalize wr.alloc (.cells (gz (List.replicate n false)).toArray 4) = W5 at *
       have hbl : wo.heap.size ≤ wr.heap.size := hzs
       generalize wr.heap.size = bl at *
       have hs5 := hs.out.same sP
       clear sP hs
       replace kl := gi kl; replace hs5 := gi hs5; replace hbl := gi hbl
       go_loopw [53] (fun v ws => ∃ i : Nat, v = .int .i64 i ∧ i ≤ n ∧ ws.heap[bl]? = some (.cells (gz (qck (qaY n k) i ++ List.replicate (n - i) false)).toArray 4 (0, 0)) ∧ Fr (fun q => q = bl) W5 ws) (fun v _ => n - (intOf v).toNat)
       case atStart => exact ⟨0, rfl, by omega, kl.out, Fr.refl _ _⟩
       case round =>
        obtain ⟨i, rfl, hi, kl, hg⟩ := hrel
        by_cases hin : i < n
        · obtain ⟨q, hq⟩ : ∃ q, q = n - 1 - i := ⟨_, rfl⟩
          have u1 : IntKind.i64.wrap ((n : Int) - 1) = (n : Int) - 1 := IntWalk.i64_in _ (by omega)
          have u2 : IntKind.i64.wrap ((n : Int) - 1 - (i : Int)) = (q : Int) := by rw [IntWalk.i64_in _ (by omega)]; omega
          have u3 : min q 64 = q := by omega
          have hbit := qoX k q
          have hbe : decide (k / 2 ^ q % 2 = 1) = qaY n k i := by unfold qaY; rw [hq]
          rw [hbe] at hbit
          have hini : (i : Int) < n := by omega
          have y0 : wr.cell? ⟨bl, i, none⟩ = some (.bool false) := by
           rw [gn kl i]
           simp only [List.getElem?_toArray, gz, List.getElem?_map]
           rw [List.getElem?_append_right (by rw [qbq]; exact Nat.le_refl _), qbq]
           simp [show 0 < n - i by omega]
          have f0 := qak kl i
          have gl := gu kl
          have hst := qpS (qaY n k) hin
          have hgb : Fr (fun q => q = bl) W5 (wr.setCell ⟨bl, i, none⟩ (.bool (qaY n k i))) := hg.setCell _ _ (fun _ => rfl)
          have kl2 := qaf kl i (.bool (qaY n k i))
          rw [hst] at kl2
          generalize hrb : qaY n k i = rb at *
          replace kl := gi kl; replace hg := gi hg; replace hq := gi hq; replace hbe := gi hbe; replace hst := gi hst; replace kl2 := gi kl2; replace hgb := gi hgb; replace hrb := gi hrb
          go_wp2_with fail
          clear y0 f0 gl hbit u1 u2 u3
          go_roundw
          case rel => exact ⟨i + 1, by go_num, by omega, kl2.out, hgb.out⟩
          case measure => simp [intOf]; omega
        · obtain rfl : i = n := by omega
          rw [Nat.sub_self, List.replicate_zero, List.append_nil] at kl
          have hRl := (qcW (w := wr) (n := i) (sz := 1) kl (by rw [qbS, qbq, Nat.mul_one]) (by unfold maxLen; omega)).row
          have hs6 := hs5.out.trans hg (fun i hi e => by have h1 : i = bl := e; have h2 := hbl.out; omega)
          have kf6 := hs6.at kf2.out id
          have hsw6 := hsw.out.same hs6
          have hM6 := hM.out.of_block (hs6.block mb hmw id)
          have hk2 : k < 2 ^ i := by rw [← hD.out]; exact hkD
          have VAk := VA.out k hk2 _ _ wr hsw6 hRl
          have hnk := hns.out k hk2
          generalize t.getD k false = r at *
          clear hRl
          replace kl := gi kl; replace hg := gi hg; replace hs6 := gi hs6; replace kf6 := gi kf6; replace hsw6 := gi hsw6; replace hM6 := gi hM6; replace hk2 := gi hk2; replace VAk := gi VAk; replace hnk := gi hnk
          obtain ⟨x0, x1, x2, xl⟩ := g3l kf6.out
          go_wp2_with fail
          refine VAk.out.mono ?_
          rintro e w7 ⟨rfl, sP⟩
          clear x0 x1 x2 xl
          have hM7 := hM6.out.of_block (sP.block mb hM6.out.lt id)
          have hs7 := hs6.out.same sP
          clear sP VAk hM6 hs6 kl hg
          have hl : (Instr.lookup 85 (.map (some mb)) (.int .i64 (k : Int)) false).run Tryz.prog w7 = .ok (.bool r) w7 := by
           by_cases hin : ((k : Nat) : Int) ∈ NL Tt
           · have h1 := qa6 (w := w7) qi3 mapIB hM7 (show qa0 M ((k : Nat) : Int) = some true by rw [hIM.out, if_pos hin]) false
             rw [← hnk.out, decide_eq_true hin]
             exact h1
           · have h1 := qbo (w := w7) qi3 mapIB hM7 (show qa0 M ((k : Nat) : Int) = none by rw [hIM.out, if_neg hin]) (qqb _) false
             rw [← hnk.out, decide_eq_false hin]
             exact h1
          replace hM7 := gi hM7; replace hs7 := gi hs7; replace hnk := gi hnk
          cases r
          · go_wp2_with fail
            go_roundw
            case rel => exact ⟨k + 1, by go_num, by omega, hs7.out⟩
            case measure => simp [intOf]; omega
          · go_wp2_with fail
            go_roundw
            case rel => exact ⟨k + 1, by go_num, by omega, hs7.out⟩
            case measure => simp [intOf]; omega
     · obtain rfl : k = D := by omega
       replace hs := gi hs
       go_wp2_with fail
       go_ret
       exact ⟨rfl, hsw.out.same hs.out⟩
end Go.Proofs.YticcpnekjddanaaGreatDoor
