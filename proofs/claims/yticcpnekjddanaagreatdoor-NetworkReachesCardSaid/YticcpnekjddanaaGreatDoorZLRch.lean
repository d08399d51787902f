/-  -/
import Derived.Test.YticcpnekjddanaaGreatDoorZMchW
import Derived.Test.YticcpnekjddanaaGreatDoorZMchS
import Derived.Test.YticcpnekjddanaaGreatDoorZMchI
import Derived.Test.YticcpnekjddanaaGreatDoorZKeyW
import Derived.Test.YticcpnekjddanaaGreatDoorZSynB
import Derived.Test.YticcpnekjddanaaGreatDoorZRowL
import Derived.Deep.CutRange
import Derived.Test.YticcpnekjddanaaGreatDoorZNwsQ
import Derived.Test.YticcpnekjddanaaGreatDoorZLNetE
import Derived.Test.YticcpnekjddanaaGreatDoorZLIs
set_option maxRecDepth 100000
set_option maxHeartbeats 16000000
set_option linter.unusedVariables false
set_option linter.unusedSimpArgs false
namespace Go.Proofs.YticcpnekjddanaaGreatDoor
open Go.RowKit
def SynE (N : Nw) (w : World) (E : Ending) (w' : World) : Prop :=
 qad w w' ∧ ((N.emp = true ∧ ∃ aV cV, E = .returned (.tuple #[.agg #[.slice aV (qaJ N.As).length cV, .int .i64 0, .slice none 0 0, .slice none 0 0], .slice none 0 0, .int .i64 0])) ∨
  (N.emp = false ∧ ∃ (T : List (List Nat)) (G : List (Nat × Int × Nat)) (D : List Nat) (aV : Option Addr) (cV : Nat) (aM : Option Addr) (cM : Nat) (aE : Option Addr) (cE : Nat) (gs : List Grp) (aT : Option Addr) (cT : Nat),
   BI (nxT N.As) (qaJ N.As) (List.replicate N.As.length 0) T.length T G D ∧ (∀ x ∈ T, x ∈ qaA N.ns) ∧ lst gs = T.map qaz ∧
   E = .returned (.tuple #[.agg #[.slice aV (qaJ N.As).length cV, .int .i64 T.length, .slice aM (mkL N.As T T.length).length cM, .slice aE (esL G).length cE], .slice aT T.length cT, .int .i64 0]) ∧
   qaa w' 3 1 (.slice aM (mkL N.As T T.length).length cM) (mkL N.As T T.length).length (gw (mkL N.As T T.length)) ∧
   qaa w' 57 3 (.slice aE (esL G).length cE) (esL G).length (qap (esL G)) ∧ qiA w' (.slice aT T.length cT) T.length gs))
theorem qqA {base : Nat} {w : World} {aT : Option Addr} {m cT : Nat} {gs : List Grp} {T : List (List Nat)} (h : TG base w aT T.length cT gs) (hl : lst gs = T.map qaz) (hm : ∀ x ∈ T, x.length = m) {i : Nat} (hi : i < T.length) :
 ∃ b off a c, aT = some ⟨b, off, none⟩ ∧ b < w.heap.size ∧ w.cell? ⟨b, off + i, none⟩ = some (.slice a m c) ∧ qan w (.slice a m c) m (gw (qaz T[i])) := by
 have hig : i < gs.length := by rw [h.len]; exact hi
 obtain ⟨b, off, ha, hb, c0, hR⟩ := h.gs.get hig
 have hgl : gs[i].l = qaz T[i] := by
  have h1 := qf7 gs hig
  have h2 : (lst gs)[i]'(by rw [qdq]; exact hig) = (T.map qaz)[i]'(by rw [List.length_map]; exact hi) := by simp only [hl]
  rw [← h1, h2, List.getElem_map]
 rw [hgl, qaG, hm _ (List.getElem_mem hi)] at c0 hR
 exact ⟨b, off, _, _, ha, hb, c0, hR⟩
theorem qp4 : Tryz.prog.underlying 77 = some (.map 9 3) := Tryz.underlying77
theorem infoEdS : (Tryz.prog.info? 57).map (fun i => (i.zero, i.size, i.bytes)) = some (some (.agg #[.int .i64 0, .int .i64 0, .int .i64 0]), 3, 24) := by kernel_rfl
theorem qp5 (N : Nw) (OK : qbs N) (hp : qbx N.As = 0) (hz : ∀ A ∈ N.As, A.small) (h99 : ∀ x ∈ qaA N.ns, ∀ n ∈ x, n < 100) (hT4 : (qaA N.ns).length ≤ 4000) (w : World) (hat : qdm w N.aA N.cA N.As) :
 Calls Tryz.prog 6 #[.slice N.aA N.As.length N.cA] w (SynE N w) := by
 obtain ⟨i3, hi3, hi3z, hi3s, hi3b⟩ := info_parts qc0
 obtain ⟨j3, hj3, hj3z, hj3s, hj3b⟩ := info_parts infoEdS
 obtain ⟨t3, ht3, ht3z, ht3s, ht3b⟩ := info_parts qkO
 have hmm := @run_makeMap Tryz.prog
 have h12 := OK.m12
 have PC := fun W (hW : qad w W) => qdU N.As N.aA N.cA W (hat.same hW) hz (by omega)
 rw [hp] at PC
 have OP := fun W (hW : qad w W) => qp2 N.As (by omega) OK.au hz N.aA N.cA W (hat.same hW)
 have IN := fun V V' W (hW : qad w W) => qka N.As (by omega) N.aA N.cA V V' W (hat.same hW)
 unfold IniE at IN
 have MK := fun (x : List Nat) (hx : x ∈ qaA N.ns) aX cX V V' W (hW : qad w W) hX => ql0 N.As (by omega) OK.au hz N.aA N.cA x (qcD hx).1 aX cX V V' W (hat.same hW) hX
 have ST := fun (x : List Nat) (hx : x ∈ qaA N.ns) ev aX cX V aM cM mbs W (hW : qad w W) hX hM => qp3 N.As (by omega) OK.au hz N.aA N.cA x (qcD hx).1 aX cX ev V aM cM mbs W (hat.same hW) hX hM
 unfold MstE at ST
 have KY := fun (x : List Nat) (hx : x ∈ qaA N.ns) aX cX W hX => key_any x (h99 x hx) N.As.length (qcD hx).1 (by omega) aX cX W hX
 have hEm : (∃ A ∈ N.As, A.n = 0) → N.emp = true := fun ⟨A, hA, h0⟩ => by
  unfold Nw.emp Nw.ns
  exact List.any_eq_true.2 ⟨A.n.toNat, List.mem_map.2 ⟨A, hA, rfl⟩, by simp [h0]⟩
 have hEf : (∀ A ∈ N.As, A.n ≠ 0) → N.emp = false := fun hA => by
  rw [Bool.eq_false_iff]
  intro he
  unfold Nw.emp Nw.ns at he
  obtain ⟨n, hn, h0⟩ := List.any_eq_true.1 he
  obtain ⟨A, hA1, rfl⟩ := List.mem_map.1 hn
  have h1 := hA A hA1
  have h2 := (OK.au A hA1).n0
  simp at h0
  omega
 have hz0 : N.emp = false → List.replicate N.As.length 0 ∈ qaA N.ns := fun h => qk6 h
 have hnx : ∀ (c : Nat) (hc : c < (qaJ N.As).length) (x y : List Nat), x ∈ qaA N.ns → nxT N.As x (qaJ N.As)[c] = some y → y ∈ qaA N.ns := fun c hc x y hx hn => nxT_tup OK (List.getElem_mem hc) hx hn
 have hV32 : (qaJ N.As).length ≤ 32 := by
  have := (qes OK.au N.As.length (Nat.le_refl _)).2
  rwa [List.take_length] at this
 have hkn : ∀ M T, KnM N.As.length M T → ∀ x ∈ qaA N.ns, qa0 M (qe7 x) = if x ∈ T then some ((qdX T x : Nat) : Int) else none := fun M T h x hx => h x (qcD hx).1 (h99 x hx)
 have hkp : ∀ M T, KnM N.As.length M T → ∀ y ∈ qaA N.ns, ¬ y ∈ T → KnM N.As.length (qbW M (qe7 y) ((T.length : Nat) : Int)) (T ++ [y]) := fun M T h y hy hn => h.put (h99 y hy) hn
 have hk0 : N.emp = false → KnM N.As.length (qbW [] (qe7 (List.replicate N.As.length 0)) 0) [List.replicate N.As.length 0] := fun h => KnM.start (h99 _ (qk6 h))
 have hlen : ∀ T : List (List Nat), T.Nodup → (∀ x ∈ T, x ∈ qaA N.ns) → T.length ≤ 4000 := fun T h1 h2 => Nat.le_trans (qj8 h1 h2) hT4
 have hxl : ∀ x ∈ qaA N.ns, x.length = N.As.length := fun x hx => (qcD hx).1
 unfold SynE
 generalize qaJ N.As = V at *
 generalize N.emp = em at *
 generalize qaA N.ns = U at *
 clear hat hz OK hT4 hp h99
 generalize N.aA = aA at *
 generalize N.cA = cA at *
 generalize N.As = As at *
 obtain ⟨m, hm⟩ : ∃ m, m = As.length := ⟨_, rfl⟩
 simp only [← hm] at *
 have hxl0 : (List.replicate m 0 : List Nat).length = m := by simp
 generalize List.replicate m 0 = X0 at *
 replace PC := gi PC; replace OP := gi OP; replace IN := gi IN; replace MK := gi MK; replace ST := gi ST; replace KY := gi KY; replace hEm := gi hEm; replace hEf := gi hEf; replace hz0 := gi hz0; replace hnx := gi hnx; replace hkn := gi hkn; replace hkp := gi hkp; replace hk0 := gi hk0; replace hlen := gi hlen; replace hxl := gi hxl; replace hm := gi hm
 go_enter Tryz.func6, Tryz.ntmps6
 go_upto_region 1 with fail
 have kb := gv w (.cells #[.slice none 0 0, .int .i64 0, .slice none 0 0, .slice none 0 0] 39)
 have s0 : qad w (w.alloc (.cells #[.slice none 0 0, .int .i64 0, .slice none 0 0, .slice none 0 0] 39)) := fs2
 generalize w.alloc (.cells #[.slice none 0 0, .int .i64 0, .slice none 0 0, .slice none 0 0] 39) = W0 at *
 obtain ⟨ba, hba⟩ : ∃ b, b = w.heap.size := ⟨_, rfl⟩
 rw [← hba] at kb ⊢
 replace kb := gi kb; replace s0 := gi s0; replace hba := gi hba
 go_wp2_with fail
 refine (PC.out _ s0.out).mono ?_
 rintro e w1 ⟨rfl, s1⟩
 replace kb := gi (s1.at kb.out id)
 have hs1 := s0.out.same s1
 clear s1 s0 PC
 replace hs1 := gi hs1
 go_wp2_with fail
 refine (OP.out _ hs1.out).mono ?_
 rintro e w2 ⟨aV, cV, aM, cM, mbs, rfl, hV, hM, s2⟩
 replace kb := gi (s2.at kb.out id)
 have hs2 := hs1.out.same s2
 clear s2 hs1 OP
 replace hV := gi hV; replace hM := gi hM; replace hs2 := gi hs2
 go_upto_region 5 with fail
 have km := gv w2 (.cells #[.slice aA m cA, .slice aV V.length cV, .slice aM m cM] 72)
 have s3 : qad w2 (w2.alloc (.cells #[.slice aA m cA, .slice aV V.length cV, .slice aM m cM] 72)) := fs2
 have hV3 := hV.out.same s3
 have hM3 := hM.out.same s3
 have hs3 := hs2.out.same s3
 replace kb := gi (s3.at kb.out id)
 generalize w2.alloc (.cells #[.slice aA m cA, .slice aV V.length cV, .slice aM m cM] 72) = W3 at *
 generalize w2.heap.size = bm at *
 have hne : bm ≠ ba := fun e => by
  have h1 := kb.out
  rw [← e, km] at h1
  simp at h1
 clear hV hM hs2 s3
 replace km := gi km; replace hV3 := gi hV3; replace hM3 := gi hM3; replace hs3 := gi hs3
 obtain ⟨x0, x1, x2, x3, f0, f1, f2, f3, xl⟩ := qaC kb.out
 obtain ⟨y0, y1, y2, yl⟩ := g3l km.out
 go_upto_region 6 with fail
 clear x0 x1 x2 x3 f0 f1 f2 f3 xl
 clear y0 y1 y2 yl
 have F4 : Fr (fun q => q = ba) W3 (W3.setCell ⟨ba, 0, none⟩ (.slice aV V.length cV)) := (Fr.refl _ _).setCell _ _ (fun _ => rfl)
 have kb4 := qaf kb.out 0 (.slice aV V.length cV)
 have hV4 := qaa.bx hV3.out kb.out (by decide) F4
 have hM4 := hM3.out.bx kb.out (by decide) F4
 have km4 := F4.at km.out hne
 have hs4 := hs3.out.trans F4 (fun i hi e => by have : i = ba := e; have := hba.out; omega)
 simp only [List.setIfInBounds_toArray, List.set_cons_zero] at kb4
 generalize W3.setCell ⟨ba, 0, none⟩ (.slice aV V.length cV) = W4 at *
 clear kb km hV3 hM3 hs3 F4
 replace kb4 := gi kb4; replace hV4 := gi hV4; replace hM4 := gi hM4; replace km4 := gi km4; replace hs4 := gi hs4
 obtain ⟨y0, y1, y2, yl⟩ := g3l km4.out
 go_wp2_with fail
 refine (IN.out _ _ _ hs4.out).mono ?_
 rintro e w5 ⟨s5, hIn⟩
 clear y0 y1 y2 yl
 replace kb4 := gi (s5.at kb4.out id)
 replace km4 := gi (s5.at km4.out id)
 replace hV4 := gi (hV4.out.same s5)
 replace hM4 := gi (hM4.out.same s5)
 replace hs4 := gi (hs4.out.same s5)
 clear s5 IN
 rcases hIn with ⟨h0, rfl⟩ | ⟨h0, aF, cF, rfl, hF⟩
 · have he := hEm.out h0
   obtain ⟨x0, x1, x2, x3, f0, f1, f2, f3, xl⟩ := qaC kb4.out
   replace he := gi he; replace h0 := gi h0
   go_wp2_with fail
   obtain ⟨k6, f6⟩ := qgV (u0 := .slice aV V.length cV) (u1 := .int .i64 0) (u2 := .slice none 0 0) (u3 := .slice none 0 0) kb4.out
   clear x0 x1 x2 x3 f0 f1 f2 f3 xl
   have hs6 := hs4.out.trans f6 (fun i hi e => by have : i = ba := e; have := hba.out; omega)
   generalize (((w5.setCell ⟨ba, 0, none⟩ (.slice aV V.length cV)).setCell ⟨ba, 1, none⟩ (.int .i64 0)).setCell ⟨ba, 2, none⟩ (.slice none 0 0)).setCell ⟨ba, 3, none⟩ (.slice none 0 0) = W6 at *
   obtain ⟨d0, d1, d2, d3, f0, f1, f2, f3, yl⟩ := qaC k6
   refine bodyPost_ret (v := .tuple #[.agg #[.slice aV V.length cV, .int .i64 0, .slice none 0 0, .slice none 0 0], .slice none 0 0, .int .i64 0]) (by simp [results, Tryz.results6, go_sem, d0, d1, d2, d3]) rfl ?_
   exact ⟨hs6, .inl ⟨he.out, aV, cV, rfl⟩⟩
 · have he := hEf.out h0
   have hk0' := hk0.out he
   have hzU := hz0.out he
   clear hk0 hz0 hEm hEf
   replace he := gi he; replace h0 := gi h0; replace hk0' := gi hk0'; replace hzU := gi hzU; replace hF := gi hF
   have hXl : (qaz X0).length = m := by rw [qaG]; exact hxl0
   go_upto_region 10 with fail
   have hT6 : TG w5.heap.size (w5.alloc (.cells #[.slice aF m cF] 33)) (some ⟨w5.heap.size, 0, none⟩) 1 1 [⟨aF, cF, qaz X0⟩] :=
    ⟨rfl, by
     have e : ([⟨aF, cF, qaz X0⟩] : List Grp).map Grp.v = [.slice aF m cF] := by simp [Grp.v, hXl]
     rw [e]
     exact qaL (gv _ _) (Nat.le_refl _) rfl rfl (by unfold maxLen; omega), fun g hg => by
     rw [List.mem_singleton.1 hg]
     simp only [Grp.v, hXl]
     exact hF.out.same fs2⟩
   have s6 : qad w5 (w5.alloc (.cells #[.slice aF m cF] 33)) := fs2
   have kb6 := s6.at kb4.out id
   have km6 := s6.at km4.out id
   have hz6 : w5.heap.size < (w5.alloc (.cells #[.slice aF m cF] 33)).heap.size := gu (gv _ _)
   generalize w5.alloc (.cells #[.slice aF m cF] 33) = W6 at *
   obtain ⟨bl, hbl⟩ : ∃ b, b = w5.heap.size := ⟨_, rfl⟩
   have hA6 : AuB w5 ba aV V.length cV 0 [] none 0 [] none 0 W6 := AuB.nil kb6 ((Fr.refl _ _).same s6)
   rw [← hbl] at hT6 hz6 ⊢
   have hFr := hF.out.row
   replace hXl := gi hXl; replace hT6 := gi hT6; replace s6 := gi s6; replace kb6 := gi kb6; replace km6 := gi km6; replace hbl := gi hbl; replace hA6 := gi hA6; replace hFr := gi hFr
   refine wp_region_lit ?_
   refine wpList_step (fun K hK => ?_); go_simp; refine hK _ _ ?_; clear hK
   (try simp only [Act.put, gj])
   refine wpList_step (fun K hK => ?_); go_simp; refine hK _ _ ?_; clear hK
   (try simp only [Act.put, gj])
   refine wpList_step (fun K hK => ?_); go_simp
   have hM7 : qaR qlZ (Value.int .i64) (W6.alloc (.map #[] 0)) W6.heap.size ([] : List (List UInt8 × Int)) := qcj _
   have s7 : qad W6 (W6.alloc (.map #[] 0)) := fs2
   generalize W6.alloc (.map #[] 0) = W7 at *
   obtain ⟨mk, hmk⟩ : ∃ b, b = W6.heap.size := ⟨_, rfl⟩
   rw [← hmk] at hM7 ⊢
   refine (KY.out X0 hzU.out aF cF W7 (hFr.out.same (s6.out.same s7))).mono ?_
   rintro e w8 ⟨rfl, s8⟩
   have hM8 := hM7.of_block (s8.block mk hM7.lt id)
   have s58 := s6.out.same (s7.same s8)
   have s68 := s7.same s8
   replace hM8 := gi hM8; replace s58 := gi s58; replace s68 := gi s68; replace hmk := gi hmk
   clear s7 s8 hM7
   refine hK _ _ ?_; clear hK
   (try simp only [Act.put, gj])
   refine qcF rfl (.tmp 38) (.tmp 40) (.const (.int .i64 0)) rfl keyS qp4 mk [] rfl hM8.out (qe7 X0) rfl 0 rfl ?_
   intro ob hob
   (try simp only [Act.put, gj])
   have hY : SyB w5 ba aV V.length cV [] none 0 [] none 0 mk (qbW [] (qe7 X0) 0) [⟨aF, cF, qaz X0⟩] (some ⟨bl, 0, none⟩) 1 1 (setObj w8 mk ob) :=
    SyB.put ⟨hA6.out.same s68.out, by have := hT6.out.same s68.out; rw [← hbl.out]; exact this, hM8.out, by have := hmk.out; have := hbl.out; omega, fun g hg hp b hb e => by simp [Value.ownBlock] at e⟩ hob
   have hB0 : BI (nxT As) V X0 0 [X0] [] [0] := BI.start
   clear hob hM8 s58 s68 hT6 s6 kb6 km6 hA6
   generalize setObj w8 mk ob = W9 at *
   replace hY := gi hY; replace hB0 := gi hB0
   go_wp2_with fail
   go_loopw [3, 10] (fun v3 v10 wr => ∃ (k : Nat) (T : List (List Nat)) (G : List (Nat × Int × Nat)) (D : List Nat) (gs : List Grp) (aT : Option Addr) (cT : Nat) (aK : Option Addr) (cK : Nat) (aE : Option Addr) (cE : Nat) (M : List (List UInt8 × Int)),
    v3 = .slice aT T.length cT ∧ v10 = .int .i64 k ∧ BI (nxT As) V X0 k T G D ∧ KnM m M T ∧ (∀ x ∈ T, x ∈ U) ∧ lst gs = T.map qaz ∧ SyB w5 ba aV V.length cV (mkL As T k) aK cK (esL G) aE cE mk M gs aT T.length cT wr) (fun _ i _ => 4001 - (intOf i).toNat)
   case atStart => exact ⟨0, [X0], [], [0], _, _, 1, _, 0, _, 0, _, rfl, rfl, hB0.out, hk0'.out, fun x hx => by rw [List.mem_singleton.1 hx]; exact hzU.out, rfl, hY.out⟩
   case round =>
    clear hY hB0
    obtain ⟨k, T, G, D, gs, aT, cT, aK, cK, aE, cE, M, rfl, rfl, hB, hKn, hTU, hlg, hY⟩ := hrel
    have hTl := hlen.out T hB.nd hTU
    have hkl := hB.kle
    have hsw : qad w wr := hs4.out.trans hY.au.fr (fun i hi e => by have : i = ba := e; have := hba.out; omega)
    have hVr := qaa.bx hV4.out kb4.out (by decide) hY.au.fr
    have hMr := hM4.out.bx kb4.out (by decide) hY.au.fr
    have kmr := hY.au.fr.at km4.out hne
    by_cases hkm : k < T.length
    · obtain ⟨bT, oT, aX, cX, rfl, hbT, t0, hX⟩ := qqA hY.tg hlg (fun x hx => hxl.out x (hTU x hx)) hkm
      have hxU := hTU _ (List.getElem_mem hkm)
      have hTk : T[k]? = some T[k] := List.getElem?_eq_getElem hkm
      have MKx := MK.out T[k] hxU
      have STx := ST.out T[k] hxU
      have hgk : T.getD k [] = T[k] := by rw [List.getD_eq_getElem?_getD, hTk]; rfl
      have hnxx := fun (c : Nat) (hc : c < V.length) (y : List Nat) => hnx.out c hc T[k] y hxU
      obtain ⟨x, hx⟩ : ∃ x, x = T[k] := ⟨_, rfl⟩
      rw [← hx] at hX hTk MKx STx hgk hnxx
      clear hx hxU
      replace hB := gi hB; replace hKn := gi hKn; replace hTU := gi hTU; replace hlg := gi hlg; replace hY := gi hY; replace hsw := gi hsw; replace hVr := gi hVr; replace hMr := gi hMr; replace kmr := gi kmr; replace hX := gi hX; replace hTk := gi hTk; replace MKx := gi MKx; replace STx := gi STx; replace hgk := gi hgk; replace hnxx := gi hnxx
      go_upto_region 14 with fail
      obtain ⟨y0, y1, y2, yl⟩ := g3l kmr.out
      refine qac (fun q => q = bm ∨ q = bT) [1, 0, 0, 0, 1, 3] [1, 2, 3, 0, 4, 5] (by kernel_rfl) (by kernel_rfl) ?_
      repeat ((first | refine gB rfl rfl fun _ k => ?_ | refine gC rfl rfl fun _ k => ?_); go_simp; (first | refine k _ ?_ | refine ⟨_, fun _ => rfl, k _ ?_⟩); clear k)
      refine gD rfl (by decide) (fun _ hK => ?_); go_simp
      refine (MKx.out _ _ _ _ _ (hsw.out.same fs3) (hX.out.same fs3)).mono ?_
      rintro e w4 ⟨rfl, sP⟩
      refine hK _ _ ?_; clear hK; try simp only [Act.put, gj]
      repeat ((first | refine gB rfl rfl fun _ k => ?_ | refine gC rfl rfl fun _ k => ?_); go_simp; (first | refine k _ ?_ | refine ⟨_, fun _ => rfl, k _ ?_⟩); clear k)
      refine gO (NoPanic.normal ?_)
      clear y0 y1 y2 yl
      replace sP := (show qad wr _ from fs3).same sP
      replace hY := gi (hY.out.same sP)
      replace hsw := gi (hsw.out.same sP)
      replace hVr := gi (hVr.out.same sP)
      replace hMr := gi (hMr.out.same sP)
      replace kmr := gi (sP.at kmr.out id)
      replace hX := gi (hX.out.same sP)
      clear sP t0 hbT MKx
      clear hsw hVr hMr kmr hX
      go_upto_if 53 with fail
      go_cut [] from 53 to 59 (fun wx => ∃ aJ cJ, SyB w5 ba aV V.length cV (mkL As T (k + 1)) aJ cJ (esL G) aE cE mk M gs (some ⟨bT, oT, none⟩) T.length cT wx)
      case first =>
       by_cases hb : mkB As x = true
       · rw [hb]
         have hmk := mkL_yes (As := As) (T := T) (k := k) (by rw [hgk.out]; exact hb)
         obtain ⟨x0, x1, x2, x3, f0, f1, f2, f3, xl⟩ := qaC hY.out.au.box
         have hz5 := hY.out.au.fr.size
         have hml := qok As T k
         generalize mkL As T k = ms at *
         replace hb := gi hb; replace hmk := gi hmk
         go_wp2_with (at_builtin; generalize hQQ : @wpList = QQ)
         subst hQQ
         refine qai rfl (.tmp 55) (.tmp 57) 33 rfl w5.heap.size 3 i3 (.int .i64 0) 1 8 Tryz.underlying33 hi3 hi3z hi3s hi3b rfl (by decide) (by decide) aK ms.length cK (gw ms) rfl (qag hY.out.au.ma fs2) (by omega) w4.heap.size [.int .i64 k] rfl rfl (gv _ _) (by simp [Value.oneCell']) (by simp; omega) ?_
         intro a9 c9 w9 ho9 hG9
         obtain ⟨kb9, hY9⟩ := hY.out.pushM (x := (k : Int)) (W := w4.alloc (.cells #[.int .i64 k] 3)) fs2 ho9 hG9
         rw [← hmk.out] at hY9
         clear x0 x1 x2 x3 f0 f1 f2 f3 xl ho9 hG9
         obtain ⟨x0, x1, x2, x3, f0, f1, f2, f3, xl⟩ := qaC kb9
         replace kb9 := gi kb9; replace hY9 := gi hY9
         go_wp2_with fail
         go_meet
         case rel => exact ⟨a9, c9, hY9.out⟩
       · have hb : mkB As x = false := by simpa using hb
         rw [hb]
         have hmk := mkL_no (As := As) (T := T) (k := k) (by rw [hgk.out]; exact hb)
         have hY9 := hY.out
         rw [← hmk] at hY9
         replace hY9 := gi hY9; replace hmk := gi hmk
         go_wp2_with fail
         go_meet
         case rel => exact ⟨aK, cK, hY9.out⟩
      case rest =>
       obtain ⟨aJ, cJ, hY9⟩ := hcut
       clear hY
       obtain ⟨ms2, hms2⟩ : ∃ l, l = mkL As T (k + 1) := ⟨_, rfl⟩
       rw [← hms2] at hY9
       have kmW := hY9.au.fr.at km4.out hne
       have hBo := hB.out.open hkm
       replace hY9 := gi hY9; replace kmW := gi kmW; replace hms2 := gi hms2; replace hBo := gi hBo
       obtain ⟨y0, y1, y2, yl⟩ := g3l kmW.out
       go_wp2_with fail
       clear y0 y1 y2 yl
       go_loopw [3, 63] (fun v3 v63 wr => ∃ (c : Nat) (T2 : List (List Nat)) (G2 : List (Nat × Int × Nat)) (D2 : List Nat) (gs2 : List Grp) (aT2 : Option Addr) (cT2 : Nat) (aE2 : Option Addr) (cE2 : Nat) (M2 : List (List UInt8 × Int)),
        v3 = .slice aT2 T2.length cT2 ∧ v63 = .int .i64 c ∧ c ≤ V.length ∧ BJ (nxT As) V X0 k c T2 G2 D2 ∧ T2[k]? = some x ∧ mkL As T2 (k + 1) = ms2 ∧ KnM m M2 T2 ∧ (∀ x ∈ T2, x ∈ U) ∧ lst gs2 = T2.map qaz ∧ SyB w5 ba aV V.length cV ms2 aJ cJ (esL G2) aE2 cE2 mk M2 gs2 aT2 T2.length cT2 wr) (fun _ i _ => V.length - (intOf i).toNat)
       case atStart => exact ⟨0, T, G, D, gs, _, cT, aE, cE, M, rfl, rfl, by omega, hBo.out, hTk.out, hms2.out.symm, hKn.out, hTU.out, hlg.out, hY9.out⟩
       case round =>
        clear hY9 kmW hms2 hBo hB hKn hTU hlg hTk
        obtain ⟨c, T2, G2, D2, gs2, aT2, cT2, aE2, cE2, M2, rfl, rfl, hc, hB, hTk, hms, hKn, hTU, hlg, hY⟩ := hrel
        have hTl2 := hlen.out T2 hB.nd hTU
        have hkT := hB.klt
        have hGl : G2.length ≤ 200000 := Nat.le_trans hB.glen (Nat.le_trans (Nat.mul_le_mul (show k + 1 ≤ 4001 by omega) hV32) (by decide))
        have hsw : qad w wr := hs4.out.trans hY.au.fr (fun i hi e => by have : i = ba := e; have := hba.out; omega)
        have hVr := qaa.bx hV4.out kb4.out (by decide) hY.au.fr
        have hMr := hM4.out.bx kb4.out (by decide) hY.au.fr
        have kmr := hY.au.fr.at km4.out hne
        by_cases hcm : c < V.length
        · obtain ⟨bV, oV, rfl, hbV, v0⟩ := qan.int hVr.row rfl hcm
          obtain ⟨bT2, oT2, aX, cX, rfl, hbT2, t0, hX⟩ := qqA hY.tg hlg (fun x hx => hxl.out x (hTU x hx)) hkT
          have hgx : T2[k] = x := by
           have := hTk
           rw [List.getElem?_eq_getElem hkT] at this
           exact Option.some.inj this
          rw [hgx] at hX
          have STc := STx.out V[c]
          have hnxc := hnxx.out c hcm
          have hno := fun hn => hB.no hTk hcm hn
          have hold := fun y hn hy => hB.old (y := y) hTk hcm hn hy
          have hnew := fun y hn hy => hB.new (y := y) hTk hcm hn hy
          generalize V[c] = ev at *
          clear hgx
          replace hB := gi hB; replace hKn := gi hKn; replace hTU := gi hTU; replace hlg := gi hlg; replace hY := gi hY; replace hsw := gi hsw; replace hVr := gi hVr; replace hMr := gi hMr; replace kmr := gi kmr; replace hX := gi hX; replace STc := gi STc; replace hnxc := gi hnxc; replace hno := gi hno; replace hold := gi hold; replace hnew := gi hnew; replace hTk := gi hTk; replace hms := gi hms
          go_upto_region 19 with fail
          clear v0 hbV
          obtain ⟨y0, y1, y2, yl⟩ := g3l kmr.out
          refine qac (fun q => q = bm ∨ q = bT2) [1, 0, 0, 0, 1, 0, 3, 0, 0, 0, 0, 0] [1, 2, 3, 5, 0, 4, 6, 7, 8, 9, 10, 11] (by kernel_rfl) (by kernel_rfl) ?_
          repeat ((first | refine gB rfl rfl fun _ k => ?_ | refine gC rfl rfl fun _ k => ?_); go_simp; (first | refine k _ ?_ | refine ⟨_, fun _ => rfl, k _ ?_⟩); clear k)
          refine gD rfl (by decide) (fun _ hK => ?_); go_simp
          refine (STc.out _ _ _ _ _ mbs _ (hsw.out.same fs3) (hX.out.same fs3) (hMr.out.same fs3)).mono ?_
          rintro e w4 ⟨sP, hr⟩
          clear y0 y1 y2 yl
          replace sP := (show qad wr _ from fs3).same sP
          rcases hr with ⟨hn, rfl⟩ | ⟨y, aY, cY, hn, rfl, hoY⟩
          · have hB2 := hno.out hn
            clear t0 hbT2
            replace hB2 := gi hB2; replace sP := gi sP; replace hn := gi hn
            refine hK _ _ ?_; clear hK; try simp only [Act.put, gj]
            repeat ((first | refine gB rfl rfl fun _ k => ?_ | refine gC rfl rfl fun _ k => ?_); go_simp; (first | refine k _ ?_ | refine ⟨_, fun _ => rfl, k _ ?_⟩); clear k)
            refine gO (NoPanic.normal ?_)
            go_wp2_with fail
            go_roundw
            case rel => exact ⟨c + 1, T2, G2, D2, gs2, _, cT2, aE2, cE2, M2, rfl, by go_num, by omega, hB2.out, hTk.out, hms.out, hKn.out, hTU.out, hlg.out, hY.out.same sP.out⟩
            case measure => simp [intOf]; omega
          · have hyU := hnxc.out y hn
            have hY4 := hY.out.same sP
            have hoY' : w4.ownsRow wr.heap.size 3 1 (.slice aY m cY) m (gw (qaz y)) := qej hoY (by simp)
            have hdY : ∀ b, (Value.slice aY m cY).ownBlock = some b → (Value.slice aJ ms2.length cJ).ownBlock ≠ some b := fun b hb e => by
             have h1 := (hoY'.lt b hb).1
             obtain ⟨cur, h2⟩ := qaj hY.out.au.ma e
             have := gu h2
             omega
            have hSY := qaa.of_owns hoY'
            have hyl := hxl.out y hyU
            clear t0 hbT2 hoY hoY' sP hnxc hno
            replace hyU := gi hyU; replace hY4 := gi hY4; replace hdY := gi hdY; replace hSY := gi hSY; replace hn := gi hn; replace hyl := gi hyl
            refine hK _ _ ?_; clear hK; try simp only [Act.put, gj]
            repeat ((first | refine gB rfl rfl fun _ k => ?_ | refine gC rfl rfl fun _ k => ?_); go_simp; (first | refine k _ ?_ | refine ⟨_, fun _ => rfl, k _ ?_⟩); clear k)
            refine gO (NoPanic.normal ?_)
            go_wp2_with fail
            refine (KY.out y hyU.out aY cY w4 hSY.out.row).mono ?_
            rintro e w6 ⟨rfl, sQ⟩
            have hY6 := hY4.out.same sQ
            have hSY6 := hSY.out.same sQ
            clear hY4 hSY sQ hsw hVr hMr kmr hX
            have hget := hkn.out M2 T2 hKn.out y hyU.out
            by_cases hyT : y ∈ T2
            · rw [if_pos hyT] at hget
              have hlk := qa6 (w := w6) keyS qp4 hY6.mp hget true
              simp only [if_true] at hlk
              have hB2 := hold.out y hn.out hyT
              generalize qdX T2 y = p at *
              replace hB2 := gi hB2; replace hget := gi hget; replace hyT := gi hyT; replace hSY6 := gi hSY6
              obtain ⟨x0, x1, x2, x3, f0, f1, f2, f3, xl⟩ := qaC hY6.au.box
              have hz5 : w5.heap.size ≤ w6.heap.size := hY6.au.fr.size
              have hel : (esL G2).length ≤ 200000 := by rw [qgm]; exact hGl
              have hes := qk5 G2 (k, ev, p)
              replace hY6 := gi hY6; replace hes := gi hes
              go_wp2_with (at_builtin; generalize hQQ : @wpList = QQ)
              subst hQQ
              refine qai rfl (.tmp 103) (.tmp 108) 37 rfl w5.heap.size 57 j3 (.agg #[.int .i64 0, .int .i64 0, .int .i64 0]) 3 24 Tryz.underlying37 hj3 hj3z hj3s hj3b rfl (by decide) (by decide) aE2 (esL G2).length cE2 (qap (esL G2)) rfl (qag hY6.out.au.es fs2) (by omega) w6.heap.size [.int .i64 k, .int .i64 ev, .int .i64 ((p : Nat) : Int)] rfl rfl (gv _ _) (by simp [Value.oneCell']) (by simp; omega) ?_
              intro a9 c9 w9 ho9 hG9
              obtain ⟨kb9, hY9⟩ := hY6.out.pushE (x := ((k : Int), ev, ((p : Nat) : Int))) (W := w6.alloc (.cells #[.int .i64 k, .int .i64 ev, .int .i64 ((p : Nat) : Int)] 57)) fs2 ho9 hG9
              rw [← hes.out] at hY9
              clear x0 x1 x2 x3 f0 f1 f2 f3 xl ho9 hG9
              obtain ⟨x0, x1, x2, x3, f0, f1, f2, f3, xl⟩ := qaC kb9
              replace kb9 := gi kb9; replace hY9 := gi hY9
              go_wp2_with fail
              go_roundw
              case rel => exact ⟨c + 1, T2, _, D2, gs2, _, cT2, a9, c9, M2, rfl, by go_num, by omega, hB2.out, hTk.out, hms.out, hKn.out, hTU.out, hlg.out, hY9.out⟩
              case measure => simp [intOf]; omega
            · rw [if_neg hyT] at hget
              have hlk := qbo (w := w6) keyS qp4 hY6.mp hget (qi4 _) true
              simp only [if_true] at hlk
              have hB2 := hnew.out y hn.out hyT
              have hKn2 := hkp.out M2 T2 hKn.out y hyU.out hyT
              have h96 : (((T2.length : Nat) : Int) == 4096) = false := by rw [beq_eq_false_iff_ne]; omega
              replace hB2 := gi hB2; replace hKn2 := gi hKn2; replace hget := gi hget; replace hyT := gi hyT; replace hY6 := gi hY6; replace hSY6 := gi hSY6
              go_wp2_with fail
              clear hlk
              refine (KY.out y hyU.out aY cY w6 hSY6.out.row).mono ?_
              rintro e w7 ⟨rfl, sR⟩
              have hY7 := hY6.out.same sR
              have hSY7 := hSY6.out.same sR
              clear hY6 hSY6 sR h96
              have hM7 := hY7.mp
              have hz7 : w5.heap.size ≤ w7.heap.size := hY7.au.fr.size
              replace hY7 := gi hY7; replace hSY7 := gi hSY7; replace hM7 := gi hM7
              go_wp2_with (first | (at_mapUpdate; refine qbp rfl (.tmp 94) (.tmp 96) (.tmp 97) rfl keyS qp4 mk M2 rfl hM7.out (qe7 y) rfl ((T2.length : Nat) : Int) rfl ?_; intro ob hob; replace hob := gi hob) | (at_builtin; generalize hQQ : @wpList = QQ))
              have hYp := hY7.out.put hob.out
              have hSYp : qaa (setObj w7 mk ob) 3 1 (.slice aY m cY) m (gw (qaz y)) := Fr.at_map hSY7.out (by obtain ⟨es, c, h1, _⟩ := hM7.out; exact ⟨es, c, h1⟩) ((Fr.refl (fun q => q = mk) w7).setObj _ _ (fun _ => rfl))
              have hzp : w5.heap.size ≤ (setObj w7 mk ob).heap.size := hYp.au.fr.size
              have hze : (setObj w7 mk ob).heap.size = w7.heap.size := by simp
              generalize setObj w7 mk ob = wp at *
              clear hY7 hSY7 hM7 hob hz7
              replace hYp := gi hYp; replace hSYp := gi hSYp; replace hze := gi hze
              subst hQQ
              refine qai rfl (.tmp 98) (.tmp 100) 40 rfl w5.heap.size 33 t3 (.slice none 0 0) 1 24 Tryz.underlying40 ht3 ht3z ht3s ht3b rfl (by decide) (by decide) _ T2.length cT2 (gs2.map Grp.v) rfl (qag hYp.out.tg.own fs2) (by omega) w7.heap.size [.slice aY m cY] rfl rfl (by rw [← hze.out]; exact gv _ _) (by simp [Value.oneCell']) (by simp; omega) ?_
              intro a8 c8 w8 ho8 hG8
              have hgv : Grp.v ⟨aY, cY, qaz y⟩ = .slice aY m cY := by simp [Grp.v, qaG, hyl.out]
              have hgl : (qaz y).length = m := by rw [qaG]; exact hyl.out
              have hY8 := hYp.out.pushT (g := ⟨aY, cY, qaz y⟩) (W := wp.alloc (.cells #[.slice aY m cY] 33)) fs2 (by rw [hgv]; simp only [hgl]; exact hSYp.out.same fs2) (fun _ b hb => hdY.out b (by rw [← hgv]; exact hb)) (by rw [hgv]; exact ho8) hG8
              clear ho8 hG8 hgl hYp hSYp hzp hgv
              obtain ⟨x0, x1, x2, x3, f0, f1, f2, f3, xl⟩ := qaC hY8.au.box
              have hz5 : w5.heap.size ≤ w8.heap.size := hY8.au.fr.size
              have hel : (esL G2).length ≤ 200000 := by rw [qgm]; exact hGl
              have hes := qk5 G2 (k, ev, T2.length)
              replace hY8 := gi hY8; replace hes := gi hes
              go_wp2_with (at_builtin; generalize hQQ : @wpList = QQ)
              subst hQQ
              refine qai rfl (.tmp 103) (.tmp 108) 37 rfl w5.heap.size 57 j3 (.agg #[.int .i64 0, .int .i64 0, .int .i64 0]) 3 24 Tryz.underlying37 hj3 hj3z hj3s hj3b rfl (by decide) (by decide) aE2 (esL G2).length cE2 (qap (esL G2)) rfl (qag hY8.out.au.es fs2) (by omega) w8.heap.size [.int .i64 k, .int .i64 ev, .int .i64 ((T2.length : Nat) : Int)] rfl rfl (gv _ _) (by simp [Value.oneCell']) (by simp; omega) ?_
              intro a9 c9 w9 ho9 hG9
              obtain ⟨kb9, hY9⟩ := hY8.out.pushE (x := ((k : Int), ev, ((T2.length : Nat) : Int))) (W := w8.alloc (.cells #[.int .i64 k, .int .i64 ev, .int .i64 ((T2.length : Nat) : Int)] 57)) fs2 ho9 hG9
              rw [← hes.out] at hY9
              clear x0 x1 x2 x3 f0 f1 f2 f3 xl ho9 hG9
              obtain ⟨x0, x1, x2, x3, f0, f1, f2, f3, xl⟩ := qaC kb9
              replace kb9 := gi kb9; replace hY9 := gi hY9
              go_wp2_with fail
              go_roundw
              case rel => exact ⟨c + 1, T2 ++ [y], _, _, gs2 ++ [⟨aY, cY, qaz y⟩], a8, c8, a9, c9, _, by rw [List.length_append]; rfl, by go_num, by omega, hB2.out, by rw [List.getElem?_append_left hkT]; exact hTk.out, by rw [mkL_app _ hkT]; exact hms.out, hKn2.out, fun z hz => by
               rcases List.mem_append.1 hz with hz | hz
               · exact hTU.out z hz
               · rw [List.mem_singleton.1 hz]; exact hyU.out, by rw [lst, List.map_append, List.map_append, ← hlg.out]; rfl, by rw [List.length_append]; exact hY9.out⟩
              case measure => simp [intOf]; omega
        · obtain rfl : c = V.length := by omega
          have hB2 := hB.shut (Nat.le_refl _)
          replace hB2 := gi hB2; replace hKn := gi hKn; replace hTU := gi hTU; replace hlg := gi hlg; replace hY := gi hY; replace hsw := gi hsw; replace hVr := gi hVr; replace hMr := gi hMr; replace kmr := gi kmr; replace hTk := gi hTk; replace hms := gi hms; replace hB := gi hB
          go_wp2_with fail
          go_roundw
          case rel => exact ⟨k + 1, T2, G2, D2, gs2, aT2, cT2, aJ, cJ, aE2, cE2, M2, rfl, by go_num, hB2.out, hKn.out, hTU.out, hlg.out, by rw [hms.out]; exact hY.out⟩
          case measure => simp [intOf]; omega
    · obtain rfl : k = T.length := by omega
      replace hB := gi hB; replace hKn := gi hKn; replace hTU := gi hTU; replace hlg := gi hlg; replace hY := gi hY; replace hsw := gi hsw; replace hVr := gi hVr; replace hMr := gi hMr; replace kmr := gi kmr
      obtain ⟨x0, x1, x2, x3, f0, f1, f2, f3, xl⟩ := qaC hY.out.au.box
      go_wp2_with fail
      clear x0 x1 x2 x3 f0 f1 f2 f3 xl
      have F1 : Fr (fun q => q = ba) wr (wr.setCell ⟨ba, 1, none⟩ (.int .i64 T.length)) := (Fr.refl _ _).setCell _ _ (fun _ => rfl)
      have k1 := qaf hY.out.au.box 1 (.int .i64 T.length)
      simp only [List.setIfInBounds_toArray, List.set_cons_zero, List.set_cons_succ] at k1
      obtain ⟨k6, f6⟩ := qgV (u0 := .slice aV V.length cV) (u1 := .int .i64 T.length) (u2 := .slice aK (mkL As T T.length).length cK) (u3 := .slice aE (esL G).length cE) k1
      have f7 := F1.trans f6 (fun i hi e => e)
      have hs7 := hsw.out.trans f7 (fun i hi e => by have : i = ba := e; have := hba.out; omega)
      obtain ⟨r1, r2, r3⟩ := hY.out.rows f7
      clear F1 k1 f6 f7
      generalize ((((wr.setCell ⟨ba, 1, none⟩ (.int .i64 T.length)).setCell ⟨ba, 0, none⟩ (.slice aV V.length cV)).setCell ⟨ba, 1, none⟩ (.int .i64 T.length)).setCell ⟨ba, 2, none⟩ (.slice aK (mkL As T T.length).length cK)).setCell ⟨ba, 3, none⟩ (.slice aE (esL G).length cE) = W6 at *
      obtain ⟨d0, d1, d2, d3, f0, f1, f2, f3, yl⟩ := qaC k6
      refine bodyPost_ret (v := .tuple #[.agg #[.slice aV V.length cV, .int .i64 T.length, .slice aK (mkL As T T.length).length cK, .slice aE (esL G).length cE], .slice aT T.length cT, .int .i64 0]) (by simp [results, Tryz.results6, go_sem, d0, d1, d2, d3]) rfl ?_
      exact ⟨hs7, .inr ⟨he.out, T, G, D, aV, cV, aK, cK, aE, cE, gs, aT, cT, hB.out, hTU.out, hlg.out, rfl, r1, r2, r3⟩⟩
theorem qiS {α β : Type} {f : β → α → β} {l : List α} {j : Nat} (hj : j < l.length) (b : β) : (l.take (j + 1)).foldl f b = f ((l.take j).foldl f b) l[j] := by
 rw [List.take_add_one, List.getElem?_eq_getElem hj, List.foldl_append]
 rfl
theorem qiT (g : List Bool) (i : Nat) (v : Bool) : (gz g).toArray.setIfInBounds i (.bool v) = (gz (g.set i v)).toArray := by simp [gz, List.map_set]
theorem qeR {w : World} {b : Nat} {g : List Bool} {k i : Nat} (h : w.heap[b]? = some (.cells (gz g).toArray 4 (0, 0))) (hl : g.length = k) (hi : i < k) : w.cell? ⟨b, i, none⟩ = some (.bool (g.getD i false)) ∧ w.frozen? ⟨b, i, none⟩ = false ∧ b < w.heap.size := by
 refine ⟨?_, qak h i, gu h⟩
 rw [gn h i]
 simp [gz, List.getD_eq_getElem?_getD, List.getElem?_eq_getElem (show i < g.length by omega)]
theorem qgp {w : World} {b : Nat} {g : List Nat} {k i : Nat} (h : w.heap[b]? = some (.cells (gw (qaz g)).toArray 3 (0, 0))) (hl : g.length = k) (hi : i < k) : w.cell? ⟨b, i, none⟩ = some (.int .i64 (g.getD i 0 : Nat)) ∧ w.frozen? ⟨b, i, none⟩ = false ∧ b < w.heap.size := by
 refine ⟨?_, qak h i, gu h⟩
 rw [gn h i]
 simp [gw, qaz, List.getD_eq_getElem?_getD, List.getElem?_eq_getElem (show i < g.length by omega)]
theorem dst_len (n : Nat) (G : List (Nat × Int × Nat)) : (G.foldl qbV (List.replicate n 0)).length = n := by
 refine qjU (P := fun G => (G.foldl qbV (List.replicate n 0)).length = n) (by simp) (fun G x ih => ?_) G
 rw [List.foldl_append]
 show (qbV _ x).length = n
 rw [qiE, ih]
theorem dst_le (n : Nat) (G : List (Nat × Int × Nat)) : ∀ i, (G.foldl qbV (List.replicate n 0)).getD i 0 ≤ G.length := by
 refine qjU (P := fun G => ∀ i, (G.foldl qbV (List.replicate n 0)).getD i 0 ≤ G.length) (fun i => ?_) (fun G x ih i => ?_) G
 · simp only [List.foldl_nil, List.getD_eq_getElem?_getD, List.getElem?_replicate]
   split <;> simp
 · rw [List.foldl_append, List.length_append]
   have h1 := ih i
   have h2 := ih x.1
   show (qbV (G.foldl qbV (List.replicate n 0)) x).getD i 0 ≤ G.length + 1
   generalize G.foldl qbV (List.replicate n 0) = L at *
   unfold qbV
   by_cases hc : x.1 < x.2.2 ∧ L.getD x.2.2 0 = 0
   · rw [if_pos hc, qiD]
     split <;> omega
   · rw [if_neg hc]
     omega
theorem qp6 (g : List Nat) (i v : Nat) : (gw (qaz g)).toArray.setIfInBounds i (.int .i64 ((v : Nat) : Int)) = (gw (qaz (g.set i v))).toArray := by rw [qdo, qfl]
theorem SynE.uni {N : Nw} {w w' : World} {E : Ending} (h : SynE N w E w') (OK : qby N) (hT4 : (qaA N.ns).length ≤ 4000) : ∃ (T : List (List Nat)) (G : List (Nat × Int × Nat)) (aV : Option Addr) (qV cV : Nat) (aM : Option Addr) (cM : Nat) (aE : Option Addr) (cE : Nat) (gs : List Grp) (aT : Option Addr) (cT : Nat),
 RchF N T G ∧ lst gs = T.map qaz ∧ E = .returned (.tuple #[.agg #[.slice aV qV cV, .int .i64 T.length, .slice aM (mkL N.As T T.length).length cM, .slice aE (esL G).length cE], .slice aT T.length cT, .int .i64 0]) ∧
  qan w' (.slice aM (mkL N.As T T.length).length cM) (mkL N.As T T.length).length (gw (mkL N.As T T.length)) ∧ qbb w' aE (esL G) cE ∧ qiA w' (.slice aT T.length cT) T.length gs ∧ T.length ≤ 4000 ∧ G.length ≤ 128000 ∧ qad w w' := by
 obtain ⟨hs, h⟩ := h
 rcases h with ⟨he, aV, cV, rfl⟩ | ⟨he, T, G, D, aV, cV, aM, cM, aE, cE, gs, aT, cT, hB, hT, hl, rfl, h1, h2, h3⟩
 · exact ⟨[], [], aV, _, cV, none, 0, none, 0, [], none, 0, qpX OK he, rfl, rfl, qan.nil _, (qaa.nil w' 57 3).nds (L := []), ⟨qan.nil _, by simp⟩, by simp, by simp, hs⟩
 · have hl4 : T.length ≤ 4000 := Nat.le_trans (qj8 hB.nd hT) hT4
   have hV32 : (qaJ N.As).length ≤ 32 := by
    have := (qes OK.ok.au N.As.length (Nat.le_refl _)).2
    rwa [List.take_length] at this
   refine ⟨T, G, aV, _, cV, aM, cM, aE, cE, gs, aT, cT, qpY OK he hB hT, hl, rfl, h1.row, h2.nds, h3, hl4, ?_, hs⟩
   rw [hB.edg]
   have h5 := qgn (fun j => qhK (nxT N.As) T (qaJ N.As) j) (List.range T.length)
   rw [List.length_range] at h5
   exact Nat.le_trans h5 (Nat.le_trans (Nat.mul_le_mul hl4 hV32) (by decide))
theorem qiU (B : List Nat) (h86 : B.length = 86) (hB : ∀ y ∈ B, y < 256) (w : World) :
 Calls Tryz.prog 3 #[.agg (qdS B).toArray] w fun e w' => e = .returned (.bool true) ∧ qad w w' := by
 obtain ⟨i3, hi3, hi3z, hi3s, hi3b⟩ := info_parts qmF
 obtain ⟨j3, hj3, hj3z, hj3s, hj3b⟩ := info_parts qc0
 have KN := fun W => qjV W
 have MK := fun W => qlW B h86 hB 3 (by omega) W
 obtain ⟨cs, hcs⟩ : ∃ cs, cs = (qdS B).toArray := ⟨_, rfl⟩
 have hsz : cs.size = 86 := by rw [hcs]; simp [qdS, h86]
 rw [← hcs] at MK ⊢
 clear hB
 replace KN := gi KN; replace MK := gi MK; replace hsz := gi hsz; replace hcs := gi hcs
 go_enter Tryz.func3, Tryz.ntmps3
 go_upto_region 1 with fail
 have kg := gv w (.cells cs 30)
 have s0 : qad w (w.alloc (.cells cs 30)) := fs2
 generalize w.alloc (.cells cs 30) = W0 at *
 generalize w.heap.size = bg at *
 replace kg := gi kg; replace s0 := gi s0
 go_wp2_with fail
 refine (KN.out _).mono ?_
 rintro e w1 ⟨rfl, s1⟩
 replace kg := gi (s1.at kg.out id)
 have hs1 := s0.out.same s1
 clear s1 s0 KN
 replace hs1 := gi hs1
 go_upto_region 3 with fail
 refine wp_region_lit ?_
 refine qgh rfl 30 (.tmp 1) rfl bg 0 rfl cs.toList _ (by have := qiJ kg.out 0 86; rw [List.drop_zero, List.take_of_length_le (by simp [hsz.out])] at this; exact this) Tryz.underlying30 rfl (by rw [qpO]; simp [hsz.out]) ?_
 (try simp only [Act.put, gj])
 refine wpList_step (fun K hK => ?_)
 go_simp
 refine (MK.out _).mono ?_
 rintro e w2 ⟨N, rfl, hat, hmd, s2⟩
 have hs2 := hs1.out.same s2
 clear s2 hs1 MK kg
 refine hK _ _ ?_
 clear hK
 unfold Nw.v
 (try simp only [Act.put, gj])
 have gN := hmd.grp (by omega)
 have OK := gN.net
 have hT125 : (qaA N.ns).length ≤ 4000 := by
  have h1 := qhu N.ns 5 (fun n hn => by
   obtain ⟨j, hj, rfl⟩ := List.mem_iff_getElem.1 hn
   have := gN.grp.ns j
   rwa [List.getD_eq_getElem?_getD, List.getElem?_eq_getElem hj] at this)
  refine Nat.le_trans h1 (Nat.le_trans (Nat.pow_le_pow_right (by omega) (show N.ns.length ≤ 3 by rw [N.ns_len]; exact gN.m3)) (by decide))
 have h99 : ∀ x ∈ qaA N.ns, ∀ n ∈ x, n < 100 := fun x hx n hn => by
  obtain ⟨h1, h2⟩ := qcD hx
  obtain ⟨i, hi, rfl⟩ := List.mem_iff_getElem.1 hn
  have h3 := h2 i (by omega)
  have h4 := OK.n64 _ (List.getElem_mem (show i < N.As.length by omega))
  rw [List.getD_eq_getElem?_getD, List.getElem?_eq_getElem hi] at h3
  simp only [Option.getD_some] at h3
  omega
 have SY := fun W (hW : N.at W) => (qp5 N OK.ok gN.err0 OK.sm h99 hT125 W hW.au).mono fun e w' h => SynE.uni h OK hT125
 have RC := fun W (hW : N.at W) => qdV N OK gN.grp.fits W hW
 have BK := fun W (hW : N.at W) => qjQ N OK gN.grp.fits W hW
 clear hmd h99 hT125
 replace hat := gi hat; replace hs2 := gi hs2; replace gN := gi gN; replace OK := gi OK; replace SY := gi SY; replace RC := gi RC; replace BK := gi BK
 go_upto_region 4 with fail
 have kn := gv w2 (.cells #[.slice N.aA N.As.length N.cA, .slice N.aO N.o.length N.cO] 35)
 have s3 : qad w2 (w2.alloc (.cells #[.slice N.aA N.As.length N.cA, .slice N.aO N.o.length N.cO] 35)) := fs2
 generalize w2.alloc (.cells #[.slice N.aA N.As.length N.cA, .slice N.aO N.o.length N.cO] 35) = W3 at *
 generalize w2.heap.size = bn at *
 replace hat := gi (hat.out.same s3)
 replace hs2 := gi (hs2.out.same s3)
 clear s3
 replace kn := gi kn
 obtain ⟨x0, x1, xl⟩ := g2l kn.out
 go_wp2_with fail
 refine (SY.out _ hat.out).mono ?_
 rintro e w4 ⟨T, G, aV, qV, cV, aM, cM, aE, cE, gs, aT, cT, hR, hlg, rfl, hMr, hEr, hGs, hT4, hG4, s4⟩
 clear x0 x1 xl
 replace kn := gi (s4.at kn.out id)
 replace hat := gi (hat.out.same s4)
 replace hs2 := gi (hs2.out.same s4)
 clear s4 SY
 have hml := qok N.As T T.length
 have hmm : ∀ s ∈ mkL N.As T T.length, ∃ i : Nat, s = i ∧ i < T.length := fun s hs => by
  obtain ⟨i, h1, h2, _⟩ := qj7.1 hs
  exact ⟨i, h1, h2⟩
 have hgl : ∀ g ∈ gs, g.l.length ≤ 100000 := fun g hg => by
  have h1 : g.l ∈ lst gs := List.mem_map.2 ⟨g, hg, rfl⟩
  rw [hlg] at h1
  obtain ⟨x, hx, h2⟩ := List.mem_map.1 h1
  rw [← h2, qaG, (qcD (hR.sub x hx)).1]
  have := gN.out.m3
  omega
 have hreach := hR.reach
 have hblock := hR.block
 have hbd := hR.bd
 have hnd := hR.nd
 obtain ⟨ms, hms⟩ : ∃ l, l = mkL N.As T T.length := ⟨_, rfl⟩
 rw [← hms] at hMr hml hmm ⊢
 simp only [← hms] at hblock
 obtain ⟨k, hk⟩ : ∃ k, k = T.length := ⟨_, rfl⟩
 simp only [← hk] at hreach hblock hbd hGs hml hmm hT4 ⊢
 have hqE : (esL G).length ≤ 128000 := by rw [qgm]; exact hG4
 clear hR hms
 replace hlg := gi hlg; replace hMr := gi hMr; replace hEr := gi hEr; replace hGs := gi hGs; replace hmm := gi hmm; replace hk := gi hk; replace hgl := gi hgl; replace hreach := gi hreach; replace hblock := gi hblock; replace hbd := gi hbd; replace hnd := gi hnd
 go_upto_region 5 with fail
 have ka := qab (gv w4 (.cells #[.slice aV qV cV, .int .i64 k, .slice aM ms.length cM, .slice aE (esL G).length cE] 39)) (.cells #[.slice aT k cT] 40)
 have kl := gv (w4.alloc (.cells #[.slice aV qV cV, .int .i64 k, .slice aM ms.length cM, .slice aE (esL G).length cE] 39)) (.cells #[.slice aT k cT] 40)
 rw [← al1] at kl
 have s5 : qad w4 ((w4.alloc (.cells #[.slice aV qV cV, .int .i64 k, .slice aM ms.length cM, .slice aE (esL G).length cE] 39)).alloc (.cells #[.slice aT k cT] 40)) := fs2
 generalize (w4.alloc (.cells #[.slice aV qV cV, .int .i64 k, .slice aM ms.length cM, .slice aE (esL G).length cE] 39)).alloc (.cells #[.slice aT k cT] 40) = W5 at *
 obtain ⟨bl, hbl⟩ : ∃ b, b = w4.heap.size + 1 := ⟨_, rfl⟩
 rw [← hbl] at kl ⊢
 generalize w4.heap.size = ba at *
 replace kn := gi (s5.at kn.out id)
 replace hat := gi (hat.out.same s5)
 replace hs2 := gi (hs2.out.same s5)
 replace hMr := gi (hMr.out.same s5)
 replace hEr := gi (hEr.out.same s5)
 replace hGs := gi (hGs.out.same s5)
 clear s5 hbl
 replace ka := gi ka; replace kl := gi kl
 obtain ⟨x0, x1, xl⟩ := g2l kn.out
 go_wp2_with fail
 refine (RC.out _ hat.out).mono ?_
 rintro e w6 ⟨⟨dn, a6, c6, L6, r6⟩, kk, rfl, hd, hdt, q1, q2, s6⟩
 clear x0 x1 xl
 obtain rfl : dn = (N.all : Int) := hdt.1
 obtain ⟨⟨F, hF, hFe, hFx⟩, hmx⟩ := hreach.out kk q1 q2
 have hdt6 := hdt
 rw [show clI N.all 0 (N.rel (qau N.As (qaJ N.As))) (N.set (N.chosen fun _ => [0])) kk = N.set F from hFe] at hdt6
 replace kn := gi (s6.at kn.out id)
 replace ka := gi (s6.at ka.out id)
 replace kl := gi (s6.at kl.out id)
 replace hat := gi (hat.out.same s6)
 replace hs2 := gi (hs2.out.same s6)
 replace hMr := gi (hMr.out.same s6)
 replace hEr := gi (hEr.out.same s6)
 replace hGs := gi (hGs.out.same s6)
 clear s6 RC q2 hdt hreach hFe
 replace hd := gi hd; replace hdt6 := gi hdt6; replace hF := gi hF; replace hFx := gi hFx; replace hmx := gi hmx; replace q1 := gi q1
 go_upto_region 6 with fail
 have k6 := gv w6 (.cells #[.int .i64 N.all, .slice a6 L6.length c6, .int .i64 r6] 46)
 have s7 : qad w6 (w6.alloc (.cells #[.int .i64 N.all, .slice a6 L6.length c6, .int .i64 r6] 46)) := fs2
 generalize w6.alloc (.cells #[.int .i64 N.all, .slice a6 L6.length c6, .int .i64 r6] 46) = W7 at *
 generalize w6.heap.size = b6 at *
 replace kn := gi (s7.at kn.out id)
 replace ka := gi (s7.at ka.out id)
 replace kl := gi (s7.at kl.out id)
 replace hat := gi (hat.out.same s7)
 replace hs2 := gi (hs2.out.same s7)
 replace hMr := gi (hMr.out.same s7)
 replace hEr := gi (hEr.out.same s7)
 replace hGs := gi (hGs.out.same s7)
 replace hd := gi (qaa.same hd.out s7)
 clear s7
 replace k6 := gi k6
 obtain ⟨x0, x1, xl⟩ := g2l kn.out
 go_wp2_with fail
 refine (BK.out _ hat.out).mono ?_
 rintro e w8 ⟨j1, j2, p1, p2, hM⟩
 obtain ⟨⟨b, hb1, hb2, hb3⟩, hMo⟩ : (∃ B, Sup N.ns B ∧ blkT N.all (rA N j1) (rB N j2) = N.set B ∧ ∀ x ∈ qaA N.ns, B x = (decide (x ∈ T) && !(qaB G (qdt ms (List.replicate k false)) k).getD (qdX T x) false)) ∧ DgN N.all (blkT N.all (rA N j1) (rB N j2)) W7 e w8 := ⟨hblock.out j1 j2 p1 p2, hM⟩
 rw [hb2] at hMo
 obtain ⟨a10, c10, L10, r10, rfl, hd10, hz10, s8⟩ := hMo.open
 clear hM hMo hb2 p1 p2 hblock BK
 clear x0 x1 xl
 replace kn := gi (s8.at kn.out id)
 replace ka := gi (s8.at ka.out id)
 replace kl := gi (s8.at kl.out id)
 replace k6 := gi (s8.at k6.out id)
 replace hat := gi (hat.out.same s8)
 replace hs2 := gi (hs2.out.same s8)
 replace hMr := gi (hMr.out.same s8)
 replace hEr := gi (hEr.out.same s8)
 replace hGs := gi (hGs.out.same s8)
 replace hd := gi (qaa.same hd.out s8)
 clear s8
 replace hd10 := gi hd10; replace hz10 := gi hz10; replace hb1 := gi hb1; replace hb3 := gi hb3
 go_upto_region 7 with fail
 have k10 := gv w8 (.cells #[.int .i64 N.all, .slice a10 L10.length c10, .int .i64 r10] 46)
 have s9 : qad w8 (w8.alloc (.cells #[.int .i64 N.all, .slice a10 L10.length c10, .int .i64 r10] 46)) := fs2
 generalize w8.alloc (.cells #[.int .i64 N.all, .slice a10 L10.length c10, .int .i64 r10] 46) = W9 at *
 generalize w8.heap.size = b10 at *
 replace kn := gi (s9.at kn.out id)
 replace ka := gi (s9.at ka.out id)
 replace kl := gi (s9.at kl.out id)
 replace k6 := gi (s9.at k6.out id)
 replace hat := gi (hat.out.same s9)
 replace hs2 := gi (hs2.out.same s9)
 replace hMr := gi (hMr.out.same s9)
 replace hEr := gi (hEr.out.same s9)
 replace hGs := gi (hGs.out.same s9)
 replace hd := gi (qaa.same hd.out s9)
 replace hd10 := gi (qaa.same hd10.out s9)
 clear s9
 have hall := gN.out.grp.all
 have IS := qqx N OK.out.ok (by omega) gN.out.t1000 gN.out.tl ⟨(N.all : Int), a6, c6, L6, r6⟩ F (fun x => (lst gs).any fun y => decide (y = qaz x)) hF.out (fun x hx => by rw [hFx.out x hx, hlg.out, qk8]) 10 #[.pointer (some ⟨bl, 0, none⟩)] W9 hat.out hd.out hdt6.out qpZ
  (fun x hx W' a c hW' hR => rch1 gs aT k cT bl (qaz x) a N.As.length c W' (hGs.out.same hW') (by omega) hgl.out (by rw [qaG]; exact (qcD hx).1) hR (hW'.at kl.out id))
 replace IS := gi IS; replace k10 := gi k10
 obtain ⟨x0, x1, xl⟩ := g2l kn.out
 obtain ⟨v0, v1, v2, v3, vl⟩ := g4l ka.out
 have u0 := gn kl.out 0
 have ul := gu kl.out
 obtain ⟨y0, y1, y2, yl⟩ := g3l k6.out
 have hkk : ((k : Int) == (k : Int)) = true := by simp
 go_wp2_with fail
 refine IS.out.mono ?_
 rintro e w10 ⟨rfl, s10⟩
 clear x0 x1 xl
 clear v0 v1 v2 v3 vl
 clear y0 y1 y2 yl
 clear u0 ul hkk
 replace kn := gi (s10.at kn.out id)
 replace ka := gi (s10.at ka.out id)
 replace kl := gi (s10.at kl.out id)
 replace k10 := gi (s10.at k10.out id)
 replace hat := gi (hat.out.same s10)
 replace hs2 := gi (hs2.out.same s10)
 replace hMr := gi (hMr.out.same s10)
 replace hEr := gi (hEr.out.same s10)
 replace hGs := gi (hGs.out.same s10)
 replace hd10 := gi (qaa.same hd10.out s10)
 clear s10 IS k6 hd hdt6 hF hFx
 obtain ⟨v0, v1, v2, v3, vl⟩ := g4l ka.out
 have hmk := fun W => qjK (P := Tryz.prog) 33 3 j3 Tryz.underlying33 hj3 hj3z hj3s hj3b k (by omega) W
 go_upto_region 10 with (first | (at_make; refine qeK _ rfl (.tmp 70) (.tmp 70) 55 rfl 4 i3 Tryz.underlying55 hi3 hi3z hi3s hi3b k rfl rfl (by omega) ?_))
 have kG := qab (gv w10 (.cells (gz (List.replicate k false)).toArray 4)) (.cells #[.slice (some ⟨w10.heap.size, 0, none⟩) k k] 55)
 have kX := gv (w10.alloc (.cells (gz (List.replicate k false)).toArray 4)) (.cells #[.slice (some ⟨w10.heap.size, 0, none⟩) k k] 55)
 rw [← al1] at kX
 have s11 : qad w10 ((w10.alloc (.cells (gz (List.replicate k false)).toArray 4)).alloc (.cells #[.slice (some ⟨w10.heap.size, 0, none⟩) k k] 55)) := fs2
 generalize (w10.alloc (.cells (gz (List.replicate k false)).toArray 4)).alloc (.cells #[.slice (some ⟨w10.heap.size, 0, none⟩) k k] 55) = W11 at *
 obtain ⟨bG, hbG⟩ : ∃ b, b = w10.heap.size := ⟨_, rfl⟩
 rw [← hbG] at kG kX ⊢
 clear v0 v1 v2 v3 vl
 replace ka := gi (s11.at ka.out id)
 replace kG := gi kG; replace kX := gi kX; replace s11 := gi s11; replace hbG := gi hbG
 obtain ⟨v0, v1, v2, v3, vl⟩ := g4l ka.out
 go_upto_region 11 with fail
 clear v0 v1 v2 v3 vl
 clear hmk
 have kD := gv W11 (.cells (gw (qaz (List.replicate k 0))).toArray 3)
 have s12 : qad W11 (W11.alloc (.cells (gw (qaz (List.replicate k 0))).toArray 3)) := fs2
 generalize W11.alloc (.cells (gw (qaz (List.replicate k 0))).toArray 3) = W12 at *
 have hbX : bG + 1 < W11.heap.size := gu kX.out
 obtain ⟨bD, hbD⟩ : ∃ b, b = W11.heap.size := ⟨_, rfl⟩
 rw [← hbD] at kD hbX ⊢
 replace kG := gi (s12.at kG.out id)
 replace kX := gi (s12.at kX.out id)
 replace ka := gi (s12.at ka.out id)
 have hsW := s11.out.same s12
 have hba : ba < W12.heap.size := gu ka.out
 have hrp : (List.replicate k false).length = k := by simp
 have hdl : ∀ j, ((G.take j).foldl qbV (List.replicate k 0)).length = k := fun j => dst_len k _
 have hde : ∀ j i, ((G.take j).foldl qbV (List.replicate k 0)).getD i 0 ≤ 128000 := fun j i => Nat.le_trans (dst_le k _ i) (by rw [List.length_take]; omega)
 clear s11 s12 hbD
 generalize (List.replicate k 0 : List Nat) = z0 at *
 generalize List.replicate k false = f0 at *
 have hbGa : ba ≠ bG := fun e => by
  have h1 := ka.out
  rw [e, kG.out] at h1
  simp at h1
 have hbDa : ba ≠ bD := fun e => by
  have h1 := ka.out
  rw [e, kD] at h1
  simp at h1
 replace kD := gi kD; replace hsW := gi hsW; replace hrp := gi hrp; replace hdl := gi hdl; replace hde := gi hde
 obtain ⟨v0, v1, v2, v3, vl⟩ := g4l ka.out
 go_wp2_with fail
 clear v0 v1 v2 v3 vl
 go_loopw [78] (fun i wr => ∃ j : Nat, i = .int .i64 j ∧ j ≤ ms.length ∧ wr.heap[bG]? = some (.cells (gz (qdt (ms.take j) f0)).toArray 4 (0, 0)) ∧ Fr (fun q => q = bG) W12 wr) (fun i _ => ms.length - (intOf i).toNat)
 case atStart => exact ⟨0, rfl, by omega, kG.out, Fr.refl _ _⟩
 case round =>
  obtain ⟨j, rfl, hj, kg, hf⟩ := hrel
  have hsj : qad w10 wr := hsW.out.trans hf (fun i hi e => by have : i = bG := e; have := hbG.out; omega)
  have kx := hf.at kX.out (by omega)
  by_cases hjm : j < ms.length
  · obtain ⟨bs, os, rfl, hbs, v0⟩ := qan.int (hMr.out.same hsj) rfl hjm
    obtain ⟨i, hi, hik⟩ := hmm.out _ (List.getElem_mem hjm)
    have hst := ql1 hjm f0
    rw [hi] at v0 hst
    obtain ⟨y0, yf, yl⟩ := qeR kg (by rw [qey]; exact hrp.out) hik
    have hset := qiT (qdt (ms.take j) f0) i true
    have hsm := qaf kg i (.bool true)
    rw [hset, show i = ((i : Int)).toNat by omega, ← hst] at hsm
    have e0 : ((i : Int)).toNat = i := by omega
    rw [e0] at hsm
    have c0 := gn kx 0
    have cl := gu kx
    clear e0 hset hst
    generalize (qdt (ms.take j) f0).getD i false = yb at *
    replace kg := gi kg; replace hf := gi hf; replace hsj := gi hsj; replace kx := gi kx; replace hi := gi hi; replace hsm := gi hsm
    go_wp2_with fail
    go_roundw
    case rel => exact ⟨j + 1, by go_num, by omega, hsm.out, hf.out.setCell _ _ (fun _ => rfl)⟩
    case measure => simp [intOf]; omega
  · obtain rfl : j = ms.length := by omega
    rw [List.take_length] at kg
    obtain ⟨wo, rfl⟩ : ∃ wo, wo = wr := ⟨_, rfl⟩
    have ka2 := hf.at ka.out hbGa
    have kD2 := hf.at kD.out (fun e => by have : bD = bG := e; omega)
    have hgl0 : (qdt ms f0).length = k := by rw [qey]; exact hrp.out
    generalize qdt ms f0 = g0 at *
    clear hf kG kX ka kD hsW hrp hmm hMr
    replace kg := gi kg; replace hsj := gi hsj; replace kx := gi kx; replace ka2 := gi ka2; replace kD2 := gi kD2; replace hgl0 := gi hgl0
    obtain ⟨v0, v1, v2, v3, vl⟩ := g4l ka2.out
    go_wp2_with fail
    clear v0 v1 v2 v3 vl
    have hqG : (esL G).length = G.length := qgm G
    have hGk : ∀ i, qaB G g0 (i + 1) = G.foldl qev (qaB G g0 i) := fun i => rfl
    have hgpl : ∀ i j, ((G.take j).foldl qev (qaB G g0 i)).length = k := fun i j => by
     have h1 := qf9 (G.take j) (qaB G g0 i)
     unfold qgB at h1
     rw [h1, qb4]
     exact hgl0.out
    replace hqG := gi hqG; replace hGk := gi hGk; replace hgpl := gi hgpl
    go_loopw [88] (fun i wr => ∃ i' : Nat, i = .int .i64 i' ∧ i' ≤ k ∧ wr.heap[bG]? = some (.cells (gz (qaB G g0 i')).toArray 4 (0, 0)) ∧ Fr (fun q => q = bG) wo wr) (fun i _ => k - (intOf i).toNat)
    case atStart => exact ⟨0, rfl, by omega, kg.out, Fr.refl _ _⟩
    case round =>
     obtain ⟨i, rfl, hi, kg2, hf⟩ := hrel
     have ka3 := hf.at ka2.out hbGa
     by_cases hik : i < k
     · replace kg2 := gi kg2; replace hf := gi hf; replace ka3 := gi ka3
       obtain ⟨v0, v1, v2, v3, vl⟩ := g4l ka3.out
       go_wp2_with fail
       clear v0 v1 v2 v3 vl
       obtain ⟨wm, rfl⟩ : ∃ wm, wm = wr := ⟨_, rfl⟩
       go_loopw [93] (fun v wr => ∃ j : Nat, v = .int .i64 j ∧ j ≤ (esL G).length ∧ wr.heap[bG]? = some (.cells (gz ((G.take j).foldl qev (qaB G g0 i))).toArray 4 (0, 0)) ∧ Fr (fun q => q = bG) wo wr) (fun v _ => (esL G).length - (intOf v).toNat)
       case atStart => exact ⟨0, rfl, by omega, kg2.out, hf.out⟩
       case round =>
        obtain ⟨j, rfl, hj, kg3, hf3⟩ := hrel
        by_cases hjm : j < (esL G).length
        · have hjG : j < G.length := by rw [← hqG.out]; exact hjm
          have hs3 : qad w10 wr := hsj.out.trans hf3 (fun i hi e => by have : i = bG := e; have := hbG.out; omega)
          have kx3 := hf3.at kx.out (by omega)
          obtain ⟨be, oe, rfl, hbe, e0, e1, e2⟩ := (hEr.out.same hs3).node hjm
          rw [qol hjG] at e0 e1 e2
          have hst := qiS (f := qev) hjG (qaB G g0 i)
          have hgl3 := hgpl.out i j
          obtain ⟨hu, hv⟩ := hbd.out _ (List.getElem_mem hjG)
          generalize (G.take j).foldl qev (qaB G g0 i) = g at *
          generalize G[j] = ge at *
          obtain ⟨u, ev, v⟩ := ge
          simp only at hu hv e0 e1 e2
          have hst2 : (G.take (j + 1)).foldl qev (qaB G g0 i) = g.set u (g.getD u false || g.getD v false) := hst
          clear hst
          replace kg3 := gi kg3; replace hf3 := gi hf3; replace hs3 := gi hs3; replace kx3 := gi kx3; replace hst2 := gi hst2
          go_upto_region 22 with fail
          have kx4 := gv wr (.cells #[.int .i64 u, .int .i64 ev, .int .i64 v] 57)
          have sP : qad wr (wr.alloc (.cells #[.int .i64 u, .int .i64 ev, .int .i64 v] 57)) := fs2
          generalize wr.alloc (.cells #[.int .i64 u, .int .i64 ev, .int .i64 v] 57) = W4 at *
          generalize wr.heap.size = bx at *
          have kg4 := sP.at kg3.out id
          have kX4 := sP.at kx3.out id
          replace hf3 := gi (hf3.out.same sP)
          clear e0 e1 e2 hbe kg3 kx3 sP
          obtain ⟨z0, z1, z2, zf0, zf1, zf2, zl⟩ := qar kx4
          have c0 := gn kX4 0
          have cl := gu kX4
          obtain ⟨y0, yf0, yl⟩ := qeR kg4 hgl3 hu
          obtain ⟨y1, yf1, _⟩ := qeR kg4 hgl3 hv
          have hset := qiT g u (g.getD u false || g.getD v false)
          have hsm := qaf kg4 u (.bool (g.getD u false || g.getD v false))
          rw [hset, ← hst2.out] at hsm
          clear hset hst2
          generalize g.getD u false = yu at *
          generalize g.getD v false = yv at *
          replace kx4 := gi kx4; replace kX4 := gi kX4; replace kg4 := gi kg4; replace hsm := gi hsm
          cases yu
          · refine qac (fun q => q = bG ∨ q = bG + 1 ∨ q = bx) [1, 0, 1, 1, 0, 1, 0, 1, 0, 1, 0, 1, 0, 1, 0, 0, 3] [1, 4, 0, 2, 3, 5, 6, 7, 8, 10, 9, 11, 12, 13, 14, 15, 16] (by kernel_rfl) (by kernel_rfl) ?_
            repeat ((first | refine gB rfl rfl fun _ k => ?_ | refine gC rfl rfl fun _ k => ?_); go_simp; (first | refine k _ ?_ | refine ⟨_, fun _ => rfl, k _ ?_⟩); clear k)
            refine gD rfl (by decide) (fun _ hK => ?_); go_simp
            refine hK _ _ ?_; clear hK; try simp only [Act.put, gj]
            refine gO (NoPanic.normal ?_)
            go_wp2_with fail
            go_roundw
            case rel => exact ⟨j + 1, by go_num, by omega, (show qad (W4.setCell ⟨bG, u, none⟩ (.bool yv)) _ from fs3).at hsm.out id, (hf3.out.setCell ⟨bG, u, none⟩ (.bool yv) (fun _ => rfl)).same fs3⟩
            case measure => simp [intOf]; omega
          · refine qac (fun q => q = bG ∨ q = bG + 1 ∨ q = bx) [1, 0, 1, 1, 0, 1, 0, 1, 0, 1, 0, 1, 0, 1, 0, 0, 3] [1, 4, 0, 2, 3, 5, 6, 7, 8, 10, 9, 11, 12, 13, 14, 15, 16] (by kernel_rfl) (by kernel_rfl) ?_
            repeat ((first | refine gB rfl rfl fun _ k => ?_ | refine gC rfl rfl fun _ k => ?_); go_simp; (first | refine k _ ?_ | refine ⟨_, fun _ => rfl, k _ ?_⟩); clear k)
            refine gD rfl (by decide) (fun _ hK => ?_); go_simp
            refine hK _ _ ?_; clear hK; try simp only [Act.put, gj]
            refine gO (NoPanic.normal ?_)
            go_wp2_with fail
            go_roundw
            case rel => exact ⟨j + 1, by go_num, by omega, (show qad (W4.setCell ⟨bG, u, none⟩ (.bool true)) _ from fs3).at hsm.out id, (hf3.out.setCell ⟨bG, u, none⟩ (.bool true) (fun _ => rfl)).same fs3⟩
            case measure => simp [intOf]; omega
        · obtain rfl : j = (esL G).length := by omega
          have hend : wr.heap[bG]? = some (.cells (gz (qaB G g0 (i + 1))).toArray 4 (0, 0)) := by
           rw [hGk.out, kg3, List.take_of_length_le (by rw [hqG.out]; exact Nat.le_refl _)]
          clear kg3
          replace hend := gi hend; replace hf3 := gi hf3
          go_wp2_with fail
          go_roundw
          case rel => exact ⟨i + 1, by go_num, by omega, hend.out, hf3.out⟩
          case measure => simp [intOf]; omega
     · obtain rfl : i = k := by omega
       obtain ⟨wp, rfl⟩ : ∃ wp, wp = wr := ⟨_, rfl⟩
       have hs14 : qad w10 wp := hsj.out.trans hf (fun i hi e => by have : i = bG := e; have := hbG.out; omega)
       have kx5 := hf.at kx.out (by omega)
       have kD5 := hf.at kD2.out (fun e => by have : bD = bG := e; omega)
       have hgg : (qaB G g0 i).length = i := hgpl.out i 0
       generalize qaB G g0 i = gg at *
       clear hf kg kx ka2 kD2 hgpl hGk hsj hgl0
       replace kg2 := gi kg2; replace ka3 := gi ka3; replace hs14 := gi hs14; replace kx5 := gi kx5; replace kD5 := gi kD5; replace hgg := gi hgg
       obtain ⟨v0, v1, v2, v3, vl⟩ := g4l ka3.out
       go_wp2_with fail
       clear v0 v1 v2 v3 vl
       go_loopw [118] (fun v wr => ∃ j : Nat, v = .int .i64 j ∧ j ≤ (esL G).length ∧ wr.heap[bD]? = some (.cells (gw (qaz ((G.take j).foldl qbV z0))).toArray 3 (0, 0)) ∧ Fr (fun q => q = bD) wp wr) (fun v _ => (esL G).length - (intOf v).toNat)
       case atStart => exact ⟨0, rfl, by omega, kD5.out, Fr.refl _ _⟩
       case round =>
        obtain ⟨j, rfl, hj, kg3, hf3⟩ := hrel
        have hs3 : qad w10 wr := hs14.out.trans hf3 (fun q hq e => by have : q = bD := e; have := hbG.out; omega)
        by_cases hjm : j < (esL G).length
        · have hjG : j < G.length := by rw [← hqG.out]; exact hjm
          obtain ⟨be, oe, rfl, hbe, e0, e1, e2⟩ := (hEr.out.same hs3).node hjm
          rw [qol hjG] at e0 e1 e2
          have hst := qiS (f := qbV) hjG z0
          have hgl3 := hdl.out j
          have hge3 := hde.out j
          obtain ⟨hu, hv⟩ := hbd.out _ (List.getElem_mem hjG)
          generalize (G.take j).foldl qbV z0 = g at *
          generalize G[j] = ge at *
          obtain ⟨u, ev, v⟩ := ge
          simp only at hu hv e0 e1 e2
          have hst2 : (G.take (j + 1)).foldl qbV z0 = if u < v ∧ g.getD v 0 = 0 then g.set v (g.getD u 0 + 1) else g := hst
          clear hst
          replace kg3 := gi kg3; replace hf3 := gi hf3; replace hs3 := gi hs3; replace hst2 := gi hst2
          go_upto_region 28 with fail
          have kx4 := gv wr (.cells #[.int .i64 u, .int .i64 ev, .int .i64 v] 57)
          have sP : qad wr (wr.alloc (.cells #[.int .i64 u, .int .i64 ev, .int .i64 v] 57)) := fs2
          generalize wr.alloc (.cells #[.int .i64 u, .int .i64 ev, .int .i64 v] 57) = W4 at *
          generalize wr.heap.size = bx at *
          have kg4 := sP.at kg3.out id
          replace hf3 := gi (hf3.out.same sP)
          clear e0 e1 e2 hbe kg3 sP
          obtain ⟨z0', z1', z2', zf0, zf1, zf2, zl⟩ := qar kx4
          obtain ⟨y0, yf0, yl⟩ := qgp kg4 hgl3 hu
          obtain ⟨y1, yf1, _⟩ := qgp kg4 hgl3 hv
          have hset := qp6 g v (g.getD u 0 + 1)
          have hsm := qaf kg4 v (.int .i64 ((g.getD u 0 + 1 : Nat) : Int))
          rw [hset] at hsm
          have hyu := hge3 u
          clear hset hge3
          obtain ⟨yu, hyu'⟩ : ∃ y, y = g.getD u 0 := ⟨_, rfl⟩
          obtain ⟨yv, hyv'⟩ : ∃ y, y = g.getD v 0 := ⟨_, rfl⟩
          rw [← hyu'] at y0 hyu hsm
          rw [← hyv'] at y1
          have hst3 : (G.take (j + 1)).foldl qbV z0 = if u < v ∧ yv = 0 then g.set v (yu + 1) else g := by rw [hyu', hyv']; exact hst2.out
          clear hyu' hyv' hst2
          replace kx4 := gi kx4; replace kg4 := gi kg4; replace hsm := gi hsm; replace hst3 := gi hst3
          by_cases c1 : u < v
          · by_cases c2 : yv = 0
            · subst c2
              have hst4 : (G.take (j + 1)).foldl qbV z0 = g.set v (yu + 1) := by rw [hst3.out, if_pos ⟨c1, rfl⟩]
              rw [← hst4] at hsm
              replace hst4 := gi hst4
              have hw1 : IntKind.i64.wrap ((yu : Int) + 1) = ((yu + 1 : Nat) : Int) := by rw [IntWalk.i64_in _ (by omega)]; omega
              have hw2 : wrap64 ((yu : Int) + 1) = ((yu + 1 : Nat) : Int) := by unfold wrap64; omega
              go_upto_region 29 with fail
              refine qac (fun q => q = bD ∨ q = bx) [0, 0, 1, 0, 0, 1, 0, 1, 0, 0, 3] [0, 1, 3, 4, 2, 5, 6, 7, 8, 9, 10] (by kernel_rfl) (by kernel_rfl) ?_
              repeat ((first | refine gB rfl rfl fun _ k => ?_ | refine gC rfl rfl fun _ k => ?_); go_simp; (first | refine k _ ?_ | refine ⟨_, fun _ => rfl, k _ ?_⟩); clear k)
              refine gD rfl (by decide) (fun _ hK => ?_); go_simp
              refine hK _ _ ?_; clear hK; try simp only [Act.put, gj]
              refine gO (NoPanic.normal ?_)
              go_wp2_with fail
              go_roundw
              case rel => exact ⟨j + 1, by go_num, by omega, (show qad (W4.setCell ⟨bD, v, none⟩ (.int .i64 ((yu + 1 : Nat) : Int))) _ from fs3).at hsm.out id, (hf3.out.setCell ⟨bD, v, none⟩ _ (fun _ => rfl)).same fs3⟩
              case measure => simp [intOf]; omega
            · have hst4 : (G.take (j + 1)).foldl qbV z0 = g := by rw [hst3.out, if_neg (fun h => c2 h.2)]
              have c2' : (((yv : Nat) : Int) == 0) = false := by rw [beq_eq_false_iff_ne]; omega
              clear hsm
              replace hst4 := gi hst4
              go_wp2_with fail
              go_roundw
              case rel => exact ⟨j + 1, by go_num, by omega, by rw [hst4.out]; exact kg4.out, hf3.out⟩
              case measure => simp [intOf]; omega
          · have hst4 : (G.take (j + 1)).foldl qbV z0 = g := by rw [hst3.out, if_neg (fun h => c1 h.1)]
            have c1' : v ≤ u := by omega
            clear hsm
            replace hst4 := gi hst4
            go_wp2_with fail
            go_roundw
            case rel => exact ⟨j + 1, by go_num, by omega, by rw [hst4.out]; exact kg4.out, hf3.out⟩
            case measure => simp [intOf]; omega
        · obtain rfl : j = (esL G).length := by omega
          obtain ⟨wq, rfl⟩ : ∃ wq, wq = wr := ⟨_, rfl⟩
          rw [List.take_of_length_le (by rw [hqG.out]; exact Nat.le_refl _)] at kg3
          have hdl9 := hdl.out G.length
          have hde9 := hde.out G.length
          rw [List.take_length] at hdl9 hde9
          generalize G.foldl qbV z0 = LD at *
          have kG9 := hf3.at kg2.out (fun e => by have : bG = bD := e; omega)
          have kX9 := hf3.at kx5.out (fun e => by have : bG + 1 = bD := e; omega)
          clear hdl hde kD5 kg2 kx5 hbd hEr hf3
          replace kG9 := gi kG9; replace kX9 := gi kX9; replace kg3 := gi kg3; replace hs3 := gi hs3; replace hdl9 := gi hdl9; replace hde9 := gi hde9
          go_wp2_with fail
          go_loopw [14, 148] (fun v14 v148 wr => ∃ j : Nat, v148 = .int .i64 j ∧ j ≤ i ∧ v14 = .int .i64 ((maxL (LD.take j) : Nat) : Int) ∧ qad wq wr) (fun _ v _ => i - (intOf v).toNat)
          case atStart => exact ⟨0, rfl, by omega, rfl, Fr.refl _ _⟩
          case round =>
           obtain ⟨j, rfl, hj, rfl, hs⟩ := hrel
           have kD9 := hs.at kg3.out id
           by_cases hji : j < i
           · have hst := qon (l := LD) (j := j) (by rw [hdl9.out]; exact hji)
             obtain ⟨y0, _, yl⟩ := qgp kD9 hdl9.out hji
             have hgd : LD.getD j 0 = LD[j]'(by rw [hdl9.out]; exact hji) := by rw [List.getD_eq_getElem?_getD, List.getElem?_eq_getElem (by rw [hdl9.out]; exact hji)]; rfl
             rw [← hgd] at hst
             generalize LD.getD j 0 = dj at *
             generalize maxL (LD.take j) = mj at *
             clear hgd
             replace hst := gi hst; replace hs := gi hs; replace kD9 := gi kD9
             go_wp2_with fail
             go_roundw
             case rel => exact ⟨j + 1, by go_num, by omega, by rw [hst.out]; congr 1; omega, hs.out⟩
             case measure => simp [intOf]; omega
           · obtain rfl : j = i := by omega
             rw [List.take_of_length_le (by rw [hdl9.out]; exact Nat.le_refl _), hmx.out]
             have hst := hs3.out.same hs
             have kn1 := hst.at kn.out id
             have k101 := hst.at k10.out id
             have kX1 := hs.at kX9.out id
             have kl1 := hst.at kl.out id
             have hgr : qan wr (.slice (some ⟨bG, 0, none⟩) j j) j (gz gg) := (qaa.of_owns (qaL (hs.at kG9.out id) (Nat.zero_le _) (by rw [qbS, hgg.out, Nat.mul_one]) rfl (by unfold maxLen; omega))).row
             have IS := qqx N OK.out.ok (by omega) gN.out.t1000 gN.out.tl ⟨(N.all : Int), a10, c10, L10, r10⟩ b (fun x => decide (x ∈ T) && !gg.getD (qdX T x) false) hb1.out hb3.out 14 #[.pointer (some ⟨bl, 0, none⟩), .pointer (some ⟨bG + 1, 0, none⟩)] wr (hat.out.same hst) (qaa.same hd10.out hst) ⟨rfl, hz10.out⟩ qp0
              (fun x hx W' a c hW' hR => rch2 T hnd.out gs hlg.out aT j cT bl x a N.As.length c W' (hGs.out.same (hst.same hW')) (by omega) hgl.out (qcD hx).1 hR (hW'.at kl1 id) gg hgg.out _ _ (bG + 1) (hW'.at kX1 id) (hgr.same hW'))
             replace hs := gi hs; replace hst := gi hst; replace kn1 := gi kn1; replace k101 := gi k101; replace kX1 := gi kX1; replace kl1 := gi kl1; replace hgr := gi hgr; replace IS := gi IS
             obtain ⟨x0, x1, xl⟩ := g2l kn1.out
             obtain ⟨y0, y1, y2, yl⟩ := g3l k101.out
             go_wp2_with fail
             refine IS.out.mono ?_
             rintro e w20 ⟨rfl, s20⟩
             have hsE := hs2.out.same (hst.out.same s20)
             clear x0 x1 xl
             clear y0 y1 y2 yl
             replace hsE := gi hsE
             clear s20
             go_wp2_with fail
             go_ret
             exact ⟨rfl, hsE.out⟩
end Go.Proofs.YticcpnekjddanaaGreatDoor
