/-  -/
import Derived.Test.YticcpnekjddanaaGreatDoorZRestr
import Derived.Test.YticcpnekjddanaaGreatDoorZValue
import Derived.Test.YticcpnekjddanaaGreatDoorZRelP
set_option maxRecDepth 100000
set_option maxHeartbeats 4000000
set_option linter.unusedVariables false
set_option linter.unusedSimpArgs false
namespace Go.Proofs.YticcpnekjddanaaGreatDoor
open Go.RowKit
def qkr (n m : Int) (qs : List Int) (L : List Nd) (r : Int) (w : World) (e : Ending) (w' : World) : Prop :=
 (qmP n m qs ≠ 0 ∧ DErr w (qmP n m qs) e w') ∨ (qmP n m qs = 0 ∧ qe0 w m (qdE (toF qs) L) r e w')
theorem qjx (m : Int) (qs : List Int) (k : Nat) (h : k < qs.length) : qaw m qs (qs.length - k) k = if toF qs k < 0 ∨ m ≤ toF qs k then 2 else if 0 < k ∧ toF qs k ≤ toF qs (k - 1) then 5 else qaw m qs (qs.length - (k + 1)) (k + 1) := by
 have e : qs.length - k = (qs.length - (k + 1)) + 1 := by omega
 rw [e, qaw]
theorem qls (d : Dg) (n : Nat) (t : List Bool) (m : Int) (qs : List Int) (aQ : Option Addr) (capQ : Nat) (w : World) (hat : d.at w) (T : d.tab n t) (hl7 : qs.length ≤ 1000) (hQ : qan w (.slice aQ qs.length capQ) qs.length (gw qs)) :
 Calls Tryz.prog 120 #[d.v, .int .i64 m, .slice aQ qs.length capQ] w (qkr n m qs d.L d.r w) := by
 have C := fun W (hW : qad w W) => qbR d n t W (qaa.same hat hW) T
 obtain ⟨ho, hv, ht⟩ := T.2.ord
 have e := T.1
 have hsh := T.2.short
 have n40 := T.2.n40
 rw [Dg.v, e] at C ⊢
 unfold Dg.at at hat
 clear T
 generalize d.L = L at *
 generalize d.r = r at *
 generalize d.a = a at *
 generalize d.cap = cap at *
 have hvar : ∀ k (hk : k < L.length), 0 ≤ L[k].1 ∧ L[k].1 < n := fun k hk => ⟨(ho.val k L[k] (List.getElem?_eq_getElem hk)).1, ho.var _ (List.getElem_mem _)⟩
 obtain ⟨i0, hi, hz0, hz1, hz2⟩ := info_parts qfx
 by_cases h1 : m < 0 ∨ 40 < m
 · have eW : qmP n m qs = 2 := by unfold qmP; rw [if_pos h1]
   unfold qkr
   rw [eW]
   clear eW
   replace C := gi C; replace hat := gi hat; replace ho := gi ho; replace hv := gi hv; replace ht := gi ht; replace e := gi e; replace hvar := gi hvar; replace hQ := gi hQ; replace h1 := gi h1
   go_enter Tryz.func120, Tryz.ntmps120
   go_wp2_with fail
   refine (C.out _ fs2).mono ?_
   rintro e w1 ⟨rfl, hs1⟩
   have kb := hs1.at (qab (gv _ _) _) id
   have kt : w1.heap[w.heap.size + 1]? = some (.cells #[.int .i64 0, .slice none 0 0, .int .i64 0] 46 (0, 0)) := hs1.at (qae (by simp) _) id
   obtain ⟨x0, x1, x2, xb⟩ := g3l kb
   have hs := (show qad w _ from fs2).same hs1
   obtain ⟨⟨t0, t1, t2, f0, f1, f2, tb⟩, d0, d1, d2, hF, hK, hSl⟩ := qqe (a := .int .i64 0) (c := .slice none 0 0) (d := .int .i64 0) kt hs (by omega); replace hF := gi hF; replace hK := gi hK; replace hSl := gi hSl; replace kt := gi kt; replace hs := gi hs
   replace kb := gi kb; replace hs1 := gi hs1
   go_wp2_with fail
   refine (qmA m _ h1.out).mono ?_
   rintro e w2 ⟨rfl, rfl⟩
   go_wp2_with fail
   refine bodyPost_ret (v := .tuple #[.agg #[.int .i64 0, .slice none 0 0, .int .i64 0], .int .i64 2]) (by simp [results, Tryz.results120, go_sem, d0, d1, d2]) rfl ?_
   first | exact .inl ⟨by omega, rfl, hF.out⟩ | exact ⟨rfl, hF.out⟩
 · have h0 : 0 ≤ m := by omega
   have h40 : m ≤ 40 := by omega
   by_cases h2 : qs.length = n
   · obtain ⟨E, hE⟩ : ∃ E, E = qaw m qs qs.length 0 := ⟨_, rfl⟩
     have eW : qmP n m qs = E := by unfold qmP; rw [if_neg h1, if_neg (by omega), hE]
     have hnode : ∀ k (hk : k < L.length) (hk' : k < (qdE (toF qs) L).length), (qdE (toF qs) L)[k] = (toF qs L[k].1.toNat, L[k].2.1, L[k].2.2) := by
      intro k hk hk'; simp [qdE]
     have hlr : (qdE (toF qs) L).length = L.length := qdQ _ _
     unfold qkr
     rw [eW]
     generalize hLr : qdE (toF qs) L = Lr at *
     obtain ⟨q, hq⟩ : ∃ q, q = qs.length := ⟨_, rfl⟩
     have hqn : q = n := by omega
     have hq2 : ((q : Int) != (n : Int)) = false := by rw [hqn]; simp
     have hql : q ≤ 1000 := by omega
     rw [← hq] at hQ hE ⊢
     clear eW h1 h2 hqn
     have kq := hQ
     replace C := gi C; replace hat := gi hat; replace ho := gi ho; replace hv := gi hv; replace ht := gi ht; replace e := gi e; replace hvar := gi hvar; replace hQ := gi hQ; replace hE := gi hE; replace hnode := gi hnode; replace hLr := gi hLr; replace hlr := gi hlr; replace hq := gi hq; replace kq := gi kq
     obtain ⟨W0, hW0⟩ : ∃ W0, W0 = w.alloc (.cells #[.int .i64 n, .slice a L.length cap, .int .i64 r] 46) := ⟨_, rfl⟩
     have hsz : W0.heap.size = w.heap.size + 1 := by rw [hW0]; simp
     have hwW : qad w W0 := by rw [hW0]; exact fs1
     replace hW0 := gi hW0; replace hwW := gi hwW; replace hsz := gi hsz
     go_enter Tryz.func120, Tryz.ntmps120
     go_wp2_with fail
     refine (C.out _ fs2).mono ?_
     rintro e w1 ⟨rfl, hs1⟩
     have kb := hs1.at (qab (gv _ _) _) id
     have kt : w1.heap[w.heap.size + 1]? = some (.cells #[.int .i64 0, .slice none 0 0, .int .i64 0] 46 (0, 0)) := hs1.at (qae (by simp) _) id
     obtain ⟨x0, x1, x2, xb⟩ := g3l kb
     have hs : qad w w1 := (show qad w _ from fs2).same hs1
     have hs0 : qad W0 w1 := by rw [hW0.out]; exact (show qad (w.alloc _) _ from fs2).same hs1
     replace kb := gi kb; replace hs1 := gi hs1; replace hs0 := gi hs0; replace kt := gi kt; replace hs := gi hs
     go_wp2_with fail
     refine (qfd m _ ⟨h0, h40⟩).mono ?_
     rintro e w2 ⟨rfl, rfl⟩
     go_wp2_with fail
     go_loopw [35] (fun i wr => ∃ k : Nat, i = .int .i64 k ∧ k ≤ q ∧ qaw m qs (q - k) k = E ∧ w1 = wr) (fun i _ => q - (intOf i).toNat)
     case atStart => exact ⟨0, rfl, by omega, hE.out.symm, rfl⟩
     case round =>
      obtain ⟨k, rfl, hk, hrE, rfl⟩ := hrel
      by_cases hlt : k < q
      · rw [hq.out, qjx m qs k (by rw [← hq.out]; exact hlt), ← hq.out] at hrE
        obtain ⟨bq, oq, rfl, hbq, hcq⟩ := qed (l := qs) (by rw [← hq.out]; exact hQ.out.same hs.out) (by rw [← hq.out]; omega)
        have ck := hcq k (by rw [← hq.out]; exact hlt)
        have cp : 0 < k → w1.cell? ⟨bq, oq + (k - 1), none⟩ = some (.int .i64 (toF qs (k - 1))) := fun h => hcq (k - 1) (by rw [← hq.out]; omega)
        clear hcq
        obtain ⟨v, hv'⟩ : ∃ v, v = toF qs k := ⟨_, rfl⟩
        rw [← hv'] at hrE ck
        replace hv' := gi hv'
        by_cases c1 : v < 0 ∨ m ≤ v
        · rw [if_pos c1] at hrE
          subst hrE
          have kt' := kt.out
          have hs' := hs.out
          obtain ⟨⟨t0, t1, t2, f0, f1, f2, tb⟩, d0, d1, d2, hF, hK, hSl⟩ := qqe (a := .int .i64 0) (c := .slice none 0 0) (d := .int .i64 0) kt' hs' (by omega)
          replace hF := gi hF; replace hK := gi hK; replace hSl := gi hSl; replace kt' := gi kt'; replace hs' := gi hs'
          clear cp
          by_cases c2 : v < 0
          · clear c1
            go_wp2_with fail
            refine bodyPost_ret (v := .tuple #[.agg #[.int .i64 0, .slice none 0 0, .int .i64 0], .int .i64 2]) (by simp [results, Tryz.results120, go_sem, d0, d1, d2]) rfl ?_
            first | exact .inl ⟨by omega, rfl, hF.out⟩ | exact ⟨rfl, hF.out⟩
          · have c3 : m ≤ v := by omega
            clear c1
            go_wp2_with fail
            refine bodyPost_ret (v := .tuple #[.agg #[.int .i64 0, .slice none 0 0, .int .i64 0], .int .i64 2]) (by simp [results, Tryz.results120, go_sem, d0, d1, d2]) rfl ?_
            first | exact .inl ⟨by omega, rfl, hF.out⟩ | exact ⟨rfl, hF.out⟩
        · rw [if_neg c1] at hrE
          have c2 : 0 ≤ v := by omega
          have c3 : v < m := by omega
          clear c1
          by_cases c4 : 0 < k
          · have cp' := cp c4
            obtain ⟨k', rfl⟩ : ∃ k', k = k' + 1 := ⟨k - 1, by omega⟩
            rw [Nat.add_sub_cancel] at cp'
            obtain ⟨u, hu⟩ : ∃ u, u = toF qs k' := ⟨_, rfl⟩
            simp only [Nat.add_sub_cancel] at hrE
            rw [← hu] at hrE cp'
            have hkk : 0 < k' + 1 := c4
            have hkk2 : ((k' : Int) + 1 - 1) = (k' : Int) := by omega
            clear cp
            replace hu := gi hu
            by_cases c5 : v ≤ u
            · rw [if_pos ⟨c4, c5⟩] at hrE
              subst hrE
              have kt' := kt.out
              have hs' := hs.out
              obtain ⟨⟨t0, t1, t2, f0, f1, f2, tb⟩, d0, d1, d2, hF, hK, hSl⟩ := qqe (a := .int .i64 0) (c := .slice none 0 0) (d := .int .i64 0) kt' hs' (by omega)
              replace hF := gi hF; replace hK := gi hK; replace hSl := gi hSl; replace kt' := gi kt'; replace hs' := gi hs'
              go_wp2_with fail
              refine bodyPost_ret (v := .tuple #[.agg #[.int .i64 0, .slice none 0 0, .int .i64 0], .int .i64 5]) (by simp [results, Tryz.results120, go_sem, d0, d1, d2]) rfl ?_
              first | exact .inl ⟨by omega, rfl, hF.out⟩ | exact ⟨rfl, hF.out⟩
            · rw [if_neg (fun h => c5 h.2)] at hrE
              have c6 : u < v := by omega
              clear c5
              replace hrE := gi hrE
              go_wp2_with fail
              go_roundw
              case rel => exact ⟨k' + 1 + 1, by go_num, by omega, hrE.out, (by first | rfl | trivial)⟩
              case measure => simp [intOf]; omega
          · rw [if_neg (fun h => c4 h.1)] at hrE
            have c7 : k = 0 := by omega
            replace c7 := gi c7
            clear cp
            replace hrE := gi hrE
            go_wp2_with fail
            go_roundw
            case rel => exact ⟨k + 1, by go_num, by omega, hrE.out, (by first | rfl | trivial)⟩
            case measure => simp [intOf]; omega
      · have hkq : k = q := by omega
        subst hkq
        rw [Nat.sub_self, qaw] at hrE
        subst hrE
        have hup : Up (toF qs) n m := by
         have h := up_of (n := n) (m := m.toNat) (qs := qs) (by rw [show ((m.toNat : Nat) : Int) = m by omega, ← hq.out]; exact hE.out.symm) (by have := hq.out; have := hq2; simp at this; omega)
         rwa [show ((m.toNat : Nat) : Int) = m by omega] at h
        replace hup := gi hup
        have hkn : k = n := by simp at hq2; omega
        replace hkn := gi hkn
        go_wp2_with fail
        go_loopw [70] (fun i wr => ∃ (j : Nat) (a1 : Option Addr) (cap1 : Nat), i = .int .i64 j ∧ qgM W0 m r Lr w1.heap.size j wr a1 cap1) (fun i _ => L.length - (intOf i).toNat)
        case atStart =>
         refine ⟨0, none, 0, rfl, ⟨Nat.zero_le _, gv _ _, World.ownsRow_nil _ _ _ _, ?_, hs0.out.alloc _⟩⟩
         rw [hsz.out]
         exact qab kt.out _
        case round =>
         obtain ⟨j, a1, cap1, rfl, hrel⟩ := hrel
         have hsw : qad w wr := hwW.out.same hrel.same
         by_cases hjl : j < L.length
         · have hjr : j < Lr.length := by rw [hlr.out]; exact hjl
           have e1 := gn hrel.blk 1
           have g1 := qak hrel.blk 1
           have eb := gu hrel.blk
           obtain ⟨b, off, rfl, hb, y0, y1, y2⟩ := (hat.out.same hsw).node hjl
           have hvj := hvar.out j hjl
           obtain ⟨bq, oq, rfl, hbq, hcq⟩ := qed (l := qs) (by rw [← hq.out]; exact hQ.out.same hsw) (by rw [← hq.out, hkn.out]; omega)
           obtain ⟨x, hx⟩ : ∃ x : Nat, L[j].1 = x := ⟨L[j].1.toNat, by omega⟩
           have hnd := hnode.out j hjl hjr
           rw [hx] at y0 hvj hnd
           have cx := hcq x (by rw [← hq.out, hkn.out]; omega)
           have hxn : x < k := by rw [hkn.out]; omega
           obtain ⟨z, hz⟩ : ∃ z, z = toF qs x := ⟨_, rfl⟩
           have e2 : ((x : Int).toNat) = x := rfl
           rw [e2, ← hz] at hnd
           rw [← hz] at cx
           clear hcq
           obtain ⟨lo, hlo⟩ : ∃ lo, lo = L[j].2.1 := ⟨_, rfl⟩
           obtain ⟨hh, hhh⟩ : ∃ hh, hh = L[j].2.2 := ⟨_, rfl⟩
           rw [← hlo] at y1 hnd
           rw [← hhh] at y2 hnd
           have hwsz : W0.heap.size ≤ wr.heap.size := hrel.same.size
           have hwsz1 : W0.heap.size < w1.heap.size := by have := gu kt.out; have := hsz.out; omega
           replace hrel := gi hrel; replace hsw := gi hsw; replace hnd := gi hnd; replace hz := gi hz; replace hlo := gi hlo; replace hhh := gi hhh; replace hx := gi hx; replace hvj := gi hvj; replace hjr := gi hjr; replace hwsz1 := gi hwsz1
           go_wp2_with fail
           refine qac (L3 w1.heap.size wr.heap.size bq) [0, 1, 0, 0, 1, 0, 1, 0, 1, 0, 1, 0, 2, 3, 0, 3] [0, 2, 3, 7, 9, 1, 4, 5, 6, 8, 10, 11, 12, 13, 14, 15] (by kernel_rfl) (by kernel_rfl) ?_
           repeat ((first | refine gB rfl rfl fun _ k => ?_ | refine gC rfl rfl fun _ k => ?_); go_simp; (first | refine k _ ?_ | refine ⟨_, fun _ => rfl, k _ ?_⟩); clear k)
           refine gF rfl rfl (fun _ hK => ?_); go_simp; refine hK _ _ (Kp.of_same fs3) ?_; clear hK
           refine gD rfl (by decide) (fun _ hK => ?_)
           refine qbe rfl (.tmp 75) (.tmp 86) 44 rfl W0.heap.size 132 i0 (.agg #[.int .i64 0, .int .i64 0, .int .i64 0]) 3 24 Tryz.underlying44 hi hz0 hz1 hz2 rfl (by decide) (by decide) a1 j cap1 (qap (Lr.take j)) rfl (qag hrel.out.own fs3) (by omega) (wr.heap.size + 1) [.int .i64 z, .int .i64 lo, .int .i64 hh] rfl rfl (qae (by simp) _) (by simp [Value.oneCell']) (by simp; omega) ?_
           intro an cn w4 hO4 hG4
           have hN := hrel.out.next hjr.out hwsz1.out fs3 (by rw [hnd.out]; exact hO4) hG4
           have kd := hN.1
           have z0 := gn kd 1
           have z1 := qak kd 1
           have z2 := gu kd
           replace hN := gi hN
           clear hO4 hG4 kd
           refine hK _ _ ?_; clear hK; try simp only [Act.put, gj]
           repeat ((first | refine gB rfl rfl fun _ k => ?_ | refine gC rfl rfl fun _ k => ?_); go_simp; (first | refine k _ ?_ | refine ⟨_, fun _ => rfl, k _ ?_⟩); clear k)
           refine gD rfl (by decide) (fun _ hK => ?_); go_simp
           refine hK _ _ ?_; clear hK; try simp only [Act.put, gj]
           refine gO (NoPanic.normal ?_)
           have hF := hN.out.2
           replace hF := gi hF
           go_wp2_with fail
           go_roundw
           case rel => exact ⟨j + 1, an, cn, by go_num, hF.out⟩
           case measure => simp [intOf]; omega
         · have hjL : j = Lr.length := by have := hrel.le; have := hlr.out; omega
           subst hjL
           obtain ⟨e0, e1, e2, eb⟩ := g3l hrel.blk
           have hO := qaa.of_owns hrel.own
           rw [List.take_length] at hO
           have kt' := hrel.res
           rw [hsz.out] at kt'
           have hs' := hsw
           obtain ⟨⟨t0, t1, t2, f0, f1, f2, tb⟩, d0, d1, d2, hF, hK, hSl⟩ := qqe (a := .int .i64 m) (c := .slice a1 Lr.length cap1) (d := .int .i64 r) kt' hs' (by omega)
           have hOF := hSl _ _ _ _ _ hO (by decide)
           have hLL : ¬ (Lr.length : Int) < L.length := by have := hlr.out; omega
           replace hF := gi hF; replace hK := gi hK; replace hSl := gi hSl; replace kt' := gi kt'; replace hs' := gi hs'; replace hOF := gi hOF; replace hO := gi hO; replace hrel := gi hrel; replace hsw := gi hsw
           go_wp2_with fail
           refine bodyPost_ret (v := .tuple #[.agg #[.int .i64 m, .slice a1 Lr.length cap1, .int .i64 r], .int .i64 0]) (by simp [results, Tryz.results120, go_sem, d0, d1, d2]) rfl ?_
           first | exact .inr ⟨rfl, a1, cap1, rfl, hOF.out, hF.out⟩ | exact ⟨a1, cap1, rfl, hOF.out, hF.out⟩
   · have eW : qmP n m qs = 4 := by unfold qmP; rw [if_neg h1, if_pos (by omega)]
     unfold qkr
     rw [eW]
     have hq2 : ((qs.length : Int) != (n : Int)) = true := by simp; omega
     clear eW h1 h2
     replace C := gi C; replace hat := gi hat; replace ho := gi ho; replace hv := gi hv; replace ht := gi ht; replace e := gi e; replace hvar := gi hvar; replace hQ := gi hQ
     go_enter Tryz.func120, Tryz.ntmps120
     go_wp2_with fail
     refine (C.out _ fs2).mono ?_
     rintro e w1 ⟨rfl, hs1⟩
     have kb := hs1.at (qab (gv _ _) _) id
     have kt : w1.heap[w.heap.size + 1]? = some (.cells #[.int .i64 0, .slice none 0 0, .int .i64 0] 46 (0, 0)) := hs1.at (qae (by simp) _) id
     obtain ⟨x0, x1, x2, xb⟩ := g3l kb
     have hs := (show qad w _ from fs2).same hs1
     obtain ⟨⟨t0, t1, t2, f0, f1, f2, tb⟩, d0, d1, d2, hF, hK, hSl⟩ := qqe (a := .int .i64 0) (c := .slice none 0 0) (d := .int .i64 0) kt hs (by omega); replace hF := gi hF; replace hK := gi hK; replace hSl := gi hSl; replace kt := gi kt; replace hs := gi hs
     replace kb := gi kb; replace hs1 := gi hs1
     go_wp2_with fail
     refine (qfd m _ ⟨h0, h40⟩).mono ?_
     rintro e w2 ⟨rfl, rfl⟩
     go_wp2_with fail
     refine bodyPost_ret (v := .tuple #[.agg #[.int .i64 0, .slice none 0 0, .int .i64 0], .int .i64 4]) (by simp [results, Tryz.results120, go_sem, d0, d1, d2]) rfl ?_
     first | exact .inl ⟨by omega, rfl, hF.out⟩ | exact ⟨rfl, hF.out⟩
end Go.Proofs.YticcpnekjddanaaGreatDoor
