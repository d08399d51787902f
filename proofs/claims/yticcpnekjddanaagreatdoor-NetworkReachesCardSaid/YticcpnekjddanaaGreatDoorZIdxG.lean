/-  -/
import Derived.Test.YticcpnekjddanaaGreatDoorZMchI
import Derived.Test.YticcpnekjddanaaGreatDoorZGrpW
import Derived.Test.YticcpnekjddanaaGreatDoorZRowL
set_option maxRecDepth 100000
set_option maxHeartbeats 8000000
set_option linter.unusedVariables false
set_option linter.unusedSimpArgs false
namespace Go.Proofs.YticcpnekjddanaaGreatDoor
open Go.RowKit
theorem qdJ (N : Nw) (OK : qby N) (FI : Fits N) (w : World) (hat : N.at w) :
 Calls Tryz.prog 30 #[.agg #[.slice N.aA N.As.length N.cA, .slice N.aO N.o.length N.cO]] w (DgN (2 * N.all) (N.rel (qau N.As (qaJ N.As))) w) := by
 have hev := (qes OK.ok.au N.As.length (Nat.le_refl _)).2
 rw [List.take_length] at hev
 have PL := fun W (hW : qad w W) => OK.place W (hat.same hW)
 have AL := fun W (hW : qad w W) => qiv N OK W (hat.same hW)
 have VA := fun aT aB cT cB aE cE W (hW : qad w W) (hly : qgz N aT aB cT cB W) (hE : qan W (.slice aE (qaJ N.As).length cE) (qaJ N.As).length (gw (qaJ N.As))) => qnK N OK FI (qaJ N.As) aE _ cE aT aB cT cB W (hat.same hW) hly rfl hE (by omega)
 obtain ⟨n2, hn2⟩ : ∃ n2, n2 = 2 * N.all := ⟨_, rfl⟩
 rw [← hn2] at VA ⊢
 generalize N.rel (qau N.As (qaJ N.As)) = R at *
 generalize qaJ N.As = E at *
 clear hat OK FI hn2
 generalize N.all = n at *
 generalize N.emp = em at *
 generalize N.As.length = m at *
 generalize N.o.length = qo at *
 generalize N.aA = aA at *
 generalize N.cA = cA at *
 generalize N.aO = aO at *
 generalize N.cO = cO at *
 replace PL := gi PL; replace VA := gi VA; replace AL := gi AL
 go_enter Tryz.func30, Tryz.ntmps30
 go_upto_region 1 with fail
 have kn := qab (gv w (.cells #[.slice aA m cA, .slice aO qo cO] 35)) (.cells #[.int .i64 0, .slice none 0 0, .int .i64 0] 46)
 have kr := gv (w.alloc (.cells #[.slice aA m cA, .slice aO qo cO] 35)) (.cells #[.int .i64 0, .slice none 0 0, .int .i64 0] 46)
 rw [show (w.alloc (.cells #[.slice aA m cA, .slice aO qo cO] 35)).heap.size = w.heap.size + 1 by simp] at kr
 have hs : qad w ((w.alloc (.cells #[.slice aA m cA, .slice aO qo cO] 35)).alloc (.cells #[.int .i64 0, .slice none 0 0, .int .i64 0] 46)) := fs2
 generalize (w.alloc (.cells #[.slice aA m cA, .slice aO qo cO] 35)).alloc (.cells #[.int .i64 0, .slice none 0 0, .int .i64 0] 46) = W0 at *
 replace kn := gi kn; replace kr := gi kr; replace hs := gi hs
 obtain ⟨y0, y1, yl⟩ := g2l kn.out
 go_wp2_with fail
 refine (PL.out _ hs.out).mono ?_
 rintro e w1 ⟨aT, aB, cT, cB, rfl, hly, s1⟩
 clear y0 y1 yl
 have hbl : w.heap.size + 1 < w1.heap.size := by have h9 := gu kr.out; have h8 := s1.size; omega
 replace kn := gi (s1.at kn.out id); replace kr := gi (s1.at kr.out id)
 have hs1 := hs.out.same s1
 clear s1
 replace hly := gi hly; replace hs1 := gi hs1
 go_upto_region 2 with fail
 have kl := gv w1 (.cells #[.slice aT m cT, .slice aB m cB, .int .i64 n, .bool em] 92)
 have s2 : qad w1 (w1.alloc (.cells #[.slice aT m cT, .slice aB m cB, .int .i64 n, .bool em] 92)) := fs2
 have hly2 := hly.out.same s2
 replace kn := gi (s2.at kn.out id); replace kr := gi (s2.at kr.out id)
 have hs2 := hs1.out.same s2
 clear s2 hly hs1 hs
 generalize w1.alloc (.cells #[.slice aT m cT, .slice aB m cB, .int .i64 n, .bool em] 92) = W1 at *
 generalize w1.heap.size = bl at *
 replace kl := gi kl; replace hly2 := gi hly2; replace hs2 := gi hs2
 obtain ⟨y0, y1, yl⟩ := g2l kn.out
 go_upto_region 4 with fail
 go_wp2_with fail
 refine (AL.out _ hs2.out).mono ?_
 rintro e w2 ⟨aE, cE, rfl, hE, s2⟩
 clear y0 y1 yl
 replace kn := gi (s2.at kn.out id); replace kr := gi (s2.at kr.out id); replace kl := gi (s2.at kl.out id)
 have hly3 := hly2.out.same s2
 have hs2 := hs2.out.same s2
 clear s2 hly2
 replace hE := gi hE; replace hly3 := gi hly3; replace hs2 := gi hs2
 obtain ⟨x0, x1, x2, x3, xl⟩ := g4l kl.out
 obtain ⟨y0, y1, yl⟩ := g2l kn.out
 go_wp2_with fail
 refine (VA.out _ _ _ _ _ _ _ hs2.out hly3.out hE.out).mono ?_
 intro e w3 hM
 obtain ⟨a3, c3, L3, r3, rfl, d3, tt3, s3⟩ := hM.open
 clear hly3 hE
 replace kr := gi (s3.at kr.out id)
 have hs3 := hs2.out.same s3
 clear hM s3
 replace d3 := gi d3; replace tt3 := gi tt3; replace hs3 := gi hs3
 obtain ⟨x0, x1, x2, z0, z1, z2, xl⟩ := qar kr.out
 go_wp2_with fail
 obtain ⟨q0, q1, q2, hdF, hsF⟩ := qaI hs3.out (by omega) (d := ⟨n2, a3, c3, L3, r3⟩) d3.out kr.out
 refine bodyPost_ret (v := .tuple #[.agg #[.int .i64 n2, .slice a3 L3.length c3, .int .i64 r3], .int .i64 0]) (by simp [results, Tryz.results30, go_sem, q0, q1, q2]) rfl ?_
 exact ⟨_, rfl, hdF, ⟨rfl, tt3.out⟩, hsF⟩
theorem qdV (N : Nw) (OK : qby N) (FI : Fits N) (w : World) (hat : N.at w) :
 Calls Tryz.prog 7 #[.agg #[.slice N.aA N.As.length N.cA, .slice N.aO N.o.length N.cO]] w (ClR N.all 0 (N.rel (qau N.As (qaJ N.As))) (N.set (N.chosen fun _ => [0])) w) := by
 have h10 := OK.h10
 have EV := fun W (hW : qad w W) => qdJ N OK FI W (hat.same hW)
 have IN := fun W (hW : qad w W) => qjL N OK W (hat.same hW)
 have hth := FI.thin (qaJ N.As)
 have FW := fun (dr df : Dg) W (h1 : dr.at W) (h2 : df.at W) (T : dr.tab (2 * N.all) (N.rel (qau N.As (qaJ N.As)))) (U : df.tab N.all (N.set (N.chosen fun _ => [0]))) => qjJ h10 dr df _ _ W h1 h2 T U hth
 obtain ⟨n2, hn2⟩ : ∃ n2, n2 = 2 * N.all := ⟨_, rfl⟩
 rw [← hn2] at EV FW
 generalize N.rel (qau N.As (qaJ N.As)) = R at *
 generalize N.set (N.chosen fun _ => [0]) = S at *
 clear hat OK FI hn2 hth
 generalize N.all = n at *
 generalize N.emp = em at *
 generalize N.As.length = m at *
 generalize N.o.length = qo at *
 generalize N.aA = aA at *
 generalize N.cA = cA at *
 generalize N.aO = aO at *
 generalize N.cO = cO at *
 replace EV := gi EV; replace IN := gi IN; replace FW := gi FW
 go_enter Tryz.func7, Tryz.ntmps7
 go_upto_region 1 with fail
 have kn := qab (gv w (.cells #[.slice aA m cA, .slice aO qo cO] 35)) (.cells #[.int .i64 0, .slice none 0 0, .int .i64 0] 46)
 have kr := gv (w.alloc (.cells #[.slice aA m cA, .slice aO qo cO] 35)) (.cells #[.int .i64 0, .slice none 0 0, .int .i64 0] 46)
 rw [show (w.alloc (.cells #[.slice aA m cA, .slice aO qo cO] 35)).heap.size = w.heap.size + 1 by simp] at kr
 have hs : qad w ((w.alloc (.cells #[.slice aA m cA, .slice aO qo cO] 35)).alloc (.cells #[.int .i64 0, .slice none 0 0, .int .i64 0] 46)) := fs2
 generalize (w.alloc (.cells #[.slice aA m cA, .slice aO qo cO] 35)).alloc (.cells #[.int .i64 0, .slice none 0 0, .int .i64 0] 46) = W0 at *
 replace kn := gi kn; replace kr := gi kr; replace hs := gi hs
 obtain ⟨y0, y1, yl⟩ := g2l kn.out
 go_wp2_with fail
 refine (EV.out _ hs.out).mono ?_
 intro e w1 hM
 obtain ⟨a1, c1, L1, r1, rfl, d1, tt1, s1⟩ := hM.open
 clear y0 y1 yl
 replace kn := gi (s1.at kn.out id); replace kr := gi (s1.at kr.out id)
 have hs1 := hs.out.same s1
 have hb1 : w.heap.size + 1 < w1.heap.size := gu kr.out
 clear hM s1 hs
 replace d1 := gi d1; replace tt1 := gi tt1; replace hs1 := gi hs1
 go_upto_region 2 with fail
 have k2 := gv w1 (.cells #[.int .i64 n2, .slice a1 L1.length c1, .int .i64 r1] 46)
 have s2 : qad w1 (w1.alloc (.cells #[.int .i64 n2, .slice a1 L1.length c1, .int .i64 r1] 46)) := fs2
 generalize w1.alloc (.cells #[.int .i64 n2, .slice a1 L1.length c1, .int .i64 r1] 46) = W2 at *
 replace d1 := gi (d1.out.same s2); replace kn := gi (s2.at kn.out id); replace kr := gi (s2.at kr.out id)
 have hs2 := hs1.out.same s2
 clear s2 hs1
 generalize w1.heap.size = bA at *
 replace k2 := gi k2; replace hs2 := gi hs2
 obtain ⟨y0, y1, yl⟩ := g2l kn.out
 go_upto_region 4 with fail
 go_wp2_with fail
 refine (IN.out _ hs2.out).mono ?_
 intro e w3 hM
 obtain ⟨a3, c3, L3, r3, rfl, d3, tt3, s3⟩ := hM.open
 clear y0 y1 yl
 have hb3 : bA < w3.heap.size := by have h1 := gu k2.out; have h2 := s3.size; omega
 replace d1 := gi (d1.out.same s3); replace kr := gi (s3.at kr.out id); replace k2 := gi (s3.at k2.out id)
 have hs3 := hs2.out.same s3
 clear hM s3 hs2
 replace d3 := gi d3; replace tt3 := gi tt3; replace hs3 := gi hs3
 go_upto_region 5 with fail
 have k4 := gv w3 (.cells #[.int .i64 n, .slice a3 L3.length c3, .int .i64 r3] 46)
 have s4 : qad w3 (w3.alloc (.cells #[.int .i64 n, .slice a3 L3.length c3, .int .i64 r3] 46)) := fs2
 generalize w3.alloc (.cells #[.int .i64 n, .slice a3 L3.length c3, .int .i64 r3] 46) = W4 at *
 replace d1 := gi (d1.out.same s4); replace d3 := gi (d3.out.same s4); replace kr := gi (s4.at kr.out id); replace k2 := gi (s4.at k2.out id)
 have hs4 := hs3.out.same s4
 clear s4 hs3
 generalize w3.heap.size = bB at *
 replace k4 := gi k4; replace hs4 := gi hs4
 obtain ⟨x0, x1, x2, xl⟩ := g3l k2.out
 obtain ⟨y0, y1, y2, yl⟩ := g3l k4.out
 go_upto_region 7 with fail
 go_wp2_with fail
 refine (FW.out ⟨n2, a1, c1, L1, r1⟩ ⟨n, a3, c3, L3, r3⟩ _ d1.out d3.out ⟨rfl, tt1.out⟩ ⟨rfl, tt3.out⟩).mono ?_
 intro e w5 hC
 rcases hC with ⟨hC, _⟩ | ⟨_, hC⟩
 · exact absurd rfl hC
 obtain ⟨d5, k, rfl, hd5, ht5, hfx, hne, s5⟩ := hC
 clear x0 x1 x2 xl
 clear y0 y1 y2 yl
 replace kr := gi (s5.at kr.out id)
 have hs5 := hs4.out.same s5
 clear s5 d1 d3 tt1 tt3 k2 k4
 replace hd5 := gi hd5; replace ht5 := gi ht5; replace hfx := gi hfx; replace hne := gi hne; replace hs5 := gi hs5
 obtain ⟨x0, x1, x2, z0, z1, z2, xl⟩ := qar kr.out
 go_wp2_with fail
 obtain ⟨q0, q1, q2, hdF, hsF⟩ := qaI hs5.out (by omega) (d := d5) hd5.out kr.out
 refine bodyPost_ret (v := .tuple #[.agg #[.int .i64 d5.n, .slice d5.a d5.L.length d5.cap, .int .i64 d5.r], .int .i64 k, .int .i64 0]) (by simp [results, Tryz.results7, go_sem, q0, q1, q2]) rfl ?_
 exact ⟨d5, k, rfl, hdF, ht5.out, hfx.out, hne.out, hsF⟩
def Nw.mErr (N : Nw) (v : Nat) (t : List Bool) : Int := if v ≠ N.all then 4 else if qbE t (N.set (okT N.ns)) (fls N.all) = t then 0 else 2
def MeE (N : Nw) (E : Int) (w : World) (e : Ending) (w' : World) : Prop :=
 (E ≠ 0 ∧ e = .returned (.tuple #[.agg #[.slice none 0 0, .slice none 0 0, .int .i64 0, .bool false], .int .i64 E]) ∧ qad w w') ∨
 (E = 0 ∧ ∃ aT aB cT cB, e = .returned (.tuple #[.agg #[.slice aT N.As.length cT, .slice aB N.As.length cB, .int .i64 N.all, .bool N.emp], .int .i64 0]) ∧ qgz N aT aB cT cB w' ∧ qad w w')
theorem qiy (N : Nw) (OK : qby N) (d : Dg) (v : Nat) (t : List Bool) (w : World) (hat : N.at w) (hd : d.at w) (T : d.tab v t) :
 Calls Tryz.prog 45 #[.agg #[.slice N.aA N.As.length N.cA, .slice N.aO N.o.length N.cO], .agg #[.int .i64 d.n, .slice d.a d.L.length d.cap, .int .i64 d.r]] w (MeE N (N.mErr v t) w) := by
 have h10 := OK.h10
 have PL := fun W (hW : qad w W) => OK.place W (hat.same hW)
 have CK := fun W (hW : qad w W) => qbR d v t W (qaa.same hd hW) T
 have VA := fun aT aB cT cB W (hW : qad w W) (hly : qgz N aT aB cT cB W) => qnF N OK aT aB cT cB W (hat.same hW) hly
 obtain ⟨V, hV⟩ : ∃ V, V = N.set (okT N.ns) := ⟨_, rfl⟩
 have hVl : V.length = 2 ^ N.all := by rw [hV]; exact qfi _ _ _ _ _
 have hE1 : v ≠ N.all → N.mErr v t = 4 := fun h => by unfold Nw.mErr; rw [if_pos h]
 have hE2 : v = N.all → qbE t V (fls N.all) = t → N.mErr v t = 0 := fun h h2 => by unfold Nw.mErr; rw [if_neg (by simpa using h), ← hV, if_pos h2]
 have hE3 : v = N.all → ¬ qbE t V (fls N.all) = t → N.mErr v t = 2 := fun h h2 => by unfold Nw.mErr; rw [if_neg (by simpa using h), ← hV, if_neg h2]
 rw [← hV] at VA
 have AN := fun (d2 : Dg) (h : v = N.all) W (hW : qad w W) (h2 : d2.at W) (T2 : d2.tab N.all V) => qf2 (n := N.all) (by omega) (qaa.same hd hW) h2 (h ▸ T) T2 (qfU (by omega) (qbG (by rw [← h]; exact T.2.len) hVl (qbZ _)))
 have EQ := fun (d2 : Dg) (h : v = N.all) W (hW : qad w W) (h2 : d2.at W) (T2 : d2.tab N.all (qbE t V (fls N.all))) => qkF (d' := d) h2 (qaa.same hd hW) T2 (h ▸ T)
 have hdn := T.1
 have hb4 : N.mErr v t ≠ 0 → ∀ w', qad w w' → MeE N (N.mErr v t) w (.returned (.tuple #[.agg #[.slice none 0 0, .slice none 0 0, .int .i64 0, .bool false], .int .i64 (N.mErr v t)])) w' := fun h w' hs => .inl ⟨h, rfl, hs⟩
 have hgd : N.mErr v t = 0 → ∀ aT aB cT cB w', qgz N aT aB cT cB w' → qad w w' → MeE N (N.mErr v t) w (.returned (.tuple #[.agg #[.slice aT N.As.length cT, .slice aB N.As.length cB, .int .i64 N.all, .bool N.emp], .int .i64 0])) w' := fun h aT aB cT cB w' h1 h2 => .inr ⟨h, aT, aB, cT, cB, rfl, h1, h2⟩
 simp only [Dg.v] at CK AN EQ
 rw [hdn] at CK AN EQ ⊢
 generalize qbE t V (fls N.all) = t2 at *
 generalize d.a = da at *
 generalize d.L.length = dq at *
 generalize d.cap = dc at *
 generalize d.r = dr at *
 obtain ⟨Q, hQ⟩ : ∃ Q, Q = MeE N (N.mErr v t) w := ⟨_, rfl⟩
 rw [← hQ] at hb4 hgd ⊢
 clear hd T hdn hV hVl hQ
 generalize N.mErr v t = EE at *
 clear hat OK
 generalize N.all = n at *
 generalize N.emp = em at *
 generalize N.As.length = m at *
 generalize N.o.length = qo at *
 generalize N.aA = aA at *
 generalize N.cA = cA at *
 generalize N.aO = aO at *
 generalize N.cO = cO at *
 replace PL := gi PL; replace CK := gi CK; replace VA := gi VA; replace AN := gi AN; replace EQ := gi EQ; replace hE1 := gi hE1; replace hE2 := gi hE2; replace hE3 := gi hE3; replace hb4 := gi hb4; replace hgd := gi hgd
 go_enter Tryz.func45, Tryz.ntmps45
 go_upto_region 1 with fail
 have kn := qab (qab (gv w (.cells #[.slice aA m cA, .slice aO qo cO] 35)) (.cells #[.int .i64 v, .slice da dq dc, .int .i64 dr] 46)) (.cells #[.slice none 0 0, .slice none 0 0, .int .i64 0, .bool false] 92)
 have kf := qab (gv (w.alloc (.cells #[.slice aA m cA, .slice aO qo cO] 35)) (.cells #[.int .i64 v, .slice da dq dc, .int .i64 dr] 46)) (.cells #[.slice none 0 0, .slice none 0 0, .int .i64 0, .bool false] 92)
 have kr := gv ((w.alloc (.cells #[.slice aA m cA, .slice aO qo cO] 35)).alloc (.cells #[.int .i64 v, .slice da dq dc, .int .i64 dr] 46)) (.cells #[.slice none 0 0, .slice none 0 0, .int .i64 0, .bool false] 92)
 rw [← al1] at kf
 rw [← al2] at kr
 have hs : qad w (((w.alloc (.cells #[.slice aA m cA, .slice aO qo cO] 35)).alloc (.cells #[.int .i64 v, .slice da dq dc, .int .i64 dr] 46)).alloc (.cells #[.slice none 0 0, .slice none 0 0, .int .i64 0, .bool false] 92)) := fs2
 generalize ((w.alloc (.cells #[.slice aA m cA, .slice aO qo cO] 35)).alloc (.cells #[.int .i64 v, .slice da dq dc, .int .i64 dr] 46)).alloc (.cells #[.slice none 0 0, .slice none 0 0, .int .i64 0, .bool false] 92) = W0 at *
 replace kn := gi kn; replace kf := gi kf; replace kr := gi kr; replace hs := gi hs
 obtain ⟨y0, y1, yl⟩ := g2l kn.out
 go_wp2_with fail
 refine (PL.out _ hs.out).mono ?_
 rintro e w1 ⟨aT, aB, cT, cB, rfl, hly, s1⟩
 clear y0 y1 yl
 have hbl : w.heap.size + 1 + 1 < w1.heap.size := by have h9 := gu kr.out; have h8 := s1.size; omega
 replace kn := gi (s1.at kn.out id); replace kr := gi (s1.at kr.out id); replace kf := gi (s1.at kf.out id)
 have hs1 := hs.out.same s1
 clear s1 hs
 replace hly := gi hly; replace hs1 := gi hs1
 go_upto_region 2 with fail
 have kl := gv w1 (.cells #[.slice aT m cT, .slice aB m cB, .int .i64 n, .bool em] 92)
 have s2 : qad w1 (w1.alloc (.cells #[.slice aT m cT, .slice aB m cB, .int .i64 n, .bool em] 92)) := fs2
 have hly2 := hly.out.same s2
 replace kn := gi (s2.at kn.out id); replace kr := gi (s2.at kr.out id); replace kf := gi (s2.at kf.out id)
 have hs2 := hs1.out.same s2
 clear s2 hly hs1
 generalize w1.alloc (.cells #[.slice aT m cT, .slice aB m cB, .int .i64 n, .bool em] 92) = W1 at *
 generalize w1.heap.size = bl at *
 replace kl := gi kl; replace hly2 := gi hly2; replace hs2 := gi hs2
 obtain ⟨x0, x1, x2, xl⟩ := g3l kf.out
 go_upto_region 4 with fail
 go_wp2_with fail
 refine (CK.out _ hs2.out).mono ?_
 rintro e w3 ⟨rfl, s3⟩
 clear x0 x1 x2 xl
 replace kn := gi (s3.at kn.out id); replace kr := gi (s3.at kr.out id); replace kf := gi (s3.at kf.out id); replace kl := gi (s3.at kl.out id)
 have hly3 := hly2.out.same s3
 have hs3 := hs2.out.same s3
 clear s3 hly2 hs2
 replace hly3 := gi hly3; replace hs3 := gi hs3
 by_cases hvn : v = n
 · have hVA := VA.out
   have hAN := fun d2 => AN.out d2 hvn
   have hEQ := fun d2 => EQ.out d2 hvn
   have hb1 : ((v : Int) != (n : Int)) = false := by simp; omega
   replace hVA := gi hVA; replace hAN := gi hAN; replace hEQ := gi hEQ; replace hvn := gi hvn
   clear VA AN EQ
   obtain ⟨z0, z1, z2, z3, zl⟩ := g4l kl.out
   obtain ⟨x0, x1, x2, xl⟩ := g3l kf.out
   obtain ⟨y0, y1, yl⟩ := g2l kn.out
   go_upto_region 9 with fail
   go_wp2_with fail
   refine (hVA.out _ _ _ _ _ hs3.out hly3.out).mono ?_
   intro e w4 hM
   obtain ⟨a4, c4, L4, r4, rfl, d4, t4, s4⟩ := hM.open
   clear z0 z1 z2 z3 zl
   clear x0 x1 x2 xl
   clear y0 y1 yl
   have hb4' : bl < w4.heap.size := by have h9 := gu kl.out; have h8 := s4.size; omega
   replace kr := gi (s4.at kr.out id); replace kf := gi (s4.at kf.out id); replace kl := gi (s4.at kl.out id)
   have hly4 := hly3.out.same s4
   have hs4 := hs3.out.same s4
   clear hM s4 hs3 kn hly3
   replace d4 := gi d4; replace t4 := gi t4; replace hs4 := gi hs4; replace hly4 := gi hly4
   go_upto_region 10 with fail
   have k5 := gv w4 (.cells #[.int .i64 n, .slice a4 L4.length c4, .int .i64 r4] 46)
   have s5 : qad w4 (w4.alloc (.cells #[.int .i64 n, .slice a4 L4.length c4, .int .i64 r4] 46)) := fs2
   generalize w4.alloc (.cells #[.int .i64 n, .slice a4 L4.length c4, .int .i64 r4] 46) = W5 at *
   replace d4 := gi (d4.out.same s5); replace kr := gi (s5.at kr.out id); replace kf := gi (s5.at kf.out id); replace kl := gi (s5.at kl.out id)
   have hly5 := hly4.out.same s5
   have hs5 := hs4.out.same s5
   clear s5 hs4 hly4
   generalize w4.heap.size = b5 at *
   replace k5 := gi k5; replace hs5 := gi hs5; replace hly5 := gi hly5
   obtain ⟨x0, x1, x2, xl⟩ := g3l kf.out
   obtain ⟨y0, y1, y2, yl⟩ := g3l k5.out
   go_upto_region 12 with fail
   go_wp2_with fail
   refine (hAN.out ⟨n, a4, c4, L4, r4⟩ _ hs5.out d4.out ⟨rfl, t4.out⟩).mono ?_
   intro e w6 hM
   obtain ⟨a6, c6, L6, r6, rfl, d6, t6, s6⟩ := hM.open
   clear x0 x1 x2 xl
   clear y0 y1 y2 yl
   have hb6 : b5 < w6.heap.size := by have h9 := gu k5.out; have h8 := s6.size; omega
   replace kr := gi (s6.at kr.out id); replace kf := gi (s6.at kf.out id); replace kl := gi (s6.at kl.out id)
   have hly6 := hly5.out.same s6
   have hs6 := hs5.out.same s6
   clear hM s6 hs5 k5 d4 t4 hly5
   replace d6 := gi d6; replace t6 := gi t6; replace hs6 := gi hs6; replace hly6 := gi hly6
   go_upto_region 13 with fail
   have k7 := gv w6 (.cells #[.int .i64 n, .slice a6 L6.length c6, .int .i64 r6] 46)
   have s7 : qad w6 (w6.alloc (.cells #[.int .i64 n, .slice a6 L6.length c6, .int .i64 r6] 46)) := fs2
   generalize w6.alloc (.cells #[.int .i64 n, .slice a6 L6.length c6, .int .i64 r6] 46) = W7 at *
   replace d6 := gi (d6.out.same s7); replace kr := gi (s7.at kr.out id); replace kf := gi (s7.at kf.out id); replace kl := gi (s7.at kl.out id)
   have hly7 := hly6.out.same s7
   have hs7 := hs6.out.same s7
   clear s7 hs6 hly6
   generalize w6.heap.size = b7 at *
   replace k7 := gi k7; replace hs7 := gi hs7; replace hly7 := gi hly7
   obtain ⟨x0, x1, x2, xl⟩ := g3l kf.out
   obtain ⟨y0, y1, y2, yl⟩ := g3l k7.out
   go_upto_region 15 with fail
   go_wp2_with fail
   refine (hEQ.out ⟨n, a6, c6, L6, r6⟩ _ hs7.out d6.out ⟨rfl, t6.out⟩).mono ?_
   rintro e w8 ⟨rfl, s8⟩
   clear x0 x1 x2 xl
   clear y0 y1 y2 yl
   replace kr := gi (s8.at kr.out id); replace kl := gi (s8.at kl.out id)
   have hly8 := hly7.out.same s8
   have hs8 := hs7.out.same s8
   clear s8 hs7 kf k7 d6 t6 hly7
   replace hs8 := gi hs8; replace hly8 := gi hly8
   by_cases htt : t2 = t
   · have hE := hE2.out hvn.out htt
     rw [decide_eq_true htt]
     subst hE
     have hg := hgd.out rfl
     replace hg := gi hg; replace htt := gi htt
     obtain ⟨z0, z1, z2, z3, zl⟩ := g4l kl.out
     obtain ⟨q0, q1, q2, q3, g0, g1, g2, g3, ql⟩ := qb3 kr.out
     go_wp2_with fail
     obtain ⟨e0, e1, e2, e3, hsF, hF⟩ := qcs (u0 := .slice aT m cT) (u1 := .slice aB m cB) (u2 := .int .i64 n) (u3 := .bool em) hs8.out (by omega) kr.out
     refine bodyPost_ret (v := .tuple #[.agg #[.slice aT m cT, .slice aB m cB, .int .i64 n, .bool em], .int .i64 0]) (by simp [results, Tryz.results45, go_sem, e0, e1, e2, e3]) rfl ?_
     exact hg.out _ _ _ _ _ (hly8.out.box hF kr.out) hsF
   · have hE := hE3.out hvn.out htt
     rw [decide_eq_false htt]
     subst hE
     have hg := hb4.out (by decide)
     replace hg := gi hg; replace htt := gi htt
     obtain ⟨q0, q1, q2, q3, g0, g1, g2, g3, ql⟩ := qb3 kr.out
     go_wp2_with fail
     obtain ⟨e0, e1, e2, e3, hsF, hF⟩ := qcs (u0 := .slice none 0 0) (u1 := .slice none 0 0) (u2 := .int .i64 0) (u3 := .bool false) hs8.out (by omega) kr.out
     refine bodyPost_ret (v := .tuple #[.agg #[.slice none 0 0, .slice none 0 0, .int .i64 0, .bool false], .int .i64 2]) (by simp [results, Tryz.results45, go_sem, e0, e1, e2, e3]) rfl ?_
     exact hg.out _ hsF
 · have hE := hE1.out hvn
   subst hE
   have hg := hb4.out (by decide)
   have hb1 : ((v : Int) != (n : Int)) = true := by simp; omega
   replace hg := gi hg; replace hvn := gi hvn
   obtain ⟨z0, z1, z2, z3, zl⟩ := g4l kl.out
   obtain ⟨x0, x1, x2, xl⟩ := g3l kf.out
   obtain ⟨q0, q1, q2, q3, g0, g1, g2, g3, ql⟩ := qb3 kr.out
   go_wp2_with fail
   obtain ⟨e0, e1, e2, e3, hsF, hF⟩ := qcs (u0 := .slice none 0 0) (u1 := .slice none 0 0) (u2 := .int .i64 0) (u3 := .bool false) hs3.out (by omega) kr.out
   refine bodyPost_ret (v := .tuple #[.agg #[.slice none 0 0, .slice none 0 0, .int .i64 0, .bool false], .int .i64 4]) (by simp [results, Tryz.results45, go_sem, e0, e1, e2, e3]) rfl ?_
   exact hg.out _ hsF
structure Bd (W : World) (b n : Nat) (t : List Bool) (a : Option Addr) (c : Nat) (L : List Nd) (r : Int) : Prop where
 heap : W.heap[b]? = some (.cells #[.int .i64 n, .slice a L.length c, .int .i64 r] 46 (0, 0))
 at' : Dg.at W ⟨n, a, c, L, r⟩
 tab : qbN n t L r
theorem Bd.same {W W' : World} {b n : Nat} {t : List Bool} {a : Option Addr} {c : Nat} {L : List Nd} {r : Int} (h : Bd W b n t a c L r) (hs : qad W W') : Bd W' b n t a c L r := ⟨hs.at h.heap id, qaa.same h.at' hs, h.tab⟩
theorem qnS (N : Nw) (OK : qby N) (d : Dg) (v : Nat) (t : List Bool) (w : World) (hat : N.at w) (hd : d.at w) (T : d.tab v t) :
 Calls Tryz.prog 19 #[.agg #[.slice N.aA N.As.length N.cA, .slice N.aO N.o.length N.cO], .agg #[.int .i64 d.n, .slice d.a d.L.length d.cap, .int .i64 d.r]] w fun e w' => e = .returned (.tuple #[.int .i64 (if N.mErr v t = 0 then ((t.count true : Nat) : Int) else 0), .int .i64 (N.mErr v t)]) ∧ qad w w' := by
 have ME := fun W (hW : qad w W) => qiy N OK d v t W (hat.same hW) (qaa.same hd hW) T
 have CT := fun W (hW : qad w W) => qmI d v t W (qaa.same hd hW) T
 have hdn := T.1
 simp only [Dg.v] at CT
 rw [hdn] at ME CT ⊢
 generalize d.a = da at *
 generalize d.L.length = dq at *
 generalize d.cap = dc at *
 generalize d.r = dr at *
 obtain ⟨EE, hEE⟩ : ∃ EE, EE = N.mErr v t := ⟨_, rfl⟩
 rw [← hEE] at ME ⊢
 generalize t.count true = ct at *
 obtain ⟨cx, hcx⟩ : ∃ cx : Int, cx = if EE = 0 then (ct : Int) else 0 := ⟨_, rfl⟩
 rw [← hcx]
 clear hat hd T hdn OK hEE
 unfold MeE at ME
 generalize N.aA = aA at *
 generalize N.cA = cA at *
 generalize N.aO = aO at *
 generalize N.cO = cO at *
 generalize N.all = n at *
 generalize N.emp = em at *
 generalize hm : N.As.length = m at *
 generalize N.o.length = qo at *
 replace ME := gi ME; replace CT := gi CT; replace hcx := gi hcx
 go_enter Tryz.func19, Tryz.ntmps19
 go_upto_region 1 with fail
 have kn := qab (gv w (.cells #[.slice aA m cA, .slice aO qo cO] 35)) (.cells #[.int .i64 v, .slice da dq dc, .int .i64 dr] 46)
 have kf := gv (w.alloc (.cells #[.slice aA m cA, .slice aO qo cO] 35)) (.cells #[.int .i64 v, .slice da dq dc, .int .i64 dr] 46)
 rw [← al1] at kf
 have hs : qad w ((w.alloc (.cells #[.slice aA m cA, .slice aO qo cO] 35)).alloc (.cells #[.int .i64 v, .slice da dq dc, .int .i64 dr] 46)) := fs2
 generalize (w.alloc (.cells #[.slice aA m cA, .slice aO qo cO] 35)).alloc (.cells #[.int .i64 v, .slice da dq dc, .int .i64 dr] 46) = W0 at *
 replace kn := gi kn; replace kf := gi kf; replace hs := gi hs
 obtain ⟨y0, y1, yl⟩ := g2l kn.out
 obtain ⟨x0, x1, x2, xl⟩ := g3l kf.out
 go_wp2_with fail
 refine (ME.out _ hs.out).mono ?_
 intro e w1 hM
 clear y0 y1 yl
 clear x0 x1 x2 xl
 rcases hM with ⟨h0, rfl, s1⟩ | ⟨rfl, aT, aB, cT, cB, rfl, _, s1⟩
 · have hb : (EE != 0) = true := by simpa using h0
   have hs1 := hs.out.same s1
   obtain rfl : cx = 0 := by rw [hcx.out, if_neg h0]
   clear s1
   replace h0 := gi h0; replace hs1 := gi hs1
   go_wp2_with fail
   go_ret2
   exact ⟨rfl, hs1.out.same fs2⟩
 · replace kf := gi (s1.at kf.out id)
   have hs1 := hs.out.same s1
   clear s1
   obtain rfl : cx = (ct : Int) := by rw [hcx.out, if_pos rfl]
   replace hs1 := gi hs1
   go_upto_region 2 with fail
   have s2 : qad w1 (w1.alloc (.cells #[.slice aT m cT, .slice aB m cB, .int .i64 n, .bool em] 92)) := fs2
   replace kf := gi (s2.at kf.out id)
   have hs2 := hs1.out.same s2
   clear s2
   generalize w1.alloc (.cells #[.slice aT m cT, .slice aB m cB, .int .i64 n, .bool em] 92) = W2 at *
   replace hs2 := gi hs2
   obtain ⟨x0, x1, x2, xl⟩ := g3l kf.out
   go_wp2_with fail
   refine (CT.out _ hs2.out).mono ?_
   rintro e w3 ⟨rfl, s3⟩
   have hs3 := hs2.out.same s3
   replace hs3 := gi hs3
   go_wp2_with fail
   go_ret2
   exact ⟨rfl, hs3.out⟩
def blkT (b : Nat) (f from' : List Bool) : List Bool := qbE f (qbE from' (fls b) (tru b)) (fls b)
theorem qjQ (N : Nw) (OK : qby N) (FI : Fits N) (w : World) (hat : N.at w) :
 Calls Tryz.prog 8 #[.agg #[.slice N.aA N.As.length N.cA, .slice N.aO N.o.length N.cO]] w fun e w' => ∃ j k : Nat,
  (clI N.all 0 (N.rel (qau N.As (qaJ N.As))) (N.set (N.chosen fun _ => [0])) (j + 1) = clI N.all 0 (N.rel (qau N.As (qaJ N.As))) (N.set (N.chosen fun _ => [0])) j) ∧
  (clI N.all 1 (N.rel (qau N.As (qaJ N.As))) (N.set (N.chosen N.marks)) (k + 1) = clI N.all 1 (N.rel (qau N.As (qaJ N.As))) (N.set (N.chosen N.marks)) k) ∧
  DgN N.all (blkT N.all (clI N.all 0 (N.rel (qau N.As (qaJ N.As))) (N.set (N.chosen fun _ => [0])) j) (clI N.all 1 (N.rel (qau N.As (qaJ N.As))) (N.set (N.chosen N.marks)) k)) w e w' := by
 have h10 := OK.h10
 have RC := fun W (hW : qad w W) => qdV N OK FI W (hat.same hW)
 have EV := fun W (hW : qad w W) => qdJ N OK FI W (hat.same hW)
 have MA := fun W (hW : qad w W) => qlD N OK W (hat.same hW)
 have hth := FI.thin (qaJ N.As)
 have hSl : (N.set (N.chosen N.marks)).length = 2 ^ N.all := N.set_len _
 have hIl : (N.set (N.chosen fun _ => [0])).length = 2 ^ N.all := N.set_len _
 have BW := fun (dr df : Dg) W (h1 : dr.at W) (h2 : df.at W) (T : dr.tab (2 * N.all) (N.rel (qau N.As (qaJ N.As)))) (U : df.tab N.all (N.set (N.chosen N.marks))) => qir h10 dr df _ _ W h1 h2 T U hth
 have NO := fun (d : Dg) (u : List Bool) W (h1 : d.at W) (T : d.tab N.all u) => Not_big (n := N.all) (by omega) h1 T (qfU (by omega) (qbG T.2.len (qbZ _) (qcq _)))
 have AN := fun (d d' : Dg) (u u' : List Bool) W (h1 : d.at W) (h2 : d'.at W) (T : d.tab N.all u) (T' : d'.tab N.all u') => qf2 (n := N.all) (by omega) h1 h2 T T' (qfU (by omega) (qbG T.2.len T'.2.len (qbZ _)))
 obtain ⟨n2, hn2⟩ : ∃ n2, n2 = 2 * N.all := ⟨_, rfl⟩
 rw [← hn2] at EV BW
 generalize N.rel (qau N.As (qaJ N.As)) = R at *
 generalize N.set (N.chosen N.marks) = S at *
 generalize N.set (N.chosen fun _ => [0]) = I at *
 clear hat OK FI hn2 hth
 generalize N.all = n at *
 generalize N.emp = em at *
 generalize N.As.length = m at *
 generalize N.o.length = qo at *
 generalize N.aA = aA at *
 generalize N.cA = cA at *
 generalize N.aO = aO at *
 generalize N.cO = cO at *
 simp only [Dg.v] at NO AN
 replace RC := gi RC; replace EV := gi EV; replace MA := gi MA; replace BW := gi BW; replace NO := gi NO; replace AN := gi AN; replace hSl := gi hSl; replace hIl := gi hIl
 go_enter Tryz.func8, Tryz.ntmps8
 go_upto_region 1 with fail
 have kn := qab (gv w (.cells #[.slice aA m cA, .slice aO qo cO] 35)) (.cells #[.int .i64 0, .slice none 0 0, .int .i64 0] 46)
 have kr := gv (w.alloc (.cells #[.slice aA m cA, .slice aO qo cO] 35)) (.cells #[.int .i64 0, .slice none 0 0, .int .i64 0] 46)
 rw [show (w.alloc (.cells #[.slice aA m cA, .slice aO qo cO] 35)).heap.size = w.heap.size + 1 by simp] at kr
 have hs : qad w ((w.alloc (.cells #[.slice aA m cA, .slice aO qo cO] 35)).alloc (.cells #[.int .i64 0, .slice none 0 0, .int .i64 0] 46)) := fs2
 generalize (w.alloc (.cells #[.slice aA m cA, .slice aO qo cO] 35)).alloc (.cells #[.int .i64 0, .slice none 0 0, .int .i64 0] 46) = W0 at *
 replace kn := gi kn; replace kr := gi kr; replace hs := gi hs
 obtain ⟨y0, y1, yl⟩ := g2l kn.out
 go_wp2_with fail
 refine (RC.out _ hs.out).mono ?_
 intro e w1 hC
 obtain ⟨d1, j, rfl, hd1, ht1, hfx, -, s1⟩ := hC
 clear y0 y1 yl
 obtain ⟨dn, a1, c1, L1, r1⟩ := d1
 obtain rfl : dn = (n : Int) := ht1.1
 have hb1 : w.heap.size + 1 < w1.heap.size := by have h1 := gu kr.out; have h2 := s1.size; omega
 replace kn := gi (s1.at kn.out id); replace kr := gi (s1.at kr.out id)
 have hs1 := hs.out.same s1
 clear s1
 replace hd1 := gi hd1; replace ht1 := gi ht1; replace hs1 := gi hs1; replace hfx := gi hfx
 go_upto_region 2 with fail
 have q1 : Bd (w1.alloc (.cells #[.int .i64 n, .slice a1 L1.length c1, .int .i64 r1] 46)) w1.heap.size n _ a1 c1 L1 r1 := ⟨gv _ _, qaa.same hd1.out fs2, ht1.out.2⟩
 have s2 : qad w1 (w1.alloc (.cells #[.int .i64 n, .slice a1 L1.length c1, .int .i64 r1] 46)) := fs2
 replace kn := gi (s2.at kn.out id); replace kr := gi (s2.at kr.out id)
 have hs2 := hs1.out.same s2
 clear s2 hs1 hd1 ht1
 generalize w1.alloc (.cells #[.int .i64 n, .slice a1 L1.length c1, .int .i64 r1] 46) = W2 at *
 generalize w1.heap.size = b1 at *
 replace q1 := gi q1; replace hs2 := gi hs2
 obtain ⟨y0, y1, yl⟩ := g2l kn.out
 go_upto_region 4 with fail
 go_wp2_with fail
 refine (EV.out _ hs2.out).mono ?_
 intro e v3 hM
 obtain ⟨a3, c3, L3, r3, rfl, d3, z3, s3⟩ := hM.open
 clear hM
 clear y0 y1 yl
 go_upto_region 5 with fail
 have q3 : Bd (v3.alloc (.cells #[.int .i64 n2, .slice a3 L3.length c3, .int .i64 r3] 46)) v3.heap.size n2 _ a3 c3 L3 r3 := ⟨gv _ _, qaa.same d3 fs2, z3⟩
 have s3 := s3.same (show qad v3 (v3.alloc (.cells #[.int .i64 n2, .slice a3 L3.length c3, .int .i64 r3] 46)) from fs2)
 clear d3 z3
 generalize v3.alloc (.cells #[.int .i64 n2, .slice a3 L3.length c3, .int .i64 r3] 46) = w3 at *
 generalize v3.heap.size = b3 at *
 replace q1 := gi (q1.out.same s3); replace kn := gi (s3.at kn.out id); replace kr := gi (s3.at kr.out id)
 have s3 := hs2.out.same s3
 replace q3 := gi q3; replace s3 := gi s3
 obtain ⟨y0, y1, yl⟩ := g2l kn.out
 go_upto_region 7 with fail
 go_wp2_with fail
 refine (MA.out _ s3.out).mono ?_
 intro e v4 hM
 obtain ⟨a4, c4, L4, r4, rfl, d4, z4, s4⟩ := hM.open
 clear hM
 clear y0 y1 yl
 go_upto_region 8 with fail
 have q4 : Bd (v4.alloc (.cells #[.int .i64 n, .slice a4 L4.length c4, .int .i64 r4] 46)) v4.heap.size n _ a4 c4 L4 r4 := ⟨gv _ _, qaa.same d4 fs2, z4⟩
 have s4 := s4.same (show qad v4 (v4.alloc (.cells #[.int .i64 n, .slice a4 L4.length c4, .int .i64 r4] 46)) from fs2)
 clear d4 z4
 generalize v4.alloc (.cells #[.int .i64 n, .slice a4 L4.length c4, .int .i64 r4] 46) = w4 at *
 generalize v4.heap.size = b4 at *
 replace q1 := gi (q1.out.same s4); replace q3 := gi (q3.out.same s4); replace kr := gi (s4.at kr.out id)
 have s4 := s3.out.same s4
 replace q4 := gi q4; replace s4 := gi s4
 obtain ⟨x0, x1, x2, xl⟩ := g3l q3.out.heap
 obtain ⟨z0, z1, z2, zl⟩ := g3l q4.out.heap
 go_upto_region 10 with fail
 go_wp2_with fail
 refine (BW.out ⟨n2, a3, c3, L3, r3⟩ ⟨n, a4, c4, L4, r4⟩ _ q3.out.at' q4.out.at' ⟨rfl, q3.out.tab⟩ ⟨rfl, q4.out.tab⟩).mono ?_
 intro e w5 hC
 rcases hC with ⟨hC, _⟩ | ⟨_, hC⟩
 · exact absurd rfl hC
 obtain ⟨d5, k, rfl, hd5, ht5, hfy, -, s5⟩ := hC
 clear x0 x1 x2 xl
 clear z0 z1 z2 zl
 obtain ⟨dn, a5, c5, L5, r5⟩ := d5
 obtain rfl : dn = (n : Int) := ht5.1
 have hb5 : b4 < w5.heap.size := by have h1 := gu q4.out.heap; have h2 := s5.size; omega
 replace q1 := gi (q1.out.same s5); replace kr := gi (s5.at kr.out id)
 have hs5 := s4.out.same s5
 clear s5 q3 q4
 replace hd5 := gi hd5; replace ht5 := gi ht5; replace hs5 := gi hs5; replace hfy := gi hfy
 go_upto_region 11 with fail
 have q5 : Bd (w5.alloc (.cells #[.int .i64 n, .slice a5 L5.length c5, .int .i64 r5] 46)) w5.heap.size n _ a5 c5 L5 r5 := ⟨gv _ _, qaa.same hd5.out fs2, ht5.out.2⟩
 have s6 : qad w5 (w5.alloc (.cells #[.int .i64 n, .slice a5 L5.length c5, .int .i64 r5] 46)) := fs2
 replace q1 := gi (q1.out.same s6); replace kr := gi (s6.at kr.out id)
 have hs6 := hs5.out.same s6
 clear s6 hs5 hd5 ht5
 generalize w5.alloc (.cells #[.int .i64 n, .slice a5 L5.length c5, .int .i64 r5] 46) = W6 at *
 generalize w5.heap.size = b5 at *
 replace q5 := gi q5; replace hs6 := gi hs6
 obtain ⟨x0, x1, x2, xl⟩ := g3l q5.out.heap
 go_upto_region 13 with fail
 go_wp2_with fail
 refine (NO.out ⟨n, a5, c5, L5, r5⟩ _ _ q5.out.at' ⟨rfl, q5.out.tab⟩).mono ?_
 intro e v7 hM
 obtain ⟨a7, c7, L7, r7, rfl, d7, z7, s7⟩ := hM.open
 clear hM
 clear x0 x1 x2 xl
 go_upto_region 14 with fail
 have q7 : Bd (v7.alloc (.cells #[.int .i64 n, .slice a7 L7.length c7, .int .i64 r7] 46)) v7.heap.size n _ a7 c7 L7 r7 := ⟨gv _ _, qaa.same d7 fs2, z7⟩
 have s7 := s7.same (show qad v7 (v7.alloc (.cells #[.int .i64 n, .slice a7 L7.length c7, .int .i64 r7] 46)) from fs2)
 clear d7 z7
 generalize v7.alloc (.cells #[.int .i64 n, .slice a7 L7.length c7, .int .i64 r7] 46) = w7 at *
 generalize v7.heap.size = b7 at *
 replace q1 := gi (q1.out.same s7); replace kr := gi (s7.at kr.out id)
 have s7 := hs6.out.same s7
 replace q7 := gi q7; replace s7 := gi s7
 obtain ⟨x0, x1, x2, xl⟩ := g3l q1.out.heap
 obtain ⟨z0, z1, z2, zl⟩ := g3l q7.out.heap
 go_upto_region 16 with fail
 go_wp2_with fail
 refine (AN.out ⟨n, a1, c1, L1, r1⟩ ⟨n, a7, c7, L7, r7⟩ _ _ _ q1.out.at' q7.out.at' ⟨rfl, q1.out.tab⟩ ⟨rfl, q7.out.tab⟩).mono ?_
 intro e w8 hM
 obtain ⟨a8, c8, L8, r8, rfl, d8, t8, s8⟩ := hM.open
 clear x0 x1 x2 xl
 clear z0 z1 z2 zl
 replace kr := gi (s8.at kr.out id)
 have hs8 := s7.out.same s8
 clear hM s8 q1 q7
 replace d8 := gi d8; replace t8 := gi t8; replace hs8 := gi hs8
 obtain ⟨x0, x1, x2, z0, z1, z2, xl⟩ := qar kr.out
 go_wp2_with fail
 obtain ⟨g0, g1, g2, hdF, hsF⟩ := qaI hs8.out (by omega) (d := ⟨n, a8, c8, L8, r8⟩) d8.out kr.out
 refine bodyPost_ret (v := .tuple #[.agg #[.int .i64 n, .slice a8 L8.length c8, .int .i64 r8], .int .i64 0]) (by simp [results, Tryz.results8, go_sem, g0, g1, g2]) rfl ?_
 exact ⟨j, k, hfx.out, hfy.out, _, rfl, hdF, ⟨rfl, t8.out⟩, hsF⟩
def Nw.T (N : Nw) (k : Nat) : List Nat := qb1 N.bs N.at' N.As.length (qaY N.all k)
theorem Nw.T_len (N : Nw) (k : Nat) : (N.T k).length = N.ns.length := by rw [Nw.T, qcB, N.ns_len]
theorem qbs.code {N : Nw} (h : qbs N) {k : Nat} (hk : k < 2 ^ N.all) (p : List Nat → Bool) : (∃ x ∈ qaA N.ns, p x = true ∧ qe3 (qbl N.bs N.on x) = k) ↔ okT N.ns (N.T k) = true ∧ p (N.T k) = true := by
 have hpm := h.pm
 rw [← N.ns_len] at hpm
 have H := qpg (bs := N.bs) (ns := N.ns) hpm (n := N.all) rfl (fun i hi => h.bits (by rw [← N.ns_len]; exact hi)) hk p
 have e : N.T k = qb1 N.bs (atB N.bs N.on) N.ns.length (qaY N.all k) := by rw [N.ns_len]; rfl
 rw [e]
 exact H
theorem qbs.tup_of {N : Nw} (h : qbs N) {x : List Nat} (hx : x ∈ qaA N.ns) : ∃ k, k < 2 ^ N.all ∧ N.T k = x ∧ qe3 (qbl N.bs N.on x) = k := by
 have hk : qe3 (qbl N.bs N.on x) < 2 ^ N.all := by
  have := qju (qbl N.bs N.on x) _ (Nat.le_refl _)
  rw [List.take_length, qcb] at this
  exact this
 have := ((h.code hk (fun t => t == x)).1 ⟨x, hx, by simp, rfl⟩).2
 exact ⟨_, hk, by simpa using this, rfl⟩
theorem Nw.T_mem (N : Nw) {k : Nat} (h : okT N.ns (N.T k) = true) : N.T k ∈ qaA N.ns := qbH.2 ⟨N.T_len k, h⟩
theorem Nw.set_eq (N : Nw) (F : List Nat → Bool) : N.set F = tbF N.all fun k => F (N.T k) := rfl
def Sup (ns : List Nat) (F : List Nat → Bool) : Prop := ∀ x, F x = true → okT ns x = true
theorem qbs.set_iff {N : Nw} (h : qbs N) {F G : List Nat → Bool} (hF : Sup N.ns F) (hG : Sup N.ns G) : N.set F = N.set G ↔ ∀ x ∈ qaA N.ns, F x = G x := by
 constructor
 · intro e x hx
   obtain ⟨k, hk, rfl, _⟩ := h.tup_of hx
   exact tbF_inj e hk
 · intro e
   refine qdj (fun k hk => ?_)
   by_cases hok : okT N.ns (N.T k) = true
   · exact e _ (N.T_mem hok)
   · have h1 : F (N.T k) = false := by
       cases hh : F (N.T k) with
       | false => rfl
       | true => exact absurd (hF _ hh) hok
     have h2 : G (N.T k) = false := by
      cases hh : G (N.T k) with
      | false => rfl
      | true => exact absurd (hG _ hh) hok
     exact h1.trans h2.symm
theorem qkM {N : Nw} (h : qbs N) {e : Int} {x y : List Nat} (hs : qcu N.As e x y = true) : okT N.ns x = true ∧ okT N.ns y = true := by
 obtain ⟨h1, _, _⟩ := qcL hs
 constructor
 all_goals
  refine qcr.2 (fun i hi => ?_)
  rw [N.ns_len] at hi
  have := qkH (h.au _ (List.getElem_mem hi)) e _ (qcc h1 hi hi)
  rw [N.ns_get hi]
  first | exact this.1 | exact this.2
theorem qet {N : Nw} (h : qbs N) {E : List Int} {x y : List Nat} (hs : qau N.As E x y = true) : okT N.ns x = true ∧ okT N.ns y = true := by
 unfold qau at hs
 obtain ⟨e, _, he⟩ := List.any_eq_true.1 hs
 exact qkM h he
def imG (s : Nat) (As : List Au) (ns : List Nat) (E : List Int) (G : List Nat → Bool) (y : List Nat) : Bool := (qaA ns).any fun x => (if s = 0 then qau As E x y else qau As E y x) && G x
theorem im_set {N : Nw} (h : qbs N) {s : Nat} (hs : s < 2) (E : List Int) (G : List Nat → Bool) : imT N.all s (N.rel (qau N.As E)) (N.set G) = N.set (imG s N.As N.ns E G) := by
 have hf : ∀ i, i < N.As.length → N.at' i + N.bs i ≤ N.all := fun i hi => h.le hi
 obtain ⟨h0, h1⟩ := qno hf (qau N.As E) G
 rcases (show s = 0 ∨ s = 1 by omega) with rfl | rfl
 · refine h0.trans (qdj (fun k hk => Bool.eq_iff_iff.2 ⟨fun hh => ?_, fun hh => ?_⟩))
   · obtain ⟨j, hj, hb⟩ := List.any_eq_true.1 hh
     have hb' := (Bool.and_eq_true _ _ ▸ hb : _ ∧ _)
     exact List.any_eq_true.2 ⟨N.T j, N.T_mem (qet h hb'.1).1, by simp only [↓reduceIte]; exact hb⟩
   · obtain ⟨x, hx, hb⟩ := List.any_eq_true.1 hh
     obtain ⟨j, hj, rfl, _⟩ := h.tup_of hx
     exact List.any_eq_true.2 ⟨j, List.mem_range.2 hj, by simp only [↓reduceIte] at hb; exact hb⟩
 · refine h1.trans (qdj (fun k hk => Bool.eq_iff_iff.2 ⟨fun hh => ?_, fun hh => ?_⟩))
   · obtain ⟨j, hj, hb⟩ := List.any_eq_true.1 hh
     have hb' := (Bool.and_eq_true _ _ ▸ hb : _ ∧ _)
     exact List.any_eq_true.2 ⟨N.T j, N.T_mem (qet h hb'.1).2, by simp only [Nat.one_ne_zero, ↓reduceIte]; exact hb⟩
   · obtain ⟨x, hx, hb⟩ := List.any_eq_true.1 hh
     obtain ⟨j, hj, rfl, _⟩ := h.tup_of hx
     exact List.any_eq_true.2 ⟨j, List.mem_range.2 hj, by simp only [Nat.one_ne_zero, ↓reduceIte] at hb; exact hb⟩
theorem imG_sup {N : Nw} (h : qbs N) (s : Nat) (E : List Int) (G : List Nat → Bool) : Sup N.ns (imG s N.As N.ns E G) := by
 intro y hy
 obtain ⟨x, _, hb⟩ := List.any_eq_true.1 hy
 have hb' := (Bool.and_eq_true _ _ ▸ hb : _ ∧ _)
 by_cases hs : s = 0
 · rw [if_pos hs] at hb'
   exact (qet h hb'.1).2
 · rw [if_neg hs] at hb'
   exact (qet h hb'.1).1
def clG (s : Nat) (As : List Au) (ns : List Nat) (E : List Int) (G : List Nat → Bool) : Nat → List Nat → Bool
 | 0 => G
 | k + 1 => fun y => clG s As ns E G k y || imG s As ns E (clG s As ns E G k) y
theorem qf6 {N : Nw} (h : qbs N) {s : Nat} (hs : s < 2) (E : List Int) (G : List Nat → Bool) : ∀ k, clI N.all s (N.rel (qau N.As E)) (N.set G) k = N.set (clG s N.As N.ns E G k)
 | 0 => rfl
 | k + 1 => by
  rw [clI, qf6 h hs E G k]
  unfold clS
  rw [im_set h hs]
  exact tup_or _ _ _ _ _ _
theorem qdW {N : Nw} (h : qbs N) {s : Nat} {E : List Int} {G : List Nat → Bool} (hG : Sup N.ns G) : ∀ k, Sup N.ns (clG s N.As N.ns E G k)
 | 0 => hG
 | k + 1 => fun y hy => by
  unfold clG at hy
  rcases (Bool.or_eq_true _ _ ▸ hy : _ ∨ _) with h1 | h1
  · exact qdW h hG k y h1
  · exact imG_sup h s E _ y h1
theorem qkN {b s : Nat} {r u : List Bool} {k : Nat} (h : clI b s r u (k + 1) = clI b s r u k) : ∀ i, clI b s r u (k + i) = clI b s r u k
 | 0 => rfl
 | i + 1 => by
  show clS b s r (clI b s r u (k + i)) = _
  rw [qkN h i]
  exact h
theorem qjR {b s : Nat} {r u : List Bool} {k i : Nat} (h : clI b s r u (k + 1) = clI b s r u k) (hi : k ≤ i) : clI b s r u k = clI b s r u i := by
 obtain ⟨d, rfl⟩ : ∃ d, i = k + d := ⟨i - k, by omega⟩
 exact (qkN h d).symm
theorem qby.ini_sup {N : Nw} (h : qby N) : Sup N.ns (N.chosen fun _ => [0]) := by
 intro x hx
 unfold Nw.chosen at hx
 rw [Bool.and_eq_true, List.all_eq_true] at hx
 refine qcr.2 (fun i hi => ?_)
 have h1 := of_decide_eq_true (hx.2 i (List.mem_range.2 (by rw [← N.ns_len]; exact hi)))
 simp only [List.mem_singleton] at h1
 have h2 : N.emp = false := by simpa using hx.1
 have h3 : ¬ N.ns[i] = 0 := fun e => by
  have : N.emp = true := by
   unfold Nw.emp
   exact List.any_eq_true.2 ⟨N.ns[i], List.getElem_mem hi, by simpa using e⟩
  rw [h2] at this
  cases this
 have h4 : N.ns.getD i 0 = N.ns[i] := by simp [List.getD, hi]
 omega
def qiz (t : List Int) (n : Nat) : List (List Int) := (List.range n).map fun (s : Nat) => t ++ [(s : Int)]
theorem qnT (t : List Int) : qiz t 0 = [] := rfl
theorem qnU (t : List Int) (s : Nat) : qiz t (s + 1) = qiz t s ++ [t ++ [(s : Int)]] := by unfold qiz; rw [List.range_succ, List.map_append]; rfl
theorem qps (t : List Int) (n : Nat) : (qiz t n).length = n := by simp [qiz]
def qoz (ns : List Nat) : List (List Int) := (qaA ns).map qaz
theorem qnV {ns : List Nat} {i : Nat} (hi : i < ns.length) : qoz (ns.take (i + 1)) = (qoz (ns.take i)).flatMap fun t => qiz t (ns.getD i 0) := by
 have e : ns.getD i 0 = ns[i] := by simp [List.getD, hi]
 rw [List.take_succ_eq_append_getElem hi]
 unfold qoz
 rw [qfX, List.map_flatMap, List.flatMap_map, e]
 congr 1
 funext t
 unfold qiz
 rw [List.map_map]
 refine List.map_congr_left (fun s _ => ?_)
 simp [qaz, Function.comp]
theorem qlH (n : Nat) {L : List (List Int)} {j : Nat} (h : j < L.length) : (L.take (j + 1)).flatMap (fun l => qiz l n) = (L.take j).flatMap (fun l => qiz l n) ++ qiz L[j] n := by
 rw [List.take_succ_eq_append_getElem h, List.flatMap_append]; simp
theorem qnW (n : Nat) (L : List (List Int)) : (L.flatMap fun l => qiz l n).length = L.length * n := by
 induction L with
 | nil => simp
 | cons x L ih =>
  simp only [List.flatMap_cons, List.length_append, List.length_cons, Nat.add_mul, qps, ih]
  omega
theorem tupI_el {ns : List Nat} : ∀ t ∈ qoz ns, t.length = ns.length := fun t ht => by
 obtain ⟨x, hx, rfl⟩ := List.mem_map.1 ht
 rw [qaG]
 exact (qbH.1 hx).1
theorem qpt (ns : List Nat) : (qoz ns).length = (qaA ns).length := by simp [qoz]
structure TG (base : Nat) (w : World) (a : Option Addr) (k c : Nat) (gs : List Grp) : Prop where
 len : gs.length = k
 own : w.ownsRow base 33 1 (.slice a k c) k (gs.map Grp.v)
 el : ∀ g ∈ gs, qaa w 3 1 g.v g.l.length (gw g.l)
theorem TG.same {base : Nat} {w w' : World} {a : Option Addr} {k c : Nat} {gs : List Grp} (h : TG base w a k c gs) (hs : qad w w') : TG base w' a k c gs := ⟨h.len, qag h.own hs, fun g hg => (h.el g hg).same hs⟩
theorem TG.gs {base : Nat} {w : World} {a : Option Addr} {k c : Nat} {gs : List Grp} (h : TG base w a k c gs) : qiA w (.slice a k c) k gs := ⟨(qaa.of_owns h.own).row, fun g hg => (h.el g hg).row⟩
theorem TG.nil (base : Nat) (w : World) : TG base w none 0 0 [] := ⟨rfl, World.ownsRow_nil _ _ _ _, by simp⟩
theorem TG.down {base base' : Nat} {w : World} {a : Option Addr} {k c : Nat} {gs : List Grp} (h : TG base w a k c gs) (hb : base' ≤ base) : TG base' w a k c gs := ⟨h.len, qej h.own hb, h.el⟩
theorem TG.push {base : Nat} {w W w' : World} {a a' : Option Addr} {k c c' : Nat} {gs : List Grp} {g : Grp} (h : TG base w a k c gs) (hs : qad w W) (hg : qaa W 3 1 g.v g.l.length (gw g.l))
 (ho : w'.ownsRow base 33 1 (.slice a' (k + 1) c') (k + 1) (gs.map Grp.v ++ [g.v])) (hG : qaK (fun _ => False) W w' (.slice a k c) (.slice a' (k + 1) c')) : TG base w' a' (k + 1) c' (gs ++ [g]) := by
 have h2 := h.same hs
 have key : ∀ x : Grp, qaa W 3 1 x.v x.l.length (gw x.l) → qaa w' 3 1 x.v x.l.length (gw x.l) := fun x hx => hx.fr hG.1 (fun k cur hk hS => by
  rcases hS with hS | hS
  · obtain ⟨cur', e⟩ := qaj h2.own hS
    rw [e] at hk
    simp at hk
  · exact hS)
 refine ⟨by simp [h.len], by simpa using ho, fun x hx => ?_⟩
 rcases List.mem_append.1 hx with hx | hx
 · exact key x (h2.el x hx)
 · simp at hx; subst hx; exact key x hg
theorem qkO : (Tryz.prog.info? 33).map (fun i => (i.zero, i.size, i.bytes)) = some (some (.slice none 0 0), 1, 24) := by kernel_rfl
def TupE (base : Nat) (L : List (List Int)) (w : World) (e : Ending) (w' : World) : Prop :=
 ∃ a k c gs, e = .returned (.slice a k c) ∧ TG base w' a k c gs ∧ lst gs = L ∧ k = L.length ∧ qad w w'
theorem qnX (N : Nw) (w : World) (hat : N.at w) (hn : ∀ k (hk : k < N.As.length), ∃ n : Nat, N.As[k].n = n ∧ n ≤ 1000 ∧ N.ns.getD k 0 = n) (hm : N.As.length ≤ 12) (hL : ∀ i, i ≤ N.As.length → (qaA (N.ns.take i)).length ≤ 100000) :
 Calls Tryz.prog 39 #[.agg #[.slice N.aA N.As.length N.cA, .slice N.aO N.o.length N.cO]] w (TupE w.heap.size (qoz N.ns) w) := by
 obtain ⟨i3, hi3, hi3z, hi3s, hi3b⟩ := info_parts qc0
 obtain ⟨j3, hj3, hj3z, hj3s, hj3b⟩ := info_parts qkO
 obtain ⟨m, hmm⟩ : ∃ m, m = N.As.length := ⟨_, rfl⟩
 have hlt : ∀ k, k < m → k < N.As.length := fun k h => hmm ▸ h
 have hrow := fun (k : Nat) (hk : k < m) W (hW : qad w W) => (hat.au.same hW).row (hlt k hk)
 obtain ⟨T, hT⟩ : ∃ T : Nat → List (List Int), T = fun i => qoz (N.ns.take i) := ⟨_, rfl⟩
 have hT0 : T 0 = [[]] := by rw [hT]; rfl
 have hTs : ∀ i, i < N.As.length → T (i + 1) = (T i).flatMap fun t => qiz t (N.ns.getD i 0) := fun i hi => by rw [hT]; exact qnV (by rw [N.ns_len]; exact hi)
 have hTl : ∀ i, i ≤ N.As.length → (T i).length ≤ 100000 := fun i hi => by rw [hT]; simp only; rw [qpt]; exact hL i hi
 have hTe : ∀ i, i ≤ N.As.length → ∀ t ∈ T i, t.length = i := fun i hi t ht => by
  rw [hT] at ht
  have := tupI_el t ht
  rw [List.length_take, N.ns_len] at this
  omega
 have hTm : qoz N.ns = T N.As.length := by rw [hT]; simp only; rw [List.take_of_length_le (by rw [N.ns_len]; exact Nat.le_refl _)]
 have CL := fun (o : List Int) (a : Option Addr) cap q W (hq : o.length = q) (hO : qan W (.slice a q cap) q (gw o)) (hl : q ≤ 1000000) => qeL o a cap q W hq hO hl
 rw [hTm]
 clear hTm hT hat hL
 unfold qm3 at CL
 simp only [← hmm] at hrow hm hTs hTl hTe ⊢
 have hn2 : ∀ k (hk : k < m), ∃ n : Nat, (N.As[k]'(hlt k hk)).n = n ∧ n ≤ 1000 ∧ T (k + 1) = (T k).flatMap fun t => qiz t n := fun k hk => by
  obtain ⟨n, h1, h2, h3⟩ := hn k (hlt k hk)
  exact ⟨n, h1, h2, by rw [hTs k hk, h3]⟩
 clear hn hTs
 generalize N.aA = aA at *
 generalize N.cA = cA at *
 generalize N.aO = aO at *
 generalize N.cO = cO at *
 generalize N.o.length = qo at *
 generalize N.As = As at *
 clear hmm
 unfold TupE
 replace hrow := gi hrow; replace hT0 := gi hT0; replace hTl := gi hTl; replace hTe := gi hTe; replace CL := gi CL; replace hlt := gi hlt; replace hn2 := gi hn2
 go_enter Tryz.func39, Tryz.ntmps39
 go_upto_region 1 with fail
 have kn := gv w (.cells #[.slice aA m cA, .slice aO qo cO] 35)
 have s0 : qad w (w.alloc (.cells #[.slice aA m cA, .slice aO qo cO] 35)) := fs2
 generalize w.alloc (.cells #[.slice aA m cA, .slice aO qo cO] 35) = W0 at *
 obtain ⟨bn, hbn⟩ : ∃ b, b = w.heap.size := ⟨_, rfl⟩
 rw [← hbn] at kn ⊢
 replace kn := gi kn; replace hbn := gi hbn
 obtain ⟨x0, x1, xl⟩ := g2l kn.out
 have hzn : bn ≤ W0.heap.size := by omega
 go_upto_region 2 with fail
 have h1 : (W0.alloc (.cells #[.slice none 0 0] 33)).ownsRow W0.heap.size 33 1 (.slice (some ⟨W0.heap.size, 0, none⟩) 1 1) 1 [.slice none 0 0] := qaL (gv _ _) (Nat.le_refl _) rfl rfl (by unfold maxLen; omega)
 have s1 : qad W0 (W0.alloc (.cells #[.slice none 0 0] 33)) := fs2
 have hT1 : TG bn (W0.alloc (.cells #[.slice none 0 0] 33)) (some ⟨W0.heap.size, 0, none⟩) 1 1 [⟨none, 0, []⟩] := ⟨rfl, qej h1 hzn, fun g hg => by simp at hg; subst hg; exact qaa.nil _ _ _⟩
 generalize W0.heap.size = b0 at *
 generalize W0.alloc (.cells #[.slice none 0 0] 33) = W1 at *
 have hs1 := s0.same s1
 replace kn := gi (s1.at kn.out id)
 clear x0 x1 xl
 obtain ⟨x0, x1, xl⟩ := g2l kn.out
 clear h1 s1 s0
 replace hT1 := gi hT1; replace hs1 := gi hs1
 go_wp2_with fail
 clear x0 x1 xl
 go_loopw [3, 6, 8, 9, 14] (fun v3 _ _ _ v14 wr => ∃ (i k c : Nat) (a : Option Addr) (gs : List Grp), v14 = .int .i64 i ∧ i ≤ m ∧ v3 = .slice a k c ∧ TG bn wr a k c gs ∧ lst gs = T i ∧ qad w wr) (fun _ _ _ _ i _ => m - (intOf i).toNat)
 case atStart => exact ⟨0, 1, 1, _, [⟨none, 0, []⟩], rfl, by omega, rfl, hT1.out, by rw [hT0.out]; rfl, hs1.out⟩
 case round =>
  clear hT1
  obtain ⟨i, k, c, a, gs, rfl, hi, rfl, hG, hlv, hs⟩ := hrel
  have hk3 : k ≤ 100000 := by
   have h1 := hTl.out i hi
   rw [← hlv, qdq, hG.len] at h1
   exact h1
  have hwo := hs.size
  by_cases him : i < m
  · obtain ⟨b1, off1, rfl, hb1, x0, x1, x2, x3⟩ := hrow.out i him _ hs
    obtain ⟨n, hn1, hn9, hLs⟩ := hn2.out i him
    have hl1 := hTl.out (i + 1) (by omega)
    have hTi := hTe.out i hi
    rw [hn1] at x1
    generalize As[i]'(hlt.out i him) = A at *
    clear hn1
    rw [← hlv] at hLs hTi
    have hgl : (lst gs).length = k := by rw [qdq, hG.len]
    have hfl := qnW n (lst gs)
    rw [← hLs, hgl] at hfl
    rw [hfl] at hl1
    replace hG := gi hG; replace hlv := gi hlv; replace hs := gi hs; replace hLs := gi hLs; replace hgl := gi hgl; replace hTi := gi hTi
    go_upto_region 5 with fail
    have kb := gv wr (.cells #[.slice A.aA A.al.length A.cA, .int .i64 n, .slice A.aM A.ma.length A.cM, .slice A.aE A.es.length A.cE] 39)
    have s2 : qad wr (wr.alloc (.cells #[.slice A.aA A.al.length A.cA, .int .i64 n, .slice A.aM A.ma.length A.cM, .slice A.aE A.es.length A.cE] 39)) := fs2
    generalize wr.alloc (.cells #[.slice A.aA A.al.length A.cA, .int .i64 n, .slice A.aM A.ma.length A.cM, .slice A.aE A.es.length A.cE] 39) = wo at *
    generalize wr.heap.size = bb at *
    replace hG := gi (hG.out.same s2)
    have hs2 := hs.out.same s2
    have hwo := hs2.size
    clear s2 hs x0 x1 x2 x3
    replace kb := gi kb; replace hs2 := gi hs2
    go_wp2_with fail
    go_loopw [6, 8, 9, 20] (fun v6 _ _ v20 wr => ∃ (j k2 c2 : Nat) (a2 : Option Addr) (gs2 : List Grp), v20 = .int .i64 j ∧ j ≤ k ∧ v6 = .slice a2 k2 c2 ∧ TG wo.heap.size wr a2 k2 c2 gs2 ∧ lst gs2 = ((lst gs).take j).flatMap (fun l => qiz l n) ∧ k2 = j * n ∧ qad wo wr) (fun _ _ _ j _ => k - (intOf j).toNat)
    case atStart => exact ⟨0, 0, 0, none, [], rfl, by omega, rfl, TG.nil _ _, by simp [lst], by simp, fs2⟩
    case round =>
     obtain ⟨j, k2, c2, a2, gs2, rfl, hj, rfl, hG2, hl2, hkn, hs3⟩ := hrel
     have hwm := hs3.size
     by_cases hjk : j < k
     · obtain ⟨wm, rfl⟩ : ∃ wm, wm = wr := ⟨_, rfl⟩
       have hjl : j < gs.length := by rw [hG.out.len]; exact hjk
       have hjl2 : j < (lst gs).length := by rw [hgl.out]; exact hjk
       have hRo : qan wo (.slice gs[j].a gs[j].l.length gs[j].cap) gs[j].l.length (gw gs[j].l) := hG.out.gs.2 _ (List.getElem_mem hjl)
       obtain ⟨b, off, rfl, hbl, c0, hR⟩ := (hG.out.gs.same hs3).get hjl
       have hft := qlH n hjl2
       rw [qf7 gs hjl] at hft
       have hk2 : k2 + n ≤ 100000 := by
        have h1 : (j + 1) * n ≤ k * n := Nat.mul_le_mul_right n hjk
        rw [Nat.add_mul] at h1
        omega
       have hll : gs[j].l.length = i := hTi.out _ (by rw [← qf7 gs hjl]; exact List.getElem_mem _)
       generalize gs[j] = g at *
       obtain ⟨ga, gc, gl⟩ := g
       simp only at c0 hR hft hll hRo
       rw [hll] at c0 hR hRo
       have kb2 := hs3.at kb.out id
       have y1 := gn kb2 1
       have yl := gu kb2
       replace hG2 := gi hG2; replace hl2 := gi hl2; replace hs3 := gi hs3; replace hft := gi hft; replace hll := gi hll; replace hR := gi hR; replace hRo := gi hRo; replace kb2 := gi kb2; replace hkn := gi hkn
       go_wp2_with fail
       clear y1 yl c0
       go_loopw [6, 9, 26] (fun v6 _ v26 wr => ∃ (v k3 c3 : Nat) (a3 : Option Addr) (gs3 : List Grp), v26 = .int .i64 v ∧ v ≤ n ∧ v6 = .slice a3 k3 c3 ∧ TG wo.heap.size wr a3 k3 c3 gs3 ∧ lst gs3 = ((lst gs).take j).flatMap (fun l => qiz l n) ++ qiz gl v ∧ k3 = k2 + v ∧ qad wo wr) (fun _ _ v _ => n - (intOf v).toNat)
       case atStart => exact ⟨0, k2, c2, a2, gs2, rfl, by omega, rfl, hG2.out, by rw [hl2.out, qnT, List.append_nil], by omega, hs3.out⟩
       case round =>
        obtain ⟨v, k3, c3, a3, gs3, rfl, hv, rfl, hG3, hl3, hk3', hs4⟩ := hrel
        have hR3 := hRo.out.same hs4
        have hwv := hs4.size
        by_cases hvn : v < n
        · have hss := qnU gl v
          have CLk := CL.out gl ga gc i wr hll.out hR3 (by omega)
          replace hG3 := gi hG3; replace hl3 := gi hl3; replace hs4 := gi hs4; replace hR3 := gi hR3; replace hss := gi hss; replace CLk := gi CLk; replace hk3' := gi hk3'
          have hk9 : k3 + 1 ≤ 100000 := by have := hk3'.out; omega
          go_wp2_with fail
          refine CLk.out.mono ?_
          rintro e w4 ⟨a4, c4, rfl, ho4, s4⟩
          have hz4 := s4.size
          replace ho4 := gi ho4; replace s4 := gi s4
          go_wp2_with (first
           | (at_builtin; refine qai rfl (.tmp 31) (.tmp 33) 33 rfl wr.heap.size 3 i3 (.int .i64 0) 1 8 Tryz.underlying33 hi3 hi3z hi3s hi3b rfl (by decide) (by decide) a4 i c4 (gw gl) rfl (qag ho4.out fs2) (by omega) w4.heap.size [.int .i64 v] rfl rfl (gv _ _) (by simp [Value.oneCell']) (by simp; omega) ?_; intro a5 c5 w5 ho5 hG5; have hs6 : qad wr w5 := qas (s4.out.same fs2) hG5 (fun k hk => (ho4.out.lt k hk).1); replace ho5 := gi ho5; replace hs6 := gi hs6; clear hG5)
           | (at_builtin; refine qai rfl (.tmp 29) (.tmp 35) 40 rfl wo.heap.size 33 j3 (.slice none 0 0) 1 24 Tryz.underlying40 hj3 hj3z hj3s hj3b rfl (by decide) (by decide) a3 k3 c3 (gs3.map Grp.v) rfl (qag hG3.out.own (hs6.out.same fs2)) (by omega) w5.heap.size [.slice a5 (i + 1) c5] rfl rfl (gv _ _) (by simp [Value.oneCell']) (by have := hs6.out.size; simp; omega) ?_; intro a6 c6 w6 ho6 hG6; replace ho6 := gi ho6; replace hG6 := gi hG6))
          have hg6 : qaa (w5.alloc (.cells #[.slice a5 (i + 1) c5] 33)) 3 1 (Grp.v ⟨a5, c5, gl ++ [(v : Int)]⟩) (gl ++ [(v : Int)]).length (gw (gl ++ [(v : Int)])) := by
           have := (qaa.of_owns ho5.out).same (show qad w5 (w5.alloc (.cells #[.slice a5 (i + 1) c5] 33)) from fs2)
           unfold Grp.v
           simp only [List.length_append, List.length_singleton, hll.out]
           simpa [gw] using this
          have hv6 : Grp.v ⟨a5, c5, gl ++ [(v : Int)]⟩ = .slice a5 (i + 1) c5 := by unfold Grp.v; simp [hll.out]
          have hWs : qad wr (w5.alloc (.cells #[.slice a5 (i + 1) c5] 33)) := hs6.out.alloc _
          have hG7 := TG.push (g := ⟨a5, c5, gl ++ [(v : Int)]⟩) hG3.out hWs hg6 (by rw [hv6]; exact ho6.out) hG6.out
          have hs7 : qad wo w6 := qas (hs4.out.same hWs) hG6.out (fun k hk => (hG3.out.own.lt k hk).1)
          replace hG7 := gi hG7; replace hs7 := gi hs7
          clear ho4 ho5 ho6 hG6 s4 hs6 hg6 hv6 hWs
          go_roundw
          case rel => exact ⟨v + 1, k3 + 1, c6, a6, _, by go_num, by omega, rfl, hG7.out, by rw [lst, List.map_append, ← lst, hl3.out, hss.out, List.append_assoc]; rfl, by have := hk3'.out; omega, hs7.out⟩
          case measure => simp [intOf]; omega
        · obtain rfl : v = n := by omega
          replace hG3 := gi hG3; replace hl3 := gi hl3; replace hs4 := gi hs4; replace hR3 := gi hR3
          go_wp2_with fail
          go_roundw
          case rel => exact ⟨j + 1, k3, c3, a3, gs3, by go_num, by omega, rfl, hG3.out, by rw [hl3.out, hft.out], by rw [hk3', hkn.out, Nat.add_mul]; omega, hs4.out⟩
          case measure => simp [intOf]; omega
     · obtain rfl : j = k := by omega
       rw [List.take_of_length_le (by rw [hgl.out]; exact Nat.le_refl _)] at hl2
       replace hG2 := gi hG2; replace hl2 := gi hl2; replace hs3 := gi hs3
       go_wp2_with fail
       go_roundw
       case rel => exact ⟨i + 1, k2, c2, a2, gs2, by go_num, by omega, rfl, hG2.out.down (by have := hbn.out; omega), by rw [hl2.out, hLs.out], hs2.out.same hs3.out⟩
       case measure => simp [intOf]; omega
  · obtain rfl : i = m := by omega
    replace hG := gi hG; replace hlv := gi hlv; replace hs := gi hs
    go_wp2_with fail
    go_ret
    exact ⟨a, k, c, gs, rfl, by rw [← hbn.out]; exact hG.out, hlv.out, by rw [← hlv.out, qdq, hG.out.len], hs.out⟩
theorem qkP (gs : List Grp) (p : List Int → Bool) (F : FuncId) (cs : Array Value) (a : Option Addr) (k cap : Nat) (w : World) (hG : qiA w (.slice a k cap) k gs)
 (ent : ∀ (args : Array Value) (W : World), (callFunc F args).run Tryz.prog W = .ok (.enter F args) W) (hk9 : k ≤ 1000000)
 (HC : ∀ g ∈ gs, ∀ W, qad w W → Calls Tryz.prog F (#[.slice g.a g.l.length g.cap] ++ cs) W fun e W' => e = .returned (.bool (p g.l)) ∧ qad W W') :
 Calls Tryz.prog 15 #[.slice a k cap, .func (.func F) #[] cs] w fun e w' => ∃ r : Int, e = .returned (.int .i64 r) ∧ (decide (0 ≤ r) = (lst gs).any p ∧ (0 ≤ r → ∃ j : Nat, r = j ∧ ∃ g, gs[j]? = some g ∧ p g.l = true)) ∧ qad w w' := by
 have hlen := hG.len
 have hrow := fun (j : Nat) (hj : j < gs.length) W (hW : qad w W) => (hG.same hW).get hj
 have HC' := fun (j : Nat) (hj : j < gs.length) W (hW : qad w W) => HC gs[j] (List.getElem_mem hj) W hW
 have hst : ∀ j (hj : j < gs.length), ((lst gs).take (j + 1)).any p = (((lst gs).take j).any p || p gs[j].l) := fun j hj => by
  have h2 : j < (lst gs).length := by rw [qdq]; exact hj
  rw [List.take_succ_eq_append_getElem h2, List.any_append, qf7 gs hj]
  simp
 have hyes : ∀ j (hj : j < gs.length), p gs[j].l = true → (lst gs).any p = true := fun j hj h => List.any_eq_true.2 ⟨gs[j].l, List.mem_map.2 ⟨gs[j], List.getElem_mem hj, rfl⟩, h⟩
 have hat : ∀ j (hj : j < gs.length), p gs[j].l = true → ∃ g, gs[j]? = some g ∧ p g.l = true := fun j hj h => ⟨_, List.getElem?_eq_getElem hj, h⟩
 have hend : ((lst gs).take k).any p = (lst gs).any p := by rw [List.take_of_length_le (by rw [qdq]; omega)]
 have hlt : ∀ j, j < k → j < gs.length := fun j h => hlen ▸ h
 obtain ⟨AN, hAN⟩ : ∃ f : Nat → Bool, f = fun j => ((lst gs).take j).any p := ⟨_, rfl⟩
 have hA0 : AN 0 = false := by rw [hAN]; rfl
 have hAs : ∀ j (hj : j < gs.length), AN (j + 1) = (AN j || p gs[j].l) := fun j hj => by rw [hAN]; exact hst j hj
 have hAe : AN k = (lst gs).any p := by rw [hAN]; exact hend
 obtain ⟨IA, hIA⟩ : ∃ f : Nat → Prop, f = fun j => ∃ g, gs[j]? = some g ∧ p g.l = true := ⟨_, rfl⟩
 have hIj : ∀ j (hj : j < gs.length), p gs[j].l = true → IA j := fun j hj h => by rw [hIA]; exact hat j hj h
 have hIe : ∀ r : Int, (0 ≤ r → ∃ j : Nat, r = j ∧ IA j) → (0 ≤ r → ∃ j : Nat, r = j ∧ ∃ g, gs[j]? = some g ∧ p g.l = true) := fun r h => by rw [hIA] at h; exact h
 clear HC hG hst hend hAN hlen hat hIA
 generalize (lst gs).any p = R at *
 replace hrow := gi hrow; replace HC' := gi HC'; replace hyes := gi hyes; replace hlt := gi hlt; replace hA0 := gi hA0; replace hAs := gi hAs; replace hAe := gi hAe; replace hIj := gi hIj; replace hIe := gi hIe
 go_enter Tryz.func15, Tryz.ntmps15
 go_wp2_with fail
 go_loopw [5, 8] (fun _ i wr => ∃ j : Nat, i = .int .i64 j ∧ j ≤ k ∧ AN j = false ∧ qad w wr) (fun _ i _ => k - (intOf i).toNat)
 case atStart => exact ⟨0, rfl, by omega, hA0.out, Fr.refl _ _⟩
 case round =>
  obtain ⟨j, rfl, hj, hno, hs⟩ := hrel
  by_cases hjk : j < k
  · obtain ⟨b, off, rfl, hb, c0, _⟩ := hrow.out j (hlt.out j hjk) _ hs
    have HCj := HC'.out j (hlt.out j hjk) _ hs
    have hyj := hyes.out j (hlt.out j hjk)
    have hsj := hAs.out j (hlt.out j hjk)
    have hIk := hIj.out j (hlt.out j hjk)
    generalize gs[j]'(hlt.out j hjk) = g at *
    generalize p g.l = r at *
    replace hno := gi hno; replace hs := gi hs; replace HCj := gi HCj; replace hyj := gi hyj; replace hsj := gi hsj; replace hIk := gi hIk
    go_wp2_with fail
    refine HCj.out.mono ?_
    rintro e w2 ⟨rfl, sP⟩
    have hs2 := hs.out.same sP
    clear sP c0
    replace hs2 := gi hs2
    cases r
    · go_wp2_with fail
      go_roundw
      case rel => exact ⟨j + 1, by go_num, by omega, by rw [hsj.out, hno.out]; rfl, hs2.out⟩
      case measure => simp [intOf]; omega
    · go_wp2_with fail
      go_ret
      exact ⟨j, rfl, ⟨by rw [hyj.out (by simp)]; simp, hIe.out _ fun _ => ⟨j, rfl, hIk.out (by simp)⟩⟩, hs2.out⟩
  · obtain rfl : j = k := by omega
    replace hno := gi hno; replace hs := gi hs
    go_wp2_with fail
    go_ret
    exact ⟨-1, rfl, ⟨by rw [← hAe.out, hno.out]; rfl, fun h => absurd h (by decide)⟩, hs.out⟩
theorem qpu (gs : List Grp) (p : List Int → Bool) (F : FuncId) (cs : Array Value) (a : Option Addr) (k cap : Nat) (w : World) (hG : qiA w (.slice a k cap) k gs)
 (ent : ∀ (args : Array Value) (W : World), (callFunc F args).run Tryz.prog W = .ok (.enter F args) W) (hk9 : k ≤ 1000000)
 (HC : ∀ g ∈ gs, ∀ W, qad w W → Calls Tryz.prog F (#[.slice g.a g.l.length g.cap] ++ cs) W fun e W' => e = .returned (.bool (p g.l)) ∧ qad W W') :
 Calls Tryz.prog 15 #[.slice a k cap, .func (.func F) #[] cs] w fun e w' => ∃ r : Int, e = .returned (.int .i64 r) ∧ decide (0 ≤ r) = (lst gs).any p ∧ qad w w' :=
 (qkP gs p F cs a k cap w hG ent hk9 HC).mono fun e w' ⟨r, h1, h2, h3⟩ => ⟨r, h1, h2.1, h3⟩
theorem qhv (gs : List Grp) (p : List Int → Bool) (F : FuncId) (cs : Array Value) (a : Option Addr) (k cap : Nat) (w : World) (hG : qiA w (.slice a k cap) k gs)
 (ent : ∀ (args : Array Value) (W : World), (callFunc F args).run Tryz.prog W = .ok (.enter F args) W) (hk9 : k ≤ 1000000)
 (HC : ∀ g ∈ gs, ∀ W, qad w W → Calls Tryz.prog F (#[.slice g.a g.l.length g.cap] ++ cs) W fun e W' => e = .returned (.bool (p g.l)) ∧ qad W W') :
 Calls Tryz.prog 11 #[.slice a k cap, .func (.func F) #[] cs] w fun e w' => e = .returned (.bool ((lst gs).any p)) ∧ qad w w' := by
 have IX := qpu gs p F cs a k cap w hG ent hk9 HC
 clear HC hG
 generalize (lst gs).any p = R at *
 replace IX := gi IX
 go_enter Tryz.func11, Tryz.ntmps11
 go_wp2_with fail
 refine IX.out.mono ?_
 rintro e w2 ⟨r, rfl, hr, hs⟩
 by_cases h0 : 0 ≤ r
 · rw [decide_eq_true h0] at hr
   subst hr
   replace hs := gi hs
   go_wp2_with fail
   go_ret
   exact ⟨rfl, hs.out⟩
 · rw [decide_eq_false h0] at hr
   subst hr
   have h0' : (0 ≤ r) = False := by simpa using h0
   replace hs := gi hs
   go_wp2_with fail
   go_ret
   exact ⟨rfl, hs.out⟩
end Go.Proofs.YticcpnekjddanaaGreatDoor
