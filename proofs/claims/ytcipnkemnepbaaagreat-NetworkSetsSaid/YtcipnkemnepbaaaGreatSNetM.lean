/-  -/
import Derived.Test.YtcipnkemnepbaaaGreatSNetT
set_option maxRecDepth 100000
set_option maxHeartbeats 4000000
set_option linter.unusedVariables false
set_option linter.unusedSimpArgs false
namespace Go.Proofs.YtcipnkemnepbaaaGreat
open Go.RowKit
theorem everything_net (N : Nw) (OK : NetOk N) (FI : Fits N) (w : World) (hat : N.at w) :
 Calls Tryz.prog 63 #[.agg #[.slice N.aA N.As.length N.cA, .slice N.aO N.o.length N.cO]] w (DgN (2 * N.all) (N.rel (stepsB N.As (evsF N.As))) w) := by
 have hev := (evs_range OK.ok.au N.As.length (Nat.le_refl _)).2
 rw [List.take_length] at hev
 have PL := fun W (hW : Same w W) => OK.place W (hat.same hW)
 have AL := fun W (hW : Same w W) => Alphabet_net N OK W (hat.same hW)
 have VA := fun aT aB cT cB aE cE W (hW : Same w W) (hly : LyAt N aT aB cT cB W) (hE : RowAt W (.slice aE (evsF N.As).length cE) (evsF N.As).length (gw (evsF N.As))) => steps_any N OK FI (evsF N.As) aE _ cE aT aB cT cB W (hat.same hW) hly rfl hE (by omega)
 obtain ⟨n2, hn2⟩ : ∃ n2, n2 = 2 * N.all := ⟨_, rfl⟩
 rw [← hn2] at VA ⊢
 generalize N.rel (stepsB N.As (evsF N.As)) = R at *
 generalize evsF N.As = E at *
 clear hat OK FI hn2
 generalize N.all = n at *
 generalize N.emp = em at *
 generalize N.As.length = m at *
 generalize N.o.length = qo at *
 generalize N.aA = aA at *
 generalize N.cA = cA at *
 generalize N.aO = aO at *
 generalize N.cO = cO at *
 replace PL := gi PL; replace VA := gi VA; replace AL := gi AL
 go_enter Tryz.func63, Tryz.ntmps63
 go_upto_region 1 with fail
 have kn := heap_old (gv w (.cells #[.slice aA m cA, .slice aO qo cO] 36)) (.cells #[.int .i64 0, .slice none 0 0, .int .i64 0] 56)
 have kr := gv (w.alloc (.cells #[.slice aA m cA, .slice aO qo cO] 36)) (.cells #[.int .i64 0, .slice none 0 0, .int .i64 0] 56)
 rw [show (w.alloc (.cells #[.slice aA m cA, .slice aO qo cO] 36)).heap.size = w.heap.size + 1 by simp] at kr
 have hs : Same w ((w.alloc (.cells #[.slice aA m cA, .slice aO qo cO] 36)).alloc (.cells #[.int .i64 0, .slice none 0 0, .int .i64 0] 56)) := fs2
 generalize (w.alloc (.cells #[.slice aA m cA, .slice aO qo cO] 36)).alloc (.cells #[.int .i64 0, .slice none 0 0, .int .i64 0] 56) = W0 at *
 replace kn := gi kn; replace kr := gi kr; replace hs := gi hs
 obtain ⟨y0, y1, yl⟩ := g2l kn.out
 go_wp2_with fail
 refine (PL.out _ hs.out).mono ?_
 rintro e w1 ⟨aT, aB, cT, cB, rfl, hly, s1⟩
 clear y0 y1 yl
 have hbl : w.heap.size + 1 < w1.heap.size := by have h9 := gu kr.out; have h8 := s1.size; omega
 replace kn := gi (s1.at kn.out id); replace kr := gi (s1.at kr.out id)
 have hs1 := hs.out.same s1
 clear s1
 replace hly := gi hly; replace hs1 := gi hs1
 go_upto_region 2 with fail
 have kl := gv w1 (.cells #[.slice aT m cT, .slice aB m cB, .int .i64 n, .bool em] 89)
 have s2 : Same w1 (w1.alloc (.cells #[.slice aT m cT, .slice aB m cB, .int .i64 n, .bool em] 89)) := fs2
 have hly2 := hly.out.same s2
 replace kn := gi (s2.at kn.out id); replace kr := gi (s2.at kr.out id)
 have hs2 := hs1.out.same s2
 clear s2 hly hs1 hs
 generalize w1.alloc (.cells #[.slice aT m cT, .slice aB m cB, .int .i64 n, .bool em] 89) = W1 at *
 generalize w1.heap.size = bl at *
 replace kl := gi kl; replace hly2 := gi hly2; replace hs2 := gi hs2
 obtain ⟨y0, y1, yl⟩ := g2l kn.out
 go_upto_region 4 with fail
 go_wp2_with fail
 refine (AL.out _ hs2.out).mono ?_
 rintro e w2 ⟨aE, cE, rfl, hE, s2⟩
 clear y0 y1 yl
 replace kn := gi (s2.at kn.out id); replace kr := gi (s2.at kr.out id); replace kl := gi (s2.at kl.out id)
 have hly3 := hly2.out.same s2
 have hs2 := hs2.out.same s2
 clear s2 hly2
 replace hE := gi hE; replace hly3 := gi hly3; replace hs2 := gi hs2
 obtain ⟨x0, x1, x2, x3, xl⟩ := g4l kl.out
 obtain ⟨y0, y1, yl⟩ := g2l kn.out
 go_wp2_with fail
 refine (VA.out _ _ _ _ _ _ _ hs2.out hly3.out hE.out).mono ?_
 intro e w3 hM
 obtain ⟨a3, c3, L3, r3, rfl, d3, tt3, s3⟩ := hM.open
 clear hly3 hE
 replace kr := gi (s3.at kr.out id)
 have hs3 := hs2.out.same s3
 clear hM s3
 replace d3 := gi d3; replace tt3 := gi tt3; replace hs3 := gi hs3
 obtain ⟨x0, x1, x2, z0, z1, z2, xl⟩ := box_facts kr.out
 go_wp2_with fail
 obtain ⟨q0, q1, q2, hdF, hsF⟩ := dg_stored hs3.out (by omega) (d := ⟨n2, a3, c3, L3, r3⟩) d3.out kr.out
 refine bodyPost_ret (v := .tuple #[.agg #[.int .i64 n2, .slice a3 L3.length c3, .int .i64 r3], .int .i64 0]) (by simp [results, Tryz.results63, go_sem, q0, q1, q2]) rfl ?_
 exact ⟨_, rfl, hdF, ⟨rfl, tt3.out⟩, hsF⟩
theorem Reached_net (N : Nw) (OK : NetOk N) (FI : Fits N) (w : World) (hat : N.at w) :
 Calls Tryz.prog 34 #[.agg #[.slice N.aA N.As.length N.cA, .slice N.aO N.o.length N.cO]] w (ClR N.all 0 (N.rel (stepsB N.As (evsF N.As))) (N.set (N.chosen fun _ => [0])) w) := by
 have h10 := OK.h10
 have EV := fun W (hW : Same w W) => everything_net N OK FI W (hat.same hW)
 have IN := fun W (hW : Same w W) => Initial_any N OK W (hat.same hW)
 have hth := FI.thin (evsF N.As)
 have FW := fun (dr df : Dg) W (h1 : dr.at W) (h2 : df.at W) (T : dr.tab (2 * N.all) (N.rel (stepsB N.As (evsF N.As)))) (U : df.tab N.all (N.set (N.chosen fun _ => [0]))) => Forward_big h10 dr df _ _ W h1 h2 T U hth
 obtain ⟨n2, hn2⟩ : ∃ n2, n2 = 2 * N.all := ⟨_, rfl⟩
 rw [← hn2] at EV FW
 generalize N.rel (stepsB N.As (evsF N.As)) = R at *
 generalize N.set (N.chosen fun _ => [0]) = S at *
 clear hat OK FI hn2 hth
 generalize N.all = n at *
 generalize N.emp = em at *
 generalize N.As.length = m at *
 generalize N.o.length = qo at *
 generalize N.aA = aA at *
 generalize N.cA = cA at *
 generalize N.aO = aO at *
 generalize N.cO = cO at *
 replace EV := gi EV; replace IN := gi IN; replace FW := gi FW
 go_enter Tryz.func34, Tryz.ntmps34
 go_upto_region 1 with fail
 have kn := heap_old (gv w (.cells #[.slice aA m cA, .slice aO qo cO] 36)) (.cells #[.int .i64 0, .slice none 0 0, .int .i64 0] 56)
 have kr := gv (w.alloc (.cells #[.slice aA m cA, .slice aO qo cO] 36)) (.cells #[.int .i64 0, .slice none 0 0, .int .i64 0] 56)
 rw [show (w.alloc (.cells #[.slice aA m cA, .slice aO qo cO] 36)).heap.size = w.heap.size + 1 by simp] at kr
 have hs : Same w ((w.alloc (.cells #[.slice aA m cA, .slice aO qo cO] 36)).alloc (.cells #[.int .i64 0, .slice none 0 0, .int .i64 0] 56)) := fs2
 generalize (w.alloc (.cells #[.slice aA m cA, .slice aO qo cO] 36)).alloc (.cells #[.int .i64 0, .slice none 0 0, .int .i64 0] 56) = W0 at *
 replace kn := gi kn; replace kr := gi kr; replace hs := gi hs
 obtain ⟨y0, y1, yl⟩ := g2l kn.out
 go_wp2_with fail
 refine (EV.out _ hs.out).mono ?_
 intro e w1 hM
 obtain ⟨a1, c1, L1, r1, rfl, d1, tt1, s1⟩ := hM.open
 clear y0 y1 yl
 replace kn := gi (s1.at kn.out id); replace kr := gi (s1.at kr.out id)
 have hs1 := hs.out.same s1
 have hb1 : w.heap.size + 1 < w1.heap.size := gu kr.out
 clear hM s1 hs
 replace d1 := gi d1; replace tt1 := gi tt1; replace hs1 := gi hs1
 go_upto_region 2 with fail
 have k2 := gv w1 (.cells #[.int .i64 n2, .slice a1 L1.length c1, .int .i64 r1] 56)
 have s2 : Same w1 (w1.alloc (.cells #[.int .i64 n2, .slice a1 L1.length c1, .int .i64 r1] 56)) := fs2
 generalize w1.alloc (.cells #[.int .i64 n2, .slice a1 L1.length c1, .int .i64 r1] 56) = W2 at *
 replace d1 := gi (d1.out.same s2); replace kn := gi (s2.at kn.out id); replace kr := gi (s2.at kr.out id)
 have hs2 := hs1.out.same s2
 clear s2 hs1
 generalize w1.heap.size = bA at *
 replace k2 := gi k2; replace hs2 := gi hs2
 obtain ⟨y0, y1, yl⟩ := g2l kn.out
 go_upto_region 4 with fail
 go_wp2_with fail
 refine (IN.out _ hs2.out).mono ?_
 intro e w3 hM
 obtain ⟨a3, c3, L3, r3, rfl, d3, tt3, s3⟩ := hM.open
 clear y0 y1 yl
 have hb3 : bA < w3.heap.size := by have h1 := gu k2.out; have h2 := s3.size; omega
 replace d1 := gi (d1.out.same s3); replace kr := gi (s3.at kr.out id); replace k2 := gi (s3.at k2.out id)
 have hs3 := hs2.out.same s3
 clear hM s3 hs2
 replace d3 := gi d3; replace tt3 := gi tt3; replace hs3 := gi hs3
 go_upto_region 5 with fail
 have k4 := gv w3 (.cells #[.int .i64 n, .slice a3 L3.length c3, .int .i64 r3] 56)
 have s4 : Same w3 (w3.alloc (.cells #[.int .i64 n, .slice a3 L3.length c3, .int .i64 r3] 56)) := fs2
 generalize w3.alloc (.cells #[.int .i64 n, .slice a3 L3.length c3, .int .i64 r3] 56) = W4 at *
 replace d1 := gi (d1.out.same s4); replace d3 := gi (d3.out.same s4); replace kr := gi (s4.at kr.out id); replace k2 := gi (s4.at k2.out id)
 have hs4 := hs3.out.same s4
 clear s4 hs3
 generalize w3.heap.size = bB at *
 replace k4 := gi k4; replace hs4 := gi hs4
 obtain ⟨x0, x1, x2, xl⟩ := g3l k2.out
 obtain ⟨y0, y1, y2, yl⟩ := g3l k4.out
 go_upto_region 7 with fail
 go_wp2_with fail
 refine (FW.out ⟨n2, a1, c1, L1, r1⟩ ⟨n, a3, c3, L3, r3⟩ _ d1.out d3.out ⟨rfl, tt1.out⟩ ⟨rfl, tt3.out⟩).mono ?_
 intro e w5 hC
 rcases hC with ⟨hC, _⟩ | ⟨_, hC⟩
 · exact absurd rfl hC
 obtain ⟨d5, k, rfl, hd5, ht5, hfx, hne, s5⟩ := hC
 clear x0 x1 x2 xl
 clear y0 y1 y2 yl
 replace kr := gi (s5.at kr.out id)
 have hs5 := hs4.out.same s5
 clear s5 d1 d3 tt1 tt3 k2 k4
 replace hd5 := gi hd5; replace ht5 := gi ht5; replace hfx := gi hfx; replace hne := gi hne; replace hs5 := gi hs5
 obtain ⟨x0, x1, x2, z0, z1, z2, xl⟩ := box_facts kr.out
 go_wp2_with fail
 obtain ⟨q0, q1, q2, hdF, hsF⟩ := dg_stored hs5.out (by omega) (d := d5) hd5.out kr.out
 refine bodyPost_ret (v := .tuple #[.agg #[.int .i64 d5.n, .slice d5.a d5.L.length d5.cap, .int .i64 d5.r], .int .i64 k, .int .i64 0]) (by simp [results, Tryz.results34, go_sem, q0, q1, q2]) rfl ?_
 exact ⟨d5, k, rfl, hdF, ht5.out, hfx.out, hne.out, hsF⟩
end Go.Proofs.YtcipnkemnepbaaaGreat
