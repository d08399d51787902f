/-  -/
import Derived.Test.YtcipnkemnepbaaaGreatCNetM
set_option maxRecDepth 100000
set_option maxHeartbeats 8000000
set_option linter.unusedVariables false
set_option linter.unusedSimpArgs false
namespace Go.Proofs.YtcipnkemnepbaaaGreat
open Go.RowKit
def Nw.mErr (N : Nw) (v : Nat) (t : List Bool) : Int := if v ≠ N.all then 4 else if ite3 t (N.set (okT N.ns)) (fls N.all) = t then 0 else 2
def MeE (N : Nw) (E : Int) (w : World) (e : Ending) (w' : World) : Prop :=
 (E ≠ 0 ∧ e = .returned (.tuple #[.agg #[.slice none 0 0, .slice none 0 0, .int .i64 0, .bool false], .int .i64 E]) ∧ Same w w') ∨
 (E = 0 ∧ ∃ aT aB cT cB, e = .returned (.tuple #[.agg #[.slice aT N.As.length cT, .slice aB N.As.length cB, .int .i64 N.all, .bool N.emp], .int .i64 0]) ∧ LyAt N aT aB cT cB w' ∧ Same w w')
theorem measured_net (N : Nw) (OK : NetOk N) (d : Dg) (v : Nat) (t : List Bool) (w : World) (hat : N.at w) (hd : d.at w) (T : d.tab v t) :
 Calls Tryz.prog 52 #[.agg #[.slice N.aA N.As.length N.cA, .slice N.aO N.o.length N.cO], .agg #[.int .i64 d.n, .slice d.a d.L.length d.cap, .int .i64 d.r]] w (MeE N (N.mErr v t) w) := by
 have h10 := OK.h10
 have PL := fun W (hW : Same w W) => OK.place W (hat.same hW)
 have CK := fun W (hW : Same w W) => check_tab d v t W (SliceAt.same hd hW) T
 have VA := fun aT aB cT cB W (hW : Same w W) (hly : LyAt N aT aB cT cB W) => valid_any N OK aT aB cT cB W (hat.same hW) hly
 obtain ⟨V, hV⟩ : ∃ V, V = N.set (okT N.ns) := ⟨_, rfl⟩
 have hVl : V.length = 2 ^ N.all := by rw [hV]; exact tupT_len _ _ _ _ _
 have hE1 : v ≠ N.all → N.mErr v t = 4 := fun h => by unfold Nw.mErr; rw [if_pos h]
 have hE2 : v = N.all → ite3 t V (fls N.all) = t → N.mErr v t = 0 := fun h h2 => by unfold Nw.mErr; rw [if_neg (by simpa using h), ← hV, if_pos h2]
 have hE3 : v = N.all → ¬ ite3 t V (fls N.all) = t → N.mErr v t = 2 := fun h h2 => by unfold Nw.mErr; rw [if_neg (by simpa using h), ← hV, if_neg h2]
 rw [← hV] at VA
 have AN := fun (d2 : Dg) (h : v = N.all) W (hW : Same w W) (h2 : d2.at W) (T2 : d2.tab N.all V) => And_big (n := N.all) (by omega) (SliceAt.same hd hW) h2 (h ▸ T) T2 (short14 (by omega) (ite3_len (by rw [← h]; exact T.2.len) hVl (fls_len _)))
 have EQ := fun (d2 : Dg) (h : v = N.all) W (hW : Same w W) (h2 : d2.at W) (T2 : d2.tab N.all (ite3 t V (fls N.all))) => equal_dg (d' := d) h2 (SliceAt.same hd hW) T2 (h ▸ T)
 have hdn := T.1
 have hb4 : N.mErr v t ≠ 0 → ∀ w', Same w w' → MeE N (N.mErr v t) w (.returned (.tuple #[.agg #[.slice none 0 0, .slice none 0 0, .int .i64 0, .bool false], .int .i64 (N.mErr v t)])) w' := fun h w' hs => .inl ⟨h, rfl, hs⟩
 have hgd : N.mErr v t = 0 → ∀ aT aB cT cB w', LyAt N aT aB cT cB w' → Same w w' → MeE N (N.mErr v t) w (.returned (.tuple #[.agg #[.slice aT N.As.length cT, .slice aB N.As.length cB, .int .i64 N.all, .bool N.emp], .int .i64 0])) w' := fun h aT aB cT cB w' h1 h2 => .inr ⟨h, aT, aB, cT, cB, rfl, h1, h2⟩
 simp only [Dg.v] at CK AN EQ
 rw [hdn] at CK AN EQ ⊢
 generalize ite3 t V (fls N.all) = t2 at *
 generalize d.a = da at *
 generalize d.L.length = dq at *
 generalize d.cap = dc at *
 generalize d.r = dr at *
 obtain ⟨Q, hQ⟩ : ∃ Q, Q = MeE N (N.mErr v t) w := ⟨_, rfl⟩
 rw [← hQ] at hb4 hgd ⊢
 clear hd T hdn hV hVl hQ
 generalize N.mErr v t = EE at *
 clear hat OK
 generalize N.all = n at *
 generalize N.emp = em at *
 generalize N.As.length = m at *
 generalize N.o.length = qo at *
 generalize N.aA = aA at *
 generalize N.cA = cA at *
 generalize N.aO = aO at *
 generalize N.cO = cO at *
 replace PL := gi PL; replace CK := gi CK; replace VA := gi VA; replace AN := gi AN; replace EQ := gi EQ; replace hE1 := gi hE1; replace hE2 := gi hE2; replace hE3 := gi hE3; replace hb4 := gi hb4; replace hgd := gi hgd
 go_enter Tryz.func52, Tryz.ntmps52
 go_upto_region 1 with fail
 have kn := heap_old (heap_old (gv w (.cells #[.slice aA m cA, .slice aO qo cO] 36)) (.cells #[.int .i64 v, .slice da dq dc, .int .i64 dr] 56)) (.cells #[.slice none 0 0, .slice none 0 0, .int .i64 0, .bool false] 89)
 have kf := heap_old (gv (w.alloc (.cells #[.slice aA m cA, .slice aO qo cO] 36)) (.cells #[.int .i64 v, .slice da dq dc, .int .i64 dr] 56)) (.cells #[.slice none 0 0, .slice none 0 0, .int .i64 0, .bool false] 89)
 have kr := gv ((w.alloc (.cells #[.slice aA m cA, .slice aO qo cO] 36)).alloc (.cells #[.int .i64 v, .slice da dq dc, .int .i64 dr] 56)) (.cells #[.slice none 0 0, .slice none 0 0, .int .i64 0, .bool false] 89)
 rw [← al1] at kf
 rw [← al2] at kr
 have hs : Same w (((w.alloc (.cells #[.slice aA m cA, .slice aO qo cO] 36)).alloc (.cells #[.int .i64 v, .slice da dq dc, .int .i64 dr] 56)).alloc (.cells #[.slice none 0 0, .slice none 0 0, .int .i64 0, .bool false] 89)) := fs2
 generalize ((w.alloc (.cells #[.slice aA m cA, .slice aO qo cO] 36)).alloc (.cells #[.int .i64 v, .slice da dq dc, .int .i64 dr] 56)).alloc (.cells #[.slice none 0 0, .slice none 0 0, .int .i64 0, .bool false] 89) = W0 at *
 replace kn := gi kn; replace kf := gi kf; replace kr := gi kr; replace hs := gi hs
 obtain ⟨y0, y1, yl⟩ := g2l kn.out
 go_wp2_with fail
 refine (PL.out _ hs.out).mono ?_
 rintro e w1 ⟨aT, aB, cT, cB, rfl, hly, s1⟩
 clear y0 y1 yl
 have hbl : w.heap.size + 1 + 1 < w1.heap.size := by have h9 := gu kr.out; have h8 := s1.size; omega
 replace kn := gi (s1.at kn.out id); replace kr := gi (s1.at kr.out id); replace kf := gi (s1.at kf.out id)
 have hs1 := hs.out.same s1
 clear s1 hs
 replace hly := gi hly; replace hs1 := gi hs1
 go_upto_region 2 with fail
 have kl := gv w1 (.cells #[.slice aT m cT, .slice aB m cB, .int .i64 n, .bool em] 89)
 have s2 : Same w1 (w1.alloc (.cells #[.slice aT m cT, .slice aB m cB, .int .i64 n, .bool em] 89)) := fs2
 have hly2 := hly.out.same s2
 replace kn := gi (s2.at kn.out id); replace kr := gi (s2.at kr.out id); replace kf := gi (s2.at kf.out id)
 have hs2 := hs1.out.same s2
 clear s2 hly hs1
 generalize w1.alloc (.cells #[.slice aT m cT, .slice aB m cB, .int .i64 n, .bool em] 89) = W1 at *
 generalize w1.heap.size = bl at *
 replace kl := gi kl; replace hly2 := gi hly2; replace hs2 := gi hs2
 obtain ⟨x0, x1, x2, xl⟩ := g3l kf.out
 go_upto_region 4 with fail
 go_wp2_with fail
 refine (CK.out _ hs2.out).mono ?_
 rintro e w3 ⟨rfl, s3⟩
 clear x0 x1 x2 xl
 replace kn := gi (s3.at kn.out id); replace kr := gi (s3.at kr.out id); replace kf := gi (s3.at kf.out id); replace kl := gi (s3.at kl.out id)
 have hly3 := hly2.out.same s3
 have hs3 := hs2.out.same s3
 clear s3 hly2 hs2
 replace hly3 := gi hly3; replace hs3 := gi hs3
 by_cases hvn : v = n
 · have hVA := VA.out
   have hAN := fun d2 => AN.out d2 hvn
   have hEQ := fun d2 => EQ.out d2 hvn
   have hb1 : ((v : Int) != (n : Int)) = false := by simp; omega
   replace hVA := gi hVA; replace hAN := gi hAN; replace hEQ := gi hEQ; replace hvn := gi hvn
   clear VA AN EQ
   obtain ⟨z0, z1, z2, z3, zl⟩ := g4l kl.out
   obtain ⟨x0, x1, x2, xl⟩ := g3l kf.out
   obtain ⟨y0, y1, yl⟩ := g2l kn.out
   go_upto_region 9 with fail
   go_wp2_with fail
   refine (hVA.out _ _ _ _ _ hs3.out hly3.out).mono ?_
   intro e w4 hM
   obtain ⟨a4, c4, L4, r4, rfl, d4, t4, s4⟩ := hM.open
   clear z0 z1 z2 z3 zl
   clear x0 x1 x2 xl
   clear y0 y1 yl
   have hb4' : bl < w4.heap.size := by have h9 := gu kl.out; have h8 := s4.size; omega
   replace kr := gi (s4.at kr.out id); replace kf := gi (s4.at kf.out id); replace kl := gi (s4.at kl.out id)
   have hly4 := hly3.out.same s4
   have hs4 := hs3.out.same s4
   clear hM s4 hs3 kn hly3
   replace d4 := gi d4; replace t4 := gi t4; replace hs4 := gi hs4; replace hly4 := gi hly4
   go_upto_region 10 with fail
   have k5 := gv w4 (.cells #[.int .i64 n, .slice a4 L4.length c4, .int .i64 r4] 56)
   have s5 : Same w4 (w4.alloc (.cells #[.int .i64 n, .slice a4 L4.length c4, .int .i64 r4] 56)) := fs2
   generalize w4.alloc (.cells #[.int .i64 n, .slice a4 L4.length c4, .int .i64 r4] 56) = W5 at *
   replace d4 := gi (d4.out.same s5); replace kr := gi (s5.at kr.out id); replace kf := gi (s5.at kf.out id); replace kl := gi (s5.at kl.out id)
   have hly5 := hly4.out.same s5
   have hs5 := hs4.out.same s5
   clear s5 hs4 hly4
   generalize w4.heap.size = b5 at *
   replace k5 := gi k5; replace hs5 := gi hs5; replace hly5 := gi hly5
   obtain ⟨x0, x1, x2, xl⟩ := g3l kf.out
   obtain ⟨y0, y1, y2, yl⟩ := g3l k5.out
   go_upto_region 12 with fail
   go_wp2_with fail
   refine (hAN.out ⟨n, a4, c4, L4, r4⟩ _ hs5.out d4.out ⟨rfl, t4.out⟩).mono ?_
   intro e w6 hM
   obtain ⟨a6, c6, L6, r6, rfl, d6, t6, s6⟩ := hM.open
   clear x0 x1 x2 xl
   clear y0 y1 y2 yl
   have hb6 : b5 < w6.heap.size := by have h9 := gu k5.out; have h8 := s6.size; omega
   replace kr := gi (s6.at kr.out id); replace kf := gi (s6.at kf.out id); replace kl := gi (s6.at kl.out id)
   have hly6 := hly5.out.same s6
   have hs6 := hs5.out.same s6
   clear hM s6 hs5 k5 d4 t4 hly5
   replace d6 := gi d6; replace t6 := gi t6; replace hs6 := gi hs6; replace hly6 := gi hly6
   go_upto_region 13 with fail
   have k7 := gv w6 (.cells #[.int .i64 n, .slice a6 L6.length c6, .int .i64 r6] 56)
   have s7 : Same w6 (w6.alloc (.cells #[.int .i64 n, .slice a6 L6.length c6, .int .i64 r6] 56)) := fs2
   generalize w6.alloc (.cells #[.int .i64 n, .slice a6 L6.length c6, .int .i64 r6] 56) = W7 at *
   replace d6 := gi (d6.out.same s7); replace kr := gi (s7.at kr.out id); replace kf := gi (s7.at kf.out id); replace kl := gi (s7.at kl.out id)
   have hly7 := hly6.out.same s7
   have hs7 := hs6.out.same s7
   clear s7 hs6 hly6
   generalize w6.heap.size = b7 at *
   replace k7 := gi k7; replace hs7 := gi hs7; replace hly7 := gi hly7
   obtain ⟨x0, x1, x2, xl⟩ := g3l kf.out
   obtain ⟨y0, y1, y2, yl⟩ := g3l k7.out
   go_upto_region 15 with fail
   go_wp2_with fail
   refine (hEQ.out ⟨n, a6, c6, L6, r6⟩ _ hs7.out d6.out ⟨rfl, t6.out⟩).mono ?_
   rintro e w8 ⟨rfl, s8⟩
   clear x0 x1 x2 xl
   clear y0 y1 y2 yl
   replace kr := gi (s8.at kr.out id); replace kl := gi (s8.at kl.out id)
   have hly8 := hly7.out.same s8
   have hs8 := hs7.out.same s8
   clear s8 hs7 kf k7 d6 t6 hly7
   replace hs8 := gi hs8; replace hly8 := gi hly8
   by_cases htt : t2 = t
   · have hE := hE2.out hvn.out htt
     rw [decide_eq_true htt]
     subst hE
     have hg := hgd.out rfl
     replace hg := gi hg; replace htt := gi htt
     obtain ⟨z0, z1, z2, z3, zl⟩ := g4l kl.out
     obtain ⟨q0, q1, q2, q3, g0, g1, g2, g3, ql⟩ := boxq_facts kr.out
     go_wp2_with fail
     obtain ⟨e0, e1, e2, e3, hsF, hF⟩ := ly_stored (u0 := .slice aT m cT) (u1 := .slice aB m cB) (u2 := .int .i64 n) (u3 := .bool em) hs8.out (by omega) kr.out
     refine bodyPost_ret (v := .tuple #[.agg #[.slice aT m cT, .slice aB m cB, .int .i64 n, .bool em], .int .i64 0]) (by simp [results, Tryz.results52, go_sem, e0, e1, e2, e3]) rfl ?_
     exact hg.out _ _ _ _ _ (hly8.out.box hF kr.out) hsF
   · have hE := hE3.out hvn.out htt
     rw [decide_eq_false htt]
     subst hE
     have hg := hb4.out (by decide)
     replace hg := gi hg; replace htt := gi htt
     obtain ⟨q0, q1, q2, q3, g0, g1, g2, g3, ql⟩ := boxq_facts kr.out
     go_wp2_with fail
     obtain ⟨e0, e1, e2, e3, hsF, hF⟩ := ly_stored (u0 := .slice none 0 0) (u1 := .slice none 0 0) (u2 := .int .i64 0) (u3 := .bool false) hs8.out (by omega) kr.out
     refine bodyPost_ret (v := .tuple #[.agg #[.slice none 0 0, .slice none 0 0, .int .i64 0, .bool false], .int .i64 2]) (by simp [results, Tryz.results52, go_sem, e0, e1, e2, e3]) rfl ?_
     exact hg.out _ hsF
 · have hE := hE1.out hvn
   subst hE
   have hg := hb4.out (by decide)
   have hb1 : ((v : Int) != (n : Int)) = true := by simp; omega
   replace hg := gi hg; replace hvn := gi hvn
   obtain ⟨z0, z1, z2, z3, zl⟩ := g4l kl.out
   obtain ⟨x0, x1, x2, xl⟩ := g3l kf.out
   obtain ⟨q0, q1, q2, q3, g0, g1, g2, g3, ql⟩ := boxq_facts kr.out
   go_wp2_with fail
   obtain ⟨e0, e1, e2, e3, hsF, hF⟩ := ly_stored (u0 := .slice none 0 0) (u1 := .slice none 0 0) (u2 := .int .i64 0) (u3 := .bool false) hs3.out (by omega) kr.out
   refine bodyPost_ret (v := .tuple #[.agg #[.slice none 0 0, .slice none 0 0, .int .i64 0, .bool false], .int .i64 4]) (by simp [results, Tryz.results52, go_sem, e0, e1, e2, e3]) rfl ?_
   exact hg.out _ hsF
structure Bd (W : World) (b n : Nat) (t : List Bool) (a : Option Addr) (c : Nat) (L : List Nd) (r : Int) : Prop where
 heap : W.heap[b]? = some (.cells #[.int .i64 n, .slice a L.length c, .int .i64 r] 56 (0, 0))
 at' : Dg.at W ⟨n, a, c, L, r⟩
 tab : IsTab n t L r
theorem Bd.same {W W' : World} {b n : Nat} {t : List Bool} {a : Option Addr} {c : Nat} {L : List Nd} {r : Int} (h : Bd W b n t a c L r) (hs : Same W W') : Bd W' b n t a c L r := ⟨hs.at h.heap id, SliceAt.same h.at' hs, h.tab⟩
theorem Count_net (N : Nw) (OK : NetOk N) (d : Dg) (v : Nat) (t : List Bool) (w : World) (hat : N.at w) (hd : d.at w) (T : d.tab v t) :
 Calls Tryz.prog 23 #[.agg #[.slice N.aA N.As.length N.cA, .slice N.aO N.o.length N.cO], .agg #[.int .i64 d.n, .slice d.a d.L.length d.cap, .int .i64 d.r]] w fun e w' => e = .returned (.tuple #[.int .i64 (if N.mErr v t = 0 then ((t.count true : Nat) : Int) else 0), .int .i64 (N.mErr v t)]) ∧ Same w w' := by
 have ME := fun W (hW : Same w W) => measured_net N OK d v t W (hat.same hW) (SliceAt.same hd hW) T
 have CT := fun W (hW : Same w W) => count_tab d v t W (SliceAt.same hd hW) T
 have hdn := T.1
 simp only [Dg.v] at CT
 rw [hdn] at ME CT ⊢
 generalize d.a = da at *
 generalize d.L.length = dq at *
 generalize d.cap = dc at *
 generalize d.r = dr at *
 obtain ⟨EE, hEE⟩ : ∃ EE, EE = N.mErr v t := ⟨_, rfl⟩
 rw [← hEE] at ME ⊢
 generalize t.count true = ct at *
 obtain ⟨cx, hcx⟩ : ∃ cx : Int, cx = if EE = 0 then (ct : Int) else 0 := ⟨_, rfl⟩
 rw [← hcx]
 clear hat hd T hdn OK hEE
 unfold MeE at ME
 generalize N.aA = aA at *
 generalize N.cA = cA at *
 generalize N.aO = aO at *
 generalize N.cO = cO at *
 generalize N.all = n at *
 generalize N.emp = em at *
 generalize hm : N.As.length = m at *
 generalize N.o.length = qo at *
 replace ME := gi ME; replace CT := gi CT; replace hcx := gi hcx
 go_enter Tryz.func23, Tryz.ntmps23
 go_upto_region 1 with fail
 have kn := heap_old (gv w (.cells #[.slice aA m cA, .slice aO qo cO] 36)) (.cells #[.int .i64 v, .slice da dq dc, .int .i64 dr] 56)
 have kf := gv (w.alloc (.cells #[.slice aA m cA, .slice aO qo cO] 36)) (.cells #[.int .i64 v, .slice da dq dc, .int .i64 dr] 56)
 rw [← al1] at kf
 have hs : Same w ((w.alloc (.cells #[.slice aA m cA, .slice aO qo cO] 36)).alloc (.cells #[.int .i64 v, .slice da dq dc, .int .i64 dr] 56)) := fs2
 generalize (w.alloc (.cells #[.slice aA m cA, .slice aO qo cO] 36)).alloc (.cells #[.int .i64 v, .slice da dq dc, .int .i64 dr] 56) = W0 at *
 replace kn := gi kn; replace kf := gi kf; replace hs := gi hs
 obtain ⟨y0, y1, yl⟩ := g2l kn.out
 obtain ⟨x0, x1, x2, xl⟩ := g3l kf.out
 go_wp2_with fail
 refine (ME.out _ hs.out).mono ?_
 intro e w1 hM
 clear y0 y1 yl
 clear x0 x1 x2 xl
 rcases hM with ⟨h0, rfl, s1⟩ | ⟨rfl, aT, aB, cT, cB, rfl, _, s1⟩
 · have hb : (EE != 0) = true := by simpa using h0
   have hs1 := hs.out.same s1
   obtain rfl : cx = 0 := by rw [hcx.out, if_neg h0]
   clear s1
   replace h0 := gi h0; replace hs1 := gi hs1
   go_wp2_with fail
   go_ret2
   exact ⟨rfl, hs1.out.same fs2⟩
 · replace kf := gi (s1.at kf.out id)
   have hs1 := hs.out.same s1
   clear s1
   obtain rfl : cx = (ct : Int) := by rw [hcx.out, if_pos rfl]
   replace hs1 := gi hs1
   go_upto_region 2 with fail
   have s2 : Same w1 (w1.alloc (.cells #[.slice aT m cT, .slice aB m cB, .int .i64 n, .bool em] 89)) := fs2
   replace kf := gi (s2.at kf.out id)
   have hs2 := hs1.out.same s2
   clear s2
   generalize w1.alloc (.cells #[.slice aT m cT, .slice aB m cB, .int .i64 n, .bool em] 89) = W2 at *
   replace hs2 := gi hs2
   obtain ⟨x0, x1, x2, xl⟩ := g3l kf.out
   go_wp2_with fail
   refine (CT.out _ hs2.out).mono ?_
   rintro e w3 ⟨rfl, s3⟩
   have hs3 := hs2.out.same s3
   replace hs3 := gi hs3
   go_wp2_with fail
   go_ret2
   exact ⟨rfl, hs3.out⟩
end Go.Proofs.YtcipnkemnepbaaaGreat
