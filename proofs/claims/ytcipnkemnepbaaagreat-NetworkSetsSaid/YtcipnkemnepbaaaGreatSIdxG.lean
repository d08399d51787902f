/-  -/
import Derived.Test.YtcipnkemnepbaaaGreatSNetT
import Derived.Test.YtcipnkemnepbaaaGreatSNetM
import Derived.Test.YtcipnkemnepbaaaGreatSGrpW
import Derived.Shelf.SlSortCmp.NoneTotal
import Derived.Shelf.SlicesG.Cmp
import Derived.Shelf.Lay
import Derived.Ground.SlsfProg
import Derived.Ground.SlgcProg
import Derived.Test.YtcipnkemnepbaaaGreatSRelGenB
import Derived.Test.YtcipnkemnepbaaaGreatSLNetB
set_option maxRecDepth 100000
set_option maxHeartbeats 8000000
set_option linter.unusedVariables false
set_option linter.unusedSimpArgs false
namespace Go.Proofs.YtcipnkemnepbaaaGreat
open Go.RowKit
def Nw.mErr (N : Nw) (v : Nat) (t : List Bool) : Int := if v ≠ N.all then 4 else if ite3 t (N.set (okT N.ns)) (fls N.all) = t then 0 else 2
def MeE (N : Nw) (E : Int) (w : World) (e : Ending) (w' : World) : Prop :=
 (E ≠ 0 ∧ e = .returned (.tuple #[.agg #[.slice none 0 0, .slice none 0 0, .int .i64 0, .bool false], .int .i64 E]) ∧ Same w w') ∨
 (E = 0 ∧ ∃ aT aB cT cB, e = .returned (.tuple #[.agg #[.slice aT N.As.length cT, .slice aB N.As.length cB, .int .i64 N.all, .bool N.emp], .int .i64 0]) ∧ LyAt N aT aB cT cB w' ∧ Same w w')
theorem measured_net (N : Nw) (OK : NetOk N) (d : Dg) (v : Nat) (t : List Bool) (w : World) (hat : N.at w) (hd : d.at w) (T : d.tab v t) :
 Calls Tryz.prog 52 #[.agg #[.slice N.aA N.As.length N.cA, .slice N.aO N.o.length N.cO], .agg #[.int .i64 d.n, .slice d.a d.L.length d.cap, .int .i64 d.r]] w (MeE N (N.mErr v t) w) := by
 have h10 := OK.h10
 have PL := fun W (hW : Same w W) => OK.place W (hat.same hW)
 have CK := fun W (hW : Same w W) => check_tab d v t W (SliceAt.same hd hW) T
 have VA := fun aT aB cT cB W (hW : Same w W) (hly : LyAt N aT aB cT cB W) => valid_any N OK aT aB cT cB W (hat.same hW) hly
 obtain ⟨V, hV⟩ : ∃ V, V = N.set (okT N.ns) := ⟨_, rfl⟩
 have hVl : V.length = 2 ^ N.all := by rw [hV]; exact tupT_len _ _ _ _ _
 have hE1 : v ≠ N.all → N.mErr v t = 4 := fun h => by unfold Nw.mErr; rw [if_pos h]
 have hE2 : v = N.all → ite3 t V (fls N.all) = t → N.mErr v t = 0 := fun h h2 => by unfold Nw.mErr; rw [if_neg (by simpa using h), ← hV, if_pos h2]
 have hE3 : v = N.all → ¬ ite3 t V (fls N.all) = t → N.mErr v t = 2 := fun h h2 => by unfold Nw.mErr; rw [if_neg (by simpa using h), ← hV, if_neg h2]
 rw [← hV] at VA
 have AN := fun (d2 : Dg) (h : v = N.all) W (hW : Same w W) (h2 : d2.at W) (T2 : d2.tab N.all V) => And_big (n := N.all) (by omega) (SliceAt.same hd hW) h2 (h ▸ T) T2 (short14 (by omega) (ite3_len (by rw [← h]; exact T.2.len) hVl (fls_len _)))
 have EQ := fun (d2 : Dg) (h : v = N.all) W (hW : Same w W) (h2 : d2.at W) (T2 : d2.tab N.all (ite3 t V (fls N.all))) => equal_dg (d' := d) h2 (SliceAt.same hd hW) T2 (h ▸ T)
 have hdn := T.1
 have hb4 : N.mErr v t ≠ 0 → ∀ w', Same w w' → MeE N (N.mErr v t) w (.returned (.tuple #[.agg #[.slice none 0 0, .slice none 0 0, .int .i64 0, .bool false], .int .i64 (N.mErr v t)])) w' := fun h w' hs => .inl ⟨h, rfl, hs⟩
 have hgd : N.mErr v t = 0 → ∀ aT aB cT cB w', LyAt N aT aB cT cB w' → Same w w' → MeE N (N.mErr v t) w (.returned (.tuple #[.agg #[.slice aT N.As.length cT, .slice aB N.As.length cB, .int .i64 N.all, .bool N.emp], .int .i64 0])) w' := fun h aT aB cT cB w' h1 h2 => .inr ⟨h, aT, aB, cT, cB, rfl, h1, h2⟩
 simp only [Dg.v] at CK AN EQ
 rw [hdn] at CK AN EQ ⊢
 generalize ite3 t V (fls N.all) = t2 at *
 generalize d.a = da at *
 generalize d.L.length = dq at *
 generalize d.cap = dc at *
 generalize d.r = dr at *
 obtain ⟨Q, hQ⟩ : ∃ Q, Q = MeE N (N.mErr v t) w := ⟨_, rfl⟩
 rw [← hQ] at hb4 hgd ⊢
 clear hd T hdn hV hVl hQ
 generalize N.mErr v t = EE at *
 clear hat OK
 generalize N.all = n at *
 generalize N.emp = em at *
 generalize N.As.length = m at *
 generalize N.o.length = qo at *
 generalize N.aA = aA at *
 generalize N.cA = cA at *
 generalize N.aO = aO at *
 generalize N.cO = cO at *
 replace PL := gi PL; replace CK := gi CK; replace VA := gi VA; replace AN := gi AN; replace EQ := gi EQ; replace hE1 := gi hE1; replace hE2 := gi hE2; replace hE3 := gi hE3; replace hb4 := gi hb4; replace hgd := gi hgd
 go_enter Tryz.func52, Tryz.ntmps52
 go_upto_region 1 with fail
 have kn := heap_old (heap_old (gv w (.cells #[.slice aA m cA, .slice aO qo cO] 36)) (.cells #[.int .i64 v, .slice da dq dc, .int .i64 dr] 56)) (.cells #[.slice none 0 0, .slice none 0 0, .int .i64 0, .bool false] 89)
 have kf := heap_old (gv (w.alloc (.cells #[.slice aA m cA, .slice aO qo cO] 36)) (.cells #[.int .i64 v, .slice da dq dc, .int .i64 dr] 56)) (.cells #[.slice none 0 0, .slice none 0 0, .int .i64 0, .bool false] 89)
 have kr := gv ((w.alloc (.cells #[.slice aA m cA, .slice aO qo cO] 36)).alloc (.cells #[.int .i64 v, .slice da dq dc, .int .i64 dr] 56)) (.cells #[.slice none 0 0, .slice none 0 0, .int .i64 0, .bool false] 89)
 rw [← al1] at kf
 rw [← al2] at kr
 have hs : Same w (((w.alloc (.cells #[.slice aA m cA, .slice aO qo cO] 36)).alloc (.cells #[.int .i64 v, .slice da dq dc, .int .i64 dr] 56)).alloc (.cells #[.slice none 0 0, .slice none 0 0, .int .i64 0, .bool false] 89)) := fs2
 generalize ((w.alloc (.cells #[.slice aA m cA, .slice aO qo cO] 36)).alloc (.cells #[.int .i64 v, .slice da dq dc, .int .i64 dr] 56)).alloc (.cells #[.slice none 0 0, .slice none 0 0, .int .i64 0, .bool false] 89) = W0 at *
 replace kn := gi kn; replace kf := gi kf; replace kr := gi kr; replace hs := gi hs
 obtain ⟨y0, y1, yl⟩ := g2l kn.out
 go_wp2_with fail
 refine (PL.out _ hs.out).mono ?_
 rintro e w1 ⟨aT, aB, cT, cB, rfl, hly, s1⟩
 clear y0 y1 yl
 have hbl : w.heap.size + 1 + 1 < w1.heap.size := by have h9 := gu kr.out; have h8 := s1.size; omega
 replace kn := gi (s1.at kn.out id); replace kr := gi (s1.at kr.out id); replace kf := gi (s1.at kf.out id)
 have hs1 := hs.out.same s1
 clear s1 hs
 replace hly := gi hly; replace hs1 := gi hs1
 go_upto_region 2 with fail
 have kl := gv w1 (.cells #[.slice aT m cT, .slice aB m cB, .int .i64 n, .bool em] 89)
 have s2 : Same w1 (w1.alloc (.cells #[.slice aT m cT, .slice aB m cB, .int .i64 n, .bool em] 89)) := fs2
 have hly2 := hly.out.same s2
 replace kn := gi (s2.at kn.out id); replace kr := gi (s2.at kr.out id); replace kf := gi (s2.at kf.out id)
 have hs2 := hs1.out.same s2
 clear s2 hly hs1
 generalize w1.alloc (.cells #[.slice aT m cT, .slice aB m cB, .int .i64 n, .bool em] 89) = W1 at *
 generalize w1.heap.size = bl at *
 replace kl := gi kl; replace hly2 := gi hly2; replace hs2 := gi hs2
 obtain ⟨x0, x1, x2, xl⟩ := g3l kf.out
 go_upto_region 4 with fail
 go_wp2_with fail
 refine (CK.out _ hs2.out).mono ?_
 rintro e w3 ⟨rfl, s3⟩
 clear x0 x1 x2 xl
 replace kn := gi (s3.at kn.out id); replace kr := gi (s3.at kr.out id); replace kf := gi (s3.at kf.out id); replace kl := gi (s3.at kl.out id)
 have hly3 := hly2.out.same s3
 have hs3 := hs2.out.same s3
 clear s3 hly2 hs2
 replace hly3 := gi hly3; replace hs3 := gi hs3
 by_cases hvn : v = n
 · have hVA := VA.out
   have hAN := fun d2 => AN.out d2 hvn
   have hEQ := fun d2 => EQ.out d2 hvn
   have hb1 : ((v : Int) != (n : Int)) = false := by simp; omega
   replace hVA := gi hVA; replace hAN := gi hAN; replace hEQ := gi hEQ; replace hvn := gi hvn
   clear VA AN EQ
   obtain ⟨z0, z1, z2, z3, zl⟩ := g4l kl.out
   obtain ⟨x0, x1, x2, xl⟩ := g3l kf.out
   obtain ⟨y0, y1, yl⟩ := g2l kn.out
   go_upto_region 9 with fail
   go_wp2_with fail
   refine (hVA.out _ _ _ _ _ hs3.out hly3.out).mono ?_
   intro e w4 hM
   obtain ⟨a4, c4, L4, r4, rfl, d4, t4, s4⟩ := hM.open
   clear z0 z1 z2 z3 zl
   clear x0 x1 x2 xl
   clear y0 y1 yl
   have hb4' : bl < w4.heap.size := by have h9 := gu kl.out; have h8 := s4.size; omega
   replace kr := gi (s4.at kr.out id); replace kf := gi (s4.at kf.out id); replace kl := gi (s4.at kl.out id)
   have hly4 := hly3.out.same s4
   have hs4 := hs3.out.same s4
   clear hM s4 hs3 kn hly3
   replace d4 := gi d4; replace t4 := gi t4; replace hs4 := gi hs4; replace hly4 := gi hly4
   go_upto_region 10 with fail
   have k5 := gv w4 (.cells #[.int .i64 n, .slice a4 L4.length c4, .int .i64 r4] 56)
   have s5 : Same w4 (w4.alloc (.cells #[.int .i64 n, .slice a4 L4.length c4, .int .i64 r4] 56)) := fs2
   generalize w4.alloc (.cells #[.int .i64 n, .slice a4 L4.length c4, .int .i64 r4] 56) = W5 at *
   replace d4 := gi (d4.out.same s5); replace kr := gi (s5.at kr.out id); replace kf := gi (s5.at kf.out id); replace kl := gi (s5.at kl.out id)
   have hly5 := hly4.out.same s5
   have hs5 := hs4.out.same s5
   clear s5 hs4 hly4
   generalize w4.heap.size = b5 at *
   replace k5 := gi k5; replace hs5 := gi hs5; replace hly5 := gi hly5
   obtain ⟨x0, x1, x2, xl⟩ := g3l kf.out
   obtain ⟨y0, y1, y2, yl⟩ := g3l k5.out
   go_upto_region 12 with fail
   go_wp2_with fail
   refine (hAN.out ⟨n, a4, c4, L4, r4⟩ _ hs5.out d4.out ⟨rfl, t4.out⟩).mono ?_
   intro e w6 hM
   obtain ⟨a6, c6, L6, r6, rfl, d6, t6, s6⟩ := hM.open
   clear x0 x1 x2 xl
   clear y0 y1 y2 yl
   have hb6 : b5 < w6.heap.size := by have h9 := gu k5.out; have h8 := s6.size; omega
   replace kr := gi (s6.at kr.out id); replace kf := gi (s6.at kf.out id); replace kl := gi (s6.at kl.out id)
   have hly6 := hly5.out.same s6
   have hs6 := hs5.out.same s6
   clear hM s6 hs5 k5 d4 t4 hly5
   replace d6 := gi d6; replace t6 := gi t6; replace hs6 := gi hs6; replace hly6 := gi hly6
   go_upto_region 13 with fail
   have k7 := gv w6 (.cells #[.int .i64 n, .slice a6 L6.length c6, .int .i64 r6] 56)
   have s7 : Same w6 (w6.alloc (.cells #[.int .i64 n, .slice a6 L6.length c6, .int .i64 r6] 56)) := fs2
   generalize w6.alloc (.cells #[.int .i64 n, .slice a6 L6.length c6, .int .i64 r6] 56) = W7 at *
   replace d6 := gi (d6.out.same s7); replace kr := gi (s7.at kr.out id); replace kf := gi (s7.at kf.out id); replace kl := gi (s7.at kl.out id)
   have hly7 := hly6.out.same s7
   have hs7 := hs6.out.same s7
   clear s7 hs6 hly6
   generalize w6.heap.size = b7 at *
   replace k7 := gi k7; replace hs7 := gi hs7; replace hly7 := gi hly7
   obtain ⟨x0, x1, x2, xl⟩ := g3l kf.out
   obtain ⟨y0, y1, y2, yl⟩ := g3l k7.out
   go_upto_region 15 with fail
   go_wp2_with fail
   refine (hEQ.out ⟨n, a6, c6, L6, r6⟩ _ hs7.out d6.out ⟨rfl, t6.out⟩).mono ?_
   rintro e w8 ⟨rfl, s8⟩
   clear x0 x1 x2 xl
   clear y0 y1 y2 yl
   replace kr := gi (s8.at kr.out id); replace kl := gi (s8.at kl.out id)
   have hly8 := hly7.out.same s8
   have hs8 := hs7.out.same s8
   clear s8 hs7 kf k7 d6 t6 hly7
   replace hs8 := gi hs8; replace hly8 := gi hly8
   by_cases htt : t2 = t
   · have hE := hE2.out hvn.out htt
     rw [decide_eq_true htt]
     subst hE
     have hg := hgd.out rfl
     replace hg := gi hg; replace htt := gi htt
     obtain ⟨z0, z1, z2, z3, zl⟩ := g4l kl.out
     obtain ⟨q0, q1, q2, q3, g0, g1, g2, g3, ql⟩ := boxq_facts kr.out
     go_wp2_with fail
     obtain ⟨e0, e1, e2, e3, hsF, hF⟩ := ly_stored (u0 := .slice aT m cT) (u1 := .slice aB m cB) (u2 := .int .i64 n) (u3 := .bool em) hs8.out (by omega) kr.out
     refine bodyPost_ret (v := .tuple #[.agg #[.slice aT m cT, .slice aB m cB, .int .i64 n, .bool em], .int .i64 0]) (by simp [results, Tryz.results52, go_sem, e0, e1, e2, e3]) rfl ?_
     exact hg.out _ _ _ _ _ (hly8.out.box hF kr.out) hsF
   · have hE := hE3.out hvn.out htt
     rw [decide_eq_false htt]
     subst hE
     have hg := hb4.out (by decide)
     replace hg := gi hg; replace htt := gi htt
     obtain ⟨q0, q1, q2, q3, g0, g1, g2, g3, ql⟩ := boxq_facts kr.out
     go_wp2_with fail
     obtain ⟨e0, e1, e2, e3, hsF, hF⟩ := ly_stored (u0 := .slice none 0 0) (u1 := .slice none 0 0) (u2 := .int .i64 0) (u3 := .bool false) hs8.out (by omega) kr.out
     refine bodyPost_ret (v := .tuple #[.agg #[.slice none 0 0, .slice none 0 0, .int .i64 0, .bool false], .int .i64 2]) (by simp [results, Tryz.results52, go_sem, e0, e1, e2, e3]) rfl ?_
     exact hg.out _ hsF
 · have hE := hE1.out hvn
   subst hE
   have hg := hb4.out (by decide)
   have hb1 : ((v : Int) != (n : Int)) = true := by simp; omega
   replace hg := gi hg; replace hvn := gi hvn
   obtain ⟨z0, z1, z2, z3, zl⟩ := g4l kl.out
   obtain ⟨x0, x1, x2, xl⟩ := g3l kf.out
   obtain ⟨q0, q1, q2, q3, g0, g1, g2, g3, ql⟩ := boxq_facts kr.out
   go_wp2_with fail
   obtain ⟨e0, e1, e2, e3, hsF, hF⟩ := ly_stored (u0 := .slice none 0 0) (u1 := .slice none 0 0) (u2 := .int .i64 0) (u3 := .bool false) hs3.out (by omega) kr.out
   refine bodyPost_ret (v := .tuple #[.agg #[.slice none 0 0, .slice none 0 0, .int .i64 0, .bool false], .int .i64 4]) (by simp [results, Tryz.results52, go_sem, e0, e1, e2, e3]) rfl ?_
   exact hg.out _ hsF
structure Bd (W : World) (b n : Nat) (t : List Bool) (a : Option Addr) (c : Nat) (L : List Nd) (r : Int) : Prop where
 heap : W.heap[b]? = some (.cells #[.int .i64 n, .slice a L.length c, .int .i64 r] 56 (0, 0))
 at' : Dg.at W ⟨n, a, c, L, r⟩
 tab : IsTab n t L r
theorem Bd.same {W W' : World} {b n : Nat} {t : List Bool} {a : Option Addr} {c : Nat} {L : List Nd} {r : Int} (h : Bd W b n t a c L r) (hs : Same W W') : Bd W' b n t a c L r := ⟨hs.at h.heap id, SliceAt.same h.at' hs, h.tab⟩
theorem Count_net (N : Nw) (OK : NetOk N) (d : Dg) (v : Nat) (t : List Bool) (w : World) (hat : N.at w) (hd : d.at w) (T : d.tab v t) :
 Calls Tryz.prog 23 #[.agg #[.slice N.aA N.As.length N.cA, .slice N.aO N.o.length N.cO], .agg #[.int .i64 d.n, .slice d.a d.L.length d.cap, .int .i64 d.r]] w fun e w' => e = .returned (.tuple #[.int .i64 (if N.mErr v t = 0 then ((t.count true : Nat) : Int) else 0), .int .i64 (N.mErr v t)]) ∧ Same w w' := by
 have ME := fun W (hW : Same w W) => measured_net N OK d v t W (hat.same hW) (SliceAt.same hd hW) T
 have CT := fun W (hW : Same w W) => count_tab d v t W (SliceAt.same hd hW) T
 have hdn := T.1
 simp only [Dg.v] at CT
 rw [hdn] at ME CT ⊢
 generalize d.a = da at *
 generalize d.L.length = dq at *
 generalize d.cap = dc at *
 generalize d.r = dr at *
 obtain ⟨EE, hEE⟩ : ∃ EE, EE = N.mErr v t := ⟨_, rfl⟩
 rw [← hEE] at ME ⊢
 generalize t.count true = ct at *
 obtain ⟨cx, hcx⟩ : ∃ cx : Int, cx = if EE = 0 then (ct : Int) else 0 := ⟨_, rfl⟩
 rw [← hcx]
 clear hat hd T hdn OK hEE
 unfold MeE at ME
 generalize N.aA = aA at *
 generalize N.cA = cA at *
 generalize N.aO = aO at *
 generalize N.cO = cO at *
 generalize N.all = n at *
 generalize N.emp = em at *
 generalize hm : N.As.length = m at *
 generalize N.o.length = qo at *
 replace ME := gi ME; replace CT := gi CT; replace hcx := gi hcx
 go_enter Tryz.func23, Tryz.ntmps23
 go_upto_region 1 with fail
 have kn := heap_old (gv w (.cells #[.slice aA m cA, .slice aO qo cO] 36)) (.cells #[.int .i64 v, .slice da dq dc, .int .i64 dr] 56)
 have kf := gv (w.alloc (.cells #[.slice aA m cA, .slice aO qo cO] 36)) (.cells #[.int .i64 v, .slice da dq dc, .int .i64 dr] 56)
 rw [← al1] at kf
 have hs : Same w ((w.alloc (.cells #[.slice aA m cA, .slice aO qo cO] 36)).alloc (.cells #[.int .i64 v, .slice da dq dc, .int .i64 dr] 56)) := fs2
 generalize (w.alloc (.cells #[.slice aA m cA, .slice aO qo cO] 36)).alloc (.cells #[.int .i64 v, .slice da dq dc, .int .i64 dr] 56) = W0 at *
 replace kn := gi kn; replace kf := gi kf; replace hs := gi hs
 obtain ⟨y0, y1, yl⟩ := g2l kn.out
 obtain ⟨x0, x1, x2, xl⟩ := g3l kf.out
 go_wp2_with fail
 refine (ME.out _ hs.out).mono ?_
 intro e w1 hM
 clear y0 y1 yl
 clear x0 x1 x2 xl
 rcases hM with ⟨h0, rfl, s1⟩ | ⟨rfl, aT, aB, cT, cB, rfl, _, s1⟩
 · have hb : (EE != 0) = true := by simpa using h0
   have hs1 := hs.out.same s1
   obtain rfl : cx = 0 := by rw [hcx.out, if_neg h0]
   clear s1
   replace h0 := gi h0; replace hs1 := gi hs1
   go_wp2_with fail
   go_ret2
   exact ⟨rfl, hs1.out.same fs2⟩
 · replace kf := gi (s1.at kf.out id)
   have hs1 := hs.out.same s1
   clear s1
   obtain rfl : cx = (ct : Int) := by rw [hcx.out, if_pos rfl]
   replace hs1 := gi hs1
   go_upto_region 2 with fail
   have s2 : Same w1 (w1.alloc (.cells #[.slice aT m cT, .slice aB m cB, .int .i64 n, .bool em] 89)) := fs2
   replace kf := gi (s2.at kf.out id)
   have hs2 := hs1.out.same s2
   clear s2
   generalize w1.alloc (.cells #[.slice aT m cT, .slice aB m cB, .int .i64 n, .bool em] 89) = W2 at *
   replace hs2 := gi hs2
   obtain ⟨x0, x1, x2, xl⟩ := g3l kf.out
   go_wp2_with fail
   refine (CT.out _ hs2.out).mono ?_
   rintro e w3 ⟨rfl, s3⟩
   have hs3 := hs2.out.same s3
   replace hs3 := gi hs3
   go_wp2_with fail
   go_ret2
   exact ⟨rfl, hs3.out⟩
def Nw.T (N : Nw) (k : Nat) : List Nat := tupA N.bs N.at' N.As.length (bitF N.all k)
theorem Nw.T_len (N : Nw) (k : Nat) : (N.T k).length = N.ns.length := by rw [Nw.T, tupA_len, N.ns_len]
theorem NwOk.code {N : Nw} (h : NwOk N) {k : Nat} (hk : k < 2 ^ N.all) (p : List Nat → Bool) : (∃ x ∈ tupsF N.ns, p x = true ∧ numB (codeL N.bs N.on x) = k) ↔ okT N.ns (N.T k) = true ∧ p (N.T k) = true := by
 have hpm := h.pm
 rw [← N.ns_len] at hpm
 have H := code_key (bs := N.bs) (ns := N.ns) hpm (n := N.all) rfl (fun i hi => h.bits (by rw [← N.ns_len]; exact hi)) hk p
 have e : N.T k = tupA N.bs (atB N.bs N.on) N.ns.length (bitF N.all k) := by rw [N.ns_len]; rfl
 rw [e]
 exact H
theorem NwOk.tup_of {N : Nw} (h : NwOk N) {x : List Nat} (hx : x ∈ tupsF N.ns) : ∃ k, k < 2 ^ N.all ∧ N.T k = x ∧ numB (codeL N.bs N.on x) = k := by
 have hk : numB (codeL N.bs N.on x) < 2 ^ N.all := by
  have := numB_lt (codeL N.bs N.on x) _ (Nat.le_refl _)
  rw [List.take_length, codeL_len] at this
  exact this
 have := ((h.code hk (fun t => t == x)).1 ⟨x, hx, by simp, rfl⟩).2
 exact ⟨_, hk, by simpa using this, rfl⟩
theorem NwOk.T_inj {N : Nw} (h : NwOk N) {i j : Nat} (hi : i < 2 ^ N.all) (hj : j < 2 ^ N.all) (e : N.T i = N.T j) : i = j := num_bits hi hj (tup_bits h e)
theorem Nw.T_mem (N : Nw) {k : Nat} (h : okT N.ns (N.T k) = true) : N.T k ∈ tupsF N.ns := tups_iff.2 ⟨N.T_len k, h⟩
theorem Nw.set_eq (N : Nw) (F : List Nat → Bool) : N.set F = tbF N.all fun k => F (N.T k) := rfl
def Sup (ns : List Nat) (F : List Nat → Bool) : Prop := ∀ x, F x = true → okT ns x = true
theorem mErr_set {N : Nw} {F : List Nat → Bool} (hF : Sup N.ns F) : N.mErr N.all (N.set F) = 0 := by
 unfold Nw.mErr
 rw [if_neg (by simp), if_pos]
 have e : ite3 (N.set F) (N.set (okT N.ns)) (fls N.all) = N.set (fun x => F x && okT N.ns x) := tup_and _ _ _ _ _ _
 rw [e]
 refine tbF_congr (fun k _ => ?_)
 show (F (N.T k) && okT N.ns (N.T k)) = F (N.T k)
 cases h : F (N.T k) with
 | false => rfl
 | true => rw [hF _ h]; rfl
def extT (t : List Int) (n : Nat) : List (List Int) := (List.range n).map fun (s : Nat) => t ++ [(s : Int)]
theorem extT_zero (t : List Int) : extT t 0 = [] := rfl
theorem extT_succ (t : List Int) (s : Nat) : extT t (s + 1) = extT t s ++ [t ++ [(s : Int)]] := by unfold extT; rw [List.range_succ, List.map_append]; rfl
theorem extT_len (t : List Int) (n : Nat) : (extT t n).length = n := by simp [extT]
def tupI (ns : List Nat) : List (List Int) := (tupsF ns).map natI
theorem tupI_succ {ns : List Nat} {i : Nat} (hi : i < ns.length) : tupI (ns.take (i + 1)) = (tupI (ns.take i)).flatMap fun t => extT t (ns.getD i 0) := by
 have e : ns.getD i 0 = ns[i] := by simp [List.getD, hi]
 rw [List.take_succ_eq_append_getElem hi]
 unfold tupI
 rw [tups_snoc, List.map_flatMap, List.flatMap_map, e]
 congr 1
 funext t
 unfold extT
 rw [List.map_map]
 refine List.map_congr_left (fun s _ => ?_)
 simp [natI, Function.comp]
theorem flatT_take (n : Nat) {L : List (List Int)} {j : Nat} (h : j < L.length) : (L.take (j + 1)).flatMap (fun l => extT l n) = (L.take j).flatMap (fun l => extT l n) ++ extT L[j] n := by
 rw [List.take_succ_eq_append_getElem h, List.flatMap_append]; simp
theorem flatT_len (n : Nat) (L : List (List Int)) : (L.flatMap fun l => extT l n).length = L.length * n := by
 induction L with
 | nil => simp
 | cons x L ih =>
  simp only [List.flatMap_cons, List.length_append, List.length_cons, Nat.add_mul, extT_len, ih]
  omega
theorem tupI_el {ns : List Nat} : ∀ t ∈ tupI ns, t.length = ns.length := fun t ht => by
 obtain ⟨x, hx, rfl⟩ := List.mem_map.1 ht
 rw [natI_len]
 exact (tups_iff.1 hx).1
theorem tupI_len (ns : List Nat) : (tupI ns).length = (tupsF ns).length := by simp [tupI]
def LexN (x y : List Nat) : Prop := ∃ i, i < x.length ∧ i < y.length ∧ (∀ j, j < i → x.getD j 0 = y.getD j 0) ∧ x.getD i 0 < y.getD i 0
theorem LexN.ne {x y : List Nat} (h : LexN x y) : x ≠ y := by
 rintro rfl
 obtain ⟨i, _, _, _, h⟩ := h
 omega
theorem LexN.ext {x y : List Nat} (h : LexN x y) (a b : List Nat) : LexN (x ++ a) (y ++ b) := by
 obtain ⟨i, h1, h2, h3, h4⟩ := h
 have g : ∀ (z c : List Nat) (j : Nat), j < z.length → (z ++ c).getD j 0 = z.getD j 0 := fun z c j hj => by simp [List.getD, List.getElem?_append_left hj]
 refine ⟨i, by simp; omega, by simp; omega, fun j hj => ?_, ?_⟩
 · rw [g _ _ _ (by omega), g _ _ _ (by omega)]; exact h3 j hj
 · rw [g _ _ _ h1, g _ _ _ h2]; exact h4
theorem LexN.last (t : List Nat) {a b : Nat} (h : a < b) : LexN (t ++ [a]) (t ++ [b]) := by
 refine ⟨t.length, by simp, by simp, fun j hj => ?_, ?_⟩
 · simp [List.getD, List.getElem?_append_left hj]
 · simp [List.getD]; exact h
theorem tups_lex : ∀ (k : Nat) (ns : List Nat), ns.length = k → (tupsF ns).Pairwise LexN
 | 0, ns, h => by
  obtain rfl := List.length_eq_zero_iff.1 h
  exact List.pairwise_singleton _ _
 | k + 1, ns, h => by
  obtain ⟨ms, n, rfl⟩ : ∃ ms n, ns = ms ++ [n] := ⟨ns.dropLast, ns.getLast (by intro e; simp [e] at h), (List.dropLast_concat_getLast _).symm⟩
  have ih := tups_lex k ms (by simpa using h)
  rw [tups_snoc]
  refine List.pairwise_flatMap.2 ⟨fun t _ => ?_, ih.imp (fun {x y} hxy a ha b hb => ?_)⟩
  · rw [List.pairwise_map]
    exact List.pairwise_lt_range.imp (fun hab => LexN.last t hab)
  · obtain ⟨s, _, rfl⟩ := List.mem_map.1 ha
    obtain ⟨s', _, rfl⟩ := List.mem_map.1 hb
    exact hxy.ext _ _
theorem tups_nodup (ns : List Nat) : (tupsF ns).Nodup := List.nodup_iff_pairwise_ne.2 ((tups_lex _ ns rfl).imp fun h => h.ne)
theorem set_cnt {N : Nw} (h : NwOk N) {F : List Nat → Bool} (hF : Sup N.ns F) : (N.set F).count true = ((tupsF N.ns).filter F).length := by
 have e : (N.set F).count true = (((List.range (2 ^ N.all)).filter fun k => F (N.T k)).map N.T).length := by
  rw [N.set_eq, tbF, List.length_map, List.count_eq_countP, List.countP_map, List.countP_eq_length_filter]
  congr 1
  refine List.filter_congr (fun x _ => ?_)
  simp only [Function.comp]
  cases F (N.T x) <;> rfl
 rw [e]
 refine Nat.le_antisymm (nodup_sub ?_ (fun x hx => ?_)) (nodup_sub ((tups_nodup _).filter _) (fun x hx => ?_))
 · rw [List.nodup_iff_pairwise_ne, List.pairwise_map]
   refine List.Pairwise.imp_of_mem (fun {a b} ha hb hab hf => ?_) ((List.nodup_iff_pairwise_ne.1 List.nodup_range).filter _)
   exact hab (h.T_inj (List.mem_range.1 (List.mem_filter.1 ha).1) (List.mem_range.1 (List.mem_filter.1 hb).1) hf)
 · obtain ⟨k, hk, rfl⟩ := List.mem_map.1 hx
   have hk2 := (List.mem_filter.1 hk).2
   exact List.mem_filter.2 ⟨N.T_mem (hF _ hk2), hk2⟩
 · obtain ⟨h1, h2⟩ := List.mem_filter.1 hx
   obtain ⟨k, hk, e2, _⟩ := h.tup_of h1
   exact List.mem_map.2 ⟨k, List.mem_filter.2 ⟨List.mem_range.2 hk, by rw [e2]; exact h2⟩, e2⟩
structure TG (base : Nat) (w : World) (a : Option Addr) (k c : Nat) (gs : List Grp) : Prop where
 len : gs.length = k
 own : w.ownsRow base 31 1 (.slice a k c) k (gs.map Grp.v)
 el : ∀ g ∈ gs, SliceAt w 3 1 g.v g.l.length (gw g.l)
theorem TG.same {base : Nat} {w w' : World} {a : Option Addr} {k c : Nat} {gs : List Grp} (h : TG base w a k c gs) (hs : Same w w') : TG base w' a k c gs := ⟨h.len, owns_same h.own hs, fun g hg => (h.el g hg).same hs⟩
theorem TG.gs {base : Nat} {w : World} {a : Option Addr} {k c : Nat} {gs : List Grp} (h : TG base w a k c gs) : GsAt w (.slice a k c) k gs := ⟨(SliceAt.of_owns h.own).row, fun g hg => (h.el g hg).row⟩
theorem TG.nil (base : Nat) (w : World) : TG base w none 0 0 [] := ⟨rfl, World.ownsRow_nil _ _ _ _, by simp⟩
theorem TG.down {base base' : Nat} {w : World} {a : Option Addr} {k c : Nat} {gs : List Grp} (h : TG base w a k c gs) (hb : base' ≤ base) : TG base' w a k c gs := ⟨h.len, own_base h.own hb, h.el⟩
theorem TG.push {base : Nat} {w W w' : World} {a a' : Option Addr} {k c c' : Nat} {gs : List Grp} {g : Grp} (h : TG base w a k c gs) (hs : Same w W) (hg : SliceAt W 3 1 g.v g.l.length (gw g.l))
 (ho : w'.ownsRow base 31 1 (.slice a' (k + 1) c') (k + 1) (gs.map Grp.v ++ [g.v])) (hG : Grew (fun _ => False) W w' (.slice a k c) (.slice a' (k + 1) c')) : TG base w' a' (k + 1) c' (gs ++ [g]) := by
 have h2 := h.same hs
 have key : ∀ x : Grp, SliceAt W 3 1 x.v x.l.length (gw x.l) → SliceAt w' 3 1 x.v x.l.length (gw x.l) := fun x hx => hx.fr hG.1 (fun k cur hk hS => by
  rcases hS with hS | hS
  · obtain ⟨cur', e⟩ := own_block h2.own hS
    rw [e] at hk
    simp at hk
  · exact hS)
 refine ⟨by simp [h.len], by simpa using ho, fun x hx => ?_⟩
 rcases List.mem_append.1 hx with hx | hx
 · exact key x (h2.el x hx)
 · simp at hx; subst hx; exact key x hg
theorem info_iiT : (Tryz.prog.info? 31).map (fun i => (i.zero, i.size, i.bytes)) = some (some (.slice none 0 0), 1, 24) := by kernel_rfl
def TupE (base : Nat) (L : List (List Int)) (w : World) (e : Ending) (w' : World) : Prop :=
 ∃ a k c gs, e = .returned (.slice a k c) ∧ TG base w' a k c gs ∧ lst gs = L ∧ k = L.length ∧ Same w w'
theorem ltuples13 (N : Nw) (w : World) (hat : N.at w) (hn : ∀ k (hk : k < N.As.length), ∃ n : Nat, N.As[k].n = n ∧ n ≤ 1000 ∧ N.ns.getD k 0 = n) (hm : N.As.length ≤ 12) (hL : ∀ i, i ≤ N.As.length → (tupsF (N.ns.take i)).length ≤ 100000) :
 Calls Tryz.prog 19 #[.agg #[.slice N.aA N.As.length N.cA, .slice N.aO N.o.length N.cO]] w (TupE w.heap.size (tupI N.ns) w) := by
 obtain ⟨i3, hi3, hi3z, hi3s, hi3b⟩ := info_parts info3
 obtain ⟨j3, hj3, hj3z, hj3s, hj3b⟩ := info_parts info_iiT
 obtain ⟨m, hmm⟩ : ∃ m, m = N.As.length := ⟨_, rfl⟩
 have hlt : ∀ k, k < m → k < N.As.length := fun k h => hmm ▸ h
 have hrow := fun (k : Nat) (hk : k < m) W (hW : Same w W) => (hat.au.same hW).row (hlt k hk)
 obtain ⟨T, hT⟩ : ∃ T : Nat → List (List Int), T = fun i => tupI (N.ns.take i) := ⟨_, rfl⟩
 have hT0 : T 0 = [[]] := by rw [hT]; rfl
 have hTs : ∀ i, i < N.As.length → T (i + 1) = (T i).flatMap fun t => extT t (N.ns.getD i 0) := fun i hi => by rw [hT]; exact tupI_succ (by rw [N.ns_len]; exact hi)
 have hTl : ∀ i, i ≤ N.As.length → (T i).length ≤ 100000 := fun i hi => by rw [hT]; simp only; rw [tupI_len]; exact hL i hi
 have hTe : ∀ i, i ≤ N.As.length → ∀ t ∈ T i, t.length = i := fun i hi t ht => by
  rw [hT] at ht
  have := tupI_el t ht
  rw [List.length_take, N.ns_len] at this
  omega
 have hTm : tupI N.ns = T N.As.length := by rw [hT]; simp only; rw [List.take_of_length_le (by rw [N.ns_len]; exact Nat.le_refl _)]
 have CL := fun (o : List Int) (a : Option Addr) cap q W (hq : o.length = q) (hO : RowAt W (.slice a q cap) q (gw o)) (hl : q ≤ 1000000) => cloneI_any o a cap q W hq hO hl
 rw [hTm]
 clear hTm hT hat hL
 unfold CloneI at CL
 simp only [← hmm] at hrow hm hTs hTl hTe ⊢
 have hn2 : ∀ k (hk : k < m), ∃ n : Nat, (N.As[k]'(hlt k hk)).n = n ∧ n ≤ 1000 ∧ T (k + 1) = (T k).flatMap fun t => extT t n := fun k hk => by
  obtain ⟨n, h1, h2, h3⟩ := hn k (hlt k hk)
  exact ⟨n, h1, h2, by rw [hTs k hk, h3]⟩
 clear hn hTs
 generalize N.aA = aA at *
 generalize N.cA = cA at *
 generalize N.aO = aO at *
 generalize N.cO = cO at *
 generalize N.o.length = qo at *
 generalize N.As = As at *
 clear hmm
 unfold TupE
 replace hrow := gi hrow; replace hT0 := gi hT0; replace hTl := gi hTl; replace hTe := gi hTe; replace CL := gi CL; replace hlt := gi hlt; replace hn2 := gi hn2
 go_enter Tryz.func19, Tryz.ntmps19
 go_upto_region 1 with fail
 have kn := gv w (.cells #[.slice aA m cA, .slice aO qo cO] 36)
 have s0 : Same w (w.alloc (.cells #[.slice aA m cA, .slice aO qo cO] 36)) := fs2
 generalize w.alloc (.cells #[.slice aA m cA, .slice aO qo cO] 36) = W0 at *
 obtain ⟨bn, hbn⟩ : ∃ b, b = w.heap.size := ⟨_, rfl⟩
 rw [← hbn] at kn ⊢
 replace kn := gi kn; replace hbn := gi hbn
 obtain ⟨x0, x1, xl⟩ := g2l kn.out
 have hzn : bn ≤ W0.heap.size := by omega
 go_upto_region 2 with fail
 have h1 : (W0.alloc (.cells #[.slice none 0 0] 31)).ownsRow W0.heap.size 31 1 (.slice (some ⟨W0.heap.size, 0, none⟩) 1 1) 1 [.slice none 0 0] := own_of_block (gv _ _) (Nat.le_refl _) rfl rfl (by unfold maxLen; omega)
 have s1 : Same W0 (W0.alloc (.cells #[.slice none 0 0] 31)) := fs2
 have hT1 : TG bn (W0.alloc (.cells #[.slice none 0 0] 31)) (some ⟨W0.heap.size, 0, none⟩) 1 1 [⟨none, 0, []⟩] := ⟨rfl, own_base h1 hzn, fun g hg => by simp at hg; subst hg; exact SliceAt.nil _ _ _⟩
 generalize W0.heap.size = b0 at *
 generalize W0.alloc (.cells #[.slice none 0 0] 31) = W1 at *
 have hs1 := s0.same s1
 replace kn := gi (s1.at kn.out id)
 clear x0 x1 xl
 obtain ⟨x0, x1, xl⟩ := g2l kn.out
 clear h1 s1 s0
 replace hT1 := gi hT1; replace hs1 := gi hs1
 go_wp2_with fail
 clear x0 x1 xl
 go_loopw [3, 6, 8, 9, 14] (fun v3 _ _ _ v14 wr => ∃ (i k c : Nat) (a : Option Addr) (gs : List Grp), v14 = .int .i64 i ∧ i ≤ m ∧ v3 = .slice a k c ∧ TG bn wr a k c gs ∧ lst gs = T i ∧ Same w wr) (fun _ _ _ _ i _ => m - (intOf i).toNat)
 case atStart => exact ⟨0, 1, 1, _, [⟨none, 0, []⟩], rfl, by omega, rfl, hT1.out, by rw [hT0.out]; rfl, hs1.out⟩
 case round =>
  clear hT1
  obtain ⟨i, k, c, a, gs, rfl, hi, rfl, hG, hlv, hs⟩ := hrel
  have hk3 : k ≤ 100000 := by
   have h1 := hTl.out i hi
   rw [← hlv, lst_len, hG.len] at h1
   exact h1
  have hwo := hs.size
  by_cases him : i < m
  · obtain ⟨b1, off1, rfl, hb1, x0, x1, x2, x3⟩ := hrow.out i him _ hs
    obtain ⟨n, hn1, hn9, hLs⟩ := hn2.out i him
    have hl1 := hTl.out (i + 1) (by omega)
    have hTi := hTe.out i hi
    rw [hn1] at x1
    generalize As[i]'(hlt.out i him) = A at *
    clear hn1
    rw [← hlv] at hLs hTi
    have hgl : (lst gs).length = k := by rw [lst_len, hG.len]
    have hfl := flatT_len n (lst gs)
    rw [← hLs, hgl] at hfl
    rw [hfl] at hl1
    replace hG := gi hG; replace hlv := gi hlv; replace hs := gi hs; replace hLs := gi hLs; replace hgl := gi hgl; replace hTi := gi hTi
    go_upto_region 5 with fail
    have kb := gv wr (.cells #[.slice A.aA A.al.length A.cA, .int .i64 n, .slice A.aM A.ma.length A.cM, .slice A.aE A.es.length A.cE] 44)
    have s2 : Same wr (wr.alloc (.cells #[.slice A.aA A.al.length A.cA, .int .i64 n, .slice A.aM A.ma.length A.cM, .slice A.aE A.es.length A.cE] 44)) := fs2
    generalize wr.alloc (.cells #[.slice A.aA A.al.length A.cA, .int .i64 n, .slice A.aM A.ma.length A.cM, .slice A.aE A.es.length A.cE] 44) = wo at *
    generalize wr.heap.size = bb at *
    replace hG := gi (hG.out.same s2)
    have hs2 := hs.out.same s2
    have hwo := hs2.size
    clear s2 hs x0 x1 x2 x3
    replace kb := gi kb; replace hs2 := gi hs2
    go_wp2_with fail
    go_loopw [6, 8, 9, 20] (fun v6 _ _ v20 wr => ∃ (j k2 c2 : Nat) (a2 : Option Addr) (gs2 : List Grp), v20 = .int .i64 j ∧ j ≤ k ∧ v6 = .slice a2 k2 c2 ∧ TG wo.heap.size wr a2 k2 c2 gs2 ∧ lst gs2 = ((lst gs).take j).flatMap (fun l => extT l n) ∧ k2 = j * n ∧ Same wo wr) (fun _ _ _ j _ => k - (intOf j).toNat)
    case atStart => exact ⟨0, 0, 0, none, [], rfl, by omega, rfl, TG.nil _ _, by simp [lst], by simp, fs2⟩
    case round =>
     obtain ⟨j, k2, c2, a2, gs2, rfl, hj, rfl, hG2, hl2, hkn, hs3⟩ := hrel
     have hwm := hs3.size
     by_cases hjk : j < k
     · obtain ⟨wm, rfl⟩ : ∃ wm, wm = wr := ⟨_, rfl⟩
       have hjl : j < gs.length := by rw [hG.out.len]; exact hjk
       have hjl2 : j < (lst gs).length := by rw [hgl.out]; exact hjk
       have hRo : RowAt wo (.slice gs[j].a gs[j].l.length gs[j].cap) gs[j].l.length (gw gs[j].l) := hG.out.gs.2 _ (List.getElem_mem hjl)
       obtain ⟨b, off, rfl, hbl, c0, hR⟩ := (hG.out.gs.same hs3).get hjl
       have hft := flatT_take n hjl2
       rw [lst_get gs hjl] at hft
       have hk2 : k2 + n ≤ 100000 := by
        have h1 : (j + 1) * n ≤ k * n := Nat.mul_le_mul_right n hjk
        rw [Nat.add_mul] at h1
        omega
       have hll : gs[j].l.length = i := hTi.out _ (by rw [← lst_get gs hjl]; exact List.getElem_mem _)
       generalize gs[j] = g at *
       obtain ⟨ga, gc, gl⟩ := g
       simp only at c0 hR hft hll hRo
       rw [hll] at c0 hR hRo
       have kb2 := hs3.at kb.out id
       have y1 := gn kb2 1
       have yl := gu kb2
       replace hG2 := gi hG2; replace hl2 := gi hl2; replace hs3 := gi hs3; replace hft := gi hft; replace hll := gi hll; replace hR := gi hR; replace hRo := gi hRo; replace kb2 := gi kb2; replace hkn := gi hkn
       go_wp2_with fail
       clear y1 yl c0
       go_loopw [6, 9, 26] (fun v6 _ v26 wr => ∃ (v k3 c3 : Nat) (a3 : Option Addr) (gs3 : List Grp), v26 = .int .i64 v ∧ v ≤ n ∧ v6 = .slice a3 k3 c3 ∧ TG wo.heap.size wr a3 k3 c3 gs3 ∧ lst gs3 = ((lst gs).take j).flatMap (fun l => extT l n) ++ extT gl v ∧ k3 = k2 + v ∧ Same wo wr) (fun _ _ v _ => n - (intOf v).toNat)
       case atStart => exact ⟨0, k2, c2, a2, gs2, rfl, by omega, rfl, hG2.out, by rw [hl2.out, extT_zero, List.append_nil], by omega, hs3.out⟩
       case round =>
        obtain ⟨v, k3, c3, a3, gs3, rfl, hv, rfl, hG3, hl3, hk3', hs4⟩ := hrel
        have hR3 := hRo.out.same hs4
        have hwv := hs4.size
        by_cases hvn : v < n
        · have hss := extT_succ gl v
          have CLk := CL.out gl ga gc i wr hll.out hR3 (by omega)
          replace hG3 := gi hG3; replace hl3 := gi hl3; replace hs4 := gi hs4; replace hR3 := gi hR3; replace hss := gi hss; replace CLk := gi CLk; replace hk3' := gi hk3'
          have hk9 : k3 + 1 ≤ 100000 := by have := hk3'.out; omega
          go_wp2_with fail
          refine CLk.out.mono ?_
          rintro e w4 ⟨a4, c4, rfl, ho4, s4⟩
          have hz4 := s4.size
          replace ho4 := gi ho4; replace s4 := gi s4
          go_wp2_with (first
           | (at_builtin; refine wpList_append1 rfl (.tmp 31) (.tmp 33) 31 rfl wr.heap.size 3 i3 (.int .i64 0) 1 8 Tryz.underlying31 hi3 hi3z hi3s hi3b rfl (by decide) (by decide) a4 i c4 (gw gl) rfl (owns_same ho4.out fs2) (by omega) w4.heap.size [.int .i64 v] rfl rfl (gv _ _) (by simp [Value.oneCell']) (by simp; omega) ?_; intro a5 c5 w5 ho5 hG5; have hs6 : Same wr w5 := grew_fresh (s4.out.same fs2) hG5 (fun k hk => (ho4.out.lt k hk).1); replace ho5 := gi ho5; replace hs6 := gi hs6; clear hG5)
           | (at_builtin; refine wpList_append1 rfl (.tmp 29) (.tmp 35) 51 rfl wo.heap.size 31 j3 (.slice none 0 0) 1 24 Tryz.underlying51 hj3 hj3z hj3s hj3b rfl (by decide) (by decide) a3 k3 c3 (gs3.map Grp.v) rfl (owns_same hG3.out.own (hs6.out.same fs2)) (by omega) w5.heap.size [.slice a5 (i + 1) c5] rfl rfl (gv _ _) (by simp [Value.oneCell']) (by have := hs6.out.size; simp; omega) ?_; intro a6 c6 w6 ho6 hG6; replace ho6 := gi ho6; replace hG6 := gi hG6))
          have hg6 : SliceAt (w5.alloc (.cells #[.slice a5 (i + 1) c5] 31)) 3 1 (Grp.v ⟨a5, c5, gl ++ [(v : Int)]⟩) (gl ++ [(v : Int)]).length (gw (gl ++ [(v : Int)])) := by
           have := (SliceAt.of_owns ho5.out).same (show Same w5 (w5.alloc (.cells #[.slice a5 (i + 1) c5] 31)) from fs2)
           unfold Grp.v
           simp only [List.length_append, List.length_singleton, hll.out]
           simpa [gw] using this
          have hv6 : Grp.v ⟨a5, c5, gl ++ [(v : Int)]⟩ = .slice a5 (i + 1) c5 := by unfold Grp.v; simp [hll.out]
          have hWs : Same wr (w5.alloc (.cells #[.slice a5 (i + 1) c5] 31)) := hs6.out.alloc _
          have hG7 := TG.push (g := ⟨a5, c5, gl ++ [(v : Int)]⟩) hG3.out hWs hg6 (by rw [hv6]; exact ho6.out) hG6.out
          have hs7 : Same wo w6 := grew_fresh (hs4.out.same hWs) hG6.out (fun k hk => (hG3.out.own.lt k hk).1)
          replace hG7 := gi hG7; replace hs7 := gi hs7
          clear ho4 ho5 ho6 hG6 s4 hs6 hg6 hv6 hWs
          go_roundw
          case rel => exact ⟨v + 1, k3 + 1, c6, a6, _, by go_num, by omega, rfl, hG7.out, by rw [lst, List.map_append, ← lst, hl3.out, hss.out, List.append_assoc]; rfl, by have := hk3'.out; omega, hs7.out⟩
          case measure => simp [intOf]; omega
        · obtain rfl : v = n := by omega
          replace hG3 := gi hG3; replace hl3 := gi hl3; replace hs4 := gi hs4; replace hR3 := gi hR3
          go_wp2_with fail
          go_roundw
          case rel => exact ⟨j + 1, k3, c3, a3, gs3, by go_num, by omega, rfl, hG3.out, by rw [hl3.out, hft.out], by rw [hk3', hkn.out, Nat.add_mul]; omega, hs4.out⟩
          case measure => simp [intOf]; omega
     · obtain rfl : j = k := by omega
       rw [List.take_of_length_le (by rw [hgl.out]; exact Nat.le_refl _)] at hl2
       replace hG2 := gi hG2; replace hl2 := gi hl2; replace hs3 := gi hs3
       go_wp2_with fail
       go_roundw
       case rel => exact ⟨i + 1, k2, c2, a2, gs2, by go_num, by omega, rfl, hG2.out.down (by have := hbn.out; omega), by rw [hl2.out, hLs.out], hs2.out.same hs3.out⟩
       case measure => simp [intOf]; omega
  · obtain rfl : i = m := by omega
    replace hG := gi hG; replace hlv := gi hlv; replace hs := gi hs
    go_wp2_with fail
    go_ret
    exact ⟨a, k, c, gs, rfl, by rw [← hbn.out]; exact hG.out, hlv.out, by rw [← hlv.out, lst_len, hG.out.len], hs.out⟩
end Go.Proofs.YtcipnkemnepbaaaGreat
namespace Go.Proofs.YtcipnkemnepbaaaGreat
open Go.Shelf Go.RowKit Go.Lib Go.Sort
end Go.Proofs.YtcipnkemnepbaaaGreat
namespace Go.Proofs
open Go.Shelf
shelf_lay_g SlLaysF.n6 Slsf 6 at Tryz 55 as Tryz.sortLs
end Go.Proofs
namespace Go.Proofs.YtcipnkemnepbaaaGreat
open Go.Shelf Go.RowKit Go.Lib Go.Sort
def cmpL : List Int → List Int → Int
 | [], [] => 0
 | [], _ :: _ => -1
 | _ :: _, [] => 1
 | x :: l, y :: k => if Lib.compareInt x y ≠ 0 then Lib.compareInt x y else cmpL l k
theorem cmp3 (x y : Int) : x < y ∧ Lib.compareInt x y = -1 ∨ x = y ∧ Lib.compareInt x y = 0 ∨ y < x ∧ Lib.compareInt x y = 1 := by
 unfold Lib.compareInt
 rcases (show x < y ∨ x = y ∨ y < x by omega) with h | h | h
 · exact .inl ⟨h, by simp [h]⟩
 · exact .inr (.inl ⟨h, by simp [h]⟩)
 · exact .inr (.inr ⟨h, by simp [h, show ¬ x < y by omega]⟩)
theorem cmpL_self : ∀ x : List Int, cmpL x x = 0
 | [] => rfl
 | x :: l => by
  unfold cmpL
  rw [if_neg (by have := cmp3 x x; omega)]
  exact cmpL_self l
theorem cmpL_neg : ∀ x y : List Int, cmpL y x = - cmpL x y
 | [], [] => rfl
 | [], _ :: _ => rfl
 | _ :: _, [] => rfl
 | x :: l, y :: k => by
  have h := cmpL_neg l k
  unfold cmpL
  have h1 := cmp3 x y
  have h2 := cmp3 y x
  by_cases he : x = y
  · rw [if_neg (by omega), if_neg (by omega), h]
  · rw [if_pos (by omega), if_pos (by omega)]
    omega
theorem cmpL_eq : ∀ x y : List Int, cmpL x y = 0 → x = y
 | [], [], _ => rfl
 | [], _ :: _, h => by simp [cmpL] at h
 | _ :: _, [], h => by simp [cmpL] at h
 | x :: l, y :: k, h => by
  unfold cmpL at h
  have h1 := cmp3 x y
  split at h
  · omega
  · have := cmpL_eq l k h
    rw [this, show x = y by omega]
theorem cmpL_trans : ∀ x y z : List Int, cmpL x y < 0 → cmpL y z < 0 → cmpL x z < 0
 | [], [], _, h, _ => by simp [cmpL] at h
 | [], _ :: _, [], _, h => by simp [cmpL] at h
 | [], _ :: _, _ :: _, _, _ => by simp [cmpL]
 | _ :: _, [], _, h, _ => by simp [cmpL] at h
 | _ :: _, _ :: _, [], _, h => by simp [cmpL] at h
 | x :: l, y :: k, z :: m, h1, h2 => by
  have ih := cmpL_trans l k m
  unfold cmpL at h1 h2 ⊢
  have a1 := cmp3 x y
  have a2 := cmp3 y z
  have a3 := cmp3 x z
  by_cases b1 : x = y
  · by_cases b2 : y = z
    · rw [if_neg (by omega)] at h1 h2 ⊢
      exact ih h1 h2
    · rw [if_neg (by omega)] at h1
      rw [if_pos (by omega)] at h2
      rw [if_pos (by omega)]
      omega
  · rw [if_pos (by omega)] at h1
    by_cases b2 : y = z
    · rw [if_pos (by omega)]
      omega
    · rw [if_pos (by omega)] at h2
      rw [if_pos (by omega)]
      omega
theorem cmpL_step {x y : List Int} {j : Nat} (h1 : j < x.length) (h2 : j < y.length) : cmpL (x.drop j) (y.drop j) = if Lib.compareInt (x.getD j 0) (y.getD j 0) ≠ 0 then Lib.compareInt (x.getD j 0) (y.getD j 0) else cmpL (x.drop (j + 1)) (y.drop (j + 1)) := by
 rw [List.drop_eq_getElem_cons h1, List.drop_eq_getElem_cons h2, cmpL]
 simp [List.getD, h1, h2]
theorem cmpL_more {x y : List Int} {j : Nat} (h1 : j < x.length) (h2 : y.length ≤ j) : cmpL (x.drop j) (y.drop j) = 1 := by
 rw [List.drop_eq_getElem_cons h1, List.drop_of_length_le h2]; rfl
theorem cmpL_less {x y : List Int} {j : Nat} (h1 : x.length ≤ j) (h2 : j < y.length) : cmpL (x.drop j) (y.drop j) = -1 := by
 rw [List.drop_eq_getElem_cons h2, List.drop_of_length_le h1]; rfl
theorem cmpL_end {x y : List Int} {j : Nat} (h1 : x.length ≤ j) (h2 : y.length ≤ j) : cmpL (x.drop j) (y.drop j) = 0 := by
 rw [List.drop_of_length_le h1, List.drop_of_length_le h2]; rfl
theorem lex_cmp : ∀ {x y : List Nat}, LexN x y → cmpL (natI x) (natI y) < 0
 | [], _, h => by obtain ⟨i, h1, _⟩ := h; simp at h1
 | _ :: _, [], h => by obtain ⟨i, _, h1, _⟩ := h; simp at h1
 | a :: x, b :: y, h => by
  obtain ⟨i, h1, h2, h3, h4⟩ := h
  show cmpL ((a : Int) :: natI x) ((b : Int) :: natI y) < 0
  unfold cmpL
  have hc := cmp3 (a : Int) (b : Int)
  cases i with
  | zero =>
   simp only [List.getD_cons_zero] at h4
   rw [if_pos (by omega)]
   omega
  | succ i =>
   have h0 := h3 0 (by omega)
   simp only [List.getD_cons_zero] at h0
   rw [if_neg (by omega)]
   refine lex_cmp ⟨i, by simpa using h1, by simpa using h2, fun j hj => ?_, by simpa using h4⟩
   have := h3 (j + 1) (by omega)
   simpa using this
theorem compareL (x y : List Int) (qx qy : Nat) (hx : x.length = qx) (hy : y.length = qy) (a b : Option Addr) (c d : Nat) (W : World) (k1 : RowAt W (.slice a qx c) qx (gw x)) (k2 : RowAt W (.slice b qy d) qy (gw y)) :
 Calls Tryz.prog 56 #[.slice a qx c, .slice b qy d] W fun e w' => e = .returned (.int .i64 (cmpL x y)) ∧ w' = W := by
 have hx9 : qx ≤ maxLen := by obtain ⟨_, a9, c9, he9, h8, h9, _⟩ := k1; omega
 have hy9 : qy ≤ maxLen := by obtain ⟨_, a9, c9, he9, h8, h9, _⟩ := k2; omega
 unfold maxLen at hx9 hy9
 have X := fun (j : Nat) (hj : j < qx) => (show ∃ b off, a = some ⟨b, off, none⟩ ∧ b < W.heap.size ∧ W.cell? ⟨b, off + j, none⟩ = some (.int .i64 (x.getD j 0)) from k1.ints hj)
 have Y := fun (j : Nat) (hj : j < qy) => (show ∃ b' off, b = some ⟨b', off, none⟩ ∧ b' < W.heap.size ∧ W.cell? ⟨b', off + j, none⟩ = some (.int .i64 (y.getD j 0)) from k2.ints hj)
 have S := fun (j : Nat) (h1 : j < qx) (h2 : j < qy) => cmpL_step (x := x) (y := y) (j := j) (by omega) (by omega)
 have M := fun (j : Nat) (h1 : j < qx) (h2 : qy ≤ j) => cmpL_more (x := x) (y := y) (j := j) (by omega) (by omega)
 have L := fun (h2 : qx < qy) => cmpL_less (x := x) (y := y) (j := qx) (by omega) (by omega)
 have E := fun (h2 : qy ≤ qx) => cmpL_end (x := x) (y := y) (j := qx) (by omega) (by omega)
 have e0 : cmpL x y = cmpL (x.drop 0) (y.drop 0) := by simp
 have CI := fun (u v : Int) W => cmp_int u v W
 rw [e0]
 obtain ⟨R, hR⟩ : ∃ R : Nat → Int, R = fun j => cmpL (x.drop j) (y.drop j) := ⟨_, rfl⟩
 have hR' : ∀ j, cmpL (x.drop j) (y.drop j) = R j := fun j => by rw [hR]
 simp only [hR'] at S M L E ⊢
 clear k1 k2 hR hR' e0
 generalize x.getD = gx at *
 generalize y.getD = gy at *
 clear hx hy
 replace X := gi X; replace Y := gi Y; replace S := gi S; replace M := gi M; replace L := gi L; replace E := gi E; replace CI := gi CI
 go_enter Tryz.func56, Tryz.ntmps56
 go_wp2_with fail
 go_loopw [11] (fun i wr => ∃ j : Nat, i = .int .i64 j ∧ j ≤ qx ∧ j ≤ qy ∧ R j = R 0 ∧ wr = W) (fun i _ => qx - (intOf i).toNat)
 case atStart => exact ⟨0, rfl, by omega, by omega, by trivial, by trivial⟩
 case round =>
  obtain ⟨j, rfl, hj, hj2, hRj, rfl⟩ := hrel
  by_cases h1 : j < qx
  · obtain ⟨b1, o1, rfl, l1, c1⟩ := X.out j h1
    by_cases h2 : j < qy
    · obtain ⟨b2, o2, rfl, l2, c2⟩ := Y.out j h2
      have Sj := S.out j h1 h2
      have CJ := fun W => CI.out (gx j 0) (gy j 0) W
      generalize gx j 0 = u at *
      generalize gy j 0 = v at *
      generalize Lib.compareInt u v = r at *
      have h3 : ((qy : Int) ≤ j) = False := by simp; omega
      have h3' : ¬ qy ≤ j := by omega
      replace Sj := gi Sj; replace CJ := gi CJ; replace hRj := gi hRj
      go_wp2_with fail
      refine (CJ.out _).mono ?_
      rintro e w1 ⟨rfl, rfl⟩
      by_cases h0 : r = 0
      · subst h0
        have S2 := Sj.out
        rw [if_neg (by simp)] at S2
        clear h3 h3'
        go_wp2_with fail
        go_roundw
        case rel => exact ⟨j + 1, by simp, by omega, by omega, by rw [← S2]; exact hRj.out, by trivial⟩
        case measure => simp [intOf]; omega
      · have h0' : (r == 0) = false := by simpa using h0
        have S2 := Sj.out
        rw [if_pos h0, hRj.out] at S2
        replace h0 := gi h0; replace S2 := gi S2
        go_wp2_with fail
        go_ret
        exact ⟨by rw [S2.out]; rfl, rfl⟩
    · have Mj := M.out j h1 (by omega)
      rw [hRj] at Mj
      have h3 : ((qy : Int) ≤ j) = True := by simp; omega
      have h3' : qy ≤ j := by omega
      replace Mj := gi Mj; replace hRj := gi hRj
      go_wp2_with fail
      go_ret
      exact ⟨by rw [Mj.out]; rfl, rfl⟩
  · obtain rfl : j = qx := by omega
    by_cases h2 : j < qy
    · have Lj := L.out h2
      rw [hRj] at Lj
      replace Lj := gi Lj; replace hRj := gi hRj
      go_wp2_with fail
      go_ret
      exact ⟨by rw [Lj.out]; rfl, rfl⟩
    · have Ej := E.out (by omega)
      rw [hRj] at Ej
      replace Ej := gi Ej; replace hRj := gi hRj
      go_wp2_with fail
      go_ret
      exact ⟨by rw [Ej.out]; rfl, rfl⟩
theorem enter_cmpL (args : Array Value) (W : World) : (callFunc 56 args).run Tryz.prog W = .ok (.enter 56 args) W := by kernel_rfl
def cfI (gs : List Grp) (i j : Fin gs.length) : Int := cmpL gs[i].l gs[j].l
def encI (gs : List Grp) (i : Fin gs.length) : Value := gs[i].v
theorem cfI_swo (gs : List Grp) : SWO (ltOf (cfI gs)) where
 irrefl x := by unfold ltOf cfI; rw [cmpL_self]; simp
 trans x y z h1 h2 := by
  unfold ltOf cfI at *
  simp only [decide_eq_true_eq] at *
  exact cmpL_trans _ _ _ h1 h2
 ntrans x y z h1 h2 := by
  unfold ltOf cfI at *
  simp only [decide_eq_false_iff_not] at *
  intro h3
  have n1 := cmpL_neg gs[x].l gs[y].l
  have n2 := cmpL_neg gs[y].l gs[z].l
  have n3 := cmpL_neg gs[x].l gs[z].l
  by_cases e1 : cmpL gs[x].l gs[y].l = 0
  · rw [cmpL_eq _ _ e1] at h3
    exact h2 h3
  · have := cmpL_trans gs[y].l gs[x].l gs[z].l (by omega) h3
    exact h2 this
theorem putI_get {gs : List Grp} (cur : Array Value) (d : Array (Fin gs.length)) [Inhabited (Fin gs.length)] (hd : d.size ≤ cur.size) : (putCells (encI gs) 0 d cur).toList.take d.size = (d.toList.map fun i => gs[i]).map Grp.v := by
 rw [List.map_map]
 apply List.ext_getElem?
 intro j
 by_cases hj : j < d.size
 · rw [List.getElem?_take_of_lt hj, Array.getElem?_toList]
   simp [putCells, hj, show j < cur.size by omega, encI]
 · rw [List.getElem?_take_eq_none (by omega), List.getElem?_eq_none (by simp; omega)]
theorem heapI {gs : List Grp} [Inhabited (Fin gs.length)] {w : World} {g n : Nat} {os : Array Obj} {cur : Array Value} {e : TypeId} (d : Array (Fin gs.length)) (hb : w.heap[g]? = some (.cells cur e (0, 0))) :
 (sortWorld (encI gs) w g 0 n d os).heap[g]? = some (.cells (putCells (encI gs) 0 d cur) e (0, 0)) := by
 have hg : g < w.heap.size := (Array.getElem?_eq_some_iff.1 hb).1
 unfold sortWorld
 rw [heap_grow_old _ _ (by simpa using hg)]
 simp [putRow, mapBlock, Sort.ahead, Array.getElem?_modify, hb, onCells]
theorem grownI {gs : List Grp} [Inhabited (Fin gs.length)] {w : World} {g n : Nat} {os : Array Obj} (d : Array (Fin gs.length)) : w.grownBy (sortWorld (encI gs) w g 0 n d os) (some g) := by
 unfold sortWorld
 refine ⟨rfl, rfl, rfl, by simp, fun k hk hne => ?_⟩
 rw [heap_grow_old _ _ (by simpa using hk)]
 have : g ≠ k := fun e => hne (by rw [e])
 simp [putRow, mapBlock, Sort.ahead, Array.getElem?_modify, this]
theorem frI {gs : List Grp} [Inhabited (Fin gs.length)] {w : World} {g n : Nat} {os : Array Obj} (d : Array (Fin gs.length)) : Fr (fun k => k = g) w (sortWorld (encI gs) w g 0 n d os) := by
 have hs := grownI (w := w) (g := g) (n := n) (os := os) d
 exact ⟨hs.os, hs.tape, hs.output, hs.size, fun k hk hkg => hs.block k hk (by simp; omega)⟩
theorem holdsI {gs : List Grp} [Inhabited (Fin gs.length)] {w : World} {g : Nat} {cur : Array Value} {e : TypeId} (hb : w.heap[g]? = some (.cells cur e (0, 0))) (ht : cur.toList.take gs.length = gs.map Grp.v) : Holds (encI gs) w g 0 (List.finRange gs.length).toArray := by
 intro j hj
 have hj' : j < gs.length := by simpa using hj
 refine ⟨?_, by simp [World.frozen?, hb]⟩
 have h1 : (cur.toList.take gs.length)[j]? = (gs.map Grp.v)[j]? := by rw [ht]
 rw [List.getElem?_take_of_lt hj'] at h1
 simp only [World.cell?, hb, Nat.zero_add]
 simp only [Option.isSome_none, Bool.false_eq_true, if_false]
 rw [← Array.getElem?_toList, h1]
 simp [hj', encI]
theorem grpv_one (g : Grp) : g.v.oneCell' = true := rfl
theorem sort_tg (gs : List Grp) (T : List (List Int)) (base k c : Nat) (a : Option Addr) (w : World) (h : TG base w a k c gs) (hk : k < 1000000) (hp : (lst gs).Perm T) (hT : T.Pairwise fun x y => cmpL x y < 0) :
 Calls Tryz.prog 55 #[.slice a k c, .func (.func 56) #[] #[]] w fun e w' => e = .returned (.tuple #[]) ∧
  ∃ gs', lst gs' = T ∧ TG base w' a k c gs' ∧ Grew (fun _ => False) w w' (.slice a k c) (.slice a k c) := by
 have hlen := h.len
 subst hlen
 rcases h.own.2 with ⟨hnil, hz⟩ | ⟨g, c', cur, he, hbase, hb, h1, h2, h3, h4⟩
 · simp only [Value.slice.injEq] at hnil
   obtain ⟨rfl, _, rfl⟩ := hnil
   have hz0 : gs = [] := List.length_eq_zero_iff.1 hz
   subst hz0
   refine (show Calls Tryz.prog 55 _ w _ from AnyF.slices_SortFunc_none { Tryz.sortLs with } none 0 (.func (.func 56) #[] #[]) w).mono ?_
   rintro e w' ⟨rfl, rfl⟩
   have hT0 : T = [] := by simpa [lst] using hp
   exact ⟨rfl, [], by rw [hT0]; rfl, h, Grew.refl _ _ _⟩
 · cases he
   by_cases hn0 : gs.length = 0
   · have hz0 : gs = [] := List.length_eq_zero_iff.1 hn0
     subst hz0
     refine (show Calls Tryz.prog 55 _ w _ from AnyF.slices_SortFunc_none { Tryz.sortLs with } (some ⟨g, 0, none⟩) c (.func (.func 56) #[] #[]) w).mono ?_
     rintro e w' ⟨rfl, rfl⟩
     have hT0 : T = [] := by simpa [lst] using hp
     exact ⟨rfl, [], by rw [hT0]; rfl, h, Grew.refl _ _ _⟩
   · letI : Inhabited (Fin gs.length) := ⟨⟨0, by omega⟩⟩
     have hd : (List.finRange gs.length).toArray.size = gs.length := by simp
     have hnd : (lst gs).Nodup := hp.nodup_iff.2 (List.nodup_iff_pairwise_ne.2 (hT.imp fun {x y} hxy e => by rw [e, cmpL_self] at hxy; omega))
     have hel : ∀ x ∈ gs, ∀ W, Fr (fun k => k = g) w W → SliceAt W 3 1 x.v x.l.length (gw x.l) := fun x hx W hf => (h.el x hx).fr hf (fun i cur' hi e => by
      rw [show i = g from e, hb] at hi
      simp at hi)
     have hcmp : CmpLays1 Tryz.prog 56 #[] (encI gs) (cfI gs) g 0 (List.finRange gs.length).toArray.size w := by
      intro m os dk hdk x y
      have f := frI (w := w) (g := g) (n := m) (os := os) dk
      have kx := (hel gs[x] (List.getElem_mem _) _ f).row
      have ky := (hel gs[y] (List.getElem_mem _) _ f).row
      refine (compareL gs[x].l gs[y].l _ _ rfl rfl gs[x].a gs[y].a gs[x].cap gs[y].cap _ kx ky).mono ?_
      rintro e w' ⟨rfl, rfl⟩
      exact ⟨rfl, 0, #[], by rw [grow_empty]; rfl⟩
     have SF := Any.slices_SortFunc_total Tryz.sortLs (encI gs) (fun x => grpv_one _) (cfI gs) (cfI_swo gs) 56 #[] g 0 c (List.finRange gs.length).toArray w enter_cmpL hcmp (holdsI hb (by simpa using h4)) (gu hb) (by rw [hd]; omega) (fun x y e1 e2 => by
      unfold ltOf cfI at e1 e2
      simp only [decide_eq_false_iff_not] at e1 e2
      have n1 := cmpL_neg gs[x].l gs[y].l
      have e3 := cmpL_eq gs[x].l gs[y].l (by omega)
      have hne := List.pairwise_iff_getElem.1 (List.nodup_iff_pairwise_ne.1 hnd)
      have key : ∀ u v : Fin gs.length, gs[u].l = gs[v].l → ¬ u.val < v.val := fun u v e hlt => hne u.val v.val (by rw [lst_len]; exact u.isLt) (by rw [lst_len]; exact v.isLt) hlt (by rw [lst_get gs u.isLt, lst_get gs v.isLt]; exact e)
      have k1 := key x y e3
      have k2 := key y x e3.symm
      exact Fin.ext (by omega))
     rw [hd] at SF
     refine SF.mono ?_
     rintro e w' ⟨rfl, n, os, rfl⟩
     obtain ⟨D, hD⟩ : ∃ D, D = (List.finRange gs.length).mergeSort fun x y => !(ltOf (cfI gs)) y x := ⟨_, rfl⟩
     have hDp : D.Perm (List.finRange gs.length) := hD ▸ List.mergeSort_perm _ _
     have hDs : D.Pairwise fun x y => (!(ltOf (cfI gs)) y x) = true := by
      rw [hD]
      refine List.pairwise_mergeSort (fun a b c q1 q2 => ?_) (fun a b => ?_) _
      · simp only [Bool.not_eq_true'] at *
        exact (cfI_swo gs).ntrans _ _ _ q2 q1
      · unfold ltOf cfI
        have n1 := cmpL_neg gs[a].l gs[b].l
        simp only [Bool.or_eq_true, Bool.not_eq_true', decide_eq_false_iff_not]
        omega
     have hDl : D.length = gs.length := by rw [hDp.length_eq]; simp
     have hgp : (D.map fun i => gs[i]).Perm gs := by
      have h5 := hDp.map (fun i : Fin gs.length => gs[i])
      have h6 : ((List.finRange gs.length).map fun i : Fin gs.length => gs[i]) = gs := by
       apply List.ext_getElem
       · simp
       · intro i h1 h2; simp
      rwa [h6] at h5
     have hout : lst (D.map fun i => gs[i]) = T := by
      refine List.Perm.eq_of_pairwise (le := fun x y => cmpL y x ≥ 0) (fun x y _ _ q1 q2 => ?_) ?_ (hT.imp fun {x y} q => by have := cmpL_neg x y; omega) ((hgp.map Grp.l).trans hp)
      · have n1 := cmpL_neg x y
        exact cmpL_eq _ _ (by omega)
      · unfold lst
        rw [List.map_map, List.pairwise_map]
        refine hDs.imp (fun {x y} q => ?_)
        unfold ltOf cfI at q
        simp only [Bool.not_eq_true', decide_eq_false_iff_not] at q
        show cmpL gs[y].l gs[x].l ≥ 0
        omega
     rw [← hD]
     have hcs : gs.length ≤ cur.size := by
      have := congrArg List.length h4
      simp at this
      omega
     have hput := putI_get (gs := gs) cur D.toArray (by simp [hDl]; exact hcs)
     refine ⟨rfl, D.map fun i => gs[i], hout, ⟨by simp [hDl], ⟨by simp [hDl], .inr ⟨g, c, _, rfl, hbase, heapI _ hb, h1, h2, by simp [putCells, h3], ?_⟩⟩, fun x hx => hel x (hgp.mem_iff.1 hx) _ (frI _)⟩, (Fr.refl _ _).grown (grownI _) (fun k hk _ => .inl (by rw [← hk]; rfl)), fun k hk => .inl hk⟩
     simp only [Nat.mul_one]
     rw [← hput]
     simp [hDl]
end Go.Proofs.YtcipnkemnepbaaaGreat
namespace Go.Proofs.YtcipnkemnepbaaaGreat
open Go.RowKit
theorem idxG_any (gs : List Grp) (p : List Int → Bool) (F : FuncId) (cs : Array Value) (a : Option Addr) (k cap : Nat) (w : World) (hG : GsAt w (.slice a k cap) k gs)
 (ent : ∀ (args : Array Value) (W : World), (callFunc F args).run Tryz.prog W = .ok (.enter F args) W) (hk9 : k ≤ 1000000)
 (HC : ∀ g ∈ gs, ∀ W, Same w W → Calls Tryz.prog F (#[.slice g.a g.l.length g.cap] ++ cs) W fun e W' => e = .returned (.bool (p g.l)) ∧ Same W W') :
 Calls Tryz.prog 60 #[.slice a k cap, .func (.func F) #[] cs] w fun e w' => ∃ r : Int, e = .returned (.int .i64 r) ∧ decide (0 ≤ r) = (lst gs).any p ∧ Same w w' := by
 have hlen := hG.len
 have hrow := fun (j : Nat) (hj : j < gs.length) W (hW : Same w W) => (hG.same hW).get hj
 have HC' := fun (j : Nat) (hj : j < gs.length) W (hW : Same w W) => HC gs[j] (List.getElem_mem hj) W hW
 have hst : ∀ j (hj : j < gs.length), ((lst gs).take (j + 1)).any p = (((lst gs).take j).any p || p gs[j].l) := fun j hj => by
  have h2 : j < (lst gs).length := by rw [lst_len]; exact hj
  rw [List.take_succ_eq_append_getElem h2, List.any_append, lst_get gs hj]
  simp
 have hyes : ∀ j (hj : j < gs.length), p gs[j].l = true → (lst gs).any p = true := fun j hj h => List.any_eq_true.2 ⟨gs[j].l, List.mem_map.2 ⟨gs[j], List.getElem_mem hj, rfl⟩, h⟩
 have hend : ((lst gs).take k).any p = (lst gs).any p := by rw [List.take_of_length_le (by rw [lst_len]; omega)]
 have hlt : ∀ j, j < k → j < gs.length := fun j h => hlen ▸ h
 obtain ⟨AN, hAN⟩ : ∃ f : Nat → Bool, f = fun j => ((lst gs).take j).any p := ⟨_, rfl⟩
 have hA0 : AN 0 = false := by rw [hAN]; rfl
 have hAs : ∀ j (hj : j < gs.length), AN (j + 1) = (AN j || p gs[j].l) := fun j hj => by rw [hAN]; exact hst j hj
 have hAe : AN k = (lst gs).any p := by rw [hAN]; exact hend
 clear HC hG hst hend hAN hlen
 generalize (lst gs).any p = R at *
 replace hrow := gi hrow; replace HC' := gi HC'; replace hyes := gi hyes; replace hlt := gi hlt; replace hA0 := gi hA0; replace hAs := gi hAs; replace hAe := gi hAe
 go_enter Tryz.func60, Tryz.ntmps60
 go_wp2_with fail
 go_loopw [5, 8] (fun _ i wr => ∃ j : Nat, i = .int .i64 j ∧ j ≤ k ∧ AN j = false ∧ Same w wr) (fun _ i _ => k - (intOf i).toNat)
 case atStart => exact ⟨0, rfl, by omega, hA0.out, Fr.refl _ _⟩
 case round =>
  obtain ⟨j, rfl, hj, hno, hs⟩ := hrel
  by_cases hjk : j < k
  · obtain ⟨b, off, rfl, hb, c0, _⟩ := hrow.out j (hlt.out j hjk) _ hs
    have HCj := HC'.out j (hlt.out j hjk) _ hs
    have hyj := hyes.out j (hlt.out j hjk)
    have hsj := hAs.out j (hlt.out j hjk)
    generalize gs[j]'(hlt.out j hjk) = g at *
    generalize p g.l = r at *
    replace hno := gi hno; replace hs := gi hs; replace HCj := gi HCj; replace hyj := gi hyj; replace hsj := gi hsj
    go_wp2_with fail
    refine HCj.out.mono ?_
    rintro e w2 ⟨rfl, sP⟩
    have hs2 := hs.out.same sP
    clear sP c0
    replace hs2 := gi hs2
    cases r
    · go_wp2_with fail
      go_roundw
      case rel => exact ⟨j + 1, by go_num, by omega, by rw [hsj.out, hno.out]; rfl, hs2.out⟩
      case measure => simp [intOf]; omega
    · go_wp2_with fail
      go_ret
      exact ⟨j, rfl, by rw [hyj.out (by simp)]; simp, hs2.out⟩
  · obtain rfl : j = k := by omega
    replace hno := gi hno; replace hs := gi hs
    go_wp2_with fail
    go_ret
    exact ⟨-1, rfl, by rw [← hAe.out, hno.out]; rfl, hs.out⟩
theorem containsG_any (gs : List Grp) (p : List Int → Bool) (F : FuncId) (cs : Array Value) (a : Option Addr) (k cap : Nat) (w : World) (hG : GsAt w (.slice a k cap) k gs)
 (ent : ∀ (args : Array Value) (W : World), (callFunc F args).run Tryz.prog W = .ok (.enter F args) W) (hk9 : k ≤ 1000000)
 (HC : ∀ g ∈ gs, ∀ W, Same w W → Calls Tryz.prog F (#[.slice g.a g.l.length g.cap] ++ cs) W fun e W' => e = .returned (.bool (p g.l)) ∧ Same W W') :
 Calls Tryz.prog 29 #[.slice a k cap, .func (.func F) #[] cs] w fun e w' => e = .returned (.bool ((lst gs).any p)) ∧ Same w w' := by
 have IX := idxG_any gs p F cs a k cap w hG ent hk9 HC
 clear HC hG
 generalize (lst gs).any p = R at *
 replace IX := gi IX
 go_enter Tryz.func29, Tryz.ntmps29
 go_wp2_with fail
 refine IX.out.mono ?_
 rintro e w2 ⟨r, rfl, hr, hs⟩
 by_cases h0 : 0 ≤ r
 · rw [decide_eq_true h0] at hr
   subst hr
   replace hs := gi hs
   go_wp2_with fail
   go_ret
   exact ⟨rfl, hs.out⟩
 · rw [decide_eq_false h0] at hr
   subst hr
   have h0' : (0 ≤ r) = False := by simpa using h0
   replace hs := gi hs
   go_wp2_with fail
   go_ret
   exact ⟨rfl, hs.out⟩
end Go.Proofs.YtcipnkemnepbaaaGreat
