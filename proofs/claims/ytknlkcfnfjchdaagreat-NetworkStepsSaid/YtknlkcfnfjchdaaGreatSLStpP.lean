/- The law of package network: what step computes, plain. The law of package network: step walked. The law of package network: bits, all, number, code walked. The closures of a network's steps, by tuples: they do not depend on the order (plain). package network: Count, Enabled, Blocked walked. package network: measured, Count walked. -/
import Derived.Test.YtknlkcfnfjchdaaGreatSNetT
import Derived.Test.YtknlkcfnfjchdaaGreatSNetM
import Derived.Test.YtknlkcfnfjchdaaGreatSGrpW
namespace Go.Proofs.YtknlkcfnfjchdaaGreat
open Go.RowKit
set_option linter.unusedVariables false
set_option linter.unusedSimpArgs false

/-- The error of a set of v variables with a table. -/
def Nw.mErr (N : Nw) (v : Nat) (t : List Bool) : Int := if v ≠ N.all then 4 else if ite3 t (N.set (okT N.ns)) (fls N.all) = t then 0 else 2
def MeE (N : Nw) (E : Int) (w : World) (e : Ending) (w' : World) : Prop :=
  (E ≠ 0 ∧ e = .returned (.tuple #[.agg #[.slice none 0 0, .slice none 0 0, .int .i64 0, .bool false], .int .i64 E]) ∧ Same w w') ∨
  (E = 0 ∧ ∃ aT aB cT cB, e = .returned (.tuple #[.agg #[.slice aT N.As.length cT, .slice aB N.As.length cB, .int .i64 N.all, .bool N.emp], .int .i64 0]) ∧ LyAt N aT aB cT cB w' ∧ Same w w')

set_option maxRecDepth 100000 in
set_option maxHeartbeats 8000000 in
theorem measured_net (N : Nw) (OK : NetOk N) (d : Dg) (v : Nat) (t : List Bool) (w : World) (hat : N.at w) (hd : d.at w) (T : d.tab v t) :
    Calls Tryz.prog 101 #[.agg #[.slice N.aA N.As.length N.cA, .slice N.aO N.o.length N.cO], .agg #[.int .i64 d.n, .slice d.a d.L.length d.cap, .int .i64 d.r]] w (MeE N (N.mErr v t) w) := by
  have h10 := OK.h10
  have PL := fun W (hW : Same w W) => OK.place W (hat.same hW)
  have CK := fun W (hW : Same w W) => check_tab d v t W (SliceAt.same hd hW) T
  have VA := fun aT aB cT cB W (hW : Same w W) (hly : LyAt N aT aB cT cB W) => valid_any N OK aT aB cT cB W (hat.same hW) hly
  obtain ⟨V, hV⟩ : ∃ V, V = N.set (okT N.ns) := ⟨_, rfl⟩
  have hVl : V.length = 2 ^ N.all := by rw [hV]; exact tupT_len _ _ _ _ _
  have hE1 : v ≠ N.all → N.mErr v t = 4 := fun h => by unfold Nw.mErr; rw [if_pos h]
  have hE2 : v = N.all → ite3 t V (fls N.all) = t → N.mErr v t = 0 := fun h h2 => by unfold Nw.mErr; rw [if_neg (by simpa using h), ← hV, if_pos h2]
  have hE3 : v = N.all → ¬ ite3 t V (fls N.all) = t → N.mErr v t = 2 := fun h h2 => by unfold Nw.mErr; rw [if_neg (by simpa using h), ← hV, if_neg h2]
  rw [← hV] at VA
  have AN := fun (d2 : Dg) (h : v = N.all) W (hW : Same w W) (h2 : d2.at W) (T2 : d2.tab N.all V) => And_big (n := N.all) (by omega) (SliceAt.same hd hW) h2 (h ▸ T) T2 (short14 (by omega) (ite3_len (by rw [← h]; exact T.2.len) hVl (fls_len _)))
  have EQ := fun (d2 : Dg) (h : v = N.all) W (hW : Same w W) (h2 : d2.at W) (T2 : d2.tab N.all (ite3 t V (fls N.all))) => equal_dg (d' := d) h2 (SliceAt.same hd hW) T2 (h ▸ T)
  have hdn := T.1
  have hb4 : N.mErr v t ≠ 0 → ∀ w', Same w w' → MeE N (N.mErr v t) w (.returned (.tuple #[.agg #[.slice none 0 0, .slice none 0 0, .int .i64 0, .bool false], .int .i64 (N.mErr v t)])) w' := fun h w' hs => .inl ⟨h, rfl, hs⟩
  have hgd : N.mErr v t = 0 → ∀ aT aB cT cB w', LyAt N aT aB cT cB w' → Same w w' → MeE N (N.mErr v t) w (.returned (.tuple #[.agg #[.slice aT N.As.length cT, .slice aB N.As.length cB, .int .i64 N.all, .bool N.emp], .int .i64 0])) w' := fun h aT aB cT cB w' h1 h2 => .inr ⟨h, aT, aB, cT, cB, rfl, h1, h2⟩
  simp only [Dg.v] at CK AN EQ
  rw [hdn] at CK AN EQ ⊢
  generalize ite3 t V (fls N.all) = t2 at *
  generalize d.a = da at *
  generalize d.L.length = dq at *
  generalize d.cap = dc at *
  generalize d.r = dr at *
  obtain ⟨Q, hQ⟩ : ∃ Q, Q = MeE N (N.mErr v t) w := ⟨_, rfl⟩
  rw [← hQ] at hb4 hgd ⊢
  clear hd T hdn hV hVl hQ
  generalize N.mErr v t = EE at *
  clear hat OK
  generalize N.all = n at *
  generalize N.emp = em at *
  generalize N.As.length = m at *
  generalize N.o.length = qo at *
  generalize N.aA = aA at *
  generalize N.cA = cA at *
  generalize N.aO = aO at *
  generalize N.cO = cO at *
  replace PL := Lib.hid PL; replace CK := Lib.hid CK; replace VA := Lib.hid VA; replace AN := Lib.hid AN; replace EQ := Lib.hid EQ; replace hE1 := Lib.hid hE1; replace hE2 := Lib.hid hE2; replace hE3 := Lib.hid hE3; replace hb4 := Lib.hid hb4; replace hgd := Lib.hid hgd
  go_enter Tryz.func101, Tryz.ntmps101
  go_upto_region 1 with fail
  have kn := heap_old (heap_old (heap_new w (.cells #[.slice aA m cA, .slice aO qo cO] 36)) (.cells #[.int .i64 v, .slice da dq dc, .int .i64 dr] 54)) (.cells #[.slice none 0 0, .slice none 0 0, .int .i64 0, .bool false] 124)
  have kf := heap_old (heap_new (w.alloc (.cells #[.slice aA m cA, .slice aO qo cO] 36)) (.cells #[.int .i64 v, .slice da dq dc, .int .i64 dr] 54)) (.cells #[.slice none 0 0, .slice none 0 0, .int .i64 0, .bool false] 124)
  have kr := heap_new ((w.alloc (.cells #[.slice aA m cA, .slice aO qo cO] 36)).alloc (.cells #[.int .i64 v, .slice da dq dc, .int .i64 dr] 54)) (.cells #[.slice none 0 0, .slice none 0 0, .int .i64 0, .bool false] 124)
  rw [← al1] at kf
  rw [← al2] at kr
  have hs : Same w (((w.alloc (.cells #[.slice aA m cA, .slice aO qo cO] 36)).alloc (.cells #[.int .i64 v, .slice da dq dc, .int .i64 dr] 54)).alloc (.cells #[.slice none 0 0, .slice none 0 0, .int .i64 0, .bool false] 124)) := fs2
  generalize ((w.alloc (.cells #[.slice aA m cA, .slice aO qo cO] 36)).alloc (.cells #[.int .i64 v, .slice da dq dc, .int .i64 dr] 54)).alloc (.cells #[.slice none 0 0, .slice none 0 0, .int .i64 0, .bool false] 124) = W0 at *
  replace kn := Lib.hid kn; replace kf := Lib.hid kf; replace kr := Lib.hid kr; replace hs := Lib.hid hs
  have y0 := cell_at kn.out 0
  have y1 := cell_at kn.out 1
  have yl := lt_of_heap kn.out
  go_wp2_with fail
  refine (PL.out _ hs.out).mono ?_
  rintro e w1 ⟨aT, aB, cT, cB, rfl, hly, s1⟩
  clear y0 y1 yl
  have hbl : w.heap.size + 1 + 1 < w1.heap.size := by have h9 := lt_of_heap kr.out; have h8 := s1.size; omega
  replace kn := Lib.hid (s1.at kn.out id); replace kr := Lib.hid (s1.at kr.out id); replace kf := Lib.hid (s1.at kf.out id)
  have hs1 := hs.out.same s1
  clear s1 hs
  replace hly := Lib.hid hly; replace hs1 := Lib.hid hs1
  go_upto_region 2 with fail
  have kl := heap_new w1 (.cells #[.slice aT m cT, .slice aB m cB, .int .i64 n, .bool em] 124)
  have s2 : Same w1 (w1.alloc (.cells #[.slice aT m cT, .slice aB m cB, .int .i64 n, .bool em] 124)) := fs2
  have hly2 := hly.out.same s2
  replace kn := Lib.hid (s2.at kn.out id); replace kr := Lib.hid (s2.at kr.out id); replace kf := Lib.hid (s2.at kf.out id)
  have hs2 := hs1.out.same s2
  clear s2 hly hs1
  generalize w1.alloc (.cells #[.slice aT m cT, .slice aB m cB, .int .i64 n, .bool em] 124) = W1 at *
  generalize w1.heap.size = bl at *
  replace kl := Lib.hid kl; replace hly2 := Lib.hid hly2; replace hs2 := Lib.hid hs2
  have x0 := cell_at kf.out 0
  have x1 := cell_at kf.out 1
  have x2 := cell_at kf.out 2
  have xl := lt_of_heap kf.out
  go_upto_region 4 with fail
  go_wp2_with fail
  refine (CK.out _ hs2.out).mono ?_
  rintro e w3 ⟨rfl, s3⟩
  clear x0 x1 x2 xl
  replace kn := Lib.hid (s3.at kn.out id); replace kr := Lib.hid (s3.at kr.out id); replace kf := Lib.hid (s3.at kf.out id); replace kl := Lib.hid (s3.at kl.out id)
  have hly3 := hly2.out.same s3
  have hs3 := hs2.out.same s3
  clear s3 hly2 hs2
  replace hly3 := Lib.hid hly3; replace hs3 := Lib.hid hs3
  by_cases hvn : v = n
  · have hVA := VA.out
    have hAN := fun d2 => AN.out d2 hvn
    have hEQ := fun d2 => EQ.out d2 hvn
    have hb1 : ((v : Int) != (n : Int)) = false := by simp; omega
    replace hVA := Lib.hid hVA; replace hAN := Lib.hid hAN; replace hEQ := Lib.hid hEQ; replace hvn := Lib.hid hvn
    clear VA AN EQ
    have z0 := cell_at kl.out 0
    have z1 := cell_at kl.out 1
    have z2 := cell_at kl.out 2
    have z3 := cell_at kl.out 3
    have zl := lt_of_heap kl.out
    have x0 := cell_at kf.out 0
    have x1 := cell_at kf.out 1
    have x2 := cell_at kf.out 2
    have xl := lt_of_heap kf.out
    have y0 := cell_at kn.out 0
    have y1 := cell_at kn.out 1
    have yl := lt_of_heap kn.out
    go_upto_region 9 with fail
    go_wp2_with fail
    refine (hVA.out _ _ _ _ _ hs3.out hly3.out).mono ?_
    intro e w4 hM
    obtain ⟨a4, c4, L4, r4, rfl, d4, t4, s4⟩ := hM.open
    clear z0 z1 z2 z3 zl
    clear x0 x1 x2 xl
    clear y0 y1 yl
    have hb4' : bl < w4.heap.size := by have h9 := lt_of_heap kl.out; have h8 := s4.size; omega
    replace kr := Lib.hid (s4.at kr.out id); replace kf := Lib.hid (s4.at kf.out id); replace kl := Lib.hid (s4.at kl.out id)
    have hly4 := hly3.out.same s4
    have hs4 := hs3.out.same s4
    clear hM s4 hs3 kn hly3
    replace d4 := Lib.hid d4; replace t4 := Lib.hid t4; replace hs4 := Lib.hid hs4; replace hly4 := Lib.hid hly4
    go_upto_region 10 with fail
    have k5 := heap_new w4 (.cells #[.int .i64 n, .slice a4 L4.length c4, .int .i64 r4] 54)
    have s5 : Same w4 (w4.alloc (.cells #[.int .i64 n, .slice a4 L4.length c4, .int .i64 r4] 54)) := fs2
    generalize w4.alloc (.cells #[.int .i64 n, .slice a4 L4.length c4, .int .i64 r4] 54) = W5 at *
    replace d4 := Lib.hid (d4.out.same s5); replace kr := Lib.hid (s5.at kr.out id); replace kf := Lib.hid (s5.at kf.out id); replace kl := Lib.hid (s5.at kl.out id)
    have hly5 := hly4.out.same s5
    have hs5 := hs4.out.same s5
    clear s5 hs4 hly4
    generalize w4.heap.size = b5 at *
    replace k5 := Lib.hid k5; replace hs5 := Lib.hid hs5; replace hly5 := Lib.hid hly5
    have x0 := cell_at kf.out 0
    have x1 := cell_at kf.out 1
    have x2 := cell_at kf.out 2
    have xl := lt_of_heap kf.out
    have y0 := cell_at k5.out 0
    have y1 := cell_at k5.out 1
    have y2 := cell_at k5.out 2
    have yl := lt_of_heap k5.out
    go_upto_region 12 with fail
    go_wp2_with fail
    refine (hAN.out ⟨n, a4, c4, L4, r4⟩ _ hs5.out d4.out ⟨rfl, t4.out⟩).mono ?_
    intro e w6 hM
    obtain ⟨a6, c6, L6, r6, rfl, d6, t6, s6⟩ := hM.open
    clear x0 x1 x2 xl
    clear y0 y1 y2 yl
    have hb6 : b5 < w6.heap.size := by have h9 := lt_of_heap k5.out; have h8 := s6.size; omega
    replace kr := Lib.hid (s6.at kr.out id); replace kf := Lib.hid (s6.at kf.out id); replace kl := Lib.hid (s6.at kl.out id)
    have hly6 := hly5.out.same s6
    have hs6 := hs5.out.same s6
    clear hM s6 hs5 k5 d4 t4 hly5
    replace d6 := Lib.hid d6; replace t6 := Lib.hid t6; replace hs6 := Lib.hid hs6; replace hly6 := Lib.hid hly6
    go_upto_region 13 with fail
    have k7 := heap_new w6 (.cells #[.int .i64 n, .slice a6 L6.length c6, .int .i64 r6] 54)
    have s7 : Same w6 (w6.alloc (.cells #[.int .i64 n, .slice a6 L6.length c6, .int .i64 r6] 54)) := fs2
    generalize w6.alloc (.cells #[.int .i64 n, .slice a6 L6.length c6, .int .i64 r6] 54) = W7 at *
    replace d6 := Lib.hid (d6.out.same s7); replace kr := Lib.hid (s7.at kr.out id); replace kf := Lib.hid (s7.at kf.out id); replace kl := Lib.hid (s7.at kl.out id)
    have hly7 := hly6.out.same s7
    have hs7 := hs6.out.same s7
    clear s7 hs6 hly6
    generalize w6.heap.size = b7 at *
    replace k7 := Lib.hid k7; replace hs7 := Lib.hid hs7; replace hly7 := Lib.hid hly7
    have x0 := cell_at kf.out 0
    have x1 := cell_at kf.out 1
    have x2 := cell_at kf.out 2
    have xl := lt_of_heap kf.out
    have y0 := cell_at k7.out 0
    have y1 := cell_at k7.out 1
    have y2 := cell_at k7.out 2
    have yl := lt_of_heap k7.out
    go_upto_region 15 with fail
    go_wp2_with fail
    refine (hEQ.out ⟨n, a6, c6, L6, r6⟩ _ hs7.out d6.out ⟨rfl, t6.out⟩).mono ?_
    rintro e w8 ⟨rfl, s8⟩
    clear x0 x1 x2 xl
    clear y0 y1 y2 yl
    replace kr := Lib.hid (s8.at kr.out id); replace kl := Lib.hid (s8.at kl.out id)
    have hly8 := hly7.out.same s8
    have hs8 := hs7.out.same s8
    clear s8 hs7 kf k7 d6 t6 hly7
    replace hs8 := Lib.hid hs8; replace hly8 := Lib.hid hly8
    by_cases htt : t2 = t
    · have hE := hE2.out hvn.out htt
      rw [decide_eq_true htt]
      subst hE
      have hg := hgd.out rfl
      replace hg := Lib.hid hg; replace htt := Lib.hid htt
      have z0 := cell_at kl.out 0
      have z1 := cell_at kl.out 1
      have z2 := cell_at kl.out 2
      have z3 := cell_at kl.out 3
      have zl := lt_of_heap kl.out
      obtain ⟨q0, q1, q2, q3, g0, g1, g2, g3, ql⟩ := boxq_facts kr.out
      go_wp2_with fail
      obtain ⟨e0, e1, e2, e3, hsF, hF⟩ := ly_stored (u0 := .slice aT m cT) (u1 := .slice aB m cB) (u2 := .int .i64 n) (u3 := .bool em) hs8.out (by omega) kr.out
      refine bodyPost_ret (v := .tuple #[.agg #[.slice aT m cT, .slice aB m cB, .int .i64 n, .bool em], .int .i64 0]) (by simp [results, Tryz.results101, go_sem, e0, e1, e2, e3]) rfl ?_
      exact hg.out _ _ _ _ _ (hly8.out.box hF kr.out) hsF
    · have hE := hE3.out hvn.out htt
      rw [decide_eq_false htt]
      subst hE
      have hg := hb4.out (by decide)
      replace hg := Lib.hid hg; replace htt := Lib.hid htt
      obtain ⟨q0, q1, q2, q3, g0, g1, g2, g3, ql⟩ := boxq_facts kr.out
      go_wp2_with fail
      obtain ⟨e0, e1, e2, e3, hsF, hF⟩ := ly_stored (u0 := .slice none 0 0) (u1 := .slice none 0 0) (u2 := .int .i64 0) (u3 := .bool false) hs8.out (by omega) kr.out
      refine bodyPost_ret (v := .tuple #[.agg #[.slice none 0 0, .slice none 0 0, .int .i64 0, .bool false], .int .i64 2]) (by simp [results, Tryz.results101, go_sem, e0, e1, e2, e3]) rfl ?_
      exact hg.out _ hsF
  · have hE := hE1.out hvn
    subst hE
    have hg := hb4.out (by decide)
    have hb1 : ((v : Int) != (n : Int)) = true := by simp; omega
    replace hg := Lib.hid hg; replace hvn := Lib.hid hvn
    have z0 := cell_at kl.out 0
    have z1 := cell_at kl.out 1
    have z2 := cell_at kl.out 2
    have z3 := cell_at kl.out 3
    have zl := lt_of_heap kl.out
    have x0 := cell_at kf.out 0
    have x1 := cell_at kf.out 1
    have x2 := cell_at kf.out 2
    have xl := lt_of_heap kf.out
    obtain ⟨q0, q1, q2, q3, g0, g1, g2, g3, ql⟩ := boxq_facts kr.out
    go_wp2_with fail
    obtain ⟨e0, e1, e2, e3, hsF, hF⟩ := ly_stored (u0 := .slice none 0 0) (u1 := .slice none 0 0) (u2 := .int .i64 0) (u3 := .bool false) hs3.out (by omega) kr.out
    refine bodyPost_ret (v := .tuple #[.agg #[.slice none 0 0, .slice none 0 0, .int .i64 0, .bool false], .int .i64 4]) (by simp [results, Tryz.results101, go_sem, e0, e1, e2, e3]) rfl ?_
    exact hg.out _ hsF

/-- A diagram in its box. -/
structure Bd (W : World) (b n : Nat) (t : List Bool) (a : Option Addr) (c : Nat) (L : List Nd) (r : Int) : Prop where
  heap : W.heap[b]? = some (.cells #[.int .i64 n, .slice a L.length c, .int .i64 r] 54 (0, 0))
  at' : Dg.at W ⟨n, a, c, L, r⟩
  tab : IsTab n t L r
theorem Bd.same {W W' : World} {b n : Nat} {t : List Bool} {a : Option Addr} {c : Nat} {L : List Nd} {r : Int} (h : Bd W b n t a c L r) (hs : Same W W') : Bd W' b n t a c L r := ⟨hs.at h.heap id, SliceAt.same h.at' hs, h.tab⟩

set_option maxRecDepth 100000 in
set_option maxHeartbeats 4000000 in
theorem Count_net (N : Nw) (OK : NetOk N) (d : Dg) (v : Nat) (t : List Bool) (w : World) (hat : N.at w) (hd : d.at w) (T : d.tab v t) :
    Calls Tryz.prog 34 #[.agg #[.slice N.aA N.As.length N.cA, .slice N.aO N.o.length N.cO], .agg #[.int .i64 d.n, .slice d.a d.L.length d.cap, .int .i64 d.r]] w fun e w' => e = .returned (.tuple #[.int .i64 (if N.mErr v t = 0 then ((t.count true : Nat) : Int) else 0), .int .i64 (N.mErr v t)]) ∧ Same w w' := by
  have ME := fun W (hW : Same w W) => measured_net N OK d v t W (hat.same hW) (SliceAt.same hd hW) T
  have CT := fun W (hW : Same w W) => count_tab d v t W (SliceAt.same hd hW) T
  have hdn := T.1
  simp only [Dg.v] at CT
  rw [hdn] at ME CT ⊢
  generalize d.a = da at *
  generalize d.L.length = dq at *
  generalize d.cap = dc at *
  generalize d.r = dr at *
  obtain ⟨EE, hEE⟩ : ∃ EE, EE = N.mErr v t := ⟨_, rfl⟩
  rw [← hEE] at ME ⊢
  generalize t.count true = ct at *
  obtain ⟨cx, hcx⟩ : ∃ cx : Int, cx = if EE = 0 then (ct : Int) else 0 := ⟨_, rfl⟩
  rw [← hcx]
  clear hat hd T hdn OK hEE
  unfold MeE at ME
  generalize N.aA = aA at *
  generalize N.cA = cA at *
  generalize N.aO = aO at *
  generalize N.cO = cO at *
  generalize N.all = n at *
  generalize N.emp = em at *
  generalize hm : N.As.length = m at *
  generalize N.o.length = qo at *
  replace ME := Lib.hid ME; replace CT := Lib.hid CT; replace hcx := Lib.hid hcx
  go_enter Tryz.func34, Tryz.ntmps34
  go_upto_region 1 with fail
  have kn := heap_old (heap_new w (.cells #[.slice aA m cA, .slice aO qo cO] 36)) (.cells #[.int .i64 v, .slice da dq dc, .int .i64 dr] 54)
  have kf := heap_new (w.alloc (.cells #[.slice aA m cA, .slice aO qo cO] 36)) (.cells #[.int .i64 v, .slice da dq dc, .int .i64 dr] 54)
  rw [← al1] at kf
  have hs : Same w ((w.alloc (.cells #[.slice aA m cA, .slice aO qo cO] 36)).alloc (.cells #[.int .i64 v, .slice da dq dc, .int .i64 dr] 54)) := fs2
  generalize (w.alloc (.cells #[.slice aA m cA, .slice aO qo cO] 36)).alloc (.cells #[.int .i64 v, .slice da dq dc, .int .i64 dr] 54) = W0 at *
  replace kn := Lib.hid kn; replace kf := Lib.hid kf; replace hs := Lib.hid hs
  have y0 := cell_at kn.out 0
  have y1 := cell_at kn.out 1
  have yl := lt_of_heap kn.out
  have x0 := cell_at kf.out 0
  have x1 := cell_at kf.out 1
  have x2 := cell_at kf.out 2
  have xl := lt_of_heap kf.out
  go_wp2_with fail
  refine (ME.out _ hs.out).mono ?_
  intro e w1 hM
  clear y0 y1 yl
  clear x0 x1 x2 xl
  rcases hM with ⟨h0, rfl, s1⟩ | ⟨rfl, aT, aB, cT, cB, rfl, _, s1⟩
  · have hb : (EE != 0) = true := by simpa using h0
    have hs1 := hs.out.same s1
    obtain rfl : cx = 0 := by rw [hcx.out, if_neg h0]
    clear s1
    replace h0 := Lib.hid h0; replace hs1 := Lib.hid hs1
    go_wp2_with fail
    go_ret2
    exact ⟨rfl, hs1.out.same fs2⟩
  · replace kf := Lib.hid (s1.at kf.out id)
    have hs1 := hs.out.same s1
    clear s1
    obtain rfl : cx = (ct : Int) := by rw [hcx.out, if_pos rfl]
    replace hs1 := Lib.hid hs1
    go_upto_region 2 with fail
    have s2 : Same w1 (w1.alloc (.cells #[.slice aT m cT, .slice aB m cB, .int .i64 n, .bool em] 124)) := fs2
    replace kf := Lib.hid (s2.at kf.out id)
    have hs2 := hs1.out.same s2
    clear s2
    generalize w1.alloc (.cells #[.slice aT m cT, .slice aB m cB, .int .i64 n, .bool em] 124) = W2 at *
    replace hs2 := Lib.hid hs2
    have x0 := cell_at kf.out 0
    have x1 := cell_at kf.out 1
    have x2 := cell_at kf.out 2
    have xl := lt_of_heap kf.out
    go_wp2_with fail
    refine (CT.out _ hs2.out).mono ?_
    rintro e w3 ⟨rfl, s3⟩
    have hs3 := hs2.out.same s3
    replace hs3 := Lib.hid hs3
    go_wp2_with fail
    go_ret2
    exact ⟨rfl, hs3.out⟩

/-- The tuple of a code. -/
def Nw.T (N : Nw) (k : Nat) : List Nat := tupA N.bs N.at' N.As.length (bitF N.all k)
theorem NwOk.code {N : Nw} (h : NwOk N) {k : Nat} (hk : k < 2 ^ N.all) (p : List Nat → Bool) : (∃ x ∈ tupsF N.ns, p x = true ∧ numB (codeL N.bs N.on x) = k) ↔ okT N.ns (N.T k) = true ∧ p (N.T k) = true := by
  have hpm := h.pm
  rw [← N.ns_len] at hpm
  have H := code_key (bs := N.bs) (ns := N.ns) hpm (n := N.all) rfl (fun i hi => h.bits (by rw [← N.ns_len]; exact hi)) hk p
  have e : N.T k = tupA N.bs (atB N.bs N.on) N.ns.length (bitF N.all k) := by rw [N.ns_len]; rfl
  rw [e]
  exact H
theorem stepB_ok {N : Nw} (h : NwOk N) {e : Int} {x y : List Nat} (hs : stepB N.As e x y = true) : okT N.ns x = true ∧ okT N.ns y = true := by
  obtain ⟨h1, _, _⟩ := stepB_get hs
  constructor
  all_goals
    refine okT_iff.2 (fun i hi => ?_)
    rw [N.ns_len] at hi
    have := auP_lt (h.au _ (List.getElem_mem hi)) e _ (stepK_get h1 hi hi)
    rw [N.ns_get hi]
    first | exact this.1 | exact this.2
theorem stepsB_ok {N : Nw} (h : NwOk N) {E : List Int} {x y : List Nat} (hs : stepsB N.As E x y = true) : okT N.ns x = true ∧ okT N.ns y = true := by
  unfold stepsB at hs
  obtain ⟨e, _, he⟩ := List.any_eq_true.1 hs
  exact stepB_ok h he

set_option maxRecDepth 100000 in
theorem lbits13 (n : Nat) (w : World) (hn : n ≤ 4096) : Calls Tryz.prog 66 #[.int .i64 n] w fun e w' => e = .returned (.int .i64 (bitsF n)) ∧ Same w w' := by
  obtain ⟨b, hb⟩ : ∃ b, b = bitsF n := ⟨_, rfl⟩
  have hB := bitsF_is hn
  have h12 := bitsF_12 hn
  rw [← hb] at hB h12 ⊢
  replace hb := Lib.hid hb; replace hB := Lib.hid hB
  go_enter Tryz.func66, Tryz.ntmps66
  go_wp2_with fail
  go_loopw [3] (fun v wr => ∃ j : Nat, v = .int .i64 j ∧ j ≤ b ∧ Same w wr) (fun j _ => b - (intOf j).toNat)
  case atStart => exact ⟨0, rfl, by omega, Fr.refl _ _⟩
  case round =>
    obtain ⟨j, rfl, hj, hs⟩ := hrel
    have hw := wrap_pow j (by omega)
    have hw2 : IntKind.i64.wrap ((2 : Int) ^ j) = ((2 ^ j : Nat) : Int) := by
      have e : ((2 : Int) ^ j) = ((2 ^ j : Nat) : Int) := by simp
      have hj2 : 2 ^ j ≤ 2 ^ 12 := Nat.pow_le_pow_right (by omega) (by omega)
      rw [e]
      exact wrap_sm _ (Nat.le_trans hj2 (by decide))
    by_cases hlt : j < b
    · have h2 := hB.out.least j hlt
      generalize hp : 2 ^ j = p at *
      have h2i : (p : Int) < n := by omega
      replace hs := Lib.hid hs; replace hp := Lib.hid hp
      go_wp2_with fail
      go_roundw
      case rel => exact ⟨j + 1, by go_num, by omega, hs.out⟩
      case measure => simp [intOf]; omega
    · obtain rfl : j = b := by omega
      have h2 := hB.out.le
      generalize hp : 2 ^ j = p at *
      have h2i : ¬ (p : Int) < n := by omega
      replace hs := Lib.hid hs; replace hp := Lib.hid hp
      go_wp2_with fail
      go_ret
      exact ⟨rfl, hs.out⟩

theorem sumB_perm {bs : Nat → Nat} {l k : List Nat} (h : l.Perm k) : sumB bs l = sumB bs k := by
  induction h with
  | nil => rfl
  | cons x _ ih => simp only [sumB, ih]
  | swap x y l => simp only [sumB]; omega
  | trans _ _ a b => exact a.trans b
theorem NwOk.all_range {N : Nw} (h : NwOk N) : N.all = sumB N.bs (List.range N.As.length) :=
  sumB_perm ((List.perm_ext_iff_of_nodup h.pm.nodup List.nodup_range).2 (fun i => by rw [h.pm.mem, List.mem_range]))
theorem sumB_rng (bs : Nat → Nat) (k : Nat) : sumB bs (List.range (k + 1)) = sumB bs (List.range k) + bs k := by
  rw [List.range_succ, sumB_append]; rfl
theorem sumB_rng12 {bs : Nat → Nat} (h : ∀ i, bs i ≤ 12) : ∀ k, sumB bs (List.range k) ≤ k * 12
  | 0 => Nat.zero_le _
  | k + 1 => by
    have := sumB_rng12 h k
    have := h k
    rw [sumB_rng]
    omega

set_option maxRecDepth 100000 in
set_option maxHeartbeats 4000000 in
theorem lall13 (N : Nw) (w : World) (hat : N.at w) (hn : ∀ A ∈ N.As, 0 ≤ A.n ∧ A.n ≤ 4096) (hm : N.As.length ≤ 1000) :
    Calls Tryz.prog 16 #[.agg #[.slice N.aA N.As.length N.cA, .slice N.aO N.o.length N.cO]] w fun e w' => e = .returned (.int .i64 (sumB N.bs (List.range N.As.length))) ∧ Same w w' := by
  have LB := fun (n : Nat) (h : n ≤ 4096) W => lbits13 n W h
  obtain ⟨m, hmm⟩ : ∃ m, m = N.As.length := ⟨_, rfl⟩
  have hlt : ∀ k, k < m → k < N.As.length := fun k h => hmm ▸ h
  have hrow := fun (k : Nat) (hk : k < m) W (hW : Same w W) => (hat.au.same hW).row (hlt k hk)
  have hnk : ∀ k (hk : k < N.As.length), ∃ n : Nat, N.As[k].n = n ∧ n ≤ 4096 ∧ N.bs k = bitsF n := fun k hk => by
    have h := hn _ (List.getElem_mem hk)
    refine ⟨N.As[k].n.toNat, by omega, by omega, ?_⟩
    unfold Nw.bs
    rw [N.ns_get hk]
  have h12 : ∀ i, N.bs i ≤ 12 := fun i => by
    by_cases hi : i < N.As.length
    · obtain ⟨n, _, h2, h3⟩ := hnk i hi
      rw [h3]; exact bitsF_12 h2
    · rw [N.bs_out (by omega)]; omega
  obtain ⟨sf, hsf⟩ : ∃ f : Nat → Nat, f = fun k => sumB N.bs (List.range k) := ⟨_, rfl⟩
  have hs0 : sf 0 = 0 := by rw [hsf]; rfl
  have hss : ∀ k, sf (k + 1) = sf k + N.bs k := fun k => by rw [hsf]; exact sumB_rng _ _
  have hsb : ∀ k, sf k ≤ k * 12 := fun k => by rw [hsf]; exact sumB_rng12 h12 k
  have e : sumB N.bs (List.range N.As.length) = sf N.As.length := by rw [hsf]
  rw [e]
  generalize N.bs = bs at *
  clear hat hn e hsf
  simp only [← hmm] at hrow hm ⊢
  generalize N.aA = aA at *
  generalize N.cA = cA at *
  generalize N.aO = aO at *
  generalize N.cO = cO at *
  generalize N.o.length = qo at *
  generalize N.As = As at *
  clear hmm
  replace LB := Lib.hid LB; replace hrow := Lib.hid hrow; replace hnk := Lib.hid hnk; replace h12 := Lib.hid h12; replace hs0 := Lib.hid hs0; replace hss := Lib.hid hss; replace hsb := Lib.hid hsb; replace hlt := Lib.hid hlt
  go_enter Tryz.func16, Tryz.ntmps16
  go_upto_region 1 with fail
  have kn := heap_new w (.cells #[.slice aA m cA, .slice aO qo cO] 36)
  have s0 : Same w (w.alloc (.cells #[.slice aA m cA, .slice aO qo cO] 36)) := fs2
  generalize w.alloc (.cells #[.slice aA m cA, .slice aO qo cO] 36) = W0 at *
  replace kn := Lib.hid kn; replace s0 := Lib.hid s0
  have x0 := cell_at kn.out 0
  have x1 := cell_at kn.out 1
  have xl := lt_of_heap kn.out
  go_wp2_with fail
  clear x0 x1 xl
  go_loopw [3, 9] (fun v i wr => ∃ k : Nat, i = .int .i64 k ∧ k ≤ m ∧ v = .int .i64 (sf k) ∧ Same w wr) (fun _ i _ => m - (intOf i).toNat)
  case atStart => exact ⟨0, rfl, by omega, by rw [hs0.out]; rfl, s0.out⟩
  case round =>
    obtain ⟨k, rfl, hk, rfl, hs⟩ := hrel
    by_cases hkm : k < m
    · obtain ⟨b, off, ha, hb, x0, x1, x2, x3⟩ := hrow.out k hkm _ hs
      obtain ⟨n, hn1, hn2, hn3⟩ := hnk.out k (hlt.out k hkm)
      have LBk := LB.out n hn2
      have hst := hss.out k
      rw [hn3] at hst
      have hb1 := hsb.out k
      have hb2 := hsb.out (k + 1)
      generalize As[k]'(hlt.out k hkm) = A at *
      rw [hn1] at x1
      subst ha
      rw [← hn3] at hst LBk
      generalize bs k = c at *
      obtain ⟨S, hS⟩ : ∃ S, S = sf k := ⟨_, rfl⟩
      rw [← hS] at hst hb1 ⊢
      rw [hst] at hb2
      have hS1 : S ≤ 12000 := by omega
      have hS2 : S + c ≤ 12012 := by omega
      clear hn1 hn3 hb1 hb2
      replace hS := Lib.hid hS; replace hst := Lib.hid hst
      replace hs := Lib.hid hs; replace LBk := Lib.hid LBk
      go_wp2_with fail
      refine (LBk.out _).mono ?_
      rintro e w1 ⟨rfl, s1⟩
      have hs1 := (show Same w _ from hs.out.same fs2).same s1
      clear s1 x0 x1 x2 x3
      replace hs1 := Lib.hid hs1
      go_wp2_with fail
      go_roundw
      case rel => exact ⟨k + 1, by go_num, by omega, by rw [hst.out]; simp, hs1.out⟩
      case measure => simp [intOf]; omega
    · obtain rfl : k = m := by omega
      replace hs := Lib.hid hs
      go_wp2_with fail
      go_ret
      exact ⟨rfl, hs.out⟩

/-! ### the first edge that a function takes -/
def idxP (p : Nd → Bool) : List Nd → Int → Int
  | [], _ => -1
  | x :: l, k => if p x then k else idxP p l (k + 1)
theorem idxP_drop (p : Nd → Bool) {l : List Nd} {k : Nat} (hk : k < l.length) : idxP p (l.drop k) k = if p l[k] then (k : Int) else idxP p (l.drop (k + 1)) ((k + 1 : Nat) : Int) := by
  rw [List.drop_eq_getElem_cons hk, idxP]; rfl
theorem idxP_find (p : Nd → Bool) : ∀ (l : List Nd) (k : Nat), (idxP p l k = -1 ∧ l.find? p = none) ∨ ∃ j, ∃ hj : j < l.length, idxP p l k = ((k + j : Nat) : Int) ∧ l.find? p = some l[j]
  | [], k => .inl ⟨rfl, rfl⟩
  | x :: l, k => by
    rw [idxP, List.find?_cons]
    cases h : p x with
    | true => exact .inr ⟨0, by simp, by simp, by simp⟩
    | false =>
      have ih := idxP_find p l (k + 1)
      simp only [Bool.false_eq_true, if_false]
      rcases ih with ⟨h1, h2⟩ | ⟨j, hj, h1, h2⟩
      · exact .inl ⟨by rw [← h1]; rfl, h2⟩
      · refine .inr ⟨j + 1, by simp; omega, ?_, by simpa using h2⟩
        have e : ((k : Int) + 1) = ((k + 1 : Nat) : Int) := by simp
        rw [e, h1]
        congr 1
        omega

set_option maxRecDepth 100000 in
set_option maxHeartbeats 4000000 in
theorem idxE_any (es : List Nd) (p : Nd → Bool) (F : FuncId) (cs : Array Value) (aE : Option Addr) (q cE : Nat) (w : World) (hq : es.length = q) (hE : NodesAt w aE es cE) (hq9 : q ≤ 100000)
    (ent : ∀ (args : Array Value) (W : World), (callFunc F args).run Tryz.prog W = .ok (.enter F args) W)
    (HC : ∀ x ∈ es, ∀ W, Same w W → Calls Tryz.prog F (#[.agg #[.int .i64 x.1, .int .i64 x.2.1, .int .i64 x.2.2]] ++ cs) W fun e W' => e = .returned (.bool (p x)) ∧ Same W W') :
    Calls Tryz.prog 90 #[.slice aE q cE, .func (.func F) #[] cs] w fun e w' => e = .returned (.int .i64 (idxP p es 0)) ∧ Same w w' := by
  have hrow := fun (k : Nat) (hk : k < es.length) W (hW : Same w W) => (hE.same hW).node hk
  have hdr := fun (k : Nat) (hk : k < es.length) => idxP_drop p hk
  have hend : idxP p (es.drop q) q = -1 := by rw [List.drop_of_length_le (by omega)]; rfl
  obtain ⟨R, hR⟩ : ∃ R, R = idxP p es 0 := ⟨_, rfl⟩
  rw [← hR]
  have HC' := fun (k : Nat) (hk : k < es.length) W (hW : Same w W) => HC es[k] (List.getElem_mem hk) W hW
  clear HC hE
  have hlt : ∀ k, k < q → k < es.length := fun k h => hq ▸ h
  replace hrow := Lib.hid hrow; replace hdr := Lib.hid hdr; replace hend := Lib.hid hend; replace hR := Lib.hid hR; replace HC' := Lib.hid HC'; replace hlt := Lib.hid hlt; replace hq := Lib.hid hq
  go_enter Tryz.func90, Tryz.ntmps90
  go_wp2_with fail
  go_loopw [5, 8] (fun _ i wr => ∃ k : Nat, i = .int .i64 k ∧ k ≤ q ∧ R = idxP p (es.drop k) k ∧ Same w wr) (fun _ i _ => q - (intOf i).toNat)
  case atStart => exact ⟨0, rfl, by omega, hR.out, Fr.refl _ _⟩
  case round =>
    obtain ⟨k, rfl, hk, hd, hs⟩ := hrel
    by_cases hkq : k < q
    · obtain ⟨b, off, rfl, hb, x0, x1, x2⟩ := hrow.out k (hlt.out k hkq) _ hs
      have HCk := HC'.out k (hlt.out k hkq) _ hs
      have hdk := hdr.out k (hlt.out k hkq)
      rw [← hd] at hdk
      generalize es[k]'(hlt.out k hkq) = x at *
      obtain ⟨y0, y1, y2⟩ := x
      simp only at x0 x1 x2 HCk
      generalize p (y0, y1, y2) = r at *
      replace hs := Lib.hid hs; replace hd := Lib.hid hd; replace HCk := Lib.hid HCk; replace hdk := Lib.hid hdk
      go_wp2_with fail
      refine (HCk.out).mono ?_
      rintro e w1 ⟨rfl, s1⟩
      have hs1 := hs.out.same s1
      clear s1 x0 x1 x2
      replace hs1 := Lib.hid hs1
      cases r
      · go_wp2_with fail
        go_roundw
        case rel => exact ⟨k + 1, by go_num, by omega, by rw [hdk.out]; simp, hs1.out⟩
        case measure => simp [intOf]; omega
      · have e : R = k := by rw [hdk.out]; simp
        subst e
        go_wp2_with fail
        go_ret
        exact ⟨rfl, hs1.out⟩
    · obtain rfl : k = q := by omega
      have e : R = -1 := by rw [hd]; exact hend.out
      subst e
      replace hs := Lib.hid hs; replace hd := Lib.hid hd
      go_wp2_with fail
      go_ret
      exact ⟨rfl, hs.out⟩

set_option maxRecDepth 100000 in
set_option maxHeartbeats 4000000 in
theorem lstep1 (y0 y1 y2 ev : Int) (xs : List Nat) (i m : Nat) (bt bi be : Nat) (aX : Option Addr) (cX : Nat) (w : World) (k1 : w.heap[bt]? = some (.cells #[.slice aX m cX] 31 (0, 0))) (k2 : w.heap[bi]? = some (.cells #[.int .i64 i] 3 (0, 0))) (k3 : w.heap[be]? = some (.cells #[.int .i64 ev] 3 (0, 0)))
    (hX : RowAt w (.slice aX m cX) m (intCells (natI xs))) (hi : i < m) :
    Calls Tryz.prog 91 #[.agg #[.int .i64 y0, .int .i64 y1, .int .i64 y2], .pointer (some ⟨bt, 0, none⟩), .pointer (some ⟨bi, 0, none⟩), .pointer (some ⟨be, 0, none⟩)] w fun e w' => e = .returned (.bool (y0 == (xs.getD i 0 : Nat) && y1 == ev)) ∧ Same w w' := by
  have hxr := fun W (hW : Same w W) => (hX.same hW).nat hi
  clear hX
  generalize xs.getD i 0 = s at *
  replace k1 := Lib.hid k1; replace k2 := Lib.hid k2; replace k3 := Lib.hid k3; replace hxr := Lib.hid hxr
  go_enter Tryz.func91, Tryz.ntmps91
  go_upto_region 1 with fail
  have kb := heap_new w (.cells #[.int .i64 y0, .int .i64 y1, .int .i64 y2] 130)
  have s0 : Same w (w.alloc (.cells #[.int .i64 y0, .int .i64 y1, .int .i64 y2] 130)) := fs2
  generalize w.alloc (.cells #[.int .i64 y0, .int .i64 y1, .int .i64 y2] 130) = W0 at *
  generalize w.heap.size = bb at *
  replace k1 := Lib.hid (s0.at k1.out id)
  replace k2 := Lib.hid (s0.at k2.out id)
  replace k3 := Lib.hid (s0.at k3.out id)
  obtain ⟨bx, ox, rfl, hbx, z0⟩ := hxr.out _ s0
  have u0 := cell_at k1.out 0
  have u1 := cell_at k2.out 0
  have u2 := cell_at k3.out 0
  have l0 := lt_of_heap k1.out
  have l1 := lt_of_heap k2.out
  have l2 := lt_of_heap k3.out
  replace s0 := Lib.hid s0; replace kb := Lib.hid kb
  have v0 := cell_at kb.out 0
  have v1 := cell_at kb.out 1
  have v2 := cell_at kb.out 2
  have vl := lt_of_heap kb.out
  refine wp_region_sched (fun k => k = bb ∨ k = bt ∨ k = bi ∨ k = be ∨ k = bx) [0, 1, 1, 1, 0, 1, 0, 0, 0, 1, 1, 0, 0, 0] [0, 1, 2, 3, 4, 5, 6, 7, 8, 9, 10, 11, 12, 13] (by kernel_rfl) (by kernel_rfl) ?_
  by_cases h0 : y0 = (s : Int)
  · subst h0
    by_cases h1 : y1 = ev
    · subst h1
      repeat (first | (refine sched_w rfl rfl (fun _ hK => ?_); go_simp; refine hK _ ?_; clear hK) | (refine sched_s rfl rfl (fun _ hK => ?_); go_simp; first | (refine hK _ ?_; clear hK) | (refine ⟨_, fun _ => rfl, hK _ ?_⟩; clear hK)))
      refine sched_nil (NoPanic.normal ?_)
      go_wp2_with fail
      go_ret
      exact ⟨by simp, s0.out.same fs2⟩
    · have hb : (y1 == ev) = false := by simpa using h1
      replace h1 := Lib.hid h1
      repeat (first | (refine sched_w rfl rfl (fun _ hK => ?_); go_simp; refine hK _ ?_; clear hK) | (refine sched_s rfl rfl (fun _ hK => ?_); go_simp; first | (refine hK _ ?_; clear hK) | (refine ⟨_, fun _ => rfl, hK _ ?_⟩; clear hK)))
      refine sched_nil (NoPanic.normal ?_)
      go_wp2_with fail
      go_ret
      exact ⟨by simp [hb], s0.out.same fs2⟩
  · have hb : (y0 == (s : Int)) = false := by simpa using h0
    replace h0 := Lib.hid h0
    repeat (first | (refine sched_w rfl rfl (fun _ hK => ?_); go_simp; refine hK _ ?_; clear hK) | (refine sched_s rfl rfl (fun _ hK => ?_); go_simp; first | (refine hK _ ?_; clear hK) | (refine ⟨_, fun _ => rfl, hK _ ?_⟩; clear hK)))
    refine sched_nil (NoPanic.normal ?_)
    go_wp2_with fail
    go_ret
    exact ⟨by simp [hb], s0.out.same fs2⟩

/-- The next state of one automaton. -/
def nx1 (A : Au) (e : Int) (s : Nat) : Option Nat := if e ∈ A.al then (A.es.find? fun x => x.1 == (s : Int) && x.2.1 == e).map fun x => x.2.2.toNat else some s
theorem nx1_iff {A : Au} (h : AuOk A) {e : Int} {s t : Nat} (hs : s < A.n.toNat) : nx1 A e s = some t ↔ (s, t) ∈ auP A e := by
  unfold nx1 auP
  by_cases he : e ∈ A.al
  · rw [if_pos he, if_pos he]
    constructor
    · intro hh
      obtain ⟨x, hx, rfl⟩ := Option.map_eq_some_iff.1 hh
      have h1 := List.mem_of_find?_eq_some hx
      have h2 := List.find?_some hx
      simp only [Bool.and_eq_true, beq_iff_eq] at h2
      refine List.mem_map.2 ⟨x, List.mem_filter.2 ⟨h1, by simp [h2.2]⟩, ?_⟩
      rw [h2.1]; simp
    · intro hh
      obtain ⟨x, hx, e2⟩ := List.mem_map.1 hh
      obtain ⟨hx1, hx2⟩ := List.mem_filter.1 hx
      simp only [Prod.mk.injEq] at e2
      have hx3 : x.2.1 = e := by simpa using hx2
      have hed := h.edge hx1
      cases hf : A.es.find? fun x => x.1 == (s : Int) && x.2.1 == e with
      | none =>
        have := List.find?_eq_none.1 hf x hx1
        simp only [Bool.and_eq_true, beq_iff_eq, not_and] at this
        exact absurd hx3 (this (by omega))
      | some y =>
        have h1 := List.mem_of_find?_eq_some hf
        have h2 := List.find?_some hf
        simp only [Bool.and_eq_true, beq_iff_eq] at h2
        have := h.det h1 hx1 (by omega) (by rw [h2.2, hx3])
        rw [this]
        simp [e2.2]
  · rw [if_neg he, if_neg he]
    constructor
    · intro hh
      obtain rfl : s = t := by simpa using hh
      exact List.mem_map.2 ⟨s, List.mem_range.2 hs, rfl⟩
    · intro hh
      obtain ⟨i, _, e2⟩ := List.mem_map.1 hh
      simp only [Prod.mk.injEq] at e2
      rw [← e2.1, e2.2]
/-- Where the law's step goes, automaton by automaton. -/
structure StOn (As : List Au) (e : Int) (x : List Nat) (k : Nat) (y : List Nat) : Prop where
  len : y.length = As.length
  old : ∀ i, k ≤ i → y.getD i 0 = x.getD i 0
  new : ∀ i (hi : i < As.length), i < k → nx1 As[i] e (x.getD i 0) = some (y.getD i 0)
theorem StOn.zero {As : List Au} {e : Int} {x : List Nat} (hx : x.length = As.length) : StOn As e x 0 x := ⟨hx, fun _ _ => rfl, fun _ _ h => absurd h (by omega)⟩
theorem StOn.keep {As : List Au} {e : Int} {x y : List Nat} {k : Nat} (h : StOn As e x k y) (hk : k < As.length) (he : ¬ e ∈ As[k].al) : StOn As e x (k + 1) y :=
  ⟨h.len, fun i hi => h.old i (by omega), fun i hi hik => by
    by_cases h1 : i < k
    · exact h.new i hi h1
    · obtain rfl : i = k := by omega
      unfold nx1
      rw [if_neg he, h.old i (Nat.le_refl _)]⟩
theorem StOn.go {As : List Au} {e : Int} {x y : List Nat} {k t : Nat} (h : StOn As e x k y) (hk : k < As.length) (ht : nx1 As[k] e (x.getD k 0) = some t) : StOn As e x (k + 1) (y.set k t) := by
  have hky : k < y.length := by rw [h.len]; exact hk
  have g : ∀ i, (y.set k t).getD i 0 = if i = k then t else y.getD i 0 := fun i => by
    simp only [List.getD]
    rw [List.getElem?_set]
    by_cases e2 : k = i
    · subst e2; simp [hky]
    · simp [e2, Ne.symm e2]
  refine ⟨by simp [h.len], fun i hi => ?_, fun i hi hik => ?_⟩
  · rw [g, if_neg (by omega)]; exact h.old i (by omega)
  · rw [g]
    by_cases e2 : i = k
    · subst e2; rw [if_pos rfl]; exact ht
    · rw [if_neg e2]; exact h.new i hi (by omega)
/-- The first k automata allow the step just if each of them has a next state. -/
theorem stepK_iff {As : List Au} (hA : ∀ A ∈ As, AuOk A) {e : Int} {x y : List Nat} (hx : ∀ i (hi : i < As.length), x.getD i 0 < As[i].n.toNat) : stepK As e As.length x y = true ↔ ∀ i (hi : i < As.length), nx1 As[i] e (x.getD i 0) = some (y.getD i 0) := by
  constructor
  · intro h i hi
    exact (nx1_iff (hA _ (List.getElem_mem hi)) (hx i hi)).2 (stepK_get h hi hi)
  · intro h
    unfold stepK
    refine List.all_eq_true.2 (fun i hi => ?_)
    have hi' := List.mem_range.1 hi
    rw [List.getElem?_eq_getElem hi']
    exact decide_eq_true ((nx1_iff (hA _ (List.getElem_mem hi')) (hx i hi')).1 (h i hi'))
theorem stepB_of {As : List Au} (hA : ∀ A ∈ As, AuOk A) {e : Int} {x : List Nat} (hx : ∀ i (hi : i < As.length), x.getD i 0 < As[i].n.toNat) {y : List Nat} (h : StOn As e x As.length y) : stepB As e x y = knK As e As.length ∧ (knK As e As.length = false → ∀ z, stepB As e x z = false) := by
  have h1 : stepK As e As.length x y = true := (stepK_iff hA hx).2 (fun i hi => h.new i hi hi)
  have h2 : (As.any fun A => A.n.toNat == 0) = false := by
    rw [List.any_eq_false]
    intro A hAm
    obtain ⟨i, hi, rfl⟩ := List.mem_iff_getElem.1 hAm
    have := hx i hi
    simp; omega
  have h3 : knK As e As.length = As.any fun A => decide (e ∈ A.al) := by
    unfold knK; rw [List.take_length]
  constructor
  · unfold stepB; rw [h1, h2, ← h3]; simp
  · intro hk z
    unfold stepB; rw [← h3, hk]; simp
theorem stepB_none {As : List Au} (hA : ∀ A ∈ As, AuOk A) {e : Int} {x : List Nat} (hx : ∀ i (hi : i < As.length), x.getD i 0 < As[i].n.toNat) {k : Nat} (hk : k < As.length) (hn : nx1 As[k] e (x.getD k 0) = none) (z : List Nat) : stepB As e x z = false := by
  cases h : stepB As e x z with
  | false => rfl
  | true =>
    have := (stepK_iff hA hx).1 (stepB_get h).1 k hk
    rw [hn] at this
    cases this
theorem stepB_fun {As : List Au} (hA : ∀ A ∈ As, AuOk A) {e : Int} {x y z : List Nat} (hx : ∀ i (hi : i < As.length), x.getD i 0 < As[i].n.toNat) (hy : y.length = As.length) (hz : z.length = As.length) (h1 : stepB As e x y = true) (h2 : stepB As e x z = true) : y = z :=
  list_of_getD hy hz (fun i hi => by
    have a := (stepK_iff hA hx).1 (stepB_get h1).1 i hi
    have b := (stepK_iff hA hx).1 (stepB_get h2).1 i hi
    rw [a] at b
    simpa using b)
end Go.Proofs.YtknlkcfnfjchdaaGreat
