/- The law of package network: tuples walked. All tuples of a network, in lexicographic order: plain. The closures of a network's steps, by tuples: they do not depend on the order (plain). package network: Count, Enabled, Blocked walked. package network: measured, Count walked. -/
import Derived.Test.YtknlkcfnfjchdaaGreatVNetT
import Derived.Test.YtknlkcfnfjchdaaGreatVNetM
import Derived.Test.YtknlkcfnfjchdaaGreatVGrpW
namespace Go.Proofs.YtknlkcfnfjchdaaGreat
open Go.RowKit
set_option linter.unusedVariables false
set_option linter.unusedSimpArgs false

/-- The error of a set of v variables with a table. -/
def Nw.mErr (N : Nw) (v : Nat) (t : List Bool) : Int := if v ≠ N.all then 4 else if ite3 t (N.set (okT N.ns)) (fls N.all) = t then 0 else 2
def MeE (N : Nw) (E : Int) (w : World) (e : Ending) (w' : World) : Prop :=
  (E ≠ 0 ∧ e = .returned (.tuple #[.agg #[.slice none 0 0, .slice none 0 0, .int .i64 0, .bool false], .int .i64 E]) ∧ Same w w') ∨
  (E = 0 ∧ ∃ aT aB cT cB, e = .returned (.tuple #[.agg #[.slice aT N.As.length cT, .slice aB N.As.length cB, .int .i64 N.all, .bool N.emp], .int .i64 0]) ∧ LyAt N aT aB cT cB w' ∧ Same w w')

set_option maxRecDepth 100000 in
set_option maxHeartbeats 8000000 in
theorem measured_net (N : Nw) (OK : NetOk N) (d : Dg) (v : Nat) (t : List Bool) (w : World) (hat : N.at w) (hd : d.at w) (T : d.tab v t) :
    Calls Tryz.prog 101 #[.agg #[.slice N.aA N.As.length N.cA, .slice N.aO N.o.length N.cO], .agg #[.int .i64 d.n, .slice d.a d.L.length d.cap, .int .i64 d.r]] w (MeE N (N.mErr v t) w) := by
  have h10 := OK.h10
  have PL := fun W (hW : Same w W) => OK.place W (hat.same hW)
  have CK := fun W (hW : Same w W) => check_tab d v t W (SliceAt.same hd hW) T
  have VA := fun aT aB cT cB W (hW : Same w W) (hly : LyAt N aT aB cT cB W) => valid_any N OK aT aB cT cB W (hat.same hW) hly
  obtain ⟨V, hV⟩ : ∃ V, V = N.set (okT N.ns) := ⟨_, rfl⟩
  have hVl : V.length = 2 ^ N.all := by rw [hV]; exact tupT_len _ _ _ _ _
  have hE1 : v ≠ N.all → N.mErr v t = 4 := fun h => by unfold Nw.mErr; rw [if_pos h]
  have hE2 : v = N.all → ite3 t V (fls N.all) = t → N.mErr v t = 0 := fun h h2 => by unfold Nw.mErr; rw [if_neg (by simpa using h), ← hV, if_pos h2]
  have hE3 : v = N.all → ¬ ite3 t V (fls N.all) = t → N.mErr v t = 2 := fun h h2 => by unfold Nw.mErr; rw [if_neg (by simpa using h), ← hV, if_neg h2]
  rw [← hV] at VA
  have AN := fun (d2 : Dg) (h : v = N.all) W (hW : Same w W) (h2 : d2.at W) (T2 : d2.tab N.all V) => And_big (n := N.all) (by omega) (SliceAt.same hd hW) h2 (h ▸ T) T2 (short14 (by omega) (ite3_len (by rw [← h]; exact T.2.len) hVl (fls_len _)))
  have EQ := fun (d2 : Dg) (h : v = N.all) W (hW : Same w W) (h2 : d2.at W) (T2 : d2.tab N.all (ite3 t V (fls N.all))) => equal_dg (d' := d) h2 (SliceAt.same hd hW) T2 (h ▸ T)
  have hdn := T.1
  have hb4 : N.mErr v t ≠ 0 → ∀ w', Same w w' → MeE N (N.mErr v t) w (.returned (.tuple #[.agg #[.slice none 0 0, .slice none 0 0, .int .i64 0, .bool false], .int .i64 (N.mErr v t)])) w' := fun h w' hs => .inl ⟨h, rfl, hs⟩
  have hgd : N.mErr v t = 0 → ∀ aT aB cT cB w', LyAt N aT aB cT cB w' → Same w w' → MeE N (N.mErr v t) w (.returned (.tuple #[.agg #[.slice aT N.As.length cT, .slice aB N.As.length cB, .int .i64 N.all, .bool N.emp], .int .i64 0])) w' := fun h aT aB cT cB w' h1 h2 => .inr ⟨h, aT, aB, cT, cB, rfl, h1, h2⟩
  simp only [Dg.v] at CK AN EQ
  rw [hdn] at CK AN EQ ⊢
  generalize ite3 t V (fls N.all) = t2 at *
  generalize d.a = da at *
  generalize d.L.length = dq at *
  generalize d.cap = dc at *
  generalize d.r = dr at *
  obtain ⟨Q, hQ⟩ : ∃ Q, Q = MeE N (N.mErr v t) w := ⟨_, rfl⟩
  rw [← hQ] at hb4 hgd ⊢
  clear hd T hdn hV hVl hQ
  generalize N.mErr v t = EE at *
  clear hat OK
  generalize N.all = n at *
  generalize N.emp = em at *
  generalize N.As.length = m at *
  generalize N.o.length = qo at *
  generalize N.aA = aA at *
  generalize N.cA = cA at *
  generalize N.aO = aO at *
  generalize N.cO = cO at *
  replace PL := Lib.hid PL; replace CK := Lib.hid CK; replace VA := Lib.hid VA; replace AN := Lib.hid AN; replace EQ := Lib.hid EQ; replace hE1 := Lib.hid hE1; replace hE2 := Lib.hid hE2; replace hE3 := Lib.hid hE3; replace hb4 := Lib.hid hb4; replace hgd := Lib.hid hgd
  go_enter Tryz.func101, Tryz.ntmps101
  go_upto_region 1 with fail
  have kn := heap_old (heap_old (heap_new w (.cells #[.slice aA m cA, .slice aO qo cO] 36)) (.cells #[.int .i64 v, .slice da dq dc, .int .i64 dr] 54)) (.cells #[.slice none 0 0, .slice none 0 0, .int .i64 0, .bool false] 124)
  have kf := heap_old (heap_new (w.alloc (.cells #[.slice aA m cA, .slice aO qo cO] 36)) (.cells #[.int .i64 v, .slice da dq dc, .int .i64 dr] 54)) (.cells #[.slice none 0 0, .slice none 0 0, .int .i64 0, .bool false] 124)
  have kr := heap_new ((w.alloc (.cells #[.slice aA m cA, .slice aO qo cO] 36)).alloc (.cells #[.int .i64 v, .slice da dq dc, .int .i64 dr] 54)) (.cells #[.slice none 0 0, .slice none 0 0, .int .i64 0, .bool false] 124)
  rw [← al1] at kf
  rw [← al2] at kr
  have hs : Same w (((w.alloc (.cells #[.slice aA m cA, .slice aO qo cO] 36)).alloc (.cells #[.int .i64 v, .slice da dq dc, .int .i64 dr] 54)).alloc (.cells #[.slice none 0 0, .slice none 0 0, .int .i64 0, .bool false] 124)) := fs2
  generalize ((w.alloc (.cells #[.slice aA m cA, .slice aO qo cO] 36)).alloc (.cells #[.int .i64 v, .slice da dq dc, .int .i64 dr] 54)).alloc (.cells #[.slice none 0 0, .slice none 0 0, .int .i64 0, .bool false] 124) = W0 at *
  replace kn := Lib.hid kn; replace kf := Lib.hid kf; replace kr := Lib.hid kr; replace hs := Lib.hid hs
  have y0 := cell_at kn.out 0
  have y1 := cell_at kn.out 1
  have yl := lt_of_heap kn.out
  go_wp2_with fail
  refine (PL.out _ hs.out).mono ?_
  rintro e w1 ⟨aT, aB, cT, cB, rfl, hly, s1⟩
  clear y0 y1 yl
  have hbl : w.heap.size + 1 + 1 < w1.heap.size := by have h9 := lt_of_heap kr.out; have h8 := s1.size; omega
  replace kn := Lib.hid (s1.at kn.out id); replace kr := Lib.hid (s1.at kr.out id); replace kf := Lib.hid (s1.at kf.out id)
  have hs1 := hs.out.same s1
  clear s1 hs
  replace hly := Lib.hid hly; replace hs1 := Lib.hid hs1
  go_upto_region 2 with fail
  have kl := heap_new w1 (.cells #[.slice aT m cT, .slice aB m cB, .int .i64 n, .bool em] 124)
  have s2 : Same w1 (w1.alloc (.cells #[.slice aT m cT, .slice aB m cB, .int .i64 n, .bool em] 124)) := fs2
  have hly2 := hly.out.same s2
  replace kn := Lib.hid (s2.at kn.out id); replace kr := Lib.hid (s2.at kr.out id); replace kf := Lib.hid (s2.at kf.out id)
  have hs2 := hs1.out.same s2
  clear s2 hly hs1
  generalize w1.alloc (.cells #[.slice aT m cT, .slice aB m cB, .int .i64 n, .bool em] 124) = W1 at *
  generalize w1.heap.size = bl at *
  replace kl := Lib.hid kl; replace hly2 := Lib.hid hly2; replace hs2 := Lib.hid hs2
  have x0 := cell_at kf.out 0
  have x1 := cell_at kf.out 1
  have x2 := cell_at kf.out 2
  have xl := lt_of_heap kf.out
  go_upto_region 4 with fail
  go_wp2_with fail
  refine (CK.out _ hs2.out).mono ?_
  rintro e w3 ⟨rfl, s3⟩
  clear x0 x1 x2 xl
  replace kn := Lib.hid (s3.at kn.out id); replace kr := Lib.hid (s3.at kr.out id); replace kf := Lib.hid (s3.at kf.out id); replace kl := Lib.hid (s3.at kl.out id)
  have hly3 := hly2.out.same s3
  have hs3 := hs2.out.same s3
  clear s3 hly2 hs2
  replace hly3 := Lib.hid hly3; replace hs3 := Lib.hid hs3
  by_cases hvn : v = n
  · have hVA := VA.out
    have hAN := fun d2 => AN.out d2 hvn
    have hEQ := fun d2 => EQ.out d2 hvn
    have hb1 : ((v : Int) != (n : Int)) = false := by simp; omega
    replace hVA := Lib.hid hVA; replace hAN := Lib.hid hAN; replace hEQ := Lib.hid hEQ; replace hvn := Lib.hid hvn
    clear VA AN EQ
    have z0 := cell_at kl.out 0
    have z1 := cell_at kl.out 1
    have z2 := cell_at kl.out 2
    have z3 := cell_at kl.out 3
    have zl := lt_of_heap kl.out
    have x0 := cell_at kf.out 0
    have x1 := cell_at kf.out 1
    have x2 := cell_at kf.out 2
    have xl := lt_of_heap kf.out
    have y0 := cell_at kn.out 0
    have y1 := cell_at kn.out 1
    have yl := lt_of_heap kn.out
    go_upto_region 9 with fail
    go_wp2_with fail
    refine (hVA.out _ _ _ _ _ hs3.out hly3.out).mono ?_
    intro e w4 hM
    obtain ⟨a4, c4, L4, r4, rfl, d4, t4, s4⟩ := hM.open
    clear z0 z1 z2 z3 zl
    clear x0 x1 x2 xl
    clear y0 y1 yl
    have hb4' : bl < w4.heap.size := by have h9 := lt_of_heap kl.out; have h8 := s4.size; omega
    replace kr := Lib.hid (s4.at kr.out id); replace kf := Lib.hid (s4.at kf.out id); replace kl := Lib.hid (s4.at kl.out id)
    have hly4 := hly3.out.same s4
    have hs4 := hs3.out.same s4
    clear hM s4 hs3 kn hly3
    replace d4 := Lib.hid d4; replace t4 := Lib.hid t4; replace hs4 := Lib.hid hs4; replace hly4 := Lib.hid hly4
    go_upto_region 10 with fail
    have k5 := heap_new w4 (.cells #[.int .i64 n, .slice a4 L4.length c4, .int .i64 r4] 54)
    have s5 : Same w4 (w4.alloc (.cells #[.int .i64 n, .slice a4 L4.length c4, .int .i64 r4] 54)) := fs2
    generalize w4.alloc (.cells #[.int .i64 n, .slice a4 L4.length c4, .int .i64 r4] 54) = W5 at *
    replace d4 := Lib.hid (d4.out.same s5); replace kr := Lib.hid (s5.at kr.out id); replace kf := Lib.hid (s5.at kf.out id); replace kl := Lib.hid (s5.at kl.out id)
    have hly5 := hly4.out.same s5
    have hs5 := hs4.out.same s5
    clear s5 hs4 hly4
    generalize w4.heap.size = b5 at *
    replace k5 := Lib.hid k5; replace hs5 := Lib.hid hs5; replace hly5 := Lib.hid hly5
    have x0 := cell_at kf.out 0
    have x1 := cell_at kf.out 1
    have x2 := cell_at kf.out 2
    have xl := lt_of_heap kf.out
    have y0 := cell_at k5.out 0
    have y1 := cell_at k5.out 1
    have y2 := cell_at k5.out 2
    have yl := lt_of_heap k5.out
    go_upto_region 12 with fail
    go_wp2_with fail
    refine (hAN.out ⟨n, a4, c4, L4, r4⟩ _ hs5.out d4.out ⟨rfl, t4.out⟩).mono ?_
    intro e w6 hM
    obtain ⟨a6, c6, L6, r6, rfl, d6, t6, s6⟩ := hM.open
    clear x0 x1 x2 xl
    clear y0 y1 y2 yl
    have hb6 : b5 < w6.heap.size := by have h9 := lt_of_heap k5.out; have h8 := s6.size; omega
    replace kr := Lib.hid (s6.at kr.out id); replace kf := Lib.hid (s6.at kf.out id); replace kl := Lib.hid (s6.at kl.out id)
    have hly6 := hly5.out.same s6
    have hs6 := hs5.out.same s6
    clear hM s6 hs5 k5 d4 t4 hly5
    replace d6 := Lib.hid d6; replace t6 := Lib.hid t6; replace hs6 := Lib.hid hs6; replace hly6 := Lib.hid hly6
    go_upto_region 13 with fail
    have k7 := heap_new w6 (.cells #[.int .i64 n, .slice a6 L6.length c6, .int .i64 r6] 54)
    have s7 : Same w6 (w6.alloc (.cells #[.int .i64 n, .slice a6 L6.length c6, .int .i64 r6] 54)) := fs2
    generalize w6.alloc (.cells #[.int .i64 n, .slice a6 L6.length c6, .int .i64 r6] 54) = W7 at *
    replace d6 := Lib.hid (d6.out.same s7); replace kr := Lib.hid (s7.at kr.out id); replace kf := Lib.hid (s7.at kf.out id); replace kl := Lib.hid (s7.at kl.out id)
    have hly7 := hly6.out.same s7
    have hs7 := hs6.out.same s7
    clear s7 hs6 hly6
    generalize w6.heap.size = b7 at *
    replace k7 := Lib.hid k7; replace hs7 := Lib.hid hs7; replace hly7 := Lib.hid hly7
    have x0 := cell_at kf.out 0
    have x1 := cell_at kf.out 1
    have x2 := cell_at kf.out 2
    have xl := lt_of_heap kf.out
    have y0 := cell_at k7.out 0
    have y1 := cell_at k7.out 1
    have y2 := cell_at k7.out 2
    have yl := lt_of_heap k7.out
    go_upto_region 15 with fail
    go_wp2_with fail
    refine (hEQ.out ⟨n, a6, c6, L6, r6⟩ _ hs7.out d6.out ⟨rfl, t6.out⟩).mono ?_
    rintro e w8 ⟨rfl, s8⟩
    clear x0 x1 x2 xl
    clear y0 y1 y2 yl
    replace kr := Lib.hid (s8.at kr.out id); replace kl := Lib.hid (s8.at kl.out id)
    have hly8 := hly7.out.same s8
    have hs8 := hs7.out.same s8
    clear s8 hs7 kf k7 d6 t6 hly7
    replace hs8 := Lib.hid hs8; replace hly8 := Lib.hid hly8
    by_cases htt : t2 = t
    · have hE := hE2.out hvn.out htt
      rw [decide_eq_true htt]
      subst hE
      have hg := hgd.out rfl
      replace hg := Lib.hid hg; replace htt := Lib.hid htt
      have z0 := cell_at kl.out 0
      have z1 := cell_at kl.out 1
      have z2 := cell_at kl.out 2
      have z3 := cell_at kl.out 3
      have zl := lt_of_heap kl.out
      obtain ⟨q0, q1, q2, q3, g0, g1, g2, g3, ql⟩ := boxq_facts kr.out
      go_wp2_with fail
      obtain ⟨e0, e1, e2, e3, hsF, hF⟩ := ly_stored (u0 := .slice aT m cT) (u1 := .slice aB m cB) (u2 := .int .i64 n) (u3 := .bool em) hs8.out (by omega) kr.out
      refine bodyPost_ret (v := .tuple #[.agg #[.slice aT m cT, .slice aB m cB, .int .i64 n, .bool em], .int .i64 0]) (by simp [results, Tryz.results101, go_sem, e0, e1, e2, e3]) rfl ?_
      exact hg.out _ _ _ _ _ (hly8.out.box hF kr.out) hsF
    · have hE := hE3.out hvn.out htt
      rw [decide_eq_false htt]
      subst hE
      have hg := hb4.out (by decide)
      replace hg := Lib.hid hg; replace htt := Lib.hid htt
      obtain ⟨q0, q1, q2, q3, g0, g1, g2, g3, ql⟩ := boxq_facts kr.out
      go_wp2_with fail
      obtain ⟨e0, e1, e2, e3, hsF, hF⟩ := ly_stored (u0 := .slice none 0 0) (u1 := .slice none 0 0) (u2 := .int .i64 0) (u3 := .bool false) hs8.out (by omega) kr.out
      refine bodyPost_ret (v := .tuple #[.agg #[.slice none 0 0, .slice none 0 0, .int .i64 0, .bool false], .int .i64 2]) (by simp [results, Tryz.results101, go_sem, e0, e1, e2, e3]) rfl ?_
      exact hg.out _ hsF
  · have hE := hE1.out hvn
    subst hE
    have hg := hb4.out (by decide)
    have hb1 : ((v : Int) != (n : Int)) = true := by simp; omega
    replace hg := Lib.hid hg; replace hvn := Lib.hid hvn
    have z0 := cell_at kl.out 0
    have z1 := cell_at kl.out 1
    have z2 := cell_at kl.out 2
    have z3 := cell_at kl.out 3
    have zl := lt_of_heap kl.out
    have x0 := cell_at kf.out 0
    have x1 := cell_at kf.out 1
    have x2 := cell_at kf.out 2
    have xl := lt_of_heap kf.out
    obtain ⟨q0, q1, q2, q3, g0, g1, g2, g3, ql⟩ := boxq_facts kr.out
    go_wp2_with fail
    obtain ⟨e0, e1, e2, e3, hsF, hF⟩ := ly_stored (u0 := .slice none 0 0) (u1 := .slice none 0 0) (u2 := .int .i64 0) (u3 := .bool false) hs3.out (by omega) kr.out
    refine bodyPost_ret (v := .tuple #[.agg #[.slice none 0 0, .slice none 0 0, .int .i64 0, .bool false], .int .i64 4]) (by simp [results, Tryz.results101, go_sem, e0, e1, e2, e3]) rfl ?_
    exact hg.out _ hsF

/-- A diagram in its box. -/
structure Bd (W : World) (b n : Nat) (t : List Bool) (a : Option Addr) (c : Nat) (L : List Nd) (r : Int) : Prop where
  heap : W.heap[b]? = some (.cells #[.int .i64 n, .slice a L.length c, .int .i64 r] 54 (0, 0))
  at' : Dg.at W ⟨n, a, c, L, r⟩
  tab : IsTab n t L r
theorem Bd.same {W W' : World} {b n : Nat} {t : List Bool} {a : Option Addr} {c : Nat} {L : List Nd} {r : Int} (h : Bd W b n t a c L r) (hs : Same W W') : Bd W' b n t a c L r := ⟨hs.at h.heap id, SliceAt.same h.at' hs, h.tab⟩

set_option maxRecDepth 100000 in
set_option maxHeartbeats 4000000 in
theorem Count_net (N : Nw) (OK : NetOk N) (d : Dg) (v : Nat) (t : List Bool) (w : World) (hat : N.at w) (hd : d.at w) (T : d.tab v t) :
    Calls Tryz.prog 34 #[.agg #[.slice N.aA N.As.length N.cA, .slice N.aO N.o.length N.cO], .agg #[.int .i64 d.n, .slice d.a d.L.length d.cap, .int .i64 d.r]] w fun e w' => e = .returned (.tuple #[.int .i64 (if N.mErr v t = 0 then ((t.count true : Nat) : Int) else 0), .int .i64 (N.mErr v t)]) ∧ Same w w' := by
  have ME := fun W (hW : Same w W) => measured_net N OK d v t W (hat.same hW) (SliceAt.same hd hW) T
  have CT := fun W (hW : Same w W) => count_tab d v t W (SliceAt.same hd hW) T
  have hdn := T.1
  simp only [Dg.v] at CT
  rw [hdn] at ME CT ⊢
  generalize d.a = da at *
  generalize d.L.length = dq at *
  generalize d.cap = dc at *
  generalize d.r = dr at *
  obtain ⟨EE, hEE⟩ : ∃ EE, EE = N.mErr v t := ⟨_, rfl⟩
  rw [← hEE] at ME ⊢
  generalize t.count true = ct at *
  obtain ⟨cx, hcx⟩ : ∃ cx : Int, cx = if EE = 0 then (ct : Int) else 0 := ⟨_, rfl⟩
  rw [← hcx]
  clear hat hd T hdn OK hEE
  unfold MeE at ME
  generalize N.aA = aA at *
  generalize N.cA = cA at *
  generalize N.aO = aO at *
  generalize N.cO = cO at *
  generalize N.all = n at *
  generalize N.emp = em at *
  generalize hm : N.As.length = m at *
  generalize N.o.length = qo at *
  replace ME := Lib.hid ME; replace CT := Lib.hid CT; replace hcx := Lib.hid hcx
  go_enter Tryz.func34, Tryz.ntmps34
  go_upto_region 1 with fail
  have kn := heap_old (heap_new w (.cells #[.slice aA m cA, .slice aO qo cO] 36)) (.cells #[.int .i64 v, .slice da dq dc, .int .i64 dr] 54)
  have kf := heap_new (w.alloc (.cells #[.slice aA m cA, .slice aO qo cO] 36)) (.cells #[.int .i64 v, .slice da dq dc, .int .i64 dr] 54)
  rw [← al1] at kf
  have hs : Same w ((w.alloc (.cells #[.slice aA m cA, .slice aO qo cO] 36)).alloc (.cells #[.int .i64 v, .slice da dq dc, .int .i64 dr] 54)) := fs2
  generalize (w.alloc (.cells #[.slice aA m cA, .slice aO qo cO] 36)).alloc (.cells #[.int .i64 v, .slice da dq dc, .int .i64 dr] 54) = W0 at *
  replace kn := Lib.hid kn; replace kf := Lib.hid kf; replace hs := Lib.hid hs
  have y0 := cell_at kn.out 0
  have y1 := cell_at kn.out 1
  have yl := lt_of_heap kn.out
  have x0 := cell_at kf.out 0
  have x1 := cell_at kf.out 1
  have x2 := cell_at kf.out 2
  have xl := lt_of_heap kf.out
  go_wp2_with fail
  refine (ME.out _ hs.out).mono ?_
  intro e w1 hM
  clear y0 y1 yl
  clear x0 x1 x2 xl
  rcases hM with ⟨h0, rfl, s1⟩ | ⟨rfl, aT, aB, cT, cB, rfl, _, s1⟩
  · have hb : (EE != 0) = true := by simpa using h0
    have hs1 := hs.out.same s1
    obtain rfl : cx = 0 := by rw [hcx.out, if_neg h0]
    clear s1
    replace h0 := Lib.hid h0; replace hs1 := Lib.hid hs1
    go_wp2_with fail
    go_ret2
    exact ⟨rfl, hs1.out.same fs2⟩
  · replace kf := Lib.hid (s1.at kf.out id)
    have hs1 := hs.out.same s1
    clear s1
    obtain rfl : cx = (ct : Int) := by rw [hcx.out, if_pos rfl]
    replace hs1 := Lib.hid hs1
    go_upto_region 2 with fail
    have s2 : Same w1 (w1.alloc (.cells #[.slice aT m cT, .slice aB m cB, .int .i64 n, .bool em] 124)) := fs2
    replace kf := Lib.hid (s2.at kf.out id)
    have hs2 := hs1.out.same s2
    clear s2
    generalize w1.alloc (.cells #[.slice aT m cT, .slice aB m cB, .int .i64 n, .bool em] 124) = W2 at *
    replace hs2 := Lib.hid hs2
    have x0 := cell_at kf.out 0
    have x1 := cell_at kf.out 1
    have x2 := cell_at kf.out 2
    have xl := lt_of_heap kf.out
    go_wp2_with fail
    refine (CT.out _ hs2.out).mono ?_
    rintro e w3 ⟨rfl, s3⟩
    have hs3 := hs2.out.same s3
    replace hs3 := Lib.hid hs3
    go_wp2_with fail
    go_ret2
    exact ⟨rfl, hs3.out⟩

/-- The tuple of a code. -/
def Nw.T (N : Nw) (k : Nat) : List Nat := tupA N.bs N.at' N.As.length (bitF N.all k)
theorem Nw.T_len (N : Nw) (k : Nat) : (N.T k).length = N.ns.length := by rw [Nw.T, tupA_len, N.ns_len]
theorem NwOk.code {N : Nw} (h : NwOk N) {k : Nat} (hk : k < 2 ^ N.all) (p : List Nat → Bool) : (∃ x ∈ tupsF N.ns, p x = true ∧ numB (codeL N.bs N.on x) = k) ↔ okT N.ns (N.T k) = true ∧ p (N.T k) = true := by
  have hpm := h.pm
  rw [← N.ns_len] at hpm
  have H := code_key (bs := N.bs) (ns := N.ns) hpm (n := N.all) rfl (fun i hi => h.bits (by rw [← N.ns_len]; exact hi)) hk p
  have e : N.T k = tupA N.bs (atB N.bs N.on) N.ns.length (bitF N.all k) := by rw [N.ns_len]; rfl
  rw [e]
  exact H
theorem Nw.T_mem (N : Nw) {k : Nat} (h : okT N.ns (N.T k) = true) : N.T k ∈ tupsF N.ns := tups_iff.2 ⟨N.T_len k, h⟩
theorem Nw.set_eq (N : Nw) (F : List Nat → Bool) : N.set F = tbF N.all fun k => F (N.T k) := rfl

/-- A predicate of tuples only. -/
def Sup (ns : List Nat) (F : List Nat → Bool) : Prop := ∀ x, F x = true → okT ns x = true

/-- A tuple with each next state behind it. -/
def extT (t : List Int) (n : Nat) : List (List Int) := (List.range n).map fun (s : Nat) => t ++ [(s : Int)]
theorem extT_zero (t : List Int) : extT t 0 = [] := rfl
theorem extT_succ (t : List Int) (s : Nat) : extT t (s + 1) = extT t s ++ [t ++ [(s : Int)]] := by unfold extT; rw [List.range_succ, List.map_append]; rfl
theorem extT_len (t : List Int) (n : Nat) : (extT t n).length = n := by simp [extT]
def tupI (ns : List Nat) : List (List Int) := (tupsF ns).map natI
theorem tupI_succ {ns : List Nat} {i : Nat} (hi : i < ns.length) : tupI (ns.take (i + 1)) = (tupI (ns.take i)).flatMap fun t => extT t (ns.getD i 0) := by
  have e : ns.getD i 0 = ns[i] := by simp [List.getD, hi]
  rw [List.take_succ_eq_append_getElem hi]
  unfold tupI
  rw [tups_snoc, List.map_flatMap, List.flatMap_map, e]
  congr 1
  funext t
  unfold extT
  rw [List.map_map]
  refine List.map_congr_left (fun s _ => ?_)
  simp [natI, Function.comp]
theorem flatT_take (n : Nat) {L : List (List Int)} {j : Nat} (h : j < L.length) : (L.take (j + 1)).flatMap (fun l => extT l n) = (L.take j).flatMap (fun l => extT l n) ++ extT L[j] n := by
  rw [List.take_succ_eq_append_getElem h, List.flatMap_append]; simp
theorem flatT_len (n : Nat) (L : List (List Int)) : (L.flatMap fun l => extT l n).length = L.length * n := by
  induction L with
  | nil => simp
  | cons x L ih =>
    simp only [List.flatMap_cons, List.length_append, List.length_cons, Nat.add_mul, extT_len, ih]
    omega
theorem tupI_el {ns : List Nat} : ∀ t ∈ tupI ns, t.length = ns.length := fun t ht => by
  obtain ⟨x, hx, rfl⟩ := List.mem_map.1 ht
  rw [natI_len]
  exact (tups_iff.1 hx).1
theorem tupI_len (ns : List Nat) : (tupI ns).length = (tupsF ns).length := by simp [tupI]

/-- A row of rows of ints of the call's own. -/
structure TG (base : Nat) (w : World) (a : Option Addr) (k c : Nat) (gs : List Grp) : Prop where
  len : gs.length = k
  own : w.ownsRow base 31 1 (.slice a k c) k (gs.map Grp.v)
  el : ∀ g ∈ gs, SliceAt w 3 1 g.v g.l.length (intCells g.l)
theorem TG.same {base : Nat} {w w' : World} {a : Option Addr} {k c : Nat} {gs : List Grp} (h : TG base w a k c gs) (hs : Same w w') : TG base w' a k c gs := ⟨h.len, owns_same h.own hs, fun g hg => (h.el g hg).same hs⟩
theorem TG.gs {base : Nat} {w : World} {a : Option Addr} {k c : Nat} {gs : List Grp} (h : TG base w a k c gs) : GsAt w (.slice a k c) k gs := ⟨(SliceAt.of_owns h.own).row, fun g hg => (h.el g hg).row⟩
theorem TG.nil (base : Nat) (w : World) : TG base w none 0 0 [] := ⟨rfl, World.ownsRow_nil _ _ _ _, by simp⟩
theorem TG.down {base base' : Nat} {w : World} {a : Option Addr} {k c : Nat} {gs : List Grp} (h : TG base w a k c gs) (hb : base' ≤ base) : TG base' w a k c gs := ⟨h.len, own_base h.own hb, h.el⟩
theorem TG.push {base : Nat} {w W w' : World} {a a' : Option Addr} {k c c' : Nat} {gs : List Grp} {g : Grp} (h : TG base w a k c gs) (hs : Same w W) (hg : SliceAt W 3 1 g.v g.l.length (intCells g.l))
    (ho : w'.ownsRow base 31 1 (.slice a' (k + 1) c') (k + 1) (gs.map Grp.v ++ [g.v])) (hG : Grew (fun _ => False) W w' (.slice a k c) (.slice a' (k + 1) c')) : TG base w' a' (k + 1) c' (gs ++ [g]) := by
  have h2 := h.same hs
  have key : ∀ x : Grp, SliceAt W 3 1 x.v x.l.length (intCells x.l) → SliceAt w' 3 1 x.v x.l.length (intCells x.l) := fun x hx => hx.fr hG.1 (fun k cur hk hS => by
    rcases hS with hS | hS
    · obtain ⟨cur', e⟩ := own_block h2.own hS
      rw [e] at hk
      simp at hk
    · exact hS)
  refine ⟨by simp [h.len], by simpa using ho, fun x hx => ?_⟩
  rcases List.mem_append.1 hx with hx | hx
  · exact key x (h2.el x hx)
  · simp at hx; subst hx; exact key x hg
theorem info_iiT : (Tryz.prog.info? 31).map (fun i => (i.zero, i.size, i.bytes)) = some (some (.slice none 0 0), 1, 24) := by kernel_rfl

/-- What tuples returns. -/
def TupE (base : Nat) (L : List (List Int)) (w : World) (e : Ending) (w' : World) : Prop :=
  ∃ a k c gs, e = .returned (.slice a k c) ∧ TG base w' a k c gs ∧ lst gs = L ∧ k = L.length ∧ Same w w'

set_option maxRecDepth 100000 in
set_option maxHeartbeats 8000000 in
theorem ltuples13 (N : Nw) (w : World) (hat : N.at w) (hn : ∀ k (hk : k < N.As.length), ∃ n : Nat, N.As[k].n = n ∧ n ≤ 1000 ∧ N.ns.getD k 0 = n) (hm : N.As.length ≤ 12) (hL : ∀ i, i ≤ N.As.length → (tupsF (N.ns.take i)).length ≤ 100000) :
    Calls Tryz.prog 25 #[.agg #[.slice N.aA N.As.length N.cA, .slice N.aO N.o.length N.cO]] w (TupE w.heap.size (tupI N.ns) w) := by
  obtain ⟨i3, hi3, hi3z, hi3s, hi3b⟩ := info_parts info3
  obtain ⟨j3, hj3, hj3z, hj3s, hj3b⟩ := info_parts info_iiT
  obtain ⟨m, hmm⟩ : ∃ m, m = N.As.length := ⟨_, rfl⟩
  have hlt : ∀ k, k < m → k < N.As.length := fun k h => hmm ▸ h
  have hrow := fun (k : Nat) (hk : k < m) W (hW : Same w W) => (hat.au.same hW).row (hlt k hk)
  obtain ⟨T, hT⟩ : ∃ T : Nat → List (List Int), T = fun i => tupI (N.ns.take i) := ⟨_, rfl⟩
  have hT0 : T 0 = [[]] := by rw [hT]; rfl
  have hTs : ∀ i, i < N.As.length → T (i + 1) = (T i).flatMap fun t => extT t (N.ns.getD i 0) := fun i hi => by rw [hT]; exact tupI_succ (by rw [N.ns_len]; exact hi)
  have hTl : ∀ i, i ≤ N.As.length → (T i).length ≤ 100000 := fun i hi => by rw [hT]; simp only; rw [tupI_len]; exact hL i hi
  have hTe : ∀ i, i ≤ N.As.length → ∀ t ∈ T i, t.length = i := fun i hi t ht => by
    rw [hT] at ht
    have := tupI_el t ht
    rw [List.length_take, N.ns_len] at this
    omega
  have hTm : tupI N.ns = T N.As.length := by rw [hT]; simp only; rw [List.take_of_length_le (by rw [N.ns_len]; exact Nat.le_refl _)]
  have CL := fun (o : List Int) (a : Option Addr) cap q W (hq : o.length = q) (hO : RowAt W (.slice a q cap) q (intCells o)) (hl : q ≤ 1000000) => cloneI_any o a cap q W hq hO hl
  rw [hTm]
  clear hTm hT hat hL
  unfold CloneI at CL
  simp only [← hmm] at hrow hm hTs hTl hTe ⊢
  have hn2 : ∀ k (hk : k < m), ∃ n : Nat, (N.As[k]'(hlt k hk)).n = n ∧ n ≤ 1000 ∧ T (k + 1) = (T k).flatMap fun t => extT t n := fun k hk => by
    obtain ⟨n, h1, h2, h3⟩ := hn k (hlt k hk)
    exact ⟨n, h1, h2, by rw [hTs k hk, h3]⟩
  clear hn hTs
  generalize N.aA = aA at *
  generalize N.cA = cA at *
  generalize N.aO = aO at *
  generalize N.cO = cO at *
  generalize N.o.length = qo at *
  generalize N.As = As at *
  clear hmm
  unfold TupE
  replace hrow := Lib.hid hrow; replace hT0 := Lib.hid hT0; replace hTl := Lib.hid hTl; replace hTe := Lib.hid hTe; replace CL := Lib.hid CL; replace hlt := Lib.hid hlt; replace hn2 := Lib.hid hn2
  go_enter Tryz.func25, Tryz.ntmps25
  go_upto_region 1 with fail
  have kn := heap_new w (.cells #[.slice aA m cA, .slice aO qo cO] 36)
  have s0 : Same w (w.alloc (.cells #[.slice aA m cA, .slice aO qo cO] 36)) := fs2
  generalize w.alloc (.cells #[.slice aA m cA, .slice aO qo cO] 36) = W0 at *
  obtain ⟨bn, hbn⟩ : ∃ b, b = w.heap.size := ⟨_, rfl⟩
  rw [← hbn] at kn ⊢
  replace kn := Lib.hid kn; replace hbn := Lib.hid hbn
  have x0 := cell_at kn.out 0
  have x1 := cell_at kn.out 1
  have xl := lt_of_heap kn.out
  have hzn : bn ≤ W0.heap.size := by omega
  go_upto_region 2 with fail
  have h1 : (W0.alloc (.cells #[.slice none 0 0] 31)).ownsRow W0.heap.size 31 1 (.slice (some ⟨W0.heap.size, 0, none⟩) 1 1) 1 [.slice none 0 0] := own_of_block (heap_new _ _) (Nat.le_refl _) rfl rfl (by unfold maxLen; omega)
  have s1 : Same W0 (W0.alloc (.cells #[.slice none 0 0] 31)) := fs2
  have hT1 : TG bn (W0.alloc (.cells #[.slice none 0 0] 31)) (some ⟨W0.heap.size, 0, none⟩) 1 1 [⟨none, 0, []⟩] := ⟨rfl, own_base h1 hzn, fun g hg => by simp at hg; subst hg; exact SliceAt.nil _ _ _⟩
  generalize W0.heap.size = b0 at *
  generalize W0.alloc (.cells #[.slice none 0 0] 31) = W1 at *
  have hs1 := s0.same s1
  replace kn := Lib.hid (s1.at kn.out id)
  clear x0 x1 xl
  have x0 := cell_at kn.out 0
  have x1 := cell_at kn.out 1
  have xl := lt_of_heap kn.out
  clear h1 s1 s0
  replace hT1 := Lib.hid hT1; replace hs1 := Lib.hid hs1
  go_wp2_with fail
  clear x0 x1 xl
  go_loopw [3, 6, 8, 9, 14] (fun v3 _ _ _ v14 wr => ∃ (i k c : Nat) (a : Option Addr) (gs : List Grp), v14 = .int .i64 i ∧ i ≤ m ∧ v3 = .slice a k c ∧ TG bn wr a k c gs ∧ lst gs = T i ∧ Same w wr) (fun _ _ _ _ i _ => m - (intOf i).toNat)
  case atStart => exact ⟨0, 1, 1, _, [⟨none, 0, []⟩], rfl, by omega, rfl, hT1.out, by rw [hT0.out]; rfl, hs1.out⟩
  case round =>
    clear hT1
    obtain ⟨i, k, c, a, gs, rfl, hi, rfl, hG, hlv, hs⟩ := hrel
    have hk3 : k ≤ 100000 := by
      have h1 := hTl.out i hi
      rw [← hlv, lst_len, hG.len] at h1
      exact h1
    have hwo := hs.size
    by_cases him : i < m
    · obtain ⟨b1, off1, rfl, hb1, x0, x1, x2, x3⟩ := hrow.out i him _ hs
      obtain ⟨n, hn1, hn9, hLs⟩ := hn2.out i him
      have hl1 := hTl.out (i + 1) (by omega)
      have hTi := hTe.out i hi
      rw [hn1] at x1
      generalize As[i]'(hlt.out i him) = A at *
      clear hn1
      rw [← hlv] at hLs hTi
      have hgl : (lst gs).length = k := by rw [lst_len, hG.len]
      have hfl := flatT_len n (lst gs)
      rw [← hLs, hgl] at hfl
      rw [hfl] at hl1
      replace hG := Lib.hid hG; replace hlv := Lib.hid hlv; replace hs := Lib.hid hs; replace hLs := Lib.hid hLs; replace hgl := Lib.hid hgl; replace hTi := Lib.hid hTi
      go_upto_region 5 with fail
      have kb := heap_new wr (.cells #[.slice A.aA A.al.length A.cA, .int .i64 n, .slice A.aM A.ma.length A.cM, .slice A.aE A.es.length A.cE] 44)
      have s2 : Same wr (wr.alloc (.cells #[.slice A.aA A.al.length A.cA, .int .i64 n, .slice A.aM A.ma.length A.cM, .slice A.aE A.es.length A.cE] 44)) := fs2
      generalize wr.alloc (.cells #[.slice A.aA A.al.length A.cA, .int .i64 n, .slice A.aM A.ma.length A.cM, .slice A.aE A.es.length A.cE] 44) = wo at *
      generalize wr.heap.size = bb at *
      replace hG := Lib.hid (hG.out.same s2)
      have hs2 := hs.out.same s2
      have hwo := hs2.size
      clear s2 hs x0 x1 x2 x3
      replace kb := Lib.hid kb; replace hs2 := Lib.hid hs2
      go_wp2_with fail
      go_loopw [6, 8, 9, 20] (fun v6 _ _ v20 wr => ∃ (j k2 c2 : Nat) (a2 : Option Addr) (gs2 : List Grp), v20 = .int .i64 j ∧ j ≤ k ∧ v6 = .slice a2 k2 c2 ∧ TG wo.heap.size wr a2 k2 c2 gs2 ∧ lst gs2 = ((lst gs).take j).flatMap (fun l => extT l n) ∧ k2 = j * n ∧ Same wo wr) (fun _ _ _ j _ => k - (intOf j).toNat)
      case atStart => exact ⟨0, 0, 0, none, [], rfl, by omega, rfl, TG.nil _ _, by simp [lst], by simp, fs2⟩
      case round =>
        obtain ⟨j, k2, c2, a2, gs2, rfl, hj, rfl, hG2, hl2, hkn, hs3⟩ := hrel
        have hwm := hs3.size
        by_cases hjk : j < k
        · obtain ⟨wm, rfl⟩ : ∃ wm, wm = wr := ⟨_, rfl⟩
          have hjl : j < gs.length := by rw [hG.out.len]; exact hjk
          have hjl2 : j < (lst gs).length := by rw [hgl.out]; exact hjk
          have hRo : RowAt wo (.slice gs[j].a gs[j].l.length gs[j].cap) gs[j].l.length (intCells gs[j].l) := hG.out.gs.2 _ (List.getElem_mem hjl)
          obtain ⟨b, off, rfl, hbl, c0, hR⟩ := (hG.out.gs.same hs3).get hjl
          have hft := flatT_take n hjl2
          rw [lst_get gs hjl] at hft
          have hk2 : k2 + n ≤ 100000 := by
            have h1 : (j + 1) * n ≤ k * n := Nat.mul_le_mul_right n hjk
            rw [Nat.add_mul] at h1
            omega
          have hll : gs[j].l.length = i := hTi.out _ (by rw [← lst_get gs hjl]; exact List.getElem_mem _)
          generalize gs[j] = g at *
          obtain ⟨ga, gc, gl⟩ := g
          simp only at c0 hR hft hll hRo
          rw [hll] at c0 hR hRo
          have kb2 := hs3.at kb.out id
          have y1 := cell_at kb2 1
          have yl := lt_of_heap kb2
          replace hG2 := Lib.hid hG2; replace hl2 := Lib.hid hl2; replace hs3 := Lib.hid hs3; replace hft := Lib.hid hft; replace hll := Lib.hid hll; replace hR := Lib.hid hR; replace hRo := Lib.hid hRo; replace kb2 := Lib.hid kb2; replace hkn := Lib.hid hkn
          go_wp2_with fail
          clear y1 yl c0
          go_loopw [6, 9, 26] (fun v6 _ v26 wr => ∃ (v k3 c3 : Nat) (a3 : Option Addr) (gs3 : List Grp), v26 = .int .i64 v ∧ v ≤ n ∧ v6 = .slice a3 k3 c3 ∧ TG wo.heap.size wr a3 k3 c3 gs3 ∧ lst gs3 = ((lst gs).take j).flatMap (fun l => extT l n) ++ extT gl v ∧ k3 = k2 + v ∧ Same wo wr) (fun _ _ v _ => n - (intOf v).toNat)
          case atStart => exact ⟨0, k2, c2, a2, gs2, rfl, by omega, rfl, hG2.out, by rw [hl2.out, extT_zero, List.append_nil], by omega, hs3.out⟩
          case round =>
            obtain ⟨v, k3, c3, a3, gs3, rfl, hv, rfl, hG3, hl3, hk3', hs4⟩ := hrel
            have hR3 := hRo.out.same hs4
            have hwv := hs4.size
            by_cases hvn : v < n
            · have hss := extT_succ gl v
              have CLk := CL.out gl ga gc i wr hll.out hR3 (by omega)
              replace hG3 := Lib.hid hG3; replace hl3 := Lib.hid hl3; replace hs4 := Lib.hid hs4; replace hR3 := Lib.hid hR3; replace hss := Lib.hid hss; replace CLk := Lib.hid CLk; replace hk3' := Lib.hid hk3'
              have hk9 : k3 + 1 ≤ 100000 := by have := hk3'.out; omega
              go_wp2_with fail
              refine CLk.out.mono ?_
              rintro e w4 ⟨a4, c4, rfl, ho4, s4⟩
              have hz4 := s4.size
              replace ho4 := Lib.hid ho4; replace s4 := Lib.hid s4
              go_wp2_with (first
                | (at_builtin; refine wpList_append1 rfl (.tmp 31) (.tmp 33) 31 rfl wr.heap.size 3 i3 (.int .i64 0) 1 8 Tryz.underlying31 hi3 hi3z hi3s hi3b rfl (by decide) (by decide) a4 i c4 (intCells gl) rfl (owns_same ho4.out fs2) (by omega) w4.heap.size [.int .i64 v] rfl rfl (heap_new _ _) (by simp [Value.oneCell']) (by simp; omega) ?_; intro a5 c5 w5 ho5 hG5; have hs6 : Same wr w5 := grew_fresh (s4.out.same fs2) hG5 (fun k hk => (ho4.out.lt k hk).1); replace ho5 := Lib.hid ho5; replace hs6 := Lib.hid hs6; clear hG5)
                | (at_builtin; refine wpList_append1 rfl (.tmp 29) (.tmp 35) 59 rfl wo.heap.size 31 j3 (.slice none 0 0) 1 24 Tryz.underlying59 hj3 hj3z hj3s hj3b rfl (by decide) (by decide) a3 k3 c3 (gs3.map Grp.v) rfl (owns_same hG3.out.own (hs6.out.same fs2)) (by omega) w5.heap.size [.slice a5 (i + 1) c5] rfl rfl (heap_new _ _) (by simp [Value.oneCell']) (by have := hs6.out.size; simp; omega) ?_; intro a6 c6 w6 ho6 hG6; replace ho6 := Lib.hid ho6; replace hG6 := Lib.hid hG6))
              have hg6 : SliceAt (w5.alloc (.cells #[.slice a5 (i + 1) c5] 31)) 3 1 (Grp.v ⟨a5, c5, gl ++ [(v : Int)]⟩) (gl ++ [(v : Int)]).length (intCells (gl ++ [(v : Int)])) := by
                have := (SliceAt.of_owns ho5.out).same (show Same w5 (w5.alloc (.cells #[.slice a5 (i + 1) c5] 31)) from fs2)
                unfold Grp.v
                simp only [List.length_append, List.length_singleton, hll.out]
                simpa [intCells] using this
              have hv6 : Grp.v ⟨a5, c5, gl ++ [(v : Int)]⟩ = .slice a5 (i + 1) c5 := by unfold Grp.v; simp [hll.out]
              have hWs : Same wr (w5.alloc (.cells #[.slice a5 (i + 1) c5] 31)) := hs6.out.alloc _
              have hG7 := TG.push (g := ⟨a5, c5, gl ++ [(v : Int)]⟩) hG3.out hWs hg6 (by rw [hv6]; exact ho6.out) hG6.out
              have hs7 : Same wo w6 := grew_fresh (hs4.out.same hWs) hG6.out (fun k hk => (hG3.out.own.lt k hk).1)
              replace hG7 := Lib.hid hG7; replace hs7 := Lib.hid hs7
              clear ho4 ho5 ho6 hG6 s4 hs6 hg6 hv6 hWs
              go_roundw
              case rel => exact ⟨v + 1, k3 + 1, c6, a6, _, by go_num, by omega, rfl, hG7.out, by rw [lst, List.map_append, ← lst, hl3.out, hss.out, List.append_assoc]; rfl, by have := hk3'.out; omega, hs7.out⟩
              case measure => simp [intOf]; omega
            · obtain rfl : v = n := by omega
              replace hG3 := Lib.hid hG3; replace hl3 := Lib.hid hl3; replace hs4 := Lib.hid hs4; replace hR3 := Lib.hid hR3
              go_wp2_with fail
              go_roundw
              case rel => exact ⟨j + 1, k3, c3, a3, gs3, by go_num, by omega, rfl, hG3.out, by rw [hl3.out, hft.out], by rw [hk3', hkn.out, Nat.add_mul]; omega, hs4.out⟩
              case measure => simp [intOf]; omega
        · obtain rfl : j = k := by omega
          rw [List.take_of_length_le (by rw [hgl.out]; exact Nat.le_refl _)] at hl2
          replace hG2 := Lib.hid hG2; replace hl2 := Lib.hid hl2; replace hs3 := Lib.hid hs3
          go_wp2_with fail
          go_roundw
          case rel => exact ⟨i + 1, k2, c2, a2, gs2, by go_num, by omega, rfl, hG2.out.down (by have := hbn.out; omega), by rw [hl2.out, hLs.out], hs2.out.same hs3.out⟩
          case measure => simp [intOf]; omega
    · obtain rfl : i = m := by omega
      replace hG := Lib.hid hG; replace hlv := Lib.hid hlv; replace hs := Lib.hid hs
      go_wp2_with fail
      go_ret
      exact ⟨a, k, c, gs, rfl, by rw [← hbn.out]; exact hG.out, hlv.out, by rw [← hlv.out, lst_len, hG.out.len], hs.out⟩
end Go.Proofs.YtknlkcfnfjchdaaGreat
