/- The law of package network: code walked. The law of package network: bits, all, number, code walked. The closures of a network's steps, by tuples: they do not depend on the order (plain). package network: Count, Enabled, Blocked walked. package network: measured, Count walked. -/
import Derived.Test.YtknlkcfnfjchdaaGreatCNetT
import Derived.Test.YtknlkcfnfjchdaaGreatCNetM
namespace Go.Proofs.YtknlkcfnfjchdaaGreat
open Go.RowKit
set_option linter.unusedVariables false
set_option linter.unusedSimpArgs false

/-- The error of a set of v variables with a table. -/
def Nw.mErr (N : Nw) (v : Nat) (t : List Bool) : Int := if v ≠ N.all then 4 else if ite3 t (N.set (okT N.ns)) (fls N.all) = t then 0 else 2
def MeE (N : Nw) (E : Int) (w : World) (e : Ending) (w' : World) : Prop :=
  (E ≠ 0 ∧ e = .returned (.tuple #[.agg #[.slice none 0 0, .slice none 0 0, .int .i64 0, .bool false], .int .i64 E]) ∧ Same w w') ∨
  (E = 0 ∧ ∃ aT aB cT cB, e = .returned (.tuple #[.agg #[.slice aT N.As.length cT, .slice aB N.As.length cB, .int .i64 N.all, .bool N.emp], .int .i64 0]) ∧ LyAt N aT aB cT cB w' ∧ Same w w')

set_option maxRecDepth 100000 in
set_option maxHeartbeats 8000000 in
theorem measured_net (N : Nw) (OK : NetOk N) (d : Dg) (v : Nat) (t : List Bool) (w : World) (hat : N.at w) (hd : d.at w) (T : d.tab v t) :
    Calls Tryz.prog 101 #[.agg #[.slice N.aA N.As.length N.cA, .slice N.aO N.o.length N.cO], .agg #[.int .i64 d.n, .slice d.a d.L.length d.cap, .int .i64 d.r]] w (MeE N (N.mErr v t) w) := by
  have h10 := OK.h10
  have PL := fun W (hW : Same w W) => OK.place W (hat.same hW)
  have CK := fun W (hW : Same w W) => check_tab d v t W (SliceAt.same hd hW) T
  have VA := fun aT aB cT cB W (hW : Same w W) (hly : LyAt N aT aB cT cB W) => valid_any N OK aT aB cT cB W (hat.same hW) hly
  obtain ⟨V, hV⟩ : ∃ V, V = N.set (okT N.ns) := ⟨_, rfl⟩
  have hVl : V.length = 2 ^ N.all := by rw [hV]; exact tupT_len _ _ _ _ _
  have hE1 : v ≠ N.all → N.mErr v t = 4 := fun h => by unfold Nw.mErr; rw [if_pos h]
  have hE2 : v = N.all → ite3 t V (fls N.all) = t → N.mErr v t = 0 := fun h h2 => by unfold Nw.mErr; rw [if_neg (by simpa using h), ← hV, if_pos h2]
  have hE3 : v = N.all → ¬ ite3 t V (fls N.all) = t → N.mErr v t = 2 := fun h h2 => by unfold Nw.mErr; rw [if_neg (by simpa using h), ← hV, if_neg h2]
  rw [← hV] at VA
  have AN := fun (d2 : Dg) (h : v = N.all) W (hW : Same w W) (h2 : d2.at W) (T2 : d2.tab N.all V) => And_big (n := N.all) (by omega) (SliceAt.same hd hW) h2 (h ▸ T) T2 (short14 (by omega) (ite3_len (by rw [← h]; exact T.2.len) hVl (fls_len _)))
  have EQ := fun (d2 : Dg) (h : v = N.all) W (hW : Same w W) (h2 : d2.at W) (T2 : d2.tab N.all (ite3 t V (fls N.all))) => equal_dg (d' := d) h2 (SliceAt.same hd hW) T2 (h ▸ T)
  have hdn := T.1
  have hb4 : N.mErr v t ≠ 0 → ∀ w', Same w w' → MeE N (N.mErr v t) w (.returned (.tuple #[.agg #[.slice none 0 0, .slice none 0 0, .int .i64 0, .bool false], .int .i64 (N.mErr v t)])) w' := fun h w' hs => .inl ⟨h, rfl, hs⟩
  have hgd : N.mErr v t = 0 → ∀ aT aB cT cB w', LyAt N aT aB cT cB w' → Same w w' → MeE N (N.mErr v t) w (.returned (.tuple #[.agg #[.slice aT N.As.length cT, .slice aB N.As.length cB, .int .i64 N.all, .bool N.emp], .int .i64 0])) w' := fun h aT aB cT cB w' h1 h2 => .inr ⟨h, aT, aB, cT, cB, rfl, h1, h2⟩
  simp only [Dg.v] at CK AN EQ
  rw [hdn] at CK AN EQ ⊢
  generalize ite3 t V (fls N.all) = t2 at *
  generalize d.a = da at *
  generalize d.L.length = dq at *
  generalize d.cap = dc at *
  generalize d.r = dr at *
  obtain ⟨Q, hQ⟩ : ∃ Q, Q = MeE N (N.mErr v t) w := ⟨_, rfl⟩
  rw [← hQ] at hb4 hgd ⊢
  clear hd T hdn hV hVl hQ
  generalize N.mErr v t = EE at *
  clear hat OK
  generalize N.all = n at *
  generalize N.emp = em at *
  generalize N.As.length = m at *
  generalize N.o.length = qo at *
  generalize N.aA = aA at *
  generalize N.cA = cA at *
  generalize N.aO = aO at *
  generalize N.cO = cO at *
  replace PL := Lib.hid PL; replace CK := Lib.hid CK; replace VA := Lib.hid VA; replace AN := Lib.hid AN; replace EQ := Lib.hid EQ; replace hE1 := Lib.hid hE1; replace hE2 := Lib.hid hE2; replace hE3 := Lib.hid hE3; replace hb4 := Lib.hid hb4; replace hgd := Lib.hid hgd
  go_enter Tryz.func101, Tryz.ntmps101
  go_upto_region 1 with fail
  have kn := heap_old (heap_old (heap_new w (.cells #[.slice aA m cA, .slice aO qo cO] 36)) (.cells #[.int .i64 v, .slice da dq dc, .int .i64 dr] 54)) (.cells #[.slice none 0 0, .slice none 0 0, .int .i64 0, .bool false] 124)
  have kf := heap_old (heap_new (w.alloc (.cells #[.slice aA m cA, .slice aO qo cO] 36)) (.cells #[.int .i64 v, .slice da dq dc, .int .i64 dr] 54)) (.cells #[.slice none 0 0, .slice none 0 0, .int .i64 0, .bool false] 124)
  have kr := heap_new ((w.alloc (.cells #[.slice aA m cA, .slice aO qo cO] 36)).alloc (.cells #[.int .i64 v, .slice da dq dc, .int .i64 dr] 54)) (.cells #[.slice none 0 0, .slice none 0 0, .int .i64 0, .bool false] 124)
  rw [← al1] at kf
  rw [← al2] at kr
  have hs : Same w (((w.alloc (.cells #[.slice aA m cA, .slice aO qo cO] 36)).alloc (.cells #[.int .i64 v, .slice da dq dc, .int .i64 dr] 54)).alloc (.cells #[.slice none 0 0, .slice none 0 0, .int .i64 0, .bool false] 124)) := fs2
  generalize ((w.alloc (.cells #[.slice aA m cA, .slice aO qo cO] 36)).alloc (.cells #[.int .i64 v, .slice da dq dc, .int .i64 dr] 54)).alloc (.cells #[.slice none 0 0, .slice none 0 0, .int .i64 0, .bool false] 124) = W0 at *
  replace kn := Lib.hid kn; replace kf := Lib.hid kf; replace kr := Lib.hid kr; replace hs := Lib.hid hs
  have y0 := cell_at kn.out 0
  have y1 := cell_at kn.out 1
  have yl := lt_of_heap kn.out
  go_wp2_with fail
  refine (PL.out _ hs.out).mono ?_
  rintro e w1 ⟨aT, aB, cT, cB, rfl, hly, s1⟩
  clear y0 y1 yl
  have hbl : w.heap.size + 1 + 1 < w1.heap.size := by have h9 := lt_of_heap kr.out; have h8 := s1.size; omega
  replace kn := Lib.hid (s1.at kn.out id); replace kr := Lib.hid (s1.at kr.out id); replace kf := Lib.hid (s1.at kf.out id)
  have hs1 := hs.out.same s1
  clear s1 hs
  replace hly := Lib.hid hly; replace hs1 := Lib.hid hs1
  go_upto_region 2 with fail
  have kl := heap_new w1 (.cells #[.slice aT m cT, .slice aB m cB, .int .i64 n, .bool em] 124)
  have s2 : Same w1 (w1.alloc (.cells #[.slice aT m cT, .slice aB m cB, .int .i64 n, .bool em] 124)) := fs2
  have hly2 := hly.out.same s2
  replace kn := Lib.hid (s2.at kn.out id); replace kr := Lib.hid (s2.at kr.out id); replace kf := Lib.hid (s2.at kf.out id)
  have hs2 := hs1.out.same s2
  clear s2 hly hs1
  generalize w1.alloc (.cells #[.slice aT m cT, .slice aB m cB, .int .i64 n, .bool em] 124) = W1 at *
  generalize w1.heap.size = bl at *
  replace kl := Lib.hid kl; replace hly2 := Lib.hid hly2; replace hs2 := Lib.hid hs2
  have x0 := cell_at kf.out 0
  have x1 := cell_at kf.out 1
  have x2 := cell_at kf.out 2
  have xl := lt_of_heap kf.out
  go_upto_region 4 with fail
  go_wp2_with fail
  refine (CK.out _ hs2.out).mono ?_
  rintro e w3 ⟨rfl, s3⟩
  clear x0 x1 x2 xl
  replace kn := Lib.hid (s3.at kn.out id); replace kr := Lib.hid (s3.at kr.out id); replace kf := Lib.hid (s3.at kf.out id); replace kl := Lib.hid (s3.at kl.out id)
  have hly3 := hly2.out.same s3
  have hs3 := hs2.out.same s3
  clear s3 hly2 hs2
  replace hly3 := Lib.hid hly3; replace hs3 := Lib.hid hs3
  by_cases hvn : v = n
  · have hVA := VA.out
    have hAN := fun d2 => AN.out d2 hvn
    have hEQ := fun d2 => EQ.out d2 hvn
    have hb1 : ((v : Int) != (n : Int)) = false := by simp; omega
    replace hVA := Lib.hid hVA; replace hAN := Lib.hid hAN; replace hEQ := Lib.hid hEQ; replace hvn := Lib.hid hvn
    clear VA AN EQ
    have z0 := cell_at kl.out 0
    have z1 := cell_at kl.out 1
    have z2 := cell_at kl.out 2
    have z3 := cell_at kl.out 3
    have zl := lt_of_heap kl.out
    have x0 := cell_at kf.out 0
    have x1 := cell_at kf.out 1
    have x2 := cell_at kf.out 2
    have xl := lt_of_heap kf.out
    have y0 := cell_at kn.out 0
    have y1 := cell_at kn.out 1
    have yl := lt_of_heap kn.out
    go_upto_region 9 with fail
    go_wp2_with fail
    refine (hVA.out _ _ _ _ _ hs3.out hly3.out).mono ?_
    intro e w4 hM
    obtain ⟨a4, c4, L4, r4, rfl, d4, t4, s4⟩ := hM.open
    clear z0 z1 z2 z3 zl
    clear x0 x1 x2 xl
    clear y0 y1 yl
    have hb4' : bl < w4.heap.size := by have h9 := lt_of_heap kl.out; have h8 := s4.size; omega
    replace kr := Lib.hid (s4.at kr.out id); replace kf := Lib.hid (s4.at kf.out id); replace kl := Lib.hid (s4.at kl.out id)
    have hly4 := hly3.out.same s4
    have hs4 := hs3.out.same s4
    clear hM s4 hs3 kn hly3
    replace d4 := Lib.hid d4; replace t4 := Lib.hid t4; replace hs4 := Lib.hid hs4; replace hly4 := Lib.hid hly4
    go_upto_region 10 with fail
    have k5 := heap_new w4 (.cells #[.int .i64 n, .slice a4 L4.length c4, .int .i64 r4] 54)
    have s5 : Same w4 (w4.alloc (.cells #[.int .i64 n, .slice a4 L4.length c4, .int .i64 r4] 54)) := fs2
    generalize w4.alloc (.cells #[.int .i64 n, .slice a4 L4.length c4, .int .i64 r4] 54) = W5 at *
    replace d4 := Lib.hid (d4.out.same s5); replace kr := Lib.hid (s5.at kr.out id); replace kf := Lib.hid (s5.at kf.out id); replace kl := Lib.hid (s5.at kl.out id)
    have hly5 := hly4.out.same s5
    have hs5 := hs4.out.same s5
    clear s5 hs4 hly4
    generalize w4.heap.size = b5 at *
    replace k5 := Lib.hid k5; replace hs5 := Lib.hid hs5; replace hly5 := Lib.hid hly5
    have x0 := cell_at kf.out 0
    have x1 := cell_at kf.out 1
    have x2 := cell_at kf.out 2
    have xl := lt_of_heap kf.out
    have y0 := cell_at k5.out 0
    have y1 := cell_at k5.out 1
    have y2 := cell_at k5.out 2
    have yl := lt_of_heap k5.out
    go_upto_region 12 with fail
    go_wp2_with fail
    refine (hAN.out ⟨n, a4, c4, L4, r4⟩ _ hs5.out d4.out ⟨rfl, t4.out⟩).mono ?_
    intro e w6 hM
    obtain ⟨a6, c6, L6, r6, rfl, d6, t6, s6⟩ := hM.open
    clear x0 x1 x2 xl
    clear y0 y1 y2 yl
    have hb6 : b5 < w6.heap.size := by have h9 := lt_of_heap k5.out; have h8 := s6.size; omega
    replace kr := Lib.hid (s6.at kr.out id); replace kf := Lib.hid (s6.at kf.out id); replace kl := Lib.hid (s6.at kl.out id)
    have hly6 := hly5.out.same s6
    have hs6 := hs5.out.same s6
    clear hM s6 hs5 k5 d4 t4 hly5
    replace d6 := Lib.hid d6; replace t6 := Lib.hid t6; replace hs6 := Lib.hid hs6; replace hly6 := Lib.hid hly6
    go_upto_region 13 with fail
    have k7 := heap_new w6 (.cells #[.int .i64 n, .slice a6 L6.length c6, .int .i64 r6] 54)
    have s7 : Same w6 (w6.alloc (.cells #[.int .i64 n, .slice a6 L6.length c6, .int .i64 r6] 54)) := fs2
    generalize w6.alloc (.cells #[.int .i64 n, .slice a6 L6.length c6, .int .i64 r6] 54) = W7 at *
    replace d6 := Lib.hid (d6.out.same s7); replace kr := Lib.hid (s7.at kr.out id); replace kf := Lib.hid (s7.at kf.out id); replace kl := Lib.hid (s7.at kl.out id)
    have hly7 := hly6.out.same s7
    have hs7 := hs6.out.same s7
    clear s7 hs6 hly6
    generalize w6.heap.size = b7 at *
    replace k7 := Lib.hid k7; replace hs7 := Lib.hid hs7; replace hly7 := Lib.hid hly7
    have x0 := cell_at kf.out 0
    have x1 := cell_at kf.out 1
    have x2 := cell_at kf.out 2
    have xl := lt_of_heap kf.out
    have y0 := cell_at k7.out 0
    have y1 := cell_at k7.out 1
    have y2 := cell_at k7.out 2
    have yl := lt_of_heap k7.out
    go_upto_region 15 with fail
    go_wp2_with fail
    refine (hEQ.out ⟨n, a6, c6, L6, r6⟩ _ hs7.out d6.out ⟨rfl, t6.out⟩).mono ?_
    rintro e w8 ⟨rfl, s8⟩
    clear x0 x1 x2 xl
    clear y0 y1 y2 yl
    replace kr := Lib.hid (s8.at kr.out id); replace kl := Lib.hid (s8.at kl.out id)
    have hly8 := hly7.out.same s8
    have hs8 := hs7.out.same s8
    clear s8 hs7 kf k7 d6 t6 hly7
    replace hs8 := Lib.hid hs8; replace hly8 := Lib.hid hly8
    by_cases htt : t2 = t
    · have hE := hE2.out hvn.out htt
      rw [decide_eq_true htt]
      subst hE
      have hg := hgd.out rfl
      replace hg := Lib.hid hg; replace htt := Lib.hid htt
      have z0 := cell_at kl.out 0
      have z1 := cell_at kl.out 1
      have z2 := cell_at kl.out 2
      have z3 := cell_at kl.out 3
      have zl := lt_of_heap kl.out
      obtain ⟨q0, q1, q2, q3, g0, g1, g2, g3, ql⟩ := boxq_facts kr.out
      go_wp2_with fail
      obtain ⟨e0, e1, e2, e3, hsF, hF⟩ := ly_stored (u0 := .slice aT m cT) (u1 := .slice aB m cB) (u2 := .int .i64 n) (u3 := .bool em) hs8.out (by omega) kr.out
      refine bodyPost_ret (v := .tuple #[.agg #[.slice aT m cT, .slice aB m cB, .int .i64 n, .bool em], .int .i64 0]) (by simp [results, Tryz.results101, go_sem, e0, e1, e2, e3]) rfl ?_
      exact hg.out _ _ _ _ _ (hly8.out.box hF kr.out) hsF
    · have hE := hE3.out hvn.out htt
      rw [decide_eq_false htt]
      subst hE
      have hg := hb4.out (by decide)
      replace hg := Lib.hid hg; replace htt := Lib.hid htt
      obtain ⟨q0, q1, q2, q3, g0, g1, g2, g3, ql⟩ := boxq_facts kr.out
      go_wp2_with fail
      obtain ⟨e0, e1, e2, e3, hsF, hF⟩ := ly_stored (u0 := .slice none 0 0) (u1 := .slice none 0 0) (u2 := .int .i64 0) (u3 := .bool false) hs8.out (by omega) kr.out
      refine bodyPost_ret (v := .tuple #[.agg #[.slice none 0 0, .slice none 0 0, .int .i64 0, .bool false], .int .i64 2]) (by simp [results, Tryz.results101, go_sem, e0, e1, e2, e3]) rfl ?_
      exact hg.out _ hsF
  · have hE := hE1.out hvn
    subst hE
    have hg := hb4.out (by decide)
    have hb1 : ((v : Int) != (n : Int)) = true := by simp; omega
    replace hg := Lib.hid hg; replace hvn := Lib.hid hvn
    have z0 := cell_at kl.out 0
    have z1 := cell_at kl.out 1
    have z2 := cell_at kl.out 2
    have z3 := cell_at kl.out 3
    have zl := lt_of_heap kl.out
    have x0 := cell_at kf.out 0
    have x1 := cell_at kf.out 1
    have x2 := cell_at kf.out 2
    have xl := lt_of_heap kf.out
    obtain ⟨q0, q1, q2, q3, g0, g1, g2, g3, ql⟩ := boxq_facts kr.out
    go_wp2_with fail
    obtain ⟨e0, e1, e2, e3, hsF, hF⟩ := ly_stored (u0 := .slice none 0 0) (u1 := .slice none 0 0) (u2 := .int .i64 0) (u3 := .bool false) hs3.out (by omega) kr.out
    refine bodyPost_ret (v := .tuple #[.agg #[.slice none 0 0, .slice none 0 0, .int .i64 0, .bool false], .int .i64 4]) (by simp [results, Tryz.results101, go_sem, e0, e1, e2, e3]) rfl ?_
    exact hg.out _ hsF

set_option maxRecDepth 100000 in
set_option maxHeartbeats 4000000 in
theorem Count_net (N : Nw) (OK : NetOk N) (d : Dg) (v : Nat) (t : List Bool) (w : World) (hat : N.at w) (hd : d.at w) (T : d.tab v t) :
    Calls Tryz.prog 34 #[.agg #[.slice N.aA N.As.length N.cA, .slice N.aO N.o.length N.cO], .agg #[.int .i64 d.n, .slice d.a d.L.length d.cap, .int .i64 d.r]] w fun e w' => e = .returned (.tuple #[.int .i64 (if N.mErr v t = 0 then ((t.count true : Nat) : Int) else 0), .int .i64 (N.mErr v t)]) ∧ Same w w' := by
  have ME := fun W (hW : Same w W) => measured_net N OK d v t W (hat.same hW) (SliceAt.same hd hW) T
  have CT := fun W (hW : Same w W) => count_tab d v t W (SliceAt.same hd hW) T
  have hdn := T.1
  simp only [Dg.v] at CT
  rw [hdn] at ME CT ⊢
  generalize d.a = da at *
  generalize d.L.length = dq at *
  generalize d.cap = dc at *
  generalize d.r = dr at *
  obtain ⟨EE, hEE⟩ : ∃ EE, EE = N.mErr v t := ⟨_, rfl⟩
  rw [← hEE] at ME ⊢
  generalize t.count true = ct at *
  obtain ⟨cx, hcx⟩ : ∃ cx : Int, cx = if EE = 0 then (ct : Int) else 0 := ⟨_, rfl⟩
  rw [← hcx]
  clear hat hd T hdn OK hEE
  unfold MeE at ME
  generalize N.aA = aA at *
  generalize N.cA = cA at *
  generalize N.aO = aO at *
  generalize N.cO = cO at *
  generalize N.all = n at *
  generalize N.emp = em at *
  generalize hm : N.As.length = m at *
  generalize N.o.length = qo at *
  replace ME := Lib.hid ME; replace CT := Lib.hid CT; replace hcx := Lib.hid hcx
  go_enter Tryz.func34, Tryz.ntmps34
  go_upto_region 1 with fail
  have kn := heap_old (heap_new w (.cells #[.slice aA m cA, .slice aO qo cO] 36)) (.cells #[.int .i64 v, .slice da dq dc, .int .i64 dr] 54)
  have kf := heap_new (w.alloc (.cells #[.slice aA m cA, .slice aO qo cO] 36)) (.cells #[.int .i64 v, .slice da dq dc, .int .i64 dr] 54)
  rw [← al1] at kf
  have hs : Same w ((w.alloc (.cells #[.slice aA m cA, .slice aO qo cO] 36)).alloc (.cells #[.int .i64 v, .slice da dq dc, .int .i64 dr] 54)) := fs2
  generalize (w.alloc (.cells #[.slice aA m cA, .slice aO qo cO] 36)).alloc (.cells #[.int .i64 v, .slice da dq dc, .int .i64 dr] 54) = W0 at *
  replace kn := Lib.hid kn; replace kf := Lib.hid kf; replace hs := Lib.hid hs
  have y0 := cell_at kn.out 0
  have y1 := cell_at kn.out 1
  have yl := lt_of_heap kn.out
  have x0 := cell_at kf.out 0
  have x1 := cell_at kf.out 1
  have x2 := cell_at kf.out 2
  have xl := lt_of_heap kf.out
  go_wp2_with fail
  refine (ME.out _ hs.out).mono ?_
  intro e w1 hM
  clear y0 y1 yl
  clear x0 x1 x2 xl
  rcases hM with ⟨h0, rfl, s1⟩ | ⟨rfl, aT, aB, cT, cB, rfl, _, s1⟩
  · have hb : (EE != 0) = true := by simpa using h0
    have hs1 := hs.out.same s1
    obtain rfl : cx = 0 := by rw [hcx.out, if_neg h0]
    clear s1
    replace h0 := Lib.hid h0; replace hs1 := Lib.hid hs1
    go_wp2_with fail
    go_ret2
    exact ⟨rfl, hs1.out.same fs2⟩
  · replace kf := Lib.hid (s1.at kf.out id)
    have hs1 := hs.out.same s1
    clear s1
    obtain rfl : cx = (ct : Int) := by rw [hcx.out, if_pos rfl]
    replace hs1 := Lib.hid hs1
    go_upto_region 2 with fail
    have s2 : Same w1 (w1.alloc (.cells #[.slice aT m cT, .slice aB m cB, .int .i64 n, .bool em] 124)) := fs2
    replace kf := Lib.hid (s2.at kf.out id)
    have hs2 := hs1.out.same s2
    clear s2
    generalize w1.alloc (.cells #[.slice aT m cT, .slice aB m cB, .int .i64 n, .bool em] 124) = W2 at *
    replace hs2 := Lib.hid hs2
    have x0 := cell_at kf.out 0
    have x1 := cell_at kf.out 1
    have x2 := cell_at kf.out 2
    have xl := lt_of_heap kf.out
    go_wp2_with fail
    refine (CT.out _ hs2.out).mono ?_
    rintro e w3 ⟨rfl, s3⟩
    have hs3 := hs2.out.same s3
    replace hs3 := Lib.hid hs3
    go_wp2_with fail
    go_ret2
    exact ⟨rfl, hs3.out⟩

/-- The tuple of a code. -/
def Nw.T (N : Nw) (k : Nat) : List Nat := tupA N.bs N.at' N.As.length (bitF N.all k)
theorem NwOk.code {N : Nw} (h : NwOk N) {k : Nat} (hk : k < 2 ^ N.all) (p : List Nat → Bool) : (∃ x ∈ tupsF N.ns, p x = true ∧ numB (codeL N.bs N.on x) = k) ↔ okT N.ns (N.T k) = true ∧ p (N.T k) = true := by
  have hpm := h.pm
  rw [← N.ns_len] at hpm
  have H := code_key (bs := N.bs) (ns := N.ns) hpm (n := N.all) rfl (fun i hi => h.bits (by rw [← N.ns_len]; exact hi)) hk p
  have e : N.T k = tupA N.bs (atB N.bs N.on) N.ns.length (bitF N.all k) := by rw [N.ns_len]; rfl
  rw [e]
  exact H

set_option maxRecDepth 100000 in
theorem lbits13 (n : Nat) (w : World) (hn : n ≤ 4096) : Calls Tryz.prog 66 #[.int .i64 n] w fun e w' => e = .returned (.int .i64 (bitsF n)) ∧ Same w w' := by
  obtain ⟨b, hb⟩ : ∃ b, b = bitsF n := ⟨_, rfl⟩
  have hB := bitsF_is hn
  have h12 := bitsF_12 hn
  rw [← hb] at hB h12 ⊢
  replace hb := Lib.hid hb; replace hB := Lib.hid hB
  go_enter Tryz.func66, Tryz.ntmps66
  go_wp2_with fail
  go_loopw [3] (fun v wr => ∃ j : Nat, v = .int .i64 j ∧ j ≤ b ∧ Same w wr) (fun j _ => b - (intOf j).toNat)
  case atStart => exact ⟨0, rfl, by omega, Fr.refl _ _⟩
  case round =>
    obtain ⟨j, rfl, hj, hs⟩ := hrel
    have hw := wrap_pow j (by omega)
    have hw2 : IntKind.i64.wrap ((2 : Int) ^ j) = ((2 ^ j : Nat) : Int) := by
      have e : ((2 : Int) ^ j) = ((2 ^ j : Nat) : Int) := by simp
      have hj2 : 2 ^ j ≤ 2 ^ 12 := Nat.pow_le_pow_right (by omega) (by omega)
      rw [e]
      exact wrap_sm _ (Nat.le_trans hj2 (by decide))
    by_cases hlt : j < b
    · have h2 := hB.out.least j hlt
      generalize hp : 2 ^ j = p at *
      have h2i : (p : Int) < n := by omega
      replace hs := Lib.hid hs; replace hp := Lib.hid hp
      go_wp2_with fail
      go_roundw
      case rel => exact ⟨j + 1, by go_num, by omega, hs.out⟩
      case measure => simp [intOf]; omega
    · obtain rfl : j = b := by omega
      have h2 := hB.out.le
      generalize hp : 2 ^ j = p at *
      have h2i : ¬ (p : Int) < n := by omega
      replace hs := Lib.hid hs; replace hp := Lib.hid hp
      go_wp2_with fail
      go_ret
      exact ⟨rfl, hs.out⟩

theorem sumB_perm {bs : Nat → Nat} {l k : List Nat} (h : l.Perm k) : sumB bs l = sumB bs k := by
  induction h with
  | nil => rfl
  | cons x _ ih => simp only [sumB, ih]
  | swap x y l => simp only [sumB]; omega
  | trans _ _ a b => exact a.trans b
theorem NwOk.all_range {N : Nw} (h : NwOk N) : N.all = sumB N.bs (List.range N.As.length) :=
  sumB_perm ((List.perm_ext_iff_of_nodup h.pm.nodup List.nodup_range).2 (fun i => by rw [h.pm.mem, List.mem_range]))
theorem sumB_rng (bs : Nat → Nat) (k : Nat) : sumB bs (List.range (k + 1)) = sumB bs (List.range k) + bs k := by
  rw [List.range_succ, sumB_append]; rfl
theorem sumB_rng12 {bs : Nat → Nat} (h : ∀ i, bs i ≤ 12) : ∀ k, sumB bs (List.range k) ≤ k * 12
  | 0 => Nat.zero_le _
  | k + 1 => by
    have := sumB_rng12 h k
    have := h k
    rw [sumB_rng]
    omega

set_option maxRecDepth 100000 in
set_option maxHeartbeats 4000000 in
theorem lall13 (N : Nw) (w : World) (hat : N.at w) (hn : ∀ A ∈ N.As, 0 ≤ A.n ∧ A.n ≤ 4096) (hm : N.As.length ≤ 1000) :
    Calls Tryz.prog 16 #[.agg #[.slice N.aA N.As.length N.cA, .slice N.aO N.o.length N.cO]] w fun e w' => e = .returned (.int .i64 (sumB N.bs (List.range N.As.length))) ∧ Same w w' := by
  have LB := fun (n : Nat) (h : n ≤ 4096) W => lbits13 n W h
  obtain ⟨m, hmm⟩ : ∃ m, m = N.As.length := ⟨_, rfl⟩
  have hlt : ∀ k, k < m → k < N.As.length := fun k h => hmm ▸ h
  have hrow := fun (k : Nat) (hk : k < m) W (hW : Same w W) => (hat.au.same hW).row (hlt k hk)
  have hnk : ∀ k (hk : k < N.As.length), ∃ n : Nat, N.As[k].n = n ∧ n ≤ 4096 ∧ N.bs k = bitsF n := fun k hk => by
    have h := hn _ (List.getElem_mem hk)
    refine ⟨N.As[k].n.toNat, by omega, by omega, ?_⟩
    unfold Nw.bs
    rw [N.ns_get hk]
  have h12 : ∀ i, N.bs i ≤ 12 := fun i => by
    by_cases hi : i < N.As.length
    · obtain ⟨n, _, h2, h3⟩ := hnk i hi
      rw [h3]; exact bitsF_12 h2
    · rw [N.bs_out (by omega)]; omega
  obtain ⟨sf, hsf⟩ : ∃ f : Nat → Nat, f = fun k => sumB N.bs (List.range k) := ⟨_, rfl⟩
  have hs0 : sf 0 = 0 := by rw [hsf]; rfl
  have hss : ∀ k, sf (k + 1) = sf k + N.bs k := fun k => by rw [hsf]; exact sumB_rng _ _
  have hsb : ∀ k, sf k ≤ k * 12 := fun k => by rw [hsf]; exact sumB_rng12 h12 k
  have e : sumB N.bs (List.range N.As.length) = sf N.As.length := by rw [hsf]
  rw [e]
  generalize N.bs = bs at *
  clear hat hn e hsf
  simp only [← hmm] at hrow hm ⊢
  generalize N.aA = aA at *
  generalize N.cA = cA at *
  generalize N.aO = aO at *
  generalize N.cO = cO at *
  generalize N.o.length = qo at *
  generalize N.As = As at *
  clear hmm
  replace LB := Lib.hid LB; replace hrow := Lib.hid hrow; replace hnk := Lib.hid hnk; replace h12 := Lib.hid h12; replace hs0 := Lib.hid hs0; replace hss := Lib.hid hss; replace hsb := Lib.hid hsb; replace hlt := Lib.hid hlt
  go_enter Tryz.func16, Tryz.ntmps16
  go_upto_region 1 with fail
  have kn := heap_new w (.cells #[.slice aA m cA, .slice aO qo cO] 36)
  have s0 : Same w (w.alloc (.cells #[.slice aA m cA, .slice aO qo cO] 36)) := fs2
  generalize w.alloc (.cells #[.slice aA m cA, .slice aO qo cO] 36) = W0 at *
  replace kn := Lib.hid kn; replace s0 := Lib.hid s0
  have x0 := cell_at kn.out 0
  have x1 := cell_at kn.out 1
  have xl := lt_of_heap kn.out
  go_wp2_with fail
  clear x0 x1 xl
  go_loopw [3, 9] (fun v i wr => ∃ k : Nat, i = .int .i64 k ∧ k ≤ m ∧ v = .int .i64 (sf k) ∧ Same w wr) (fun _ i _ => m - (intOf i).toNat)
  case atStart => exact ⟨0, rfl, by omega, by rw [hs0.out]; rfl, s0.out⟩
  case round =>
    obtain ⟨k, rfl, hk, rfl, hs⟩ := hrel
    by_cases hkm : k < m
    · obtain ⟨b, off, ha, hb, x0, x1, x2, x3⟩ := hrow.out k hkm _ hs
      obtain ⟨n, hn1, hn2, hn3⟩ := hnk.out k (hlt.out k hkm)
      have LBk := LB.out n hn2
      have hst := hss.out k
      rw [hn3] at hst
      have hb1 := hsb.out k
      have hb2 := hsb.out (k + 1)
      generalize As[k]'(hlt.out k hkm) = A at *
      rw [hn1] at x1
      subst ha
      rw [← hn3] at hst LBk
      generalize bs k = c at *
      obtain ⟨S, hS⟩ : ∃ S, S = sf k := ⟨_, rfl⟩
      rw [← hS] at hst hb1 ⊢
      rw [hst] at hb2
      have hS1 : S ≤ 12000 := by omega
      have hS2 : S + c ≤ 12012 := by omega
      clear hn1 hn3 hb1 hb2
      replace hS := Lib.hid hS; replace hst := Lib.hid hst
      replace hs := Lib.hid hs; replace LBk := Lib.hid LBk
      go_wp2_with fail
      refine (LBk.out _).mono ?_
      rintro e w1 ⟨rfl, s1⟩
      have hs1 := (show Same w _ from hs.out.same fs2).same s1
      clear s1 x0 x1 x2 x3
      replace hs1 := Lib.hid hs1
      go_wp2_with fail
      go_roundw
      case rel => exact ⟨k + 1, by go_num, by omega, by rw [hst.out]; simp, hs1.out⟩
      case measure => simp [intOf]; omega
    · obtain rfl : k = m := by omega
      replace hs := Lib.hid hs
      go_wp2_with fail
      go_ret
      exact ⟨rfl, hs.out⟩

theorem codeL_take (bs : Nat → Nat) (o x : List Nat) {k : Nat} (hk : k < o.length) : codeL bs (o.take (k + 1)) x = codeL bs (o.take k) x ++ encL (bs (o.getD k 0)) (x.getD (o.getD k 0) 0) := by
  have e : o.getD k 0 = o[k] := by simp [List.getD, hk]
  rw [List.take_succ_eq_append_getElem hk, codeL_snoc, e]
theorem encL_col (b s : Nat) : encL b s = colF (bitF b s) b := rfl

set_option maxRecDepth 100000 in
set_option maxHeartbeats 8000000 in
theorem lcode13 (N : Nw) (OK : NwOk N) (x : List Nat) (aX : Option Addr) (cX : Nat) (w : World) (hat : N.at w) (hxl : x.length = N.As.length) (hX : RowAt w (.slice aX N.As.length cX) N.As.length (intCells (natI x))) :
    Calls Tryz.prog 29 #[.agg #[.slice N.aA N.As.length N.cA, .slice N.aO N.o.length N.cO], .slice aX N.As.length cX] w fun e w' =>
      ∃ a c, e = .returned (.slice a N.all c) ∧ w'.ownsRow w.heap.size 4 1 (.slice a N.all c) N.all (boolCells (codeL N.bs N.on x)) ∧ Same w w' := by
  obtain ⟨i3, hi3, hi3z, hi3s, hi3b⟩ := info_parts info4
  have LB := fun (n : Nat) (h : n ≤ 4096) W => lbits13 n W h
  have hm12 := OK.m12
  have hlen := OK.len
  have hol : N.o.length = N.As.length := by have := hlen; unfold Nw.on at this; rw [List.length_map] at this; exact this
  have hO : RowAt w (.slice N.aO N.As.length N.cO) N.As.length (intCells (natI N.on)) := by
    have h := hat.o
    rw [OK.o, natI_len, hlen] at h
    exact h
  obtain ⟨m, hmm⟩ : ∃ m, m = N.As.length := ⟨_, rfl⟩
  have hlt : ∀ k, k < m → k < N.As.length := fun k h => hmm ▸ h
  have hrow := fun (k : Nat) (hk : k < m) W (hW : Same w W) => (hat.au.same hW).row (hlt k hk)
  have hord := fun (k : Nat) (hk : k < N.As.length) W (hW : Same w W) => (hO.same hW).nat hk
  have hxr := fun (k : Nat) (hk : k < N.As.length) W (hW : Same w W) => (hX.same hW).nat hk
  have hnk : ∀ k (hk : k < N.As.length), ∃ n : Nat, N.As[k].n = n ∧ n ≤ 4096 ∧ N.bs k = bitsF n := fun k hk => by
    obtain ⟨h1, h2⟩ := OK.n4 hk
    exact ⟨_, h2, h1, rfl⟩
  have hb12 := fun i => OK.bs12 i
  have hJ : ∀ k, k < N.As.length → N.on.getD k 0 < N.As.length := fun k hk => by
    have hk' : k < N.on.length := by rw [hlen]; exact hk
    have e : N.on.getD k 0 = N.on[k] := by simp [List.getD, hk']
    rw [e]
    exact (OK.pm.mem _).1 (List.getElem_mem hk')
  obtain ⟨P, hP⟩ : ∃ P : Nat → List Bool, P = fun k => codeL N.bs (N.on.take k) x := ⟨_, rfl⟩
  have hP0 : P 0 = [] := by rw [hP]; rfl
  have hPs : ∀ k, k < N.As.length → P (k + 1) = P k ++ encL (N.bs (N.on.getD k 0)) (x.getD (N.on.getD k 0) 0) := fun k hk => by rw [hP]; exact codeL_take _ _ _ (by rw [hlen]; exact hk)
  have hPl : ∀ k, (P k).length ≤ 144 := fun k => by rw [hP]; simp only; rw [codeL_len]; exact OK.sum k
  have hPe : codeL N.bs N.on x = P N.As.length := by rw [hP]; simp only; rw [List.take_of_length_le (by rw [hlen]; exact Nat.le_refl _)]
  have hall : N.all = (P N.As.length).length := by rw [← hPe, codeL_len]; rfl
  rw [hall, hPe, hol]
  clear hall hPe hP hat hX hO OK hlen hol
  generalize N.bs = bs at *
  obtain ⟨J, hJd⟩ : ∃ J : Nat → Nat, J = fun k => N.on.getD k 0 := ⟨_, rfl⟩
  have hJe : ∀ k, N.on.getD k 0 = J k := fun k => by rw [hJd]
  simp only [hJe] at hord hJ hPs
  clear hJd hJe
  obtain ⟨X, hXd⟩ : ∃ X : Nat → Nat, X = fun k => x.getD k 0 := ⟨_, rfl⟩
  have hXe : ∀ k, x.getD k 0 = X k := fun k => by rw [hXd]
  simp only [hXe] at hxr hPs
  clear hXd hXe hxl
  simp only [← hmm] at hrow hord hxr hJ hPs hm12 ⊢
  generalize N.aA = aA at *
  generalize N.cA = cA at *
  generalize N.aO = aO at *
  generalize N.cO = cO at *
  generalize N.As = As at *
  clear hmm
  replace LB := Lib.hid LB; replace hrow := Lib.hid hrow; replace hord := Lib.hid hord; replace hxr := Lib.hid hxr; replace hnk := Lib.hid hnk; replace hb12 := Lib.hid hb12; replace hJ := Lib.hid hJ; replace hP0 := Lib.hid hP0; replace hPs := Lib.hid hPs; replace hPl := Lib.hid hPl; replace hlt := Lib.hid hlt
  go_enter Tryz.func29, Tryz.ntmps29
  go_upto_region 1 with fail
  have kn := heap_new w (.cells #[.slice aA m cA, .slice aO m cO] 36)
  have s0 : Same w (w.alloc (.cells #[.slice aA m cA, .slice aO m cO] 36)) := fs2
  generalize w.alloc (.cells #[.slice aA m cA, .slice aO m cO] 36) = W0 at *
  obtain ⟨bn, hbn⟩ : ∃ b, b = w.heap.size := ⟨_, rfl⟩
  rw [← hbn] at kn ⊢
  have hz0 : bn ≤ W0.heap.size := by have := s0.size; omega
  replace kn := Lib.hid kn; replace s0 := Lib.hid s0; replace hbn := Lib.hid hbn
  have x0 := cell_at kn.out 0
  have x1 := cell_at kn.out 1
  have xl := lt_of_heap kn.out
  go_wp2_with fail
  clear x0 x1 xl
  go_loopw [5, 7, 8, 12] (fun v _ _ i wr => ∃ (k c : Nat) (a : Option Addr), i = .int .i64 k ∧ k ≤ m ∧ v = .slice a (P k).length c ∧ wr.ownsRow W0.heap.size 4 1 (.slice a (P k).length c) (P k).length (boolCells (P k)) ∧ Same W0 wr) (fun _ _ _ i _ => m - (intOf i).toNat)
  case atStart => exact ⟨0, 0, none, rfl, by omega, by rw [hP0.out]; rfl, by rw [hP0.out]; exact World.ownsRow_nil _ _ _ _, Fr.refl _ _⟩
  case round =>
    obtain ⟨k, c, a, rfl, hk, rfl, ho, hs⟩ := hrel
    have hsw := s0.out.same hs
    have hzr := hs.size
    by_cases hkm : k < m
    · obtain ⟨wo, rfl⟩ : ∃ wo, wo = wr := ⟨_, rfl⟩
      obtain ⟨b2, off2, rfl, hb2, y0⟩ := hord.out k hkm _ hsw
      have hjm := hJ.out k hkm
      have hps := hPs.out k hkm
      have hp2 := hPl.out (k + 1)
      have hp1 := hPl.out k
      generalize J k = j at *
      obtain ⟨b1, off1, rfl, hb1, x0, x1, x2, x3⟩ := hrow.out j hjm _ hsw
      obtain ⟨n, hn1, hn2, hn3⟩ := hnk.out j (hlt.out j hjm)
      rw [hn1] at x1
      have LBk := LB.out n hn2
      rw [← hn3] at LBk
      have hxj := hxr.out j hjm
      have hbj := hb12.out j
      rw [encL_col] at hps
      generalize bs j = b at *
      generalize X j = s at *
      obtain ⟨p, hp⟩ : ∃ p, p = (P k).length := ⟨_, rfl⟩
      have hpl : (P (k + 1)).length = p + b := by rw [hps, List.length_append, ← hp, colF_length]
      rw [← hp] at hp1 ho ⊢
      rw [hpl] at hp2
      clear hn1 hn3
      have kn2 := hs.at kn.out id
      replace LBk := Lib.hid LBk; replace hxj := Lib.hid hxj; replace hps := Lib.hid hps; replace ho := Lib.hid ho; replace hs := Lib.hid hs; replace hsw := Lib.hid hsw; replace kn2 := Lib.hid kn2; replace hp := Lib.hid hp; replace hpl := Lib.hid hpl
      have z0 := cell_at kn2.out 0
      have z1 := cell_at kn2.out 1
      have zl := lt_of_heap kn2.out
      go_wp2_with fail
      refine (LBk.out _).mono ?_
      rintro e w1 ⟨rfl, s1⟩
      replace ho := Lib.hid (owns_same ho.out s1)
      have hs1 := hs.out.same s1
      have hsw1 := hsw.out.same s1
      have hwr : IntKind.i64.wrap ((b : Int) - 1) = (b : Int) - 1 := IntWalk.i64_in _ (by omega)
      clear s1 x0 x1 x2 x3 y0
      clear z0 z1 zl
      replace hs1 := Lib.hid hs1; replace hsw1 := Lib.hid hsw1
      go_wp2_with fail
      go_loopw [5, 8] (fun v x wr => ∃ (t c : Nat) (a : Option Addr), x = .int .i64 ((b : Int) - 1 - t) ∧ t ≤ b ∧ v = .slice a (p + t) c ∧ wr.ownsRow W0.heap.size 4 1 (.slice a (p + t) c) (p + t) (boolCells (P k ++ colF (bitF b s) t)) ∧ Same W0 wr) (fun _ x _ => (intOf x + 1).toNat)
      case atStart => exact ⟨0, c, a, by simp, by omega, rfl, by simp only [Nat.add_zero, colF, List.range_zero, List.map_nil, List.append_nil]; exact ho.out, hs1.out⟩
      case round =>
        obtain ⟨t, c2, a2, rfl, ht, rfl, ho2, hs2⟩ := hrel
        have hcs := colF_succ (bitF b s) t
        have hz2 := hs2.size
        by_cases htb : t < b
        · obtain ⟨b3, off3, rfl, hb3, c0⟩ := hxj.out _ (s0.out.same hs2)
          obtain ⟨q, hq⟩ : ∃ q, q = b - 1 - t := ⟨_, rfl⟩
          have hmi : (b : Int) - 1 - t = q := by omega
          rw [hmi]
          have hm0 : (0 : Int) ≤ q := by omega
          have hwr2 : IntKind.i64.wrap ((q : Int) - 1) = (q : Int) - 1 := IntWalk.i64_in _ (by omega)
          have hbit := and1b s q
          have hmin : min q 64 = q := by omega
          have hbe : decide (s / 2 ^ q % 2 = 1) = bitF b s t := by unfold bitF; rw [hq]
          rw [hbe] at hbit
          replace ho2 := Lib.hid ho2; replace hs2 := Lib.hid hs2; replace hcs := Lib.hid hcs; replace hq := Lib.hid hq; replace hmi := Lib.hid hmi; replace hwr := Lib.hid hwr; replace hbe := Lib.hid hbe
          go_wp2_with (at_builtin; refine wpList_append1 rfl (.tmp 28) (.tmp 37) 65 rfl W0.heap.size 4 i3 (.bool false) 1 1 Tryz.underlying65 hi3 hi3z hi3s hi3b rfl (by decide) (by decide) a2 (p + t) c2 (boolCells (P k ++ colF (bitF b s) t)) rfl (owns_same ho2.out fs2) (by omega) wr.heap.size [.bool (bitF b s t)] rfl rfl (heap_new _ _) (by simp [Value.oneCell']) (by simp; omega) ?_; intro a5 c5 w5 ho5 hG5)
          have hs5 : Same W0 w5 := grew_fresh (hs2.out.same fs2) hG5 (fun i hi => (ho2.out.lt i hi).1)
          have ho5' : w5.ownsRow W0.heap.size 4 1 (.slice a5 (p + (t + 1)) c5) (p + (t + 1)) (boolCells (P k ++ colF (bitF b s) (t + 1))) := by
            rw [hcs.out, ← List.append_assoc]; have := ho5; simpa [boolCells, Nat.add_assoc] using this
          clear ho5 hG5
          go_roundw
          case rel => exact ⟨t + 1, c5, a5, by have := hmi.out; congr 1; omega, by omega, rfl, ho5', hs5⟩
          case measure => simp [intOf] <;> omega
        · obtain rfl : t = b := by omega
          have hneg : ¬ (0 : Int) ≤ (t : Int) - 1 - t := by omega
          have ho3 : wr.ownsRow W0.heap.size 4 1 (.slice a2 (P (k + 1)).length c2) (P (k + 1)).length (boolCells (P (k + 1))) := by rw [hpl.out, hps.out]; exact ho2
          have hpl2 := hpl.out
          replace ho2 := Lib.hid ho2; replace hs2 := Lib.hid hs2; replace hcs := Lib.hid hcs; replace ho3 := Lib.hid ho3; replace hpl2 := Lib.hid hpl2
          go_wp2_with fail
          go_roundw
          case rel => exact ⟨k + 1, c2, a2, by go_num, by omega, by rw [hpl2.out], ho3.out, hs2.out⟩
          case measure => simp [intOf]; omega
    · obtain rfl : k = m := by omega
      replace ho := Lib.hid ho; replace hs := Lib.hid hs; replace hsw := Lib.hid hsw
      go_wp2_with fail
      go_ret
      exact ⟨a, c, rfl, own_base ho.out s0.out.size, hsw.out⟩
end Go.Proofs.YtknlkcfnfjchdaaGreat
