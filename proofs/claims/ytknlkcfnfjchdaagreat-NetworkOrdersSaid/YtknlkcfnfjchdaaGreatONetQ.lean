/- package network: Count, Enabled, Blocked walked. package network: measured, Count walked. -/
import Derived.Test.YtknlkcfnfjchdaaGreatONetM
namespace Go.Proofs.YtknlkcfnfjchdaaGreat
open Go.RowKit
set_option linter.unusedVariables false
set_option linter.unusedSimpArgs false

/-- The error of a set of v variables with a table. -/
def Nw.mErr (N : Nw) (v : Nat) (t : List Bool) : Int := if v ≠ N.all then 4 else if ite3 t (N.set (okT N.ns)) (fls N.all) = t then 0 else 2
def MeE (N : Nw) (E : Int) (w : World) (e : Ending) (w' : World) : Prop :=
  (E ≠ 0 ∧ e = .returned (.tuple #[.agg #[.slice none 0 0, .slice none 0 0, .int .i64 0, .bool false], .int .i64 E]) ∧ Same w w') ∨
  (E = 0 ∧ ∃ aT aB cT cB, e = .returned (.tuple #[.agg #[.slice aT N.As.length cT, .slice aB N.As.length cB, .int .i64 N.all, .bool N.emp], .int .i64 0]) ∧ LyAt N aT aB cT cB w' ∧ Same w w')

set_option maxRecDepth 100000 in
set_option maxHeartbeats 8000000 in
theorem measured_net (N : Nw) (OK : NetOk N) (d : Dg) (v : Nat) (t : List Bool) (w : World) (hat : N.at w) (hd : d.at w) (T : d.tab v t) :
    Calls Tryz.prog 101 #[.agg #[.slice N.aA N.As.length N.cA, .slice N.aO N.o.length N.cO], .agg #[.int .i64 d.n, .slice d.a d.L.length d.cap, .int .i64 d.r]] w (MeE N (N.mErr v t) w) := by
  have h10 := OK.h10
  have PL := fun W (hW : Same w W) => OK.place W (hat.same hW)
  have CK := fun W (hW : Same w W) => check_tab d v t W (SliceAt.same hd hW) T
  have VA := fun aT aB cT cB W (hW : Same w W) (hly : LyAt N aT aB cT cB W) => valid_any N OK aT aB cT cB W (hat.same hW) hly
  obtain ⟨V, hV⟩ : ∃ V, V = N.set (okT N.ns) := ⟨_, rfl⟩
  have hVl : V.length = 2 ^ N.all := by rw [hV]; exact tupT_len _ _ _ _ _
  have hE1 : v ≠ N.all → N.mErr v t = 4 := fun h => by unfold Nw.mErr; rw [if_pos h]
  have hE2 : v = N.all → ite3 t V (fls N.all) = t → N.mErr v t = 0 := fun h h2 => by unfold Nw.mErr; rw [if_neg (by simpa using h), ← hV, if_pos h2]
  have hE3 : v = N.all → ¬ ite3 t V (fls N.all) = t → N.mErr v t = 2 := fun h h2 => by unfold Nw.mErr; rw [if_neg (by simpa using h), ← hV, if_neg h2]
  rw [← hV] at VA
  have AN := fun (d2 : Dg) (h : v = N.all) W (hW : Same w W) (h2 : d2.at W) (T2 : d2.tab N.all V) => And_big (n := N.all) (by omega) (SliceAt.same hd hW) h2 (h ▸ T) T2 (short14 (by omega) (ite3_len (by rw [← h]; exact T.2.len) hVl (fls_len _)))
  have EQ := fun (d2 : Dg) (h : v = N.all) W (hW : Same w W) (h2 : d2.at W) (T2 : d2.tab N.all (ite3 t V (fls N.all))) => equal_dg (d' := d) h2 (SliceAt.same hd hW) T2 (h ▸ T)
  have hdn := T.1
  have hb4 : N.mErr v t ≠ 0 → ∀ w', Same w w' → MeE N (N.mErr v t) w (.returned (.tuple #[.agg #[.slice none 0 0, .slice none 0 0, .int .i64 0, .bool false], .int .i64 (N.mErr v t)])) w' := fun h w' hs => .inl ⟨h, rfl, hs⟩
  have hgd : N.mErr v t = 0 → ∀ aT aB cT cB w', LyAt N aT aB cT cB w' → Same w w' → MeE N (N.mErr v t) w (.returned (.tuple #[.agg #[.slice aT N.As.length cT, .slice aB N.As.length cB, .int .i64 N.all, .bool N.emp], .int .i64 0])) w' := fun h aT aB cT cB w' h1 h2 => .inr ⟨h, aT, aB, cT, cB, rfl, h1, h2⟩
  simp only [Dg.v] at CK AN EQ
  rw [hdn] at CK AN EQ ⊢
  generalize ite3 t V (fls N.all) = t2 at *
  generalize d.a = da at *
  generalize d.L.length = dq at *
  generalize d.cap = dc at *
  generalize d.r = dr at *
  obtain ⟨Q, hQ⟩ : ∃ Q, Q = MeE N (N.mErr v t) w := ⟨_, rfl⟩
  rw [← hQ] at hb4 hgd ⊢
  clear hd T hdn hV hVl hQ
  generalize N.mErr v t = EE at *
  clear hat OK
  generalize N.all = n at *
  generalize N.emp = em at *
  generalize N.As.length = m at *
  generalize N.o.length = qo at *
  generalize N.aA = aA at *
  generalize N.cA = cA at *
  generalize N.aO = aO at *
  generalize N.cO = cO at *
  replace PL := Lib.hid PL; replace CK := Lib.hid CK; replace VA := Lib.hid VA; replace AN := Lib.hid AN; replace EQ := Lib.hid EQ; replace hE1 := Lib.hid hE1; replace hE2 := Lib.hid hE2; replace hE3 := Lib.hid hE3; replace hb4 := Lib.hid hb4; replace hgd := Lib.hid hgd
  go_enter Tryz.func101, Tryz.ntmps101
  go_upto_region 1 with fail
  have kn := heap_old (heap_old (heap_new w (.cells #[.slice aA m cA, .slice aO qo cO] 36)) (.cells #[.int .i64 v, .slice da dq dc, .int .i64 dr] 54)) (.cells #[.slice none 0 0, .slice none 0 0, .int .i64 0, .bool false] 124)
  have kf := heap_old (heap_new (w.alloc (.cells #[.slice aA m cA, .slice aO qo cO] 36)) (.cells #[.int .i64 v, .slice da dq dc, .int .i64 dr] 54)) (.cells #[.slice none 0 0, .slice none 0 0, .int .i64 0, .bool false] 124)
  have kr := heap_new ((w.alloc (.cells #[.slice aA m cA, .slice aO qo cO] 36)).alloc (.cells #[.int .i64 v, .slice da dq dc, .int .i64 dr] 54)) (.cells #[.slice none 0 0, .slice none 0 0, .int .i64 0, .bool false] 124)
  rw [← al1] at kf
  rw [← al2] at kr
  have hs : Same w (((w.alloc (.cells #[.slice aA m cA, .slice aO qo cO] 36)).alloc (.cells #[.int .i64 v, .slice da dq dc, .int .i64 dr] 54)).alloc (.cells #[.slice none 0 0, .slice none 0 0, .int .i64 0, .bool false] 124)) := fs2
  generalize ((w.alloc (.cells #[.slice aA m cA, .slice aO qo cO] 36)).alloc (.cells #[.int .i64 v, .slice da dq dc, .int .i64 dr] 54)).alloc (.cells #[.slice none 0 0, .slice none 0 0, .int .i64 0, .bool false] 124) = W0 at *
  replace kn := Lib.hid kn; replace kf := Lib.hid kf; replace kr := Lib.hid kr; replace hs := Lib.hid hs
  have y0 := cell_at kn.out 0
  have y1 := cell_at kn.out 1
  have yl := lt_of_heap kn.out
  go_wp2_with fail
  refine (PL.out _ hs.out).mono ?_
  rintro e w1 ⟨aT, aB, cT, cB, rfl, hly, s1⟩
  clear y0 y1 yl
  have hbl : w.heap.size + 1 + 1 < w1.heap.size := by have h9 := lt_of_heap kr.out; have h8 := s1.size; omega
  replace kn := Lib.hid (s1.at kn.out id); replace kr := Lib.hid (s1.at kr.out id); replace kf := Lib.hid (s1.at kf.out id)
  have hs1 := hs.out.same s1
  clear s1 hs
  replace hly := Lib.hid hly; replace hs1 := Lib.hid hs1
  go_upto_region 2 with fail
  have kl := heap_new w1 (.cells #[.slice aT m cT, .slice aB m cB, .int .i64 n, .bool em] 124)
  have s2 : Same w1 (w1.alloc (.cells #[.slice aT m cT, .slice aB m cB, .int .i64 n, .bool em] 124)) := fs2
  have hly2 := hly.out.same s2
  replace kn := Lib.hid (s2.at kn.out id); replace kr := Lib.hid (s2.at kr.out id); replace kf := Lib.hid (s2.at kf.out id)
  have hs2 := hs1.out.same s2
  clear s2 hly hs1
  generalize w1.alloc (.cells #[.slice aT m cT, .slice aB m cB, .int .i64 n, .bool em] 124) = W1 at *
  generalize w1.heap.size = bl at *
  replace kl := Lib.hid kl; replace hly2 := Lib.hid hly2; replace hs2 := Lib.hid hs2
  have x0 := cell_at kf.out 0
  have x1 := cell_at kf.out 1
  have x2 := cell_at kf.out 2
  have xl := lt_of_heap kf.out
  go_upto_region 4 with fail
  go_wp2_with fail
  refine (CK.out _ hs2.out).mono ?_
  rintro e w3 ⟨rfl, s3⟩
  clear x0 x1 x2 xl
  replace kn := Lib.hid (s3.at kn.out id); replace kr := Lib.hid (s3.at kr.out id); replace kf := Lib.hid (s3.at kf.out id); replace kl := Lib.hid (s3.at kl.out id)
  have hly3 := hly2.out.same s3
  have hs3 := hs2.out.same s3
  clear s3 hly2 hs2
  replace hly3 := Lib.hid hly3; replace hs3 := Lib.hid hs3
  by_cases hvn : v = n
  · have hVA := VA.out
    have hAN := fun d2 => AN.out d2 hvn
    have hEQ := fun d2 => EQ.out d2 hvn
    have hb1 : ((v : Int) != (n : Int)) = false := by simp; omega
    replace hVA := Lib.hid hVA; replace hAN := Lib.hid hAN; replace hEQ := Lib.hid hEQ; replace hvn := Lib.hid hvn
    clear VA AN EQ
    have z0 := cell_at kl.out 0
    have z1 := cell_at kl.out 1
    have z2 := cell_at kl.out 2
    have z3 := cell_at kl.out 3
    have zl := lt_of_heap kl.out
    have x0 := cell_at kf.out 0
    have x1 := cell_at kf.out 1
    have x2 := cell_at kf.out 2
    have xl := lt_of_heap kf.out
    have y0 := cell_at kn.out 0
    have y1 := cell_at kn.out 1
    have yl := lt_of_heap kn.out
    go_upto_region 9 with fail
    go_wp2_with fail
    refine (hVA.out _ _ _ _ _ hs3.out hly3.out).mono ?_
    intro e w4 hM
    obtain ⟨a4, c4, L4, r4, rfl, d4, t4, s4⟩ := hM.open
    clear z0 z1 z2 z3 zl
    clear x0 x1 x2 xl
    clear y0 y1 yl
    have hb4' : bl < w4.heap.size := by have h9 := lt_of_heap kl.out; have h8 := s4.size; omega
    replace kr := Lib.hid (s4.at kr.out id); replace kf := Lib.hid (s4.at kf.out id); replace kl := Lib.hid (s4.at kl.out id)
    have hly4 := hly3.out.same s4
    have hs4 := hs3.out.same s4
    clear hM s4 hs3 kn hly3
    replace d4 := Lib.hid d4; replace t4 := Lib.hid t4; replace hs4 := Lib.hid hs4; replace hly4 := Lib.hid hly4
    go_upto_region 10 with fail
    have k5 := heap_new w4 (.cells #[.int .i64 n, .slice a4 L4.length c4, .int .i64 r4] 54)
    have s5 : Same w4 (w4.alloc (.cells #[.int .i64 n, .slice a4 L4.length c4, .int .i64 r4] 54)) := fs2
    generalize w4.alloc (.cells #[.int .i64 n, .slice a4 L4.length c4, .int .i64 r4] 54) = W5 at *
    replace d4 := Lib.hid (d4.out.same s5); replace kr := Lib.hid (s5.at kr.out id); replace kf := Lib.hid (s5.at kf.out id); replace kl := Lib.hid (s5.at kl.out id)
    have hly5 := hly4.out.same s5
    have hs5 := hs4.out.same s5
    clear s5 hs4 hly4
    generalize w4.heap.size = b5 at *
    replace k5 := Lib.hid k5; replace hs5 := Lib.hid hs5; replace hly5 := Lib.hid hly5
    have x0 := cell_at kf.out 0
    have x1 := cell_at kf.out 1
    have x2 := cell_at kf.out 2
    have xl := lt_of_heap kf.out
    have y0 := cell_at k5.out 0
    have y1 := cell_at k5.out 1
    have y2 := cell_at k5.out 2
    have yl := lt_of_heap k5.out
    go_upto_region 12 with fail
    go_wp2_with fail
    refine (hAN.out ⟨n, a4, c4, L4, r4⟩ _ hs5.out d4.out ⟨rfl, t4.out⟩).mono ?_
    intro e w6 hM
    obtain ⟨a6, c6, L6, r6, rfl, d6, t6, s6⟩ := hM.open
    clear x0 x1 x2 xl
    clear y0 y1 y2 yl
    have hb6 : b5 < w6.heap.size := by have h9 := lt_of_heap k5.out; have h8 := s6.size; omega
    replace kr := Lib.hid (s6.at kr.out id); replace kf := Lib.hid (s6.at kf.out id); replace kl := Lib.hid (s6.at kl.out id)
    have hly6 := hly5.out.same s6
    have hs6 := hs5.out.same s6
    clear hM s6 hs5 k5 d4 t4 hly5
    replace d6 := Lib.hid d6; replace t6 := Lib.hid t6; replace hs6 := Lib.hid hs6; replace hly6 := Lib.hid hly6
    go_upto_region 13 with fail
    have k7 := heap_new w6 (.cells #[.int .i64 n, .slice a6 L6.length c6, .int .i64 r6] 54)
    have s7 : Same w6 (w6.alloc (.cells #[.int .i64 n, .slice a6 L6.length c6, .int .i64 r6] 54)) := fs2
    generalize w6.alloc (.cells #[.int .i64 n, .slice a6 L6.length c6, .int .i64 r6] 54) = W7 at *
    replace d6 := Lib.hid (d6.out.same s7); replace kr := Lib.hid (s7.at kr.out id); replace kf := Lib.hid (s7.at kf.out id); replace kl := Lib.hid (s7.at kl.out id)
    have hly7 := hly6.out.same s7
    have hs7 := hs6.out.same s7
    clear s7 hs6 hly6
    generalize w6.heap.size = b7 at *
    replace k7 := Lib.hid k7; replace hs7 := Lib.hid hs7; replace hly7 := Lib.hid hly7
    have x0 := cell_at kf.out 0
    have x1 := cell_at kf.out 1
    have x2 := cell_at kf.out 2
    have xl := lt_of_heap kf.out
    have y0 := cell_at k7.out 0
    have y1 := cell_at k7.out 1
    have y2 := cell_at k7.out 2
    have yl := lt_of_heap k7.out
    go_upto_region 15 with fail
    go_wp2_with fail
    refine (hEQ.out ⟨n, a6, c6, L6, r6⟩ _ hs7.out d6.out ⟨rfl, t6.out⟩).mono ?_
    rintro e w8 ⟨rfl, s8⟩
    clear x0 x1 x2 xl
    clear y0 y1 y2 yl
    replace kr := Lib.hid (s8.at kr.out id); replace kl := Lib.hid (s8.at kl.out id)
    have hly8 := hly7.out.same s8
    have hs8 := hs7.out.same s8
    clear s8 hs7 kf k7 d6 t6 hly7
    replace hs8 := Lib.hid hs8; replace hly8 := Lib.hid hly8
    by_cases htt : t2 = t
    · have hE := hE2.out hvn.out htt
      rw [decide_eq_true htt]
      subst hE
      have hg := hgd.out rfl
      replace hg := Lib.hid hg; replace htt := Lib.hid htt
      have z0 := cell_at kl.out 0
      have z1 := cell_at kl.out 1
      have z2 := cell_at kl.out 2
      have z3 := cell_at kl.out 3
      have zl := lt_of_heap kl.out
      obtain ⟨q0, q1, q2, q3, g0, g1, g2, g3, ql⟩ := boxq_facts kr.out
      go_wp2_with fail
      obtain ⟨e0, e1, e2, e3, hsF, hF⟩ := ly_stored (u0 := .slice aT m cT) (u1 := .slice aB m cB) (u2 := .int .i64 n) (u3 := .bool em) hs8.out (by omega) kr.out
      refine bodyPost_ret (v := .tuple #[.agg #[.slice aT m cT, .slice aB m cB, .int .i64 n, .bool em], .int .i64 0]) (by simp [results, Tryz.results101, go_sem, e0, e1, e2, e3]) rfl ?_
      exact hg.out _ _ _ _ _ (hly8.out.box hF kr.out) hsF
    · have hE := hE3.out hvn.out htt
      rw [decide_eq_false htt]
      subst hE
      have hg := hb4.out (by decide)
      replace hg := Lib.hid hg; replace htt := Lib.hid htt
      obtain ⟨q0, q1, q2, q3, g0, g1, g2, g3, ql⟩ := boxq_facts kr.out
      go_wp2_with fail
      obtain ⟨e0, e1, e2, e3, hsF, hF⟩ := ly_stored (u0 := .slice none 0 0) (u1 := .slice none 0 0) (u2 := .int .i64 0) (u3 := .bool false) hs8.out (by omega) kr.out
      refine bodyPost_ret (v := .tuple #[.agg #[.slice none 0 0, .slice none 0 0, .int .i64 0, .bool false], .int .i64 2]) (by simp [results, Tryz.results101, go_sem, e0, e1, e2, e3]) rfl ?_
      exact hg.out _ hsF
  · have hE := hE1.out hvn
    subst hE
    have hg := hb4.out (by decide)
    have hb1 : ((v : Int) != (n : Int)) = true := by simp; omega
    replace hg := Lib.hid hg; replace hvn := Lib.hid hvn
    have z0 := cell_at kl.out 0
    have z1 := cell_at kl.out 1
    have z2 := cell_at kl.out 2
    have z3 := cell_at kl.out 3
    have zl := lt_of_heap kl.out
    have x0 := cell_at kf.out 0
    have x1 := cell_at kf.out 1
    have x2 := cell_at kf.out 2
    have xl := lt_of_heap kf.out
    obtain ⟨q0, q1, q2, q3, g0, g1, g2, g3, ql⟩ := boxq_facts kr.out
    go_wp2_with fail
    obtain ⟨e0, e1, e2, e3, hsF, hF⟩ := ly_stored (u0 := .slice none 0 0) (u1 := .slice none 0 0) (u2 := .int .i64 0) (u3 := .bool false) hs3.out (by omega) kr.out
    refine bodyPost_ret (v := .tuple #[.agg #[.slice none 0 0, .slice none 0 0, .int .i64 0, .bool false], .int .i64 4]) (by simp [results, Tryz.results101, go_sem, e0, e1, e2, e3]) rfl ?_
    exact hg.out _ hsF
end Go.Proofs.YtknlkcfnfjchdaaGreat
namespace Go.Proofs.YtknlkcfnfjchdaaGreat
open Go.RowKit
set_option linter.unusedVariables false
set_option linter.unusedSimpArgs false

/-- A diagram in its box. -/
structure Bd (W : World) (b n : Nat) (t : List Bool) (a : Option Addr) (c : Nat) (L : List Nd) (r : Int) : Prop where
  heap : W.heap[b]? = some (.cells #[.int .i64 n, .slice a L.length c, .int .i64 r] 54 (0, 0))
  at' : Dg.at W ⟨n, a, c, L, r⟩
  tab : IsTab n t L r
theorem Bd.same {W W' : World} {b n : Nat} {t : List Bool} {a : Option Addr} {c : Nat} {L : List Nd} {r : Int} (h : Bd W b n t a c L r) (hs : Same W W') : Bd W' b n t a c L r := ⟨hs.at h.heap id, SliceAt.same h.at' hs, h.tab⟩

set_option maxRecDepth 100000 in
set_option maxHeartbeats 4000000 in
theorem Count_net (N : Nw) (OK : NetOk N) (d : Dg) (v : Nat) (t : List Bool) (w : World) (hat : N.at w) (hd : d.at w) (T : d.tab v t) :
    Calls Tryz.prog 34 #[.agg #[.slice N.aA N.As.length N.cA, .slice N.aO N.o.length N.cO], .agg #[.int .i64 d.n, .slice d.a d.L.length d.cap, .int .i64 d.r]] w fun e w' => e = .returned (.tuple #[.int .i64 (if N.mErr v t = 0 then ((t.count true : Nat) : Int) else 0), .int .i64 (N.mErr v t)]) ∧ Same w w' := by
  have ME := fun W (hW : Same w W) => measured_net N OK d v t W (hat.same hW) (SliceAt.same hd hW) T
  have CT := fun W (hW : Same w W) => count_tab d v t W (SliceAt.same hd hW) T
  have hdn := T.1
  simp only [Dg.v] at CT
  rw [hdn] at ME CT ⊢
  generalize d.a = da at *
  generalize d.L.length = dq at *
  generalize d.cap = dc at *
  generalize d.r = dr at *
  obtain ⟨EE, hEE⟩ : ∃ EE, EE = N.mErr v t := ⟨_, rfl⟩
  rw [← hEE] at ME ⊢
  generalize t.count true = ct at *
  obtain ⟨cx, hcx⟩ : ∃ cx : Int, cx = if EE = 0 then (ct : Int) else 0 := ⟨_, rfl⟩
  rw [← hcx]
  clear hat hd T hdn OK hEE
  unfold MeE at ME
  generalize N.aA = aA at *
  generalize N.cA = cA at *
  generalize N.aO = aO at *
  generalize N.cO = cO at *
  generalize N.all = n at *
  generalize N.emp = em at *
  generalize hm : N.As.length = m at *
  generalize N.o.length = qo at *
  replace ME := Lib.hid ME; replace CT := Lib.hid CT; replace hcx := Lib.hid hcx
  go_enter Tryz.func34, Tryz.ntmps34
  go_upto_region 1 with fail
  have kn := heap_old (heap_new w (.cells #[.slice aA m cA, .slice aO qo cO] 36)) (.cells #[.int .i64 v, .slice da dq dc, .int .i64 dr] 54)
  have kf := heap_new (w.alloc (.cells #[.slice aA m cA, .slice aO qo cO] 36)) (.cells #[.int .i64 v, .slice da dq dc, .int .i64 dr] 54)
  rw [← al1] at kf
  have hs : Same w ((w.alloc (.cells #[.slice aA m cA, .slice aO qo cO] 36)).alloc (.cells #[.int .i64 v, .slice da dq dc, .int .i64 dr] 54)) := fs2
  generalize (w.alloc (.cells #[.slice aA m cA, .slice aO qo cO] 36)).alloc (.cells #[.int .i64 v, .slice da dq dc, .int .i64 dr] 54) = W0 at *
  replace kn := Lib.hid kn; replace kf := Lib.hid kf; replace hs := Lib.hid hs
  have y0 := cell_at kn.out 0
  have y1 := cell_at kn.out 1
  have yl := lt_of_heap kn.out
  have x0 := cell_at kf.out 0
  have x1 := cell_at kf.out 1
  have x2 := cell_at kf.out 2
  have xl := lt_of_heap kf.out
  go_wp2_with fail
  refine (ME.out _ hs.out).mono ?_
  intro e w1 hM
  clear y0 y1 yl
  clear x0 x1 x2 xl
  rcases hM with ⟨h0, rfl, s1⟩ | ⟨rfl, aT, aB, cT, cB, rfl, _, s1⟩
  · have hb : (EE != 0) = true := by simpa using h0
    have hs1 := hs.out.same s1
    obtain rfl : cx = 0 := by rw [hcx.out, if_neg h0]
    clear s1
    replace h0 := Lib.hid h0; replace hs1 := Lib.hid hs1
    go_wp2_with fail
    go_ret2
    exact ⟨rfl, hs1.out.same fs2⟩
  · replace kf := Lib.hid (s1.at kf.out id)
    have hs1 := hs.out.same s1
    clear s1
    obtain rfl : cx = (ct : Int) := by rw [hcx.out, if_pos rfl]
    replace hs1 := Lib.hid hs1
    go_upto_region 2 with fail
    have s2 : Same w1 (w1.alloc (.cells #[.slice aT m cT, .slice aB m cB, .int .i64 n, .bool em] 124)) := fs2
    replace kf := Lib.hid (s2.at kf.out id)
    have hs2 := hs1.out.same s2
    clear s2
    generalize w1.alloc (.cells #[.slice aT m cT, .slice aB m cB, .int .i64 n, .bool em] 124) = W2 at *
    replace hs2 := Lib.hid hs2
    have x0 := cell_at kf.out 0
    have x1 := cell_at kf.out 1
    have x2 := cell_at kf.out 2
    have xl := lt_of_heap kf.out
    go_wp2_with fail
    refine (CT.out _ hs2.out).mono ?_
    rintro e w3 ⟨rfl, s3⟩
    have hs3 := hs2.out.same s3
    replace hs3 := Lib.hid hs3
    go_wp2_with fail
    go_ret2
    exact ⟨rfl, hs3.out⟩

/-- The tuples from which no marked one is reached. -/
def blkT (b : Nat) (f from' : List Bool) : List Bool := ite3 f (ite3 from' (fls b) (tru b)) (fls b)

set_option maxRecDepth 100000 in
set_option maxHeartbeats 8000000 in
theorem Blocked_net (N : Nw) (OK : NetOk N) (FI : Fits N) (w : World) (hat : N.at w) :
    Calls Tryz.prog 33 #[.agg #[.slice N.aA N.As.length N.cA, .slice N.aO N.o.length N.cO]] w fun e w' => ∃ j k : Nat,
      (clI N.all 0 (N.rel (stepsB N.As (evsF N.As))) (N.set (N.chosen fun _ => [0])) (j + 1) = clI N.all 0 (N.rel (stepsB N.As (evsF N.As))) (N.set (N.chosen fun _ => [0])) j) ∧
      (clI N.all 1 (N.rel (stepsB N.As (evsF N.As))) (N.set (N.chosen N.marks)) (k + 1) = clI N.all 1 (N.rel (stepsB N.As (evsF N.As))) (N.set (N.chosen N.marks)) k) ∧
      DgN N.all (blkT N.all (clI N.all 0 (N.rel (stepsB N.As (evsF N.As))) (N.set (N.chosen fun _ => [0])) j) (clI N.all 1 (N.rel (stepsB N.As (evsF N.As))) (N.set (N.chosen N.marks)) k)) w e w' := by
  have h10 := OK.h10
  have RC := fun W (hW : Same w W) => Reached_net N OK FI W (hat.same hW)
  have EV := fun W (hW : Same w W) => everything_net N OK FI W (hat.same hW)
  have MA := fun W (hW : Same w W) => Marked_any N OK W (hat.same hW)
  have hth := FI.thin (evsF N.As)
  have hSl : (N.set (N.chosen N.marks)).length = 2 ^ N.all := N.set_len _
  have hIl : (N.set (N.chosen fun _ => [0])).length = 2 ^ N.all := N.set_len _
  have BW := fun (dr df : Dg) W (h1 : dr.at W) (h2 : df.at W) (T : dr.tab (2 * N.all) (N.rel (stepsB N.As (evsF N.As)))) (U : df.tab N.all (N.set (N.chosen N.marks))) => Backward_big h10 dr df _ _ W h1 h2 T U hth
  have NO := fun (d : Dg) (u : List Bool) W (h1 : d.at W) (T : d.tab N.all u) => Not_big (n := N.all) (by omega) h1 T (short14 (by omega) (ite3_len T.2.len (fls_len _) (tru_len _)))
  have AN := fun (d d' : Dg) (u u' : List Bool) W (h1 : d.at W) (h2 : d'.at W) (T : d.tab N.all u) (T' : d'.tab N.all u') => And_big (n := N.all) (by omega) h1 h2 T T' (short14 (by omega) (ite3_len T.2.len T'.2.len (fls_len _)))
  obtain ⟨n2, hn2⟩ : ∃ n2, n2 = 2 * N.all := ⟨_, rfl⟩
  rw [← hn2] at EV BW
  generalize N.rel (stepsB N.As (evsF N.As)) = R at *
  generalize N.set (N.chosen N.marks) = S at *
  generalize N.set (N.chosen fun _ => [0]) = I at *
  clear hat OK FI hn2 hth
  generalize N.all = n at *
  generalize N.emp = em at *
  generalize N.As.length = m at *
  generalize N.o.length = qo at *
  generalize N.aA = aA at *
  generalize N.cA = cA at *
  generalize N.aO = aO at *
  generalize N.cO = cO at *
  simp only [Dg.v] at NO AN
  replace RC := Lib.hid RC; replace EV := Lib.hid EV; replace MA := Lib.hid MA; replace BW := Lib.hid BW; replace NO := Lib.hid NO; replace AN := Lib.hid AN; replace hSl := Lib.hid hSl; replace hIl := Lib.hid hIl
  go_enter Tryz.func33, Tryz.ntmps33
  go_upto_region 1 with fail
  have kn := heap_old (heap_new w (.cells #[.slice aA m cA, .slice aO qo cO] 36)) (.cells #[.int .i64 0, .slice none 0 0, .int .i64 0] 54)
  have kr := heap_new (w.alloc (.cells #[.slice aA m cA, .slice aO qo cO] 36)) (.cells #[.int .i64 0, .slice none 0 0, .int .i64 0] 54)
  rw [show (w.alloc (.cells #[.slice aA m cA, .slice aO qo cO] 36)).heap.size = w.heap.size + 1 by simp] at kr
  have hs : Same w ((w.alloc (.cells #[.slice aA m cA, .slice aO qo cO] 36)).alloc (.cells #[.int .i64 0, .slice none 0 0, .int .i64 0] 54)) := fs2
  generalize (w.alloc (.cells #[.slice aA m cA, .slice aO qo cO] 36)).alloc (.cells #[.int .i64 0, .slice none 0 0, .int .i64 0] 54) = W0 at *
  replace kn := Lib.hid kn; replace kr := Lib.hid kr; replace hs := Lib.hid hs
  have y0 := cell_at kn.out 0
  have y1 := cell_at kn.out 1
  have yl := lt_of_heap kn.out
  go_wp2_with fail
  refine (RC.out _ hs.out).mono ?_
  intro e w1 hC
  obtain ⟨d1, j, rfl, hd1, ht1, hfx, -, s1⟩ := hC
  clear y0 y1 yl
  obtain ⟨dn, a1, c1, L1, r1⟩ := d1
  obtain rfl : dn = (n : Int) := ht1.1
  have hb1 : w.heap.size + 1 < w1.heap.size := by have h1 := lt_of_heap kr.out; have h2 := s1.size; omega
  replace kn := Lib.hid (s1.at kn.out id); replace kr := Lib.hid (s1.at kr.out id)
  have hs1 := hs.out.same s1
  clear s1
  replace hd1 := Lib.hid hd1; replace ht1 := Lib.hid ht1; replace hs1 := Lib.hid hs1; replace hfx := Lib.hid hfx
  go_upto_region 2 with fail
  have q1 : Bd (w1.alloc (.cells #[.int .i64 n, .slice a1 L1.length c1, .int .i64 r1] 54)) w1.heap.size n _ a1 c1 L1 r1 := ⟨heap_new _ _, SliceAt.same hd1.out fs2, ht1.out.2⟩
  have s2 : Same w1 (w1.alloc (.cells #[.int .i64 n, .slice a1 L1.length c1, .int .i64 r1] 54)) := fs2
  replace kn := Lib.hid (s2.at kn.out id); replace kr := Lib.hid (s2.at kr.out id)
  have hs2 := hs1.out.same s2
  clear s2 hs1 hd1 ht1
  generalize w1.alloc (.cells #[.int .i64 n, .slice a1 L1.length c1, .int .i64 r1] 54) = W2 at *
  generalize w1.heap.size = b1 at *
  replace q1 := Lib.hid q1; replace hs2 := Lib.hid hs2
  have y0 := cell_at kn.out 0
  have y1 := cell_at kn.out 1
  have yl := lt_of_heap kn.out
  go_upto_region 4 with fail
  go_wp2_with fail
  refine (EV.out _ hs2.out).mono ?_
  intro e v3 hM
  obtain ⟨a3, c3, L3, r3, rfl, d3, z3, s3⟩ := hM.open
  clear hM
  clear y0 y1 yl
  go_upto_region 5 with fail
  have q3 : Bd (v3.alloc (.cells #[.int .i64 n2, .slice a3 L3.length c3, .int .i64 r3] 54)) v3.heap.size n2 _ a3 c3 L3 r3 := ⟨heap_new _ _, SliceAt.same d3 fs2, z3⟩
  have s3 := s3.same (show Same v3 (v3.alloc (.cells #[.int .i64 n2, .slice a3 L3.length c3, .int .i64 r3] 54)) from fs2)
  clear d3 z3
  generalize v3.alloc (.cells #[.int .i64 n2, .slice a3 L3.length c3, .int .i64 r3] 54) = w3 at *
  generalize v3.heap.size = b3 at *
  replace q1 := Lib.hid (q1.out.same s3); replace kn := Lib.hid (s3.at kn.out id); replace kr := Lib.hid (s3.at kr.out id)
  have s3 := hs2.out.same s3
  replace q3 := Lib.hid q3; replace s3 := Lib.hid s3
  have y0 := cell_at kn.out 0
  have y1 := cell_at kn.out 1
  have yl := lt_of_heap kn.out
  go_upto_region 7 with fail
  go_wp2_with fail
  refine (MA.out _ s3.out).mono ?_
  intro e v4 hM
  obtain ⟨a4, c4, L4, r4, rfl, d4, z4, s4⟩ := hM.open
  clear hM
  clear y0 y1 yl
  go_upto_region 8 with fail
  have q4 : Bd (v4.alloc (.cells #[.int .i64 n, .slice a4 L4.length c4, .int .i64 r4] 54)) v4.heap.size n _ a4 c4 L4 r4 := ⟨heap_new _ _, SliceAt.same d4 fs2, z4⟩
  have s4 := s4.same (show Same v4 (v4.alloc (.cells #[.int .i64 n, .slice a4 L4.length c4, .int .i64 r4] 54)) from fs2)
  clear d4 z4
  generalize v4.alloc (.cells #[.int .i64 n, .slice a4 L4.length c4, .int .i64 r4] 54) = w4 at *
  generalize v4.heap.size = b4 at *
  replace q1 := Lib.hid (q1.out.same s4); replace q3 := Lib.hid (q3.out.same s4); replace kr := Lib.hid (s4.at kr.out id)
  have s4 := s3.out.same s4
  replace q4 := Lib.hid q4; replace s4 := Lib.hid s4
  have x0 := cell_at q3.out.heap 0
  have x1 := cell_at q3.out.heap 1
  have x2 := cell_at q3.out.heap 2
  have xl := lt_of_heap q3.out.heap
  have z0 := cell_at q4.out.heap 0
  have z1 := cell_at q4.out.heap 1
  have z2 := cell_at q4.out.heap 2
  have zl := lt_of_heap q4.out.heap
  go_upto_region 10 with fail
  go_wp2_with fail
  refine (BW.out ⟨n2, a3, c3, L3, r3⟩ ⟨n, a4, c4, L4, r4⟩ _ q3.out.at' q4.out.at' ⟨rfl, q3.out.tab⟩ ⟨rfl, q4.out.tab⟩).mono ?_
  intro e w5 hC
  rcases hC with ⟨hC, _⟩ | ⟨_, hC⟩
  · exact absurd rfl hC
  obtain ⟨d5, k, rfl, hd5, ht5, hfy, -, s5⟩ := hC
  clear x0 x1 x2 xl
  clear z0 z1 z2 zl
  obtain ⟨dn, a5, c5, L5, r5⟩ := d5
  obtain rfl : dn = (n : Int) := ht5.1
  have hb5 : b4 < w5.heap.size := by have h1 := lt_of_heap q4.out.heap; have h2 := s5.size; omega
  replace q1 := Lib.hid (q1.out.same s5); replace kr := Lib.hid (s5.at kr.out id)
  have hs5 := s4.out.same s5
  clear s5 q3 q4
  replace hd5 := Lib.hid hd5; replace ht5 := Lib.hid ht5; replace hs5 := Lib.hid hs5; replace hfy := Lib.hid hfy
  go_upto_region 11 with fail
  have q5 : Bd (w5.alloc (.cells #[.int .i64 n, .slice a5 L5.length c5, .int .i64 r5] 54)) w5.heap.size n _ a5 c5 L5 r5 := ⟨heap_new _ _, SliceAt.same hd5.out fs2, ht5.out.2⟩
  have s6 : Same w5 (w5.alloc (.cells #[.int .i64 n, .slice a5 L5.length c5, .int .i64 r5] 54)) := fs2
  replace q1 := Lib.hid (q1.out.same s6); replace kr := Lib.hid (s6.at kr.out id)
  have hs6 := hs5.out.same s6
  clear s6 hs5 hd5 ht5
  generalize w5.alloc (.cells #[.int .i64 n, .slice a5 L5.length c5, .int .i64 r5] 54) = W6 at *
  generalize w5.heap.size = b5 at *
  replace q5 := Lib.hid q5; replace hs6 := Lib.hid hs6
  have x0 := cell_at q5.out.heap 0
  have x1 := cell_at q5.out.heap 1
  have x2 := cell_at q5.out.heap 2
  have xl := lt_of_heap q5.out.heap
  go_upto_region 13 with fail
  go_wp2_with fail
  refine (NO.out ⟨n, a5, c5, L5, r5⟩ _ _ q5.out.at' ⟨rfl, q5.out.tab⟩).mono ?_
  intro e v7 hM
  obtain ⟨a7, c7, L7, r7, rfl, d7, z7, s7⟩ := hM.open
  clear hM
  clear x0 x1 x2 xl
  go_upto_region 14 with fail
  have q7 : Bd (v7.alloc (.cells #[.int .i64 n, .slice a7 L7.length c7, .int .i64 r7] 54)) v7.heap.size n _ a7 c7 L7 r7 := ⟨heap_new _ _, SliceAt.same d7 fs2, z7⟩
  have s7 := s7.same (show Same v7 (v7.alloc (.cells #[.int .i64 n, .slice a7 L7.length c7, .int .i64 r7] 54)) from fs2)
  clear d7 z7
  generalize v7.alloc (.cells #[.int .i64 n, .slice a7 L7.length c7, .int .i64 r7] 54) = w7 at *
  generalize v7.heap.size = b7 at *
  replace q1 := Lib.hid (q1.out.same s7); replace kr := Lib.hid (s7.at kr.out id)
  have s7 := hs6.out.same s7
  replace q7 := Lib.hid q7; replace s7 := Lib.hid s7
  have x0 := cell_at q1.out.heap 0
  have x1 := cell_at q1.out.heap 1
  have x2 := cell_at q1.out.heap 2
  have xl := lt_of_heap q1.out.heap
  have z0 := cell_at q7.out.heap 0
  have z1 := cell_at q7.out.heap 1
  have z2 := cell_at q7.out.heap 2
  have zl := lt_of_heap q7.out.heap
  go_upto_region 16 with fail
  go_wp2_with fail
  refine (AN.out ⟨n, a1, c1, L1, r1⟩ ⟨n, a7, c7, L7, r7⟩ _ _ _ q1.out.at' q7.out.at' ⟨rfl, q1.out.tab⟩ ⟨rfl, q7.out.tab⟩).mono ?_
  intro e w8 hM
  obtain ⟨a8, c8, L8, r8, rfl, d8, t8, s8⟩ := hM.open
  clear x0 x1 x2 xl
  clear z0 z1 z2 zl
  replace kr := Lib.hid (s8.at kr.out id)
  have hs8 := s7.out.same s8
  clear hM s8 q1 q7
  replace d8 := Lib.hid d8; replace t8 := Lib.hid t8; replace hs8 := Lib.hid hs8
  obtain ⟨x0, x1, x2, z0, z1, z2, xl⟩ := box_facts kr.out
  go_wp2_with fail
  obtain ⟨g0, g1, g2, hdF, hsF⟩ := dg_stored hs8.out (by omega) (d := ⟨n, a8, c8, L8, r8⟩) d8.out kr.out
  refine bodyPost_ret (v := .tuple #[.agg #[.int .i64 n, .slice a8 L8.length c8, .int .i64 r8], .int .i64 0]) (by simp [results, Tryz.results33, go_sem, g0, g1, g2]) rfl ?_
  exact ⟨j, k, hfx.out, hfy.out, _, rfl, hdF, ⟨rfl, t8.out⟩, hsF⟩
end Go.Proofs.YtknlkcfnfjchdaaGreat
