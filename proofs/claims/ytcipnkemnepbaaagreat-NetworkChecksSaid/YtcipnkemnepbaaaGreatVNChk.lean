/- Bits and Check of package network, and the law's check. The law of package network: bits, all, number, code walked. The closures of a network's steps, by tuples: they do not depend on the order (plain). package network: Count, Enabled, Blocked walked. package network: measured, Count walked. -/
import Derived.Test.YtcipnkemnepbaaaGreatVNetT
import Derived.Test.YtcipnkemnepbaaaGreatVNetM
namespace Go.Proofs.YtcipnkemnepbaaaGreat
open Go.RowKit
set_option linter.unusedVariables false
set_option linter.unusedSimpArgs false

/-- The error of a set of v variables with a table. -/
def Nw.mErr (N : Nw) (v : Nat) (t : List Bool) : Int := if v ≠ N.all then 4 else if ite3 t (N.set (okT N.ns)) (fls N.all) = t then 0 else 2
def MeE (N : Nw) (E : Int) (w : World) (e : Ending) (w' : World) : Prop :=
  (E ≠ 0 ∧ e = .returned (.tuple #[.agg #[.slice none 0 0, .slice none 0 0, .int .i64 0, .bool false], .int .i64 E]) ∧ Same w w') ∨
  (E = 0 ∧ ∃ aT aB cT cB, e = .returned (.tuple #[.agg #[.slice aT N.As.length cT, .slice aB N.As.length cB, .int .i64 N.all, .bool N.emp], .int .i64 0]) ∧ LyAt N aT aB cT cB w' ∧ Same w w')

set_option maxRecDepth 100000 in
set_option maxHeartbeats 8000000 in
theorem measured_net (N : Nw) (OK : NetOk N) (d : Dg) (v : Nat) (t : List Bool) (w : World) (hat : N.at w) (hd : d.at w) (T : d.tab v t) :
    Calls Tryz.prog 52 #[.agg #[.slice N.aA N.As.length N.cA, .slice N.aO N.o.length N.cO], .agg #[.int .i64 d.n, .slice d.a d.L.length d.cap, .int .i64 d.r]] w (MeE N (N.mErr v t) w) := by
  have h10 := OK.h10
  have PL := fun W (hW : Same w W) => OK.place W (hat.same hW)
  have CK := fun W (hW : Same w W) => check_tab d v t W (SliceAt.same hd hW) T
  have VA := fun aT aB cT cB W (hW : Same w W) (hly : LyAt N aT aB cT cB W) => valid_any N OK aT aB cT cB W (hat.same hW) hly
  obtain ⟨V, hV⟩ : ∃ V, V = N.set (okT N.ns) := ⟨_, rfl⟩
  have hVl : V.length = 2 ^ N.all := by rw [hV]; exact tupT_len _ _ _ _ _
  have hE1 : v ≠ N.all → N.mErr v t = 4 := fun h => by unfold Nw.mErr; rw [if_pos h]
  have hE2 : v = N.all → ite3 t V (fls N.all) = t → N.mErr v t = 0 := fun h h2 => by unfold Nw.mErr; rw [if_neg (by simpa using h), ← hV, if_pos h2]
  have hE3 : v = N.all → ¬ ite3 t V (fls N.all) = t → N.mErr v t = 2 := fun h h2 => by unfold Nw.mErr; rw [if_neg (by simpa using h), ← hV, if_neg h2]
  rw [← hV] at VA
  have AN := fun (d2 : Dg) (h : v = N.all) W (hW : Same w W) (h2 : d2.at W) (T2 : d2.tab N.all V) => And_big (n := N.all) (by omega) (SliceAt.same hd hW) h2 (h ▸ T) T2 (short14 (by omega) (ite3_len (by rw [← h]; exact T.2.len) hVl (fls_len _)))
  have EQ := fun (d2 : Dg) (h : v = N.all) W (hW : Same w W) (h2 : d2.at W) (T2 : d2.tab N.all (ite3 t V (fls N.all))) => equal_dg (d' := d) h2 (SliceAt.same hd hW) T2 (h ▸ T)
  have hdn := T.1
  have hb4 : N.mErr v t ≠ 0 → ∀ w', Same w w' → MeE N (N.mErr v t) w (.returned (.tuple #[.agg #[.slice none 0 0, .slice none 0 0, .int .i64 0, .bool false], .int .i64 (N.mErr v t)])) w' := fun h w' hs => .inl ⟨h, rfl, hs⟩
  have hgd : N.mErr v t = 0 → ∀ aT aB cT cB w', LyAt N aT aB cT cB w' → Same w w' → MeE N (N.mErr v t) w (.returned (.tuple #[.agg #[.slice aT N.As.length cT, .slice aB N.As.length cB, .int .i64 N.all, .bool N.emp], .int .i64 0])) w' := fun h aT aB cT cB w' h1 h2 => .inr ⟨h, aT, aB, cT, cB, rfl, h1, h2⟩
  simp only [Dg.v] at CK AN EQ
  rw [hdn] at CK AN EQ ⊢
  generalize ite3 t V (fls N.all) = t2 at *
  generalize d.a = da at *
  generalize d.L.length = dq at *
  generalize d.cap = dc at *
  generalize d.r = dr at *
  obtain ⟨Q, hQ⟩ : ∃ Q, Q = MeE N (N.mErr v t) w := ⟨_, rfl⟩
  rw [← hQ] at hb4 hgd ⊢
  clear hd T hdn hV hVl hQ
  generalize N.mErr v t = EE at *
  clear hat OK
  generalize N.all = n at *
  generalize N.emp = em at *
  generalize N.As.length = m at *
  generalize N.o.length = qo at *
  generalize N.aA = aA at *
  generalize N.cA = cA at *
  generalize N.aO = aO at *
  generalize N.cO = cO at *
  replace PL := Lib.hid PL; replace CK := Lib.hid CK; replace VA := Lib.hid VA; replace AN := Lib.hid AN; replace EQ := Lib.hid EQ; replace hE1 := Lib.hid hE1; replace hE2 := Lib.hid hE2; replace hE3 := Lib.hid hE3; replace hb4 := Lib.hid hb4; replace hgd := Lib.hid hgd
  go_enter Tryz.func52, Tryz.ntmps52
  go_upto_region 1 with fail
  have kn := heap_old (heap_old (heap_new w (.cells #[.slice aA m cA, .slice aO qo cO] 36)) (.cells #[.int .i64 v, .slice da dq dc, .int .i64 dr] 56)) (.cells #[.slice none 0 0, .slice none 0 0, .int .i64 0, .bool false] 89)
  have kf := heap_old (heap_new (w.alloc (.cells #[.slice aA m cA, .slice aO qo cO] 36)) (.cells #[.int .i64 v, .slice da dq dc, .int .i64 dr] 56)) (.cells #[.slice none 0 0, .slice none 0 0, .int .i64 0, .bool false] 89)
  have kr := heap_new ((w.alloc (.cells #[.slice aA m cA, .slice aO qo cO] 36)).alloc (.cells #[.int .i64 v, .slice da dq dc, .int .i64 dr] 56)) (.cells #[.slice none 0 0, .slice none 0 0, .int .i64 0, .bool false] 89)
  rw [← al1] at kf
  rw [← al2] at kr
  have hs : Same w (((w.alloc (.cells #[.slice aA m cA, .slice aO qo cO] 36)).alloc (.cells #[.int .i64 v, .slice da dq dc, .int .i64 dr] 56)).alloc (.cells #[.slice none 0 0, .slice none 0 0, .int .i64 0, .bool false] 89)) := fs2
  generalize ((w.alloc (.cells #[.slice aA m cA, .slice aO qo cO] 36)).alloc (.cells #[.int .i64 v, .slice da dq dc, .int .i64 dr] 56)).alloc (.cells #[.slice none 0 0, .slice none 0 0, .int .i64 0, .bool false] 89) = W0 at *
  replace kn := Lib.hid kn; replace kf := Lib.hid kf; replace kr := Lib.hid kr; replace hs := Lib.hid hs
  have y0 := cell_at kn.out 0
  have y1 := cell_at kn.out 1
  have yl := lt_of_heap kn.out
  go_wp2_with fail
  refine (PL.out _ hs.out).mono ?_
  rintro e w1 ⟨aT, aB, cT, cB, rfl, hly, s1⟩
  clear y0 y1 yl
  have hbl : w.heap.size + 1 + 1 < w1.heap.size := by have h9 := lt_of_heap kr.out; have h8 := s1.size; omega
  replace kn := Lib.hid (s1.at kn.out id); replace kr := Lib.hid (s1.at kr.out id); replace kf := Lib.hid (s1.at kf.out id)
  have hs1 := hs.out.same s1
  clear s1 hs
  replace hly := Lib.hid hly; replace hs1 := Lib.hid hs1
  go_upto_region 2 with fail
  have kl := heap_new w1 (.cells #[.slice aT m cT, .slice aB m cB, .int .i64 n, .bool em] 89)
  have s2 : Same w1 (w1.alloc (.cells #[.slice aT m cT, .slice aB m cB, .int .i64 n, .bool em] 89)) := fs2
  have hly2 := hly.out.same s2
  replace kn := Lib.hid (s2.at kn.out id); replace kr := Lib.hid (s2.at kr.out id); replace kf := Lib.hid (s2.at kf.out id)
  have hs2 := hs1.out.same s2
  clear s2 hly hs1
  generalize w1.alloc (.cells #[.slice aT m cT, .slice aB m cB, .int .i64 n, .bool em] 89) = W1 at *
  generalize w1.heap.size = bl at *
  replace kl := Lib.hid kl; replace hly2 := Lib.hid hly2; replace hs2 := Lib.hid hs2
  have x0 := cell_at kf.out 0
  have x1 := cell_at kf.out 1
  have x2 := cell_at kf.out 2
  have xl := lt_of_heap kf.out
  go_upto_region 4 with fail
  go_wp2_with fail
  refine (CK.out _ hs2.out).mono ?_
  rintro e w3 ⟨rfl, s3⟩
  clear x0 x1 x2 xl
  replace kn := Lib.hid (s3.at kn.out id); replace kr := Lib.hid (s3.at kr.out id); replace kf := Lib.hid (s3.at kf.out id); replace kl := Lib.hid (s3.at kl.out id)
  have hly3 := hly2.out.same s3
  have hs3 := hs2.out.same s3
  clear s3 hly2 hs2
  replace hly3 := Lib.hid hly3; replace hs3 := Lib.hid hs3
  by_cases hvn : v = n
  · have hVA := VA.out
    have hAN := fun d2 => AN.out d2 hvn
    have hEQ := fun d2 => EQ.out d2 hvn
    have hb1 : ((v : Int) != (n : Int)) = false := by simp; omega
    replace hVA := Lib.hid hVA; replace hAN := Lib.hid hAN; replace hEQ := Lib.hid hEQ; replace hvn := Lib.hid hvn
    clear VA AN EQ
    have z0 := cell_at kl.out 0
    have z1 := cell_at kl.out 1
    have z2 := cell_at kl.out 2
    have z3 := cell_at kl.out 3
    have zl := lt_of_heap kl.out
    have x0 := cell_at kf.out 0
    have x1 := cell_at kf.out 1
    have x2 := cell_at kf.out 2
    have xl := lt_of_heap kf.out
    have y0 := cell_at kn.out 0
    have y1 := cell_at kn.out 1
    have yl := lt_of_heap kn.out
    go_upto_region 9 with fail
    go_wp2_with fail
    refine (hVA.out _ _ _ _ _ hs3.out hly3.out).mono ?_
    intro e w4 hM
    obtain ⟨a4, c4, L4, r4, rfl, d4, t4, s4⟩ := hM.open
    clear z0 z1 z2 z3 zl
    clear x0 x1 x2 xl
    clear y0 y1 yl
    have hb4' : bl < w4.heap.size := by have h9 := lt_of_heap kl.out; have h8 := s4.size; omega
    replace kr := Lib.hid (s4.at kr.out id); replace kf := Lib.hid (s4.at kf.out id); replace kl := Lib.hid (s4.at kl.out id)
    have hly4 := hly3.out.same s4
    have hs4 := hs3.out.same s4
    clear hM s4 hs3 kn hly3
    replace d4 := Lib.hid d4; replace t4 := Lib.hid t4; replace hs4 := Lib.hid hs4; replace hly4 := Lib.hid hly4
    go_upto_region 10 with fail
    have k5 := heap_new w4 (.cells #[.int .i64 n, .slice a4 L4.length c4, .int .i64 r4] 56)
    have s5 : Same w4 (w4.alloc (.cells #[.int .i64 n, .slice a4 L4.length c4, .int .i64 r4] 56)) := fs2
    generalize w4.alloc (.cells #[.int .i64 n, .slice a4 L4.length c4, .int .i64 r4] 56) = W5 at *
    replace d4 := Lib.hid (d4.out.same s5); replace kr := Lib.hid (s5.at kr.out id); replace kf := Lib.hid (s5.at kf.out id); replace kl := Lib.hid (s5.at kl.out id)
    have hly5 := hly4.out.same s5
    have hs5 := hs4.out.same s5
    clear s5 hs4 hly4
    generalize w4.heap.size = b5 at *
    replace k5 := Lib.hid k5; replace hs5 := Lib.hid hs5; replace hly5 := Lib.hid hly5
    have x0 := cell_at kf.out 0
    have x1 := cell_at kf.out 1
    have x2 := cell_at kf.out 2
    have xl := lt_of_heap kf.out
    have y0 := cell_at k5.out 0
    have y1 := cell_at k5.out 1
    have y2 := cell_at k5.out 2
    have yl := lt_of_heap k5.out
    go_upto_region 12 with fail
    go_wp2_with fail
    refine (hAN.out ⟨n, a4, c4, L4, r4⟩ _ hs5.out d4.out ⟨rfl, t4.out⟩).mono ?_
    intro e w6 hM
    obtain ⟨a6, c6, L6, r6, rfl, d6, t6, s6⟩ := hM.open
    clear x0 x1 x2 xl
    clear y0 y1 y2 yl
    have hb6 : b5 < w6.heap.size := by have h9 := lt_of_heap k5.out; have h8 := s6.size; omega
    replace kr := Lib.hid (s6.at kr.out id); replace kf := Lib.hid (s6.at kf.out id); replace kl := Lib.hid (s6.at kl.out id)
    have hly6 := hly5.out.same s6
    have hs6 := hs5.out.same s6
    clear hM s6 hs5 k5 d4 t4 hly5
    replace d6 := Lib.hid d6; replace t6 := Lib.hid t6; replace hs6 := Lib.hid hs6; replace hly6 := Lib.hid hly6
    go_upto_region 13 with fail
    have k7 := heap_new w6 (.cells #[.int .i64 n, .slice a6 L6.length c6, .int .i64 r6] 56)
    have s7 : Same w6 (w6.alloc (.cells #[.int .i64 n, .slice a6 L6.length c6, .int .i64 r6] 56)) := fs2
    generalize w6.alloc (.cells #[.int .i64 n, .slice a6 L6.length c6, .int .i64 r6] 56) = W7 at *
    replace d6 := Lib.hid (d6.out.same s7); replace kr := Lib.hid (s7.at kr.out id); replace kf := Lib.hid (s7.at kf.out id); replace kl := Lib.hid (s7.at kl.out id)
    have hly7 := hly6.out.same s7
    have hs7 := hs6.out.same s7
    clear s7 hs6 hly6
    generalize w6.heap.size = b7 at *
    replace k7 := Lib.hid k7; replace hs7 := Lib.hid hs7; replace hly7 := Lib.hid hly7
    have x0 := cell_at kf.out 0
    have x1 := cell_at kf.out 1
    have x2 := cell_at kf.out 2
    have xl := lt_of_heap kf.out
    have y0 := cell_at k7.out 0
    have y1 := cell_at k7.out 1
    have y2 := cell_at k7.out 2
    have yl := lt_of_heap k7.out
    go_upto_region 15 with fail
    go_wp2_with fail
    refine (hEQ.out ⟨n, a6, c6, L6, r6⟩ _ hs7.out d6.out ⟨rfl, t6.out⟩).mono ?_
    rintro e w8 ⟨rfl, s8⟩
    clear x0 x1 x2 xl
    clear y0 y1 y2 yl
    replace kr := Lib.hid (s8.at kr.out id); replace kl := Lib.hid (s8.at kl.out id)
    have hly8 := hly7.out.same s8
    have hs8 := hs7.out.same s8
    clear s8 hs7 kf k7 d6 t6 hly7
    replace hs8 := Lib.hid hs8; replace hly8 := Lib.hid hly8
    by_cases htt : t2 = t
    · have hE := hE2.out hvn.out htt
      rw [decide_eq_true htt]
      subst hE
      have hg := hgd.out rfl
      replace hg := Lib.hid hg; replace htt := Lib.hid htt
      have z0 := cell_at kl.out 0
      have z1 := cell_at kl.out 1
      have z2 := cell_at kl.out 2
      have z3 := cell_at kl.out 3
      have zl := lt_of_heap kl.out
      obtain ⟨q0, q1, q2, q3, g0, g1, g2, g3, ql⟩ := boxq_facts kr.out
      go_wp2_with fail
      obtain ⟨e0, e1, e2, e3, hsF, hF⟩ := ly_stored (u0 := .slice aT m cT) (u1 := .slice aB m cB) (u2 := .int .i64 n) (u3 := .bool em) hs8.out (by omega) kr.out
      refine bodyPost_ret (v := .tuple #[.agg #[.slice aT m cT, .slice aB m cB, .int .i64 n, .bool em], .int .i64 0]) (by simp [results, Tryz.results52, go_sem, e0, e1, e2, e3]) rfl ?_
      exact hg.out _ _ _ _ _ (hly8.out.box hF kr.out) hsF
    · have hE := hE3.out hvn.out htt
      rw [decide_eq_false htt]
      subst hE
      have hg := hb4.out (by decide)
      replace hg := Lib.hid hg; replace htt := Lib.hid htt
      obtain ⟨q0, q1, q2, q3, g0, g1, g2, g3, ql⟩ := boxq_facts kr.out
      go_wp2_with fail
      obtain ⟨e0, e1, e2, e3, hsF, hF⟩ := ly_stored (u0 := .slice none 0 0) (u1 := .slice none 0 0) (u2 := .int .i64 0) (u3 := .bool false) hs8.out (by omega) kr.out
      refine bodyPost_ret (v := .tuple #[.agg #[.slice none 0 0, .slice none 0 0, .int .i64 0, .bool false], .int .i64 2]) (by simp [results, Tryz.results52, go_sem, e0, e1, e2, e3]) rfl ?_
      exact hg.out _ hsF
  · have hE := hE1.out hvn
    subst hE
    have hg := hb4.out (by decide)
    have hb1 : ((v : Int) != (n : Int)) = true := by simp; omega
    replace hg := Lib.hid hg; replace hvn := Lib.hid hvn
    have z0 := cell_at kl.out 0
    have z1 := cell_at kl.out 1
    have z2 := cell_at kl.out 2
    have z3 := cell_at kl.out 3
    have zl := lt_of_heap kl.out
    have x0 := cell_at kf.out 0
    have x1 := cell_at kf.out 1
    have x2 := cell_at kf.out 2
    have xl := lt_of_heap kf.out
    obtain ⟨q0, q1, q2, q3, g0, g1, g2, g3, ql⟩ := boxq_facts kr.out
    go_wp2_with fail
    obtain ⟨e0, e1, e2, e3, hsF, hF⟩ := ly_stored (u0 := .slice none 0 0) (u1 := .slice none 0 0) (u2 := .int .i64 0) (u3 := .bool false) hs3.out (by omega) kr.out
    refine bodyPost_ret (v := .tuple #[.agg #[.slice none 0 0, .slice none 0 0, .int .i64 0, .bool false], .int .i64 4]) (by simp [results, Tryz.results52, go_sem, e0, e1, e2, e3]) rfl ?_
    exact hg.out _ hsF

set_option maxRecDepth 100000 in
set_option maxHeartbeats 4000000 in
theorem Count_net (N : Nw) (OK : NetOk N) (d : Dg) (v : Nat) (t : List Bool) (w : World) (hat : N.at w) (hd : d.at w) (T : d.tab v t) :
    Calls Tryz.prog 23 #[.agg #[.slice N.aA N.As.length N.cA, .slice N.aO N.o.length N.cO], .agg #[.int .i64 d.n, .slice d.a d.L.length d.cap, .int .i64 d.r]] w fun e w' => e = .returned (.tuple #[.int .i64 (if N.mErr v t = 0 then ((t.count true : Nat) : Int) else 0), .int .i64 (N.mErr v t)]) ∧ Same w w' := by
  have ME := fun W (hW : Same w W) => measured_net N OK d v t W (hat.same hW) (SliceAt.same hd hW) T
  have CT := fun W (hW : Same w W) => count_tab d v t W (SliceAt.same hd hW) T
  have hdn := T.1
  simp only [Dg.v] at CT
  rw [hdn] at ME CT ⊢
  generalize d.a = da at *
  generalize d.L.length = dq at *
  generalize d.cap = dc at *
  generalize d.r = dr at *
  obtain ⟨EE, hEE⟩ : ∃ EE, EE = N.mErr v t := ⟨_, rfl⟩
  rw [← hEE] at ME ⊢
  generalize t.count true = ct at *
  obtain ⟨cx, hcx⟩ : ∃ cx : Int, cx = if EE = 0 then (ct : Int) else 0 := ⟨_, rfl⟩
  rw [← hcx]
  clear hat hd T hdn OK hEE
  unfold MeE at ME
  generalize N.aA = aA at *
  generalize N.cA = cA at *
  generalize N.aO = aO at *
  generalize N.cO = cO at *
  generalize N.all = n at *
  generalize N.emp = em at *
  generalize hm : N.As.length = m at *
  generalize N.o.length = qo at *
  replace ME := Lib.hid ME; replace CT := Lib.hid CT; replace hcx := Lib.hid hcx
  go_enter Tryz.func23, Tryz.ntmps23
  go_upto_region 1 with fail
  have kn := heap_old (heap_new w (.cells #[.slice aA m cA, .slice aO qo cO] 36)) (.cells #[.int .i64 v, .slice da dq dc, .int .i64 dr] 56)
  have kf := heap_new (w.alloc (.cells #[.slice aA m cA, .slice aO qo cO] 36)) (.cells #[.int .i64 v, .slice da dq dc, .int .i64 dr] 56)
  rw [← al1] at kf
  have hs : Same w ((w.alloc (.cells #[.slice aA m cA, .slice aO qo cO] 36)).alloc (.cells #[.int .i64 v, .slice da dq dc, .int .i64 dr] 56)) := fs2
  generalize (w.alloc (.cells #[.slice aA m cA, .slice aO qo cO] 36)).alloc (.cells #[.int .i64 v, .slice da dq dc, .int .i64 dr] 56) = W0 at *
  replace kn := Lib.hid kn; replace kf := Lib.hid kf; replace hs := Lib.hid hs
  have y0 := cell_at kn.out 0
  have y1 := cell_at kn.out 1
  have yl := lt_of_heap kn.out
  have x0 := cell_at kf.out 0
  have x1 := cell_at kf.out 1
  have x2 := cell_at kf.out 2
  have xl := lt_of_heap kf.out
  go_wp2_with fail
  refine (ME.out _ hs.out).mono ?_
  intro e w1 hM
  clear y0 y1 yl
  clear x0 x1 x2 xl
  rcases hM with ⟨h0, rfl, s1⟩ | ⟨rfl, aT, aB, cT, cB, rfl, _, s1⟩
  · have hb : (EE != 0) = true := by simpa using h0
    have hs1 := hs.out.same s1
    obtain rfl : cx = 0 := by rw [hcx.out, if_neg h0]
    clear s1
    replace h0 := Lib.hid h0; replace hs1 := Lib.hid hs1
    go_wp2_with fail
    go_ret2
    exact ⟨rfl, hs1.out.same fs2⟩
  · replace kf := Lib.hid (s1.at kf.out id)
    have hs1 := hs.out.same s1
    clear s1
    obtain rfl : cx = (ct : Int) := by rw [hcx.out, if_pos rfl]
    replace hs1 := Lib.hid hs1
    go_upto_region 2 with fail
    have s2 : Same w1 (w1.alloc (.cells #[.slice aT m cT, .slice aB m cB, .int .i64 n, .bool em] 89)) := fs2
    replace kf := Lib.hid (s2.at kf.out id)
    have hs2 := hs1.out.same s2
    clear s2
    generalize w1.alloc (.cells #[.slice aT m cT, .slice aB m cB, .int .i64 n, .bool em] 89) = W2 at *
    replace hs2 := Lib.hid hs2
    have x0 := cell_at kf.out 0
    have x1 := cell_at kf.out 1
    have x2 := cell_at kf.out 2
    have xl := lt_of_heap kf.out
    go_wp2_with fail
    refine (CT.out _ hs2.out).mono ?_
    rintro e w3 ⟨rfl, s3⟩
    have hs3 := hs2.out.same s3
    replace hs3 := Lib.hid hs3
    go_wp2_with fail
    go_ret2
    exact ⟨rfl, hs3.out⟩

/-- The tuple of a code. -/
def Nw.T (N : Nw) (k : Nat) : List Nat := tupA N.bs N.at' N.As.length (bitF N.all k)
theorem NwOk.code {N : Nw} (h : NwOk N) {k : Nat} (hk : k < 2 ^ N.all) (p : List Nat → Bool) : (∃ x ∈ tupsF N.ns, p x = true ∧ numB (codeL N.bs N.on x) = k) ↔ okT N.ns (N.T k) = true ∧ p (N.T k) = true := by
  have hpm := h.pm
  rw [← N.ns_len] at hpm
  have H := code_key (bs := N.bs) (ns := N.ns) hpm (n := N.all) rfl (fun i hi => h.bits (by rw [← N.ns_len]; exact hi)) hk p
  have e : N.T k = tupA N.bs (atB N.bs N.on) N.ns.length (bitF N.all k) := by rw [N.ns_len]; rfl
  rw [e]
  exact H
/-! ### automata without their addresses -/
def Au.bare (A : Au) : Au := ⟨A.al, A.n, A.ma, A.es, none, 0, none, 0, none, 0⟩

set_option maxRecDepth 100000 in
theorem lbits13 (n : Nat) (w : World) (hn : n ≤ 4096) : Calls Tryz.prog 16 #[.int .i64 n] w fun e w' => e = .returned (.int .i64 (bitsF n)) ∧ Same w w' := by
  obtain ⟨b, hb⟩ : ∃ b, b = bitsF n := ⟨_, rfl⟩
  have hB := bitsF_is hn
  have h12 := bitsF_12 hn
  rw [← hb] at hB h12 ⊢
  replace hb := Lib.hid hb; replace hB := Lib.hid hB
  go_enter Tryz.func16, Tryz.ntmps16
  go_wp2_with fail
  go_loopw [3] (fun v wr => ∃ j : Nat, v = .int .i64 j ∧ j ≤ b ∧ Same w wr) (fun j _ => b - (intOf j).toNat)
  case atStart => exact ⟨0, rfl, by omega, Fr.refl _ _⟩
  case round =>
    obtain ⟨j, rfl, hj, hs⟩ := hrel
    have hw := wrap_pow j (by omega)
    have hw2 : IntKind.i64.wrap ((2 : Int) ^ j) = ((2 ^ j : Nat) : Int) := by
      have e : ((2 : Int) ^ j) = ((2 ^ j : Nat) : Int) := by simp
      have hj2 : 2 ^ j ≤ 2 ^ 12 := Nat.pow_le_pow_right (by omega) (by omega)
      rw [e]
      exact wrap_sm _ (Nat.le_trans hj2 (by decide))
    by_cases hlt : j < b
    · have h2 := hB.out.least j hlt
      generalize hp : 2 ^ j = p at *
      have h2i : (p : Int) < n := by omega
      replace hs := Lib.hid hs; replace hp := Lib.hid hp
      go_wp2_with fail
      go_roundw
      case rel => exact ⟨j + 1, by go_num, by omega, hs.out⟩
      case measure => simp [intOf]; omega
    · obtain rfl : j = b := by omega
      have h2 := hB.out.le
      generalize hp : 2 ^ j = p at *
      have h2i : ¬ (p : Int) < n := by omega
      replace hs := Lib.hid hs; replace hp := Lib.hid hp
      go_wp2_with fail
      go_ret
      exact ⟨rfl, hs.out⟩

theorem sumB_perm {bs : Nat → Nat} {l k : List Nat} (h : l.Perm k) : sumB bs l = sumB bs k := by
  induction h with
  | nil => rfl
  | cons x _ ih => simp only [sumB, ih]
  | swap x y l => simp only [sumB]; omega
  | trans _ _ a b => exact a.trans b
theorem NwOk.all_range {N : Nw} (h : NwOk N) : N.all = sumB N.bs (List.range N.As.length) :=
  sumB_perm ((List.perm_ext_iff_of_nodup h.pm.nodup List.nodup_range).2 (fun i => by rw [h.pm.mem, List.mem_range]))
theorem sumB_rng (bs : Nat → Nat) (k : Nat) : sumB bs (List.range (k + 1)) = sumB bs (List.range k) + bs k := by
  rw [List.range_succ, sumB_append]; rfl
theorem sumB_rng12 {bs : Nat → Nat} (h : ∀ i, bs i ≤ 12) : ∀ k, sumB bs (List.range k) ≤ k * 12
  | 0 => Nat.zero_le _
  | k + 1 => by
    have := sumB_rng12 h k
    have := h k
    rw [sumB_rng]
    omega

set_option maxRecDepth 100000 in
set_option maxHeartbeats 4000000 in
theorem lall13 (N : Nw) (w : World) (hat : N.at w) (hn : ∀ A ∈ N.As, 0 ≤ A.n ∧ A.n ≤ 4096) (hm : N.As.length ≤ 1000) :
    Calls Tryz.prog 9 #[.agg #[.slice N.aA N.As.length N.cA, .slice N.aO N.o.length N.cO]] w fun e w' => e = .returned (.int .i64 (sumB N.bs (List.range N.As.length))) ∧ Same w w' := by
  have LB := fun (n : Nat) (h : n ≤ 4096) W => lbits13 n W h
  obtain ⟨m, hmm⟩ : ∃ m, m = N.As.length := ⟨_, rfl⟩
  have hlt : ∀ k, k < m → k < N.As.length := fun k h => hmm ▸ h
  have hrow := fun (k : Nat) (hk : k < m) W (hW : Same w W) => (hat.au.same hW).row (hlt k hk)
  have hnk : ∀ k (hk : k < N.As.length), ∃ n : Nat, N.As[k].n = n ∧ n ≤ 4096 ∧ N.bs k = bitsF n := fun k hk => by
    have h := hn _ (List.getElem_mem hk)
    refine ⟨N.As[k].n.toNat, by omega, by omega, ?_⟩
    unfold Nw.bs
    rw [N.ns_get hk]
  have h12 : ∀ i, N.bs i ≤ 12 := fun i => by
    by_cases hi : i < N.As.length
    · obtain ⟨n, _, h2, h3⟩ := hnk i hi
      rw [h3]; exact bitsF_12 h2
    · rw [N.bs_out (by omega)]; omega
  obtain ⟨sf, hsf⟩ : ∃ f : Nat → Nat, f = fun k => sumB N.bs (List.range k) := ⟨_, rfl⟩
  have hs0 : sf 0 = 0 := by rw [hsf]; rfl
  have hss : ∀ k, sf (k + 1) = sf k + N.bs k := fun k => by rw [hsf]; exact sumB_rng _ _
  have hsb : ∀ k, sf k ≤ k * 12 := fun k => by rw [hsf]; exact sumB_rng12 h12 k
  have e : sumB N.bs (List.range N.As.length) = sf N.As.length := by rw [hsf]
  rw [e]
  generalize N.bs = bs at *
  clear hat hn e hsf
  simp only [← hmm] at hrow hm ⊢
  generalize N.aA = aA at *
  generalize N.cA = cA at *
  generalize N.aO = aO at *
  generalize N.cO = cO at *
  generalize N.o.length = qo at *
  generalize N.As = As at *
  clear hmm
  replace LB := Lib.hid LB; replace hrow := Lib.hid hrow; replace hnk := Lib.hid hnk; replace h12 := Lib.hid h12; replace hs0 := Lib.hid hs0; replace hss := Lib.hid hss; replace hsb := Lib.hid hsb; replace hlt := Lib.hid hlt
  go_enter Tryz.func9, Tryz.ntmps9
  go_upto_region 1 with fail
  have kn := heap_new w (.cells #[.slice aA m cA, .slice aO qo cO] 36)
  have s0 : Same w (w.alloc (.cells #[.slice aA m cA, .slice aO qo cO] 36)) := fs2
  generalize w.alloc (.cells #[.slice aA m cA, .slice aO qo cO] 36) = W0 at *
  replace kn := Lib.hid kn; replace s0 := Lib.hid s0
  have x0 := cell_at kn.out 0
  have x1 := cell_at kn.out 1
  have xl := lt_of_heap kn.out
  go_wp2_with fail
  clear x0 x1 xl
  go_loopw [3, 9] (fun v i wr => ∃ k : Nat, i = .int .i64 k ∧ k ≤ m ∧ v = .int .i64 (sf k) ∧ Same w wr) (fun _ i _ => m - (intOf i).toNat)
  case atStart => exact ⟨0, rfl, by omega, by rw [hs0.out]; rfl, s0.out⟩
  case round =>
    obtain ⟨k, rfl, hk, rfl, hs⟩ := hrel
    by_cases hkm : k < m
    · obtain ⟨b, off, ha, hb, x0, x1, x2, x3⟩ := hrow.out k hkm _ hs
      obtain ⟨n, hn1, hn2, hn3⟩ := hnk.out k (hlt.out k hkm)
      have LBk := LB.out n hn2
      have hst := hss.out k
      rw [hn3] at hst
      have hb1 := hsb.out k
      have hb2 := hsb.out (k + 1)
      generalize As[k]'(hlt.out k hkm) = A at *
      rw [hn1] at x1
      subst ha
      rw [← hn3] at hst LBk
      generalize bs k = c at *
      obtain ⟨S, hS⟩ : ∃ S, S = sf k := ⟨_, rfl⟩
      rw [← hS] at hst hb1 ⊢
      rw [hst] at hb2
      have hS1 : S ≤ 12000 := by omega
      have hS2 : S + c ≤ 12012 := by omega
      clear hn1 hn3 hb1 hb2
      replace hS := Lib.hid hS; replace hst := Lib.hid hst
      replace hs := Lib.hid hs; replace LBk := Lib.hid LBk
      go_wp2_with fail
      refine (LBk.out _).mono ?_
      rintro e w1 ⟨rfl, s1⟩
      have hs1 := (show Same w _ from hs.out.same fs2).same s1
      clear s1 x0 x1 x2 x3
      replace hs1 := Lib.hid hs1
      go_wp2_with fail
      go_roundw
      case rel => exact ⟨k + 1, by go_num, by omega, by rw [hst.out]; simp, hs1.out⟩
      case measure => simp [intOf]; omega
    · obtain rfl : k = m := by omega
      replace hs := Lib.hid hs
      go_wp2_with fail
      go_ret
      exact ⟨rfl, hs.out⟩

set_option maxRecDepth 100000 in
set_option maxHeartbeats 4000000 in
theorem Check_any (N : Nw) (w : World) (hat : N.at w) (hz : ∀ A ∈ N.As, A.small) (hl : N.As.length ≤ 1000) (ho : N.o.length ≤ 1000) :
    Calls Tryz.prog 12 #[.agg #[.slice N.aA N.As.length N.cA, .slice N.aO N.o.length N.cO]] w fun e w' => e = .returned (.int .i64 N.err) ∧ Same w w' := by
  have PL := fun W (hW : Same w W) => place_any N W (hat.same hW) hz hl ho
  unfold PlE layV at PL
  clear hat hz hl ho
  generalize N.err = er at *
  generalize N.all = n at *
  generalize N.emp = em at *
  generalize N.As.length = m at *
  generalize N.o.length = qo at *
  generalize N.aA = aA at *
  generalize N.cA = cA at *
  generalize N.aO = aO at *
  generalize N.cO = cO at *
  replace PL := Lib.hid PL
  go_enter Tryz.func12, Tryz.ntmps12
  go_upto_region 1 with fail
  have kn := heap_new w (.cells #[.slice aA m cA, .slice aO qo cO] 36)
  have hs : Same w (w.alloc (.cells #[.slice aA m cA, .slice aO qo cO] 36)) := fs2
  generalize w.alloc (.cells #[.slice aA m cA, .slice aO qo cO] 36) = W0 at *
  replace kn := Lib.hid kn; replace hs := Lib.hid hs
  have y0 := cell_at kn.out 0
  have y1 := cell_at kn.out 1
  have yl := lt_of_heap kn.out
  go_wp2_with fail
  refine (PL.out _ hs.out).mono ?_
  rintro e w1 (⟨h0, rfl, s1⟩ | ⟨rfl, aT, aB, cT, cB, rfl, hly, s1⟩)
  · clear y0 y1 yl
    have hs1 := hs.out.same s1
    clear s1
    replace hs1 := Lib.hid hs1; replace h0 := Lib.hid h0
    go_wp2_with fail
    go_ret
    exact ⟨rfl, hs1.out.same fs2⟩
  · clear y0 y1 yl
    have hs1 := hs.out.same s1
    clear s1
    replace hs1 := Lib.hid hs1; replace hly := Lib.hid hly
    go_wp2_with fail
    go_ret
    exact ⟨rfl, hs1.out.same fs2⟩
set_option maxRecDepth 100000 in
set_option maxHeartbeats 4000000 in
theorem Bits_any (N : Nw) (w : World) (hat : N.at w) (hz : ∀ A ∈ N.As, A.small) (hl : N.As.length ≤ 1000) (ho : N.o.length ≤ 1000) :
    Calls Tryz.prog 8 #[.agg #[.slice N.aA N.As.length N.cA, .slice N.aO N.o.length N.cO]] w fun e w' => e = .returned (.tuple #[.int .i64 ((if N.err = 0 then N.all else 0 : Nat) : Int), .int .i64 N.err]) ∧ Same w w' := by
  have PL := fun W (hW : Same w W) => place_any N W (hat.same hW) hz hl ho
  unfold PlE layV at PL
  clear hat hz hl ho
  generalize N.err = er at *
  generalize N.all = n at *
  generalize N.emp = em at *
  generalize N.As.length = m at *
  generalize N.o.length = qo at *
  generalize N.aA = aA at *
  generalize N.cA = cA at *
  generalize N.aO = aO at *
  generalize N.cO = cO at *
  obtain ⟨R, hR⟩ : ∃ R, R = (if er = 0 then n else 0) := ⟨_, rfl⟩
  rw [← hR]
  replace PL := Lib.hid PL; replace hR := Lib.hid hR
  go_enter Tryz.func8, Tryz.ntmps8
  go_upto_region 1 with fail
  have kn := heap_new w (.cells #[.slice aA m cA, .slice aO qo cO] 36)
  have hs : Same w (w.alloc (.cells #[.slice aA m cA, .slice aO qo cO] 36)) := fs2
  generalize w.alloc (.cells #[.slice aA m cA, .slice aO qo cO] 36) = W0 at *
  replace kn := Lib.hid kn; replace hs := Lib.hid hs
  have y0 := cell_at kn.out 0
  have y1 := cell_at kn.out 1
  have yl := lt_of_heap kn.out
  go_wp2_with fail
  refine (PL.out _ hs.out).mono ?_
  rintro e w1 (⟨h0, rfl, s1⟩ | ⟨rfl, aT, aB, cT, cB, rfl, hly, s1⟩)
  · obtain rfl : R = 0 := by rw [hR.out, if_neg h0]
    clear y0 y1 yl
    have hs1 := hs.out.same s1
    clear s1
    replace hs1 := Lib.hid hs1; replace h0 := Lib.hid h0
    go_upto_region 2 with fail
    have kl := heap_new w1 (.cells #[.slice none 0 0, .slice none 0 0, .int .i64 0, .bool false] 89)
    replace kl := Lib.hid kl
    have x0 := cell_at kl.out 0
    have x1 := cell_at kl.out 1
    have x2 := cell_at kl.out 2
    have x3 := cell_at kl.out 3
    have xl := lt_of_heap kl.out
    go_wp2_with fail
    go_ret2
    exact ⟨rfl, hs1.out.same fs2⟩
  · obtain rfl : R = n := by rw [hR.out, if_pos rfl]
    clear y0 y1 yl
    have hs1 := hs.out.same s1
    clear s1
    replace hs1 := Lib.hid hs1; replace hly := Lib.hid hly
    go_upto_region 2 with fail
    have kl := heap_new w1 (.cells #[.slice aT m cT, .slice aB m cB, .int .i64 R, .bool em] 89)
    replace kl := Lib.hid kl
    have x0 := cell_at kl.out 0
    have x1 := cell_at kl.out 1
    have x2 := cell_at kl.out 2
    have x3 := cell_at kl.out 3
    have xl := lt_of_heap kl.out
    go_wp2_with fail
    go_ret2
    exact ⟨rfl, hs1.out.same fs2⟩
set_option maxRecDepth 100000 in
set_option maxHeartbeats 4000000 in
theorem lcheck13 (N : Nw) (w : World) (hat : N.at w) (hz : ∀ A ∈ N.As, A.small) (hl : N.As.length ≤ 1000) (ho : N.o.length ≤ 1000) (hn : ∀ A ∈ N.As, 0 ≤ A.n ∧ A.n ≤ 4096) :
    Calls Tryz.prog 11 #[.agg #[.slice N.aA N.As.length N.cA, .slice N.aO N.o.length N.cO]] w fun e w' => e = .returned (.int .i64 N.err) ∧ Same w w' := by
  have PC := fun W (hW : Same w W) => pCheckL_any N.As N.aA N.cA W (hat.au.same hW) hz hl
  have OC := fun W (hW : Same w W) => ocheck_any N.o N.As.length N.aO N.cO N.o.length W rfl (hat.o.same hW) (by omega)
  have AL := fun W (hW : Same w W) => lall13 N W (hat.same hW) hn hl
  obtain ⟨E1, hE1⟩ : ∃ E, E = prodErr N.As := ⟨_, rfl⟩
  obtain ⟨E2, hE2⟩ : ∃ E, E = ordErr N.As.length N.o := ⟨_, rfl⟩
  obtain ⟨al, hal⟩ : ∃ q, q = sumB N.bs (List.range N.As.length) := ⟨_, rfl⟩
  have hN : N.err = if E1 ≠ 0 then E1 else if E2 ≠ 0 then E2 else if 20 < N.all then 3 else 0 := by rw [hE1, hE2]; rfl
  have hA : E1 = 0 → E2 = 0 → N.all = al := fun h1 h2 => by
    rw [hal]; exact (NwOk.of (by rw [← hE1, h1]) (by rw [← hE2, h2])).all_range
  have h4 : ∀ i, N.ns.getD i 0 ≤ 4096 := fun i => by
    rcases Nat.lt_or_ge i N.As.length with h | h
    · have e : N.ns.getD i 0 = (N.As[i].n).toNat := by unfold Nw.ns; simp [List.getD, h]
      have := (hn _ (List.getElem_mem h)).2
      omega
    · have e : N.ns.getD i 0 = 0 := by unfold Nw.ns; simp [List.getD, h]
      omega
  have ha9 : al ≤ 1000000 := by
    rw [hal]
    exact Nat.le_trans (sumB_rng12 (fun i => bitsF_12 (h4 i)) _) (by omega)
  rw [← hE1] at PC
  rw [← hE2] at OC
  rw [← hal] at AL
  generalize N.err = er at *
  clear hat hz ho hn hE1 hE2 hal
  generalize N.all = n at *
  generalize N.emp = em at *
  generalize N.As.length = m at *
  generalize N.o.length = qo at *
  generalize N.aA = aA at *
  generalize N.cA = cA at *
  generalize N.aO = aO at *
  generalize N.cO = cO at *
  replace PC := Lib.hid PC; replace OC := Lib.hid OC; replace AL := Lib.hid AL; replace hN := Lib.hid hN; replace hA := Lib.hid hA
  go_enter Tryz.func11, Tryz.ntmps11
  go_upto_region 1 with fail
  have kn := heap_new w (.cells #[.slice aA m cA, .slice aO qo cO] 36)
  have hs : Same w (w.alloc (.cells #[.slice aA m cA, .slice aO qo cO] 36)) := fs2
  generalize w.alloc (.cells #[.slice aA m cA, .slice aO qo cO] 36) = W0 at *
  replace kn := Lib.hid kn; replace hs := Lib.hid hs
  have y0 := cell_at kn.out 0
  have y1 := cell_at kn.out 1
  have yl := lt_of_heap kn.out
  go_wp2_with fail
  refine (PC.out _ hs.out).mono ?_
  rintro e w1 ⟨rfl, sP⟩
  clear y0 y1 yl
  replace kn := Lib.hid (sP.at kn.out id)
  replace hs := Lib.hid (hs.out.same sP)
  clear sP
  have y0 := cell_at kn.out 0
  have y1 := cell_at kn.out 1
  have yl := lt_of_heap kn.out
  by_cases h1 : E1 = 0
  · subst h1
    go_wp2_with fail
    refine (OC.out _ hs.out).mono ?_
    rintro e w2 ⟨rfl, sP⟩
    clear y0 y1 yl
    replace kn := Lib.hid (sP.at kn.out id)
    replace hs := Lib.hid (hs.out.same sP)
    clear sP
    have y0 := cell_at kn.out 0
    have y1 := cell_at kn.out 1
    have yl := lt_of_heap kn.out
    by_cases h2 : E2 = 0
    · subst h2
      have hA0 := hA.out (by trivial) (by trivial)
      have hN0 : er = if 20 < al then 3 else 0 := by rw [hN.out, if_neg (by decide), if_neg (by decide), hA0]
      replace hA0 := Lib.hid hA0; replace hN0 := Lib.hid hN0
      go_wp2_with fail
      refine (AL.out _ hs.out).mono ?_
      rintro e w3 ⟨rfl, sP⟩
      replace hs := Lib.hid (hs.out.same sP)
      clear sP
      by_cases h3 : 20 < al
      · obtain rfl : er = 3 := by rw [hN0.out, if_pos h3]
        have h3i : (20 : Int) < (al : Int) := by omega
        go_wp2_with fail
        go_ret
        exact ⟨rfl, hs.out.same fs2⟩
      · obtain rfl : er = 0 := by rw [hN0.out, if_neg h3]
        have h3i : ((20 : Int) < (al : Int)) = False := by simp; omega
        go_wp2_with fail
        go_ret
        exact ⟨rfl, hs.out.same fs2⟩
    · obtain rfl : er = E2 := by rw [hN.out, if_neg (by decide), if_pos h2]
      have hb : (er != 0) = true := by simpa using h2
      go_wp2_with fail
      go_ret
      exact ⟨rfl, hs.out.same fs2⟩
  · obtain rfl : er = E1 := by rw [hN.out, if_pos h1]
    have hb : (er != 0) = true := by simpa using h1
    go_wp2_with fail
    go_ret
    exact ⟨rfl, hs.out.same fs2⟩
end Go.Proofs.YtcipnkemnepbaaaGreat
