/- package relation: Compose walked. package relation: placed walked. -/
import Derived.Test.YtknlkcfnfjchdaaGreatJRelFp
namespace Go.Proofs.YtknlkcfnfjchdaaGreat
open Go.RowKit
set_option linter.unusedVariables false
set_option linter.unusedSimpArgs false

set_option maxRecDepth 100000 in
set_option maxHeartbeats 1000000 in
theorem placed_any (d : Dg) (b c : Nat) (t : List Bool) (w : World) (hb : b ≤ 13) (hc : c ≤ 1) (hat : d.at w) (T : d.tab (2 * b) t) :
    Calls Tryz.prog 165 #[.agg #[.int .i64 d.n, .slice d.a d.L.length d.cap, .int .i64 d.r], .int .i64 c] w (DgN (3 * b) (renT (fun i => ((plF c i : Nat) : Int)) (2 * b) (3 * b) t) w) := by
  obtain ⟨n, hnb⟩ : ∃ n, n = 2 * b := ⟨_, rfl⟩
  obtain ⟨m, hmb⟩ : ∃ m, m = 3 * b := ⟨_, rfl⟩
  rw [← hnb] at T
  rw [← hnb, ← hmb]
  have hn1 : ((n : Nat) : Int).tdiv 2 = (b : Int) := by rw [Int.tdiv_eq_ediv_of_nonneg (by omega)]; omega
  have hn2 : IntKind.i64.wrap (b : Int) = (b : Int) := IntWalk.i64_in _ (by omega)
  have hn3 : IntKind.i64.wrap ((b : Int) * 3) = (m : Int) := by rw [IntWalk.i64_in _ (by omega)]; omega
  have RN := fun aQ cQ W (hW : Same w W) (hQ : RowAt W (.slice aQ n cQ) n (intCells (gL (plF c) n))) => rename_gL d n m t (plF c) aQ cQ W (by omega) (by omega) (fun i hi => by unfold plF; omega) (fun i hi => by unfold plF; omega) (SliceAt.same hat hW) T hQ
  obtain ⟨i3, hi3, hi3z, hi3s, hi3b⟩ := info_parts info3
  have e := T.1
  rw [e] at RN ⊢
  have hn24 : n ≤ 26 := by omega
  replace RN := Lib.hid RN; replace hat := Lib.hid hat; replace T := Lib.hid T; replace e := Lib.hid e; replace hnb := Lib.hid hnb; replace hmb := Lib.hid hmb
  go_enter Tryz.func165, Tryz.ntmps165
  go_wp2_with fail
  have kf := heap_old (heap_new w (.cells #[.int .i64 n, .slice d.a d.L.length d.cap, .int .i64 d.r] 54)) (.cells #[.int .i64 0, .slice none 0 0, .int .i64 0] 54)
  have kb := heap_new_at (w := w.alloc (.cells #[.int .i64 n, .slice d.a d.L.length d.cap, .int .i64 d.r] 54)) (k := w.heap.size + 1) (by simp) (.cells #[.int .i64 0, .slice none 0 0, .int .i64 0] 54)
  have hs : Same w ((w.alloc (.cells #[.int .i64 n, .slice d.a d.L.length d.cap, .int .i64 d.r] 54)).alloc (.cells #[.int .i64 0, .slice none 0 0, .int .i64 0] 54)) := (by repeat (first | exact Fr.refl _ _ | apply Fr.alloc | apply Fr.drewN | apply Fr.drew | apply Fr.undrew | apply Fr.undrewN))
  have hlt := lt_of_heap kb
  generalize (w.alloc (.cells #[.int .i64 n, .slice d.a d.L.length d.cap, .int .i64 d.r] 54)).alloc (.cells #[.int .i64 0, .slice none 0 0, .int .i64 0] 54) = W0 at *
  replace kb := Lib.hid kb; replace kf := Lib.hid kf; replace hs := Lib.hid hs
  go_loopw [6, 10] (fun v i wr => ∃ (j cc : Nat) (a : Option Addr), i = .int .i64 j ∧ j ≤ n ∧ v = .slice a j cc ∧ wr.ownsRow W0.heap.size 3 1 (.slice a j cc) j (intCells (gL (plF c) j)) ∧ Same W0 wr) (fun _ i _ => n - (intOf i).toNat)
  case atStart => exact ⟨0, 0, none, rfl, by omega, rfl, World.ownsRow_nil _ _ _ _, Fr.refl _ _⟩
  case round =>
    obtain ⟨j, cc, a, rfl, hj, rfl, ho, hs1⟩ := hrel
    have hws := hs1.size
    have hgs := gL_succ (plF c) j
    by_cases hjn : j < n
    · have hn' := hnb.out
      have t1 : ((j : Nat) : Int).tdiv 2 = (j : Int) / 2 := Int.tdiv_eq_ediv_of_nonneg (by omega)
      have t2 : ((j : Nat) : Int).tmod 2 = (j : Int) % 2 := Int.tmod_eq_emod_of_nonneg (by omega)
      have w1 : IntKind.i64.wrap ((j : Int) / 2) = (j : Int) / 2 := IntWalk.i64_in _ (by omega)
      have w2 : IntKind.i64.wrap (3 * ((j : Int) / 2)) = 3 * ((j : Int) / 2) := IntWalk.i64_in _ (by omega)
      have w2' : IntKind.i64.wrap ((j : Int) % 2) = (j : Int) % 2 := IntWalk.i64_in _ (by omega)
      have w3 : IntKind.i64.wrap (3 * ((j : Int) / 2) + (j : Int) % 2) = 3 * ((j : Int) / 2) + (j : Int) % 2 := IntWalk.i64_in _ (by omega)
      have w4 : IntKind.i64.wrap (3 * ((j : Int) / 2) + (j : Int) % 2 + c) = ((plF c j : Nat) : Int) := by rw [IntWalk.i64_in _ (by omega)]; unfold plF; omega
      clear hn'
      replace ho := Lib.hid ho; replace hs1 := Lib.hid hs1; replace hgs := Lib.hid hgs
      go_wp2_with (at_builtin; refine wpList_append1 rfl (.tmp 13) (.tmp 22) 31 rfl W0.heap.size 3 i3 (.int .i64 0) 1 8 Tryz.underlying31 hi3 hi3z hi3s hi3b rfl (by decide) (by decide) a j cc (intCells (gL (plF c) j)) rfl (owns_same ho.out (by repeat (first | exact Fr.refl _ _ | apply Fr.alloc | apply Fr.drewN | apply Fr.drew | apply Fr.undrew | apply Fr.undrewN))) (by omega) wr.heap.size [.int .i64 ((plF c j : Nat) : Int)] rfl rfl (heap_new _ _) (by simp [Value.oneCell']) (by simp; omega) ?_; intro a5 c5 w5 ho5 hG5)
      have hs5 : Same W0 w5 := grew_fresh (hs1.out.same (by repeat (first | exact Fr.refl _ _ | apply Fr.alloc | apply Fr.drewN | apply Fr.drew | apply Fr.undrew | apply Fr.undrewN))) hG5 (fun k hk => (ho.out.lt k hk).1)
      have ho5' : w5.ownsRow W0.heap.size 3 1 (.slice a5 (j + 1) c5) (j + 1) (intCells (gL (plF c) (j + 1))) := by
        rw [hgs.out]; have := ho5; simpa [intCells] using this
      clear ho5 hG5
      go_roundw
      case rel => exact ⟨j + 1, c5, a5, by go_num, by omega, rfl, ho5', hs5⟩
      case measure => simp [intOf]; omega
    · obtain rfl : j = n := by omega
      replace kb := Lib.hid (hs1.at kb.out id)
      replace kf := Lib.hid (hs1.at kf.out id)
      have hR := (SliceAt.of_owns ho).row
      have hs3 := hs.out.same hs1
      replace ho := Lib.hid ho; replace hs1 := Lib.hid hs1; replace hgs := Lib.hid hgs; replace hR := Lib.hid hR; replace hs3 := Lib.hid hs3
      have k0 := cell_at kf.out 0
      have k1 := cell_at kf.out 1
      have k2 := cell_at kf.out 2
      have kl := lt_of_heap kf.out
      go_wp2_with fail
      refine (RN.out _ _ _ hs3.out hR.out).mono ?_
      rintro e w5 ⟨u, rfl, hu, hut, hs4⟩
      replace kb := Lib.hid (hs4.at kb.out id)
      have hs5 := hs3.out.same hs4
      replace hu := Lib.hid hu; replace hut := Lib.hid hut; replace hs5 := Lib.hid hs5
      clear k0 k1 k2 kl
      obtain ⟨x0, x1, x2, z0, z1, z2, xl⟩ := box_facts kb.out
      go_wp2_with fail
      obtain ⟨d0, d1, d2, hdF, hsF⟩ := dg_stored hs5.out (by omega) hu.out kb.out
      refine bodyPost_ret (v := .tuple #[.agg #[.int .i64 u.n, .slice u.a u.L.length u.cap, .int .i64 u.r], .int .i64 0]) (by simp [results, Tryz.results165, go_sem, d0, d1, d2]) rfl ?_
      exact ⟨u, rfl, hdF, hut.out, hsF⟩
end Go.Proofs.YtknlkcfnfjchdaaGreat
namespace Go.Proofs.YtknlkcfnfjchdaaGreat
open Go.RowKit
set_option linter.unusedVariables false
set_option linter.unusedSimpArgs false

set_option maxRecDepth 100000 in
set_option maxHeartbeats 8000000 in
theorem Compose_gen {b : Nat} (hb : b ≤ 13) (E : Int) (m m' : Nat) (hE : E = if m ≠ m' ∨ m % 2 = 1 then 4 else if 40 < 3 * (m / 2) then 3 else 0) (hmb : E = 0 → m = 2 * b) (hm40 : m ≤ 40) (hm40' : m' ≤ 40) (dr df : Dg) (t0 t1 t2 t3 t4 : List Bool) (w : World)
    (hrn : dr.n = m) (hfn : df.n = m')
    (C1 : ∀ W, Same w W → Calls Tryz.prog 23 #[dr.v] W fun e w' => e = .returned (.int .i64 0) ∧ Same W w')
    (C2 : ∀ W, Same w W → Calls Tryz.prog 23 #[df.v] W fun e w' => e = .returned (.int .i64 0) ∧ Same W w')
    (P0 : E = 0 → ∀ W, Same w W → Calls Tryz.prog 165 #[dr.v, .int .i64 0] W (DgN (3 * b) t0 W))
    (P1 : E = 0 → ∀ W, Same w W → Calls Tryz.prog 165 #[df.v, .int .i64 1] W (DgN (3 * b) t1 W))
    (AN : ∀ (d d' : Dg) W, d.at W → d'.at W → d.tab (3 * b) t0 → d'.tab (3 * b) t1 → Calls Tryz.prog 100 #[d.v, d'.v] W (DgN (3 * b) t2 W))
    (EX : ∀ (d : Dg) W aQ cQ, d.at W → d.tab (3 * b) t2 → RowAt W (.slice aQ b cQ) b (intCells (gL (fun i => 3 * i + 1) b)) → Calls Tryz.prog 158 #[d.v, .slice aQ b cQ] W (DgN (3 * b) t3 W))
    (GA : ∀ (d : Dg) W, d.at W → d.tab (3 * b) t3 → Calls Tryz.prog 159 #[d.v, .int .i64 ((2 * b : Nat) : Int), .func (.func 166) #[] #[]] W fun e w' => ∃ d' : Dg, e = .returned d'.v ∧ d'.at w' ∧ d'.tab (2 * b) t4 ∧ Same W w') :
    Calls Tryz.prog 120 #[.agg #[.int .i64 dr.n, .slice dr.a dr.L.length dr.cap, .int .i64 dr.r], .agg #[.int .i64 df.n, .slice df.a df.L.length df.cap, .int .i64 df.r]] w (DgE E (2 * b) t4 w) := by
  simp only [Dg.v] at C1 C2 P0 P1 AN EX GA
  rw [hrn] at C1 P0 ⊢
  rw [hfn] at C2 P1 ⊢
  generalize dr.a = ra at *
  generalize dr.cap = rc at *
  generalize dr.r = rr at *
  generalize dr.L.length = rq at *
  generalize df.a = fa at *
  generalize df.cap = fc at *
  generalize df.r = fr at *
  generalize df.L.length = fq at *
  obtain ⟨p, hp⟩ : ∃ p, p = 3 * b := ⟨_, rfl⟩
  rw [← hp] at P0 P1 AN EX GA
  obtain ⟨q, hq⟩ : ∃ p, p = 2 * b := ⟨_, rfl⟩
  rw [← hq] at GA hmb ⊢
  obtain ⟨i3, hi3, hi3z, hi3s, hi3b⟩ := info_parts info3
  obtain ⟨h, hh⟩ : ∃ h, h = m / 2 := ⟨_, rfl⟩
  have hd1 : ((m : Nat) : Int).tdiv 2 = (h : Int) := by rw [Int.tdiv_eq_ediv_of_nonneg (by omega)]; omega
  have hd2 : ((m : Nat) : Int).tmod 2 = (m : Int) % 2 := Int.tmod_eq_emod_of_nonneg (by omega)
  have hw1 : IntKind.i64.wrap (h : Int) = (h : Int) := IntWalk.i64_in _ (by omega)
  have hw2 : IntKind.i64.wrap (3 * (h : Int)) = 3 * (h : Int) := IntWalk.i64_in _ (by omega)
  have hw3 : IntKind.i64.wrap ((m : Int) % 2) = (m : Int) % 2 := IntWalk.i64_in _ (by omega)
  rw [← hh] at hE
  clear hrn hfn
  replace C1 := Lib.hid C1; replace C2 := Lib.hid C2; replace P0 := Lib.hid P0; replace P1 := Lib.hid P1; replace AN := Lib.hid AN; replace EX := Lib.hid EX; replace GA := Lib.hid GA; replace hE := Lib.hid hE; replace hmb := Lib.hid hmb; replace hp := Lib.hid hp; replace hq := Lib.hid hq; replace hh := Lib.hid hh
  go_enter Tryz.func120, Tryz.ntmps120
  go_upto_region 1 with fail
  have ka := heap_old (heap_old (heap_new w (.cells #[.int .i64 m, .slice ra rq rc, .int .i64 rr] 54)) (.cells #[.int .i64 m', .slice fa fq fc, .int .i64 fr] 54)) (.cells #[.int .i64 0, .slice none 0 0, .int .i64 0] 54)
  have kb := heap_old (heap_new (w.alloc (.cells #[.int .i64 m, .slice ra rq rc, .int .i64 rr] 54)) (.cells #[.int .i64 m', .slice fa fq fc, .int .i64 fr] 54)) (.cells #[.int .i64 0, .slice none 0 0, .int .i64 0] 54)
  have kc := heap_new ((w.alloc (.cells #[.int .i64 m, .slice ra rq rc, .int .i64 rr] 54)).alloc (.cells #[.int .i64 m', .slice fa fq fc, .int .i64 fr] 54)) (.cells #[.int .i64 0, .slice none 0 0, .int .i64 0] 54)
  have hs : Same w (((w.alloc (.cells #[.int .i64 m, .slice ra rq rc, .int .i64 rr] 54)).alloc (.cells #[.int .i64 m', .slice fa fq fc, .int .i64 fr] 54)).alloc (.cells #[.int .i64 0, .slice none 0 0, .int .i64 0] 54)) := (by repeat (first | exact Fr.refl _ _ | apply Fr.alloc | apply Fr.drewN | apply Fr.drew | apply Fr.undrew | apply Fr.undrewN))
  have hz1 : (w.alloc (.cells #[.int .i64 m, .slice ra rq rc, .int .i64 rr] 54)).heap.size = w.heap.size + 1 := by simp
  have hz2 : ((w.alloc (.cells #[.int .i64 m, .slice ra rq rc, .int .i64 rr] 54)).alloc (.cells #[.int .i64 m', .slice fa fq fc, .int .i64 fr] 54)).heap.size = w.heap.size + 1 + 1 := by simp
  rw [hz1] at kb
  rw [hz2] at kc
  generalize ((w.alloc (.cells #[.int .i64 m, .slice ra rq rc, .int .i64 rr] 54)).alloc (.cells #[.int .i64 m', .slice fa fq fc, .int .i64 fr] 54)).alloc (.cells #[.int .i64 0, .slice none 0 0, .int .i64 0] 54) = W0 at *
  clear hz1 hz2
  replace ka := Lib.hid ka; replace kb := Lib.hid kb; replace kc := Lib.hid kc; replace hs := Lib.hid hs
  have x0 := cell_at ka.out 0
  have x1 := cell_at ka.out 1
  have x2 := cell_at ka.out 2
  have xl := lt_of_heap ka.out
  have y0 := cell_at kb.out 0
  have y1 := cell_at kb.out 1
  have y2 := cell_at kb.out 2
  have yl := lt_of_heap kb.out
  go_upto_region 2 with fail
  have kl := heap_new W0 (.cells #[.int .i64 m, .slice ra rq rc, .int .i64 rr, .int .i64 m', .slice fa fq fc, .int .i64 fr] 54)
  have s1 : Same W0 (W0.alloc (.cells #[.int .i64 m, .slice ra rq rc, .int .i64 rr, .int .i64 m', .slice fa fq fc, .int .i64 fr] 54)) := (by repeat (first | exact Fr.refl _ _ | apply Fr.alloc | apply Fr.drewN | apply Fr.drew | apply Fr.undrew | apply Fr.undrewN))
  replace ka := Lib.hid (s1.at ka.out id); replace kb := Lib.hid (s1.at kb.out id); replace kc := Lib.hid (s1.at kc.out id)
  have hs1 := hs.out.same s1
  clear x0 x1 x2 xl
  clear y0 y1 y2 yl
  clear s1
  generalize W0.alloc (.cells #[.int .i64 m, .slice ra rq rc, .int .i64 rr, .int .i64 m', .slice fa fq fc, .int .i64 fr] 54) = W1 at *
  generalize W0.heap.size = bl at *
  replace kl := Lib.hid kl; replace hs1 := Lib.hid hs1
  go_loopw [19] (fun i wr => (i = .int .i64 0 ∨ i = .int .i64 1 ∨ i = .int .i64 2) ∧ Same W1 wr) (fun i _ => 2 - (intOf i).toNat)
  case atStart => exact ⟨.inl rfl, Fr.refl _ _⟩
  case round =>
    obtain ⟨hi, hs2⟩ := hrel
    replace ka := Lib.hid (hs2.at ka.out id); replace kb := Lib.hid (hs2.at kb.out id); replace kc := Lib.hid (hs2.at kc.out id); replace kl := Lib.hid (hs2.at kl.out id)
    have hs3 := hs1.out.same hs2
    have l0 := cell_at kl.out 0
    have l1 := cell_at kl.out 1
    have l2 := cell_at kl.out 2
    have l3 := cell_at kl.out 3
    have l4 := cell_at kl.out 4
    have l5 := cell_at kl.out 5
    have ll := lt_of_heap kl.out
    replace hs2 := Lib.hid hs2; replace hs3 := Lib.hid hs3
    rcases hi with rfl | rfl | rfl
    · go_upto_region 4 with fail
      have kd := heap_new wr (.cells #[.int .i64 m, .slice ra rq rc, .int .i64 rr] 54)
      have s4 : Same wr (wr.alloc (.cells #[.int .i64 m, .slice ra rq rc, .int .i64 rr] 54)) := (by repeat (first | exact Fr.refl _ _ | apply Fr.alloc | apply Fr.drewN | apply Fr.drew | apply Fr.undrew | apply Fr.undrewN))
      have hs4 := hs2.out.same s4
      have hs5 := hs3.out.same s4
      clear s4 l0 l1 l2 l3 l4 l5 ll
      generalize wr.alloc (.cells #[.int .i64 m, .slice ra rq rc, .int .i64 rr] 54) = W2 at *
      generalize wr.heap.size = bd at *
      replace kd := Lib.hid kd; replace hs4 := Lib.hid hs4; replace hs5 := Lib.hid hs5
      have x0 := cell_at kd.out 0
      have x1 := cell_at kd.out 1
      have x2 := cell_at kd.out 2
      have xl := lt_of_heap kd.out
      go_wp2_with fail
      refine (C1.out _ hs5.out).mono ?_
      rintro e w3 ⟨rfl, s6⟩
      clear x0 x1 x2 xl
      have hs6 := hs4.out.same s6
      clear s6
      replace hs6 := Lib.hid hs6
      go_wp2_with fail
      go_roundw
      case rel => exact ⟨.inr (.inl rfl), hs6.out.same (by repeat (first | exact Fr.refl _ _ | apply Fr.alloc | apply Fr.drewN | apply Fr.drew | apply Fr.undrew | apply Fr.undrewN))⟩
      case measure => simp [intOf]
    · go_upto_region 4 with fail
      have kd := heap_new wr (.cells #[.int .i64 m', .slice fa fq fc, .int .i64 fr] 54)
      have s4 : Same wr (wr.alloc (.cells #[.int .i64 m', .slice fa fq fc, .int .i64 fr] 54)) := (by repeat (first | exact Fr.refl _ _ | apply Fr.alloc | apply Fr.drewN | apply Fr.drew | apply Fr.undrew | apply Fr.undrewN))
      have hs4 := hs2.out.same s4
      have hs5 := hs3.out.same s4
      clear s4 l0 l1 l2 l3 l4 l5 ll
      generalize wr.alloc (.cells #[.int .i64 m', .slice fa fq fc, .int .i64 fr] 54) = W2 at *
      generalize wr.heap.size = bd at *
      replace kd := Lib.hid kd; replace hs4 := Lib.hid hs4; replace hs5 := Lib.hid hs5
      have x0 := cell_at kd.out 0
      have x1 := cell_at kd.out 1
      have x2 := cell_at kd.out 2
      have xl := lt_of_heap kd.out
      go_wp2_with fail
      refine (C2.out _ hs5.out).mono ?_
      rintro e w3 ⟨rfl, s6⟩
      clear x0 x1 x2 xl
      have hs6 := hs4.out.same s6
      clear s6
      replace hs6 := Lib.hid hs6
      go_wp2_with fail
      go_roundw
      case rel => exact ⟨.inr (.inr rfl), hs6.out.same (by repeat (first | exact Fr.refl _ _ | apply Fr.alloc | apply Fr.drewN | apply Fr.drew | apply Fr.undrew | apply Fr.undrewN))⟩
      case measure => simp [intOf]
    · clear l0 l1 l2 l3 l4 l5 ll kl
      have x0 := cell_at ka.out 0
      have x1 := cell_at ka.out 1
      have x2 := cell_at ka.out 2
      have xl := lt_of_heap ka.out
      have y0 := cell_at kb.out 0
      have y1 := cell_at kb.out 1
      have y2 := cell_at kb.out 2
      have yl := lt_of_heap kb.out
      have hsz := lt_of_heap kc.out
      by_cases h1 : m ≠ m' ∨ m % 2 = 1
      · obtain rfl : E = 4 := by rw [hE.out, if_pos h1]
        obtain ⟨x0, x1, x2, z0, z1, z2, xl⟩ := box_facts kc.out
        by_cases h2 : m = m'
        · subst h2
          have h3 : ((m : Int) % 2 == 1) = true := by simp; omega
          replace h1 := Lib.hid h1
          go_wp2_with fail
          obtain ⟨d0, d1, d2, hsF⟩ := dg_zeroed hs3.out (by omega) kc.out
          refine bodyPost_ret (v := .tuple #[.agg #[.int .i64 0, .slice none 0 0, .int .i64 0], .int .i64 (4)]) (by simp [results, Tryz.results120, go_sem, d0, d1, d2]) rfl ?_
          exact .inl ⟨by decide, rfl, hsF⟩
        · have h3 : ((m : Int) == (m' : Int)) = false := by simp; omega
          replace h1 := Lib.hid h1; replace h2 := Lib.hid h2
          go_wp2_with fail
          obtain ⟨d0, d1, d2, hsF⟩ := dg_zeroed hs3.out (by omega) kc.out
          refine bodyPost_ret (v := .tuple #[.agg #[.int .i64 0, .slice none 0 0, .int .i64 0], .int .i64 (4)]) (by simp [results, Tryz.results120, go_sem, d0, d1, d2]) rfl ?_
          exact .inl ⟨by decide, rfl, hsF⟩
      · have h2 : m = m' := by omega
        subst h2
        have h3 : ((m : Int) % 2 == 1) = false := by simp; omega
        by_cases h4 : 40 < 3 * h
        · obtain rfl : E = 3 := by rw [hE.out, if_neg h1, if_pos h4]
          have h5 : ((40 : Int) < 3 * (h : Int)) = True := by simp; omega
          obtain ⟨x0, x1, x2, z0, z1, z2, xl⟩ := box_facts kc.out
          replace h1 := Lib.hid h1; replace h4 := Lib.hid h4
          go_wp2_with fail
          obtain ⟨d0, d1, d2, hsF⟩ := dg_zeroed hs3.out (by omega) kc.out
          refine bodyPost_ret (v := .tuple #[.agg #[.int .i64 0, .slice none 0 0, .int .i64 0], .int .i64 (3)]) (by simp [results, Tryz.results120, go_sem, d0, d1, d2]) rfl ?_
          exact .inl ⟨by decide, rfl, hsF⟩
        · obtain rfl : E = 0 := by rw [hE.out, if_neg h1, if_neg h4]
          have h5 : ((40 : Int) < 3 * (h : Int)) = False := by simp; omega
          have hmq := hmb.out rfl
          have hhb : h = b := by have := hh.out; have := hq.out; omega
          subst hhb
          have P0' := P0.out rfl
          have P1' := P1.out rfl
          have hw6 : IntKind.i64.wrap (2 * (h : Int)) = (q : Int) := by rw [IntWalk.i64_in _ (by omega)]; have := hq.out; omega
          replace h1 := Lib.hid h1; replace h4 := Lib.hid h4; replace hmq := Lib.hid hmq; replace P0' := Lib.hid P0'; replace P1' := Lib.hid P1'
          go_upto_region 13 with fail
          go_wp2_with fail
          refine (P0'.out _ hs3.out).mono ?_
          intro e w4 hM
          obtain ⟨a1, c1, L1, r1, rfl, d1, z1, s4⟩ := hM.open
          clear x0 x1 x2 xl
          clear y0 y1 y2 yl
          replace kb := Lib.hid (s4.at kb.out id); replace kc := Lib.hid (s4.at kc.out id)
          have hs4 := hs3.out.same s4
          have hbf := lt_of_heap kc.out
          clear hM s4 ka
          replace d1 := Lib.hid d1; replace z1 := Lib.hid z1; replace hs4 := Lib.hid hs4
          go_upto_region 14 with fail
          have kf := heap_new w4 (.cells #[.int .i64 p, .slice a1 L1.length c1, .int .i64 r1] 54)
          have s5 : Same w4 (w4.alloc (.cells #[.int .i64 p, .slice a1 L1.length c1, .int .i64 r1] 54)) := (by repeat (first | exact Fr.refl _ _ | apply Fr.alloc | apply Fr.drewN | apply Fr.drew | apply Fr.undrew | apply Fr.undrewN))
          generalize w4.alloc (.cells #[.int .i64 p, .slice a1 L1.length c1, .int .i64 r1] 54) = W5 at *
          replace d1 := Lib.hid (d1.out.same s5); replace kb := Lib.hid (s5.at kb.out id); replace kc := Lib.hid (s5.at kc.out id)
          have hs5 := hs4.out.same s5
          clear s5
          generalize w4.heap.size = bf at *
          replace kf := Lib.hid kf; replace hs5 := Lib.hid hs5
          have y0 := cell_at kb.out 0
          have y1 := cell_at kb.out 1
          have y2 := cell_at kb.out 2
          have yl := lt_of_heap kb.out
          go_upto_region 16 with fail
          go_wp2_with fail
          refine (P1'.out _ hs5.out).mono ?_
          intro e w6 hM
          obtain ⟨a2, c2, L2, r2, rfl, d2, z2, s6⟩ := hM.open
          clear y0 y1 y2 yl
          replace d1 := Lib.hid (d1.out.same s6); replace kc := Lib.hid (s6.at kc.out id); replace kf := Lib.hid (s6.at kf.out id)
          have hs6 := hs5.out.same s6
          clear hM s6 kb
          replace d2 := Lib.hid d2; replace z2 := Lib.hid z2; replace hs6 := Lib.hid hs6
          go_upto_region 17 with fail
          have kg := heap_new w6 (.cells #[.int .i64 p, .slice a2 L2.length c2, .int .i64 r2] 54)
          have s7 : Same w6 (w6.alloc (.cells #[.int .i64 p, .slice a2 L2.length c2, .int .i64 r2] 54)) := (by repeat (first | exact Fr.refl _ _ | apply Fr.alloc | apply Fr.drewN | apply Fr.drew | apply Fr.undrew | apply Fr.undrewN))
          generalize w6.alloc (.cells #[.int .i64 p, .slice a2 L2.length c2, .int .i64 r2] 54) = W7 at *
          replace d1 := Lib.hid (d1.out.same s7); replace d2 := Lib.hid (d2.out.same s7); replace kc := Lib.hid (s7.at kc.out id); replace kf := Lib.hid (s7.at kf.out id)
          have hs7 := hs6.out.same s7
          clear s7
          replace kg := Lib.hid kg; replace hs7 := Lib.hid hs7
          have x0 := cell_at kf.out 0
          have x1 := cell_at kf.out 1
          have x2 := cell_at kf.out 2
          have xl := lt_of_heap kf.out
          have y0 := cell_at kg.out 0
          have y1 := cell_at kg.out 1
          have y2 := cell_at kg.out 2
          have yl := lt_of_heap kg.out
          go_upto_region 19 with fail
          go_wp2_with fail
          refine (AN.out ⟨p, a1, c1, L1, r1⟩ ⟨p, a2, c2, L2, r2⟩ _ d1.out d2.out ⟨rfl, z1.out⟩ ⟨rfl, z2.out⟩).mono ?_
          intro e w8 hM
          obtain ⟨a3, c3, L3, r3, rfl, d3, z3, s8⟩ := hM.open
          clear x0 x1 x2 xl
          clear y0 y1 y2 yl
          replace kc := Lib.hid (s8.at kc.out id); replace kf := Lib.hid (s8.at kf.out id)
          have hs8 := hs7.out.same s8
          clear hM s8 d1 d2 z1 z2 kg
          replace d3 := Lib.hid d3; replace z3 := Lib.hid z3; replace hs8 := Lib.hid hs8
          obtain ⟨y0, y1, y2, yf0, yf1, yf2, yl⟩ := box_facts kf.out
          go_upto_region 20 with fail
          obtain ⟨k9, f9⟩ := box_dg (u0 := .int .i64 p) (u1 := .slice a3 L3.length c3) (u2 := .int .i64 r3) kf.out
          have kc := f9.at kc.out (by omega)
          have d3 := SliceAt.fr d3.out f9 (fun i cur hk' e => by rw [show i = bf from e, kf.out] at hk'; simp at hk')
          have hs9 := hs8.out.trans f9 (fun i hi e => by have : i = bf := e; omega)
          clear kf y0 y1 y2 yf0 yf1 yf2 yl
          generalize ((w8.setCell ⟨bf, 0, none⟩ (.int .i64 p)).setCell ⟨bf, 1, none⟩ (.slice a3 L3.length c3)).setCell ⟨bf, 2, none⟩ (.int .i64 r3) = W9 at *
          clear f9
          replace kc := Lib.hid kc; replace k9 := Lib.hid k9; replace d3 := Lib.hid d3; replace hs9 := Lib.hid hs9
          have hw9 := hs9.out.size
          go_wp2_with fail
          go_loopw [13, 80] (fun v i wr => ∃ (k c : Nat) (a : Option Addr), i = .int .i64 k ∧ k ≤ h ∧ v = .slice a k c ∧ wr.ownsRow W9.heap.size 3 1 (.slice a k c) k (intCells (gL (fun i => 3 * i + 1) k)) ∧ Same W9 wr) (fun _ i _ => h - (intOf i).toNat)
          case atStart => exact ⟨0, 0, none, rfl, by omega, rfl, World.ownsRow_nil _ _ _ _, Fr.refl _ _⟩
          case round =>
            obtain ⟨k, c, a, rfl, hk, rfl, ho, hsr⟩ := hrel
            have hws := hsr.size
            have hgs := gL_succ (fun i => 3 * i + 1) k
            by_cases hkn : k < h
            · have e1 : IntKind.i64.wrap (3 * (k : Int)) = 3 * (k : Int) := IntWalk.i64_in _ (by omega)
              have e2 : IntKind.i64.wrap (3 * (k : Int) + 1) = ((3 * k + 1 : Nat) : Int) := by rw [IntWalk.i64_in _ (by omega)]; omega
              replace ho := Lib.hid ho; replace hsr := Lib.hid hsr; replace hgs := Lib.hid hgs
              go_wp2_with (at_builtin; refine wpList_append1 rfl (.tmp 83) (.tmp 87) 31 rfl W9.heap.size 3 i3 (.int .i64 0) 1 8 Tryz.underlying31 hi3 hi3z hi3s hi3b rfl (by decide) (by decide) a k c (intCells (gL (fun i => 3 * i + 1) k)) rfl (owns_same ho.out (by repeat (first | exact Fr.refl _ _ | apply Fr.alloc | apply Fr.drewN | apply Fr.drew | apply Fr.undrew | apply Fr.undrewN))) (by omega) wr.heap.size [.int .i64 ((3 * k + 1 : Nat) : Int)] rfl rfl (heap_new _ _) (by simp [Value.oneCell']) (by simp; omega) ?_; intro a5 c5 w5 ho5 hG5)
              have hsr5 : Same W9 w5 := grew_fresh (hsr.out.same (by repeat (first | exact Fr.refl _ _ | apply Fr.alloc | apply Fr.drewN | apply Fr.drew | apply Fr.undrew | apply Fr.undrewN))) hG5 (fun k hk => (ho.out.lt k hk).1)
              have ho5' : w5.ownsRow W9.heap.size 3 1 (.slice a5 (k + 1) c5) (k + 1) (intCells (gL (fun i => 3 * i + 1) (k + 1))) := by
                rw [hgs.out]; have := ho5; simpa [intCells] using this
              clear ho5 hG5
              go_roundw
              case rel => exact ⟨k + 1, c5, a5, by go_num, by omega, rfl, ho5', hsr5⟩
              case measure => simp [intOf]; omega
            · obtain rfl : k = h := by omega
              have hQ := (SliceAt.of_owns ho).row
              replace d3 := Lib.hid (d3.out.same hsr); replace kc := Lib.hid (hsr.at kc.out id); replace k9 := Lib.hid (hsr.at k9.out id)
              have hsr5 := hs9.out.same hsr
              replace ho := Lib.hid ho; replace hQ := Lib.hid hQ; replace hsr5 := Lib.hid hsr5
              obtain ⟨y0, y1, y2, yf0, yf1, yf2, yl⟩ := box_facts k9.out
              go_upto_region 28 with fail
              go_wp2_with fail
              refine (EX.out ⟨p, a3, c3, L3, r3⟩ _ _ _ d3.out ⟨rfl, z3.out⟩ hQ.out).mono ?_
              intro e wa hM
              obtain ⟨a4, c4, L4, r4, rfl, d4, z4, sa⟩ := hM.open
              clear y0 y1 y2 yf0 yf1 yf2 yl
              replace kc := Lib.hid (sa.at kc.out id); replace k9 := Lib.hid (sa.at k9.out id)
              have hsa := hsr5.out.same sa
              clear hM sa d3 z3
              replace d4 := Lib.hid d4; replace z4 := Lib.hid z4; replace hsa := Lib.hid hsa
              obtain ⟨y0, y1, y2, yf0, yf1, yf2, yl⟩ := box_facts k9.out
              go_upto_region 29 with fail
              obtain ⟨kb, fb⟩ := box_dg (u0 := .int .i64 p) (u1 := .slice a4 L4.length c4) (u2 := .int .i64 r4) k9.out
              have kc := fb.at kc.out (by omega)
              have d4 := SliceAt.fr d4.out fb (fun i cur hk' e => by rw [show i = bf from e, k9.out] at hk'; simp at hk')
              have hsb := hsa.out.trans fb (fun i hi e => by have : i = bf := e; omega)
              clear k9 y0 y1 y2 yf0 yf1 yf2 yl
              generalize ((wa.setCell ⟨bf, 0, none⟩ (.int .i64 p)).setCell ⟨bf, 1, none⟩ (.slice a4 L4.length c4)).setCell ⟨bf, 2, none⟩ (.int .i64 r4) = Wb at *
              clear fb
              replace kc := Lib.hid kc; replace kb := Lib.hid kb; replace d4 := Lib.hid d4; replace hsb := Lib.hid hsb
              have y0 := cell_at kb.out 0
              have y1 := cell_at kb.out 1
              have y2 := cell_at kb.out 2
              have yl := lt_of_heap kb.out
              go_upto_region 31 with fail
              go_wp2_with fail
              refine (GA.out ⟨p, a4, c4, L4, r4⟩ _ d4.out ⟨rfl, z4.out⟩).mono ?_
              rintro e wc ⟨dg, rfl, hd, ht, sc⟩
              clear y0 y1 y2 yl
              replace kc := Lib.hid (sc.at kc.out id)
              have hsc := hsb.out.same sc
              obtain ⟨dn, da, dc, dL, dr⟩ := dg
              obtain rfl : dn = (q : Int) := ht.1
              clear sc
              replace hd := Lib.hid hd; replace ht := Lib.hid ht; replace hsc := Lib.hid hsc
              obtain ⟨x0, x1, x2, z0, z1, z2, xl⟩ := box_facts kc.out
              go_wp2_with fail
              obtain ⟨x0', x1', x2', hdF, hsF⟩ := dg_stored hsc.out (by omega) (d := ⟨q, da, dc, dL, dr⟩) hd.out kc.out
              refine bodyPost_ret (v := .tuple #[.agg #[.int .i64 q, .slice da dL.length dc, .int .i64 dr], .int .i64 0]) (by simp [results, Tryz.results120, go_sem, x0', x1', x2']) rfl ?_
              exact .inr ⟨rfl, ⟨q, da, dc, dL, dr⟩, rfl, hdF, ht.out, hsF⟩
end Go.Proofs.YtknlkcfnfjchdaaGreat
