/- OrderingChecks walked. -/
import Derived.Test.YtmmjijmmocabhaaJLSpan
namespace Go.Proofs.Ytmmjijmmocabhaa
open Go.RowKit
set_option linter.unusedVariables false
set_option linter.unusedSimpArgs false

theorem invRet_bad {o : List Int} {w : World} (h : ordErr o.length o ≠ 0) : InvRet o w = fun e w' => e = .returned (.tuple #[.slice none 0 0, .int .i64 (ordErr o.length o)]) ∧ Same w w' := by
  funext e w'; unfold InvRet; rw [if_neg h]
theorem invRet_ok {o : List Int} {w : World} {q : Nat} (hq : o.length = q) (h : ordErr o.length o = 0) : InvRet o w = fun e w' => ∃ a c, e = .returned (.tuple #[.slice a q c, .int .i64 0]) ∧ w'.ownsRow w.heap.size 3 1 (.slice a q c) q (intCells ((invL o).take q)) ∧ Same w w' := by
  subst hq; funext e w'; unfold InvRet; rw [if_pos h]
theorem movRet_bad {o : List Int} {v p E : Int} {w : World} (hE : movErr o v p = E) (h : E ≠ 0) : MoveRet o v p w = fun e w' => e = .returned (.tuple #[.slice none 0 0, .int .i64 E]) ∧ Same w w' := by
  subst hE; funext e w'; unfold MoveRet; rw [if_neg h]
theorem movRet_ok {o : List Int} {v p : Int} {w : World} {q : Nat} (hq : o.length = q) (h : movErr o v p = 0) : MoveRet o v p w = fun e w' => ∃ g c, e = .returned (.tuple #[.slice (some ⟨g, 0, none⟩) q c, .int .i64 0]) ∧ OwnI w' w.heap.size g c (movF o v p.toNat) ∧ Same w w' := by
  subst hq; funext e w'; unfold MoveRet; rw [if_pos h]
theorem movErr_ord {o : List Int} {v p : Int} (h : ordErr o.length o ≠ 0) : movErr o v p = ordErr o.length o := by unfold movErr; rw [if_pos h]
theorem movErr_range {o : List Int} {v p : Int} (h : ordErr o.length o = 0) (h2 : v < 0 ∨ (o.length : Int) ≤ v ∨ p < 0 ∨ (o.length : Int) ≤ p) : movErr o v p = 2 := by unfold movErr; rw [if_neg (by simp [h]), if_pos h2]
theorem movErr_ok {o : List Int} {v p : Int} (h : ordErr o.length o = 0) (h2 : ¬ (v < 0 ∨ (o.length : Int) ≤ v ∨ p < 0 ∨ (o.length : Int) ≤ p)) : movErr o v p = 0 := by unfold movErr; rw [if_neg (by simp [h]), if_neg h2]

/-- l[order[i]] is i. -/
theorem inv_at {n : Nat} {o : List Int} (h : IsOrd n o) {j : Nat} (hj : j < o.length) : ∃ m : Nat, o[j] = (m : Int) ∧ m < n ∧ ((invL o).take n)[m]? = some (j : Int) := by
  have hr := h.range _ (List.getElem_mem hj)
  refine ⟨o[j].toNat, by omega, by omega, ?_⟩
  rw [List.getElem?_take, if_pos (by omega), invL_get h (by omega)]
  unfold atF
  rw [show ((o[j].toNat : Nat) : Int) = o[j] by omega, h.nodup.idxOf_getElem j hj]
theorem delF_len {n : Nat} {o : List Int} (h : IsOrd n o) {v : Nat} (hv : v < n) : (delF o v).length = n - 1 := by
  have hp := (movF_perm h hv 0).length_eq
  have e : (movF o v 0).length = (delF o v).length + 1 := by unfold movF delF; simp
  rw [h.len] at hp
  omega

set_option maxRecDepth 100000 in
set_option maxHeartbeats 8000000 in
theorem checks_far (n x y : Int) (a : Option Addr) (cap q : Nat) (w : World) (hq : q ≤ 9223372036854775807) (h6 : 6 < q) :
    Calls Try.prog 5 #[.slice a q cap, .int .i64 n, .agg #[.int .i64 x, .int .i64 y]] w fun e w' => e = .returned (.bool true) ∧ Same w w' := by
  have KN := fun W => known_any W
  have h6' : (6 : Int) < q := by omega
  replace KN := Lib.hid KN
  go_enter Try.func5, Try.ntmps5
  go_wp2_with fail
  refine (KN.out _).mono ?_
  rintro e w1 ⟨rfl, hs1⟩
  have hs1 : Same w w1 := (show Same w _ from (by repeat (first | exact Fr.refl _ _ | apply Fr.alloc | apply Fr.drewN | apply Fr.drew | apply Fr.undrew | apply Fr.undrewN))).same hs1
  replace hs1 := Lib.hid hs1
  go_wp2_with fail
  refine (KN.out _).mono ?_
  rintro e w3 ⟨rfl, hs3⟩
  have hs3 := hs1.out.same hs3
  replace hs3 := Lib.hid hs3
  go_wp2_with fail
  go_ret
  exact ⟨rfl, hs3.out⟩

set_option maxRecDepth 100000 in
set_option maxHeartbeats 8000000 in
theorem checks_near (o : List Int) (n x y : Int) (a : Option Addr) (cap q : Nat) (w : World) (hq : o.length = q) (hO : RowAt w (.slice a q cap) q (intCells o)) (hy : y ≤ 9223372036854775807) (h6 : ¬ 6 < q) :
    Calls Try.prog 5 #[.slice a q cap, .int .i64 n, .agg #[.int .i64 x, .int .i64 y]] w fun e w' => e = .returned (.bool true) ∧ Same w w' := by
  have KN := fun W => known_any W
  have h6' : ¬ (6 : Int) < q := by omega
  have LC := fun m W (hW : Same w W) => lcheck_any o m a cap q W hq (hO.same hW) (by omega)
  have OC := fun W (hW : Same w W) => ocheck_any o n a cap q W hq (hO.same hW) (by omega)
  have IV := fun W (hW : Same w W) => Inverse_any o a cap q W hq (hO.same hW) (by omega)
  have MV := fun W (hW : Same w W) => Move_any o x y a cap q W hq (hO.same hW) (by omega)
  have LC1 := LC n
  have LC2 := LC q
  clear LC
  generalize ordErr n o = d at *
  by_cases h0 : ordErr o.length o = 0
  · have ho : IsOrd q o := by rw [← hq]; exact (ordErr_zero.1 h0).2
    have IV' := fun W (hW : Same w W) => by have := IV W hW; rw [invRet_ok hq h0] at this; exact this
    rw [show ordErr q o = 0 by rw [← hq]; exact h0] at LC2
    clear IV
    by_cases hb : x < 0 ∨ (o.length : Int) ≤ x ∨ y < 0 ∨ (o.length : Int) ≤ y
    · have MV' := fun W (hW : Same w W) => by have := MV W hW; rw [movRet_bad (movErr_range h0 hb) (by omega)] at this; exact this
      clear MV
      rw [hq] at hb
      replace KN := Lib.hid KN; replace LC1 := Lib.hid LC1; replace LC2 := Lib.hid LC2; replace OC := Lib.hid OC; replace IV' := Lib.hid IV'; replace MV' := Lib.hid MV'; replace hO := Lib.hid hO; replace hq := Lib.hid hq; replace ho := Lib.hid ho; replace hb := Lib.hid hb; replace h0 := Lib.hid h0
      go_enter Try.func5, Try.ntmps5
      go_wp2_with fail
      have kb := heap_new w (.cells #[.int .i64 x, .int .i64 y] 56)
      refine (KN.out _).mono ?_
      rintro e w1 ⟨rfl, hs1⟩
      replace kb := Lib.hid (hs1.at kb id)
      have hs1 : Same w w1 := (show Same w _ from (by repeat (first | exact Fr.refl _ _ | apply Fr.alloc | apply Fr.drewN | apply Fr.drew | apply Fr.undrew | apply Fr.undrewN))).same hs1
      replace hs1 := Lib.hid hs1
      go_wp2_with fail
      refine (LC1.out _ hs1.out).mono ?_
      rintro e w2 ⟨rfl, hs2⟩
      replace kb := Lib.hid (hs2.at kb.out id)
      have hs2 := hs1.out.same hs2
      replace hs2 := Lib.hid hs2
      go_wp2_with fail
      refine (OC.out _ hs2.out).mono ?_
      rintro e w3 ⟨rfl, hs3⟩
      replace kb := Lib.hid (hs3.at kb.out id)
      have hs3 := hs2.out.same hs3
      replace hs3 := Lib.hid hs3
      go_wp2_with fail
      refine (IV'.out _ hs3.out).mono ?_
      rintro e w4 ⟨ai, ci, rfl, hI, hs4⟩
      replace kb := Lib.hid (hs4.at kb.out id)
      have hI := (SliceAt.of_owns hI).row
      have hs4 := hs3.out.same hs4
      replace hs4 := Lib.hid hs4; replace hI := Lib.hid hI
      have c0 := cell_at kb.out 0
      have c1 := cell_at kb.out 1
      have cl := lt_of_heap kb.out
      go_wp2_with fail
      refine (MV'.out _ hs4.out).mono ?_
      rintro e w5 ⟨rfl, hs5⟩
      replace kb := Lib.hid (hs5.at kb.out id); replace hI := Lib.hid (hI.out.same hs5)
      have hs5 := hs4.out.same hs5
      replace hs5 := Lib.hid hs5
      clear c0 c1 cl
      go_wp2_with fail
      refine (LC2.out _ hs5.out).mono ?_
      rintro e w6 ⟨rfl, hs6⟩
      replace kb := Lib.hid (hs6.at kb.out id); replace hI := Lib.hid (hI.out.same hs6)
      have hs6 := hs5.out.same hs6
      replace hs6 := Lib.hid hs6
      have c0 := cell_at kb.out 0
      have c1 := cell_at kb.out 1
      have cl := lt_of_heap kb.out
      clear hs1 hs2 hs3 hs4 hs5
      go_wp2_with fail
      go_loopw [13] (fun i wr => ∃ j : Nat, i = .int .i64 j ∧ j ≤ q ∧ Same w6 wr) (fun i _ => q - (intOf i).toNat)
      case atStart => exact ⟨0, rfl, by omega, Fr.refl _ _⟩
      case round =>
        obtain ⟨j, rfl, hj, hs⟩ := hrel
        have hI2 := hI.out.same hs
        have hO2 := hO.out.same (hs6.out.same hs)
        have hb2 := hs.at kb.out id
        clear c0 c1 cl
        have d0 := cell_at hb2 0
        have d1 := cell_at hb2 1
        have dl := lt_of_heap hb2
        by_cases hlt : j < q
        · have hkl : j < o.length := by rw [hq.out]; exact hlt
          obtain ⟨m, hm, hmq, hmi⟩ := inv_at ho.out hkl
          obtain ⟨bo, off, rfl, hb', e0⟩ := int_cell hO2 (k := j) hkl hq.out
          rw [hm] at e0
          have hlm : m < ((invL o).take q).length := (List.getElem?_eq_some_iff.1 hmi).1
          have hmi' : ((invL o).take q)[m] = (j : Int) := (List.getElem?_eq_some_iff.1 hmi).2
          obtain ⟨bi, offi, rfl, hbi, e1⟩ := int_cell hI2 (k := m) hlm (by have := hI2.1; simpa [intCells] using this)
          rw [hmi'] at e1
          replace hs := Lib.hid hs; replace hI2 := Lib.hid hI2; replace hO2 := Lib.hid hO2; replace hm := Lib.hid hm; replace hmi := Lib.hid hmi; replace hmi' := Lib.hid hmi'; replace hb2 := Lib.hid hb2
          go_wp2_with fail
          go_roundw
          case rel => exact ⟨j + 1, by go_num, by omega, hs.out⟩
          case measure => simp [intOf]; omega
        · obtain rfl : j = q := by omega
          have hs6' := hs6.out.same hs
          replace hs := Lib.hid hs; replace hI2 := Lib.hid hI2; replace hO2 := Lib.hid hO2; replace hb2 := Lib.hid hb2; replace hs6' := Lib.hid hs6'
          rcases hb.out with h1 | h1 | h1 | h1
          · have h1' : x < (j : Int) := by omega
            go_wp2_with fail
            all_goals (go_ret; exact ⟨by simp, hs6'.out⟩)
          · have h1' : ¬ x < 0 := by omega
            go_wp2_with fail
            all_goals (go_ret; exact ⟨by simp, hs6'.out⟩)
          · go_wp2_with fail
            all_goals (go_ret; exact ⟨by simp, hs6'.out⟩)
          · go_wp2_with fail
            all_goals (go_ret; exact ⟨by simp, hs6'.out⟩)
    · rw [hq] at hb
      have MV' := fun W (hW : Same w W) => by have := MV W hW; rw [movRet_ok hq (movErr_ok h0 (by rw [hq]; exact hb))] at this; exact this
      clear MV
      obtain ⟨u, rfl⟩ : ∃ u : Nat, x = u := ⟨x.toNat, by omega⟩
      obtain ⟨p, rfl⟩ : ∃ p : Nat, y = p := ⟨y.toNat, by omega⟩
      have hu : u < q := by omega
      have hp : p < q := by omega
      have hdl := delF_len ho hu
      have hml := (movF_ord ho hu p).len
      have LM := fun W (hW : Same w W) => moved_any o u p (q - 1) a cap q W hq (hO.same hW) (by omega) hdl (by omega)
      rw [show p + (1 + (q - 1 - p)) = q by omega] at LM
      simp only [Int.toNat_natCast] at MV'
      generalize movF o u p = M at *
      have u0 : ¬ (u : Int) < 0 := by omega
      have u1 : ¬ (q : Int) ≤ u := by omega
      have p0 : ¬ (p : Int) < 0 := by omega
      have p1 : ¬ (q : Int) ≤ p := by omega
      replace KN := Lib.hid KN; replace LC1 := Lib.hid LC1; replace LC2 := Lib.hid LC2; replace OC := Lib.hid OC; replace IV' := Lib.hid IV'; replace MV' := Lib.hid MV'; replace LM := Lib.hid LM; replace hO := Lib.hid hO; replace hq := Lib.hid hq; replace ho := Lib.hid ho; replace h0 := Lib.hid h0; replace hb := Lib.hid hb; replace hdl := Lib.hid hdl; replace hml := Lib.hid hml
      go_enter Try.func5, Try.ntmps5
      go_wp2_with fail
      have kb := heap_new w (.cells #[.int .i64 u, .int .i64 p] 56)
      refine (KN.out _).mono ?_
      rintro e w1 ⟨rfl, hs1⟩
      replace kb := Lib.hid (hs1.at kb id)
      have hs1 : Same w w1 := (show Same w _ from (by repeat (first | exact Fr.refl _ _ | apply Fr.alloc | apply Fr.drewN | apply Fr.drew | apply Fr.undrew | apply Fr.undrewN))).same hs1
      replace hs1 := Lib.hid hs1
      go_wp2_with fail
      refine (LC1.out _ hs1.out).mono ?_
      rintro e w2 ⟨rfl, hs2⟩
      replace kb := Lib.hid (hs2.at kb.out id)
      have hs2 := hs1.out.same hs2
      replace hs2 := Lib.hid hs2
      go_wp2_with fail
      refine (OC.out _ hs2.out).mono ?_
      rintro e w3 ⟨rfl, hs3⟩
      replace kb := Lib.hid (hs3.at kb.out id)
      have hs3 := hs2.out.same hs3
      replace hs3 := Lib.hid hs3
      go_wp2_with fail
      refine (IV'.out _ hs3.out).mono ?_
      rintro e w4 ⟨ai, ci, rfl, hI, hs4⟩
      replace kb := Lib.hid (hs4.at kb.out id)
      have hI := (SliceAt.of_owns hI).row
      have hs4 := hs3.out.same hs4
      replace hs4 := Lib.hid hs4; replace hI := Lib.hid hI
      have c0 := cell_at kb.out 0
      have c1 := cell_at kb.out 1
      have cl := lt_of_heap kb.out
      go_wp2_with fail
      refine (MV'.out _ hs4.out).mono ?_
      rintro e w5 ⟨gm, cm, rfl, hM, hs5⟩
      replace kb := Lib.hid (hs5.at kb.out id)
      replace hI := Lib.hid (hI.out.same hs5)
      have hM := hM.row hml.out
      have hs5 := hs4.out.same hs5
      replace hs5 := Lib.hid hs5; replace hM := Lib.hid hM
      clear c0 c1 cl
      go_wp2_with fail
      refine (LC2.out _ hs5.out).mono ?_
      rintro e w6 ⟨rfl, hs6⟩
      replace kb := Lib.hid (hs6.at kb.out id); replace hI := Lib.hid (hI.out.same hs6); replace hM := Lib.hid (hM.out.same hs6)
      have hs6 := hs5.out.same hs6
      replace hs6 := Lib.hid hs6
      have c0 := cell_at kb.out 0
      have c1 := cell_at kb.out 1
      have cl := lt_of_heap kb.out
      clear hs1 hs2 hs3 hs4 hs5
      go_wp2_with fail
      go_loopw [13] (fun i wr => ∃ j : Nat, i = .int .i64 j ∧ j ≤ q ∧ Same w6 wr) (fun i _ => q - (intOf i).toNat)
      case atStart => exact ⟨0, rfl, by omega, Fr.refl _ _⟩
      case round =>
        obtain ⟨j, rfl, hj, hs⟩ := hrel
        have hI2 := hI.out.same hs
        have hM2 := hM.out.same hs
        have hO2 := hO.out.same (hs6.out.same hs)
        have hb2 := hs.at kb.out id
        clear c0 c1 cl
        have d0 := cell_at hb2 0
        have d1 := cell_at hb2 1
        have dl := lt_of_heap hb2
        by_cases hlt : j < q
        · have hkl : j < o.length := by rw [hq.out]; exact hlt
          obtain ⟨m, hm, hmq, hmi⟩ := inv_at ho.out hkl
          obtain ⟨bo, off, rfl, hb', e0⟩ := int_cell hO2 (k := j) hkl hq.out
          rw [hm] at e0
          have hlm : m < ((invL o).take q).length := (List.getElem?_eq_some_iff.1 hmi).1
          have hmi' : ((invL o).take q)[m] = (j : Int) := (List.getElem?_eq_some_iff.1 hmi).2
          obtain ⟨bi, offi, rfl, hbi, e1⟩ := int_cell hI2 (k := m) hlm (by have := hI2.1; simpa [intCells] using this)
          rw [hmi'] at e1
          replace hs := Lib.hid hs; replace hI2 := Lib.hid hI2; replace hO2 := Lib.hid hO2; replace hM2 := Lib.hid hM2; replace hm := Lib.hid hm; replace hmi := Lib.hid hmi; replace hmi' := Lib.hid hmi'; replace hb2 := Lib.hid hb2
          go_wp2_with fail
          go_roundw
          case rel => exact ⟨j + 1, by go_num, by omega, hs.out⟩
          case measure => simp [intOf]; omega
        · obtain rfl : j = q := by omega
          have hs6' := hs6.out.same hs
          replace hs := Lib.hid hs; replace hI2 := Lib.hid hI2; replace hO2 := Lib.hid hO2; replace hM2 := Lib.hid hM2; replace hb2 := Lib.hid hb2; replace hs6' := Lib.hid hs6'
          go_wp2_with fail
          refine (LM.out _ hs6'.out).mono ?_
          rintro e w8 ⟨gl, cl, rfl, hL, hs8⟩
          have hL := hL.row hml.out
          replace hM2 := Lib.hid (hM2.out.same hs8)
          have hs8 := hs6'.out.same hs8
          replace hs8 := Lib.hid hs8; replace hL := Lib.hid hL
          go_wp2_with fail
          refine (osame_any M M _ _ _ _ j j _ hml.out hml.out hM2.out hL.out (by omega)).mono ?_
          rintro e w9 ⟨rfl, hs9⟩
          have hs9 := hs8.out.same hs9
          rw [show decide (M = M) = true by simp]
          replace hs9 := Lib.hid hs9
          go_wp2_with fail
          go_ret
          exact ⟨by simp, hs9.out⟩
  · have IV' := fun W (hW : Same w W) => by have := IV W hW; rw [invRet_bad h0] at this; exact this
    have MV' := fun W (hW : Same w W) => by have := MV W hW; rw [movRet_bad (movErr_ord h0) h0] at this; exact this
    clear IV MV
    rw [hq] at IV' MV' h0
    generalize ordErr (q : Int) o = E at *
    replace KN := Lib.hid KN; replace LC1 := Lib.hid LC1; replace LC2 := Lib.hid LC2; replace OC := Lib.hid OC; replace IV' := Lib.hid IV'; replace MV' := Lib.hid MV'; replace hO := Lib.hid hO; replace hq := Lib.hid hq
    go_enter Try.func5, Try.ntmps5
    go_wp2_with fail
    have kb := heap_new w (.cells #[.int .i64 x, .int .i64 y] 56)
    refine (KN.out _).mono ?_
    rintro e w1 ⟨rfl, hs1⟩
    replace kb := Lib.hid (hs1.at kb id)
    have hs1 : Same w w1 := (show Same w _ from (by repeat (first | exact Fr.refl _ _ | apply Fr.alloc | apply Fr.drewN | apply Fr.drew | apply Fr.undrew | apply Fr.undrewN))).same hs1
    replace hs1 := Lib.hid hs1
    go_wp2_with fail
    refine (LC1.out _ hs1.out).mono ?_
    rintro e w2 ⟨rfl, hs2⟩
    replace kb := Lib.hid (hs2.at kb.out id)
    have hs2 := hs1.out.same hs2
    replace hs2 := Lib.hid hs2
    go_wp2_with fail
    refine (OC.out _ hs2.out).mono ?_
    rintro e w3 ⟨rfl, hs3⟩
    replace kb := Lib.hid (hs3.at kb.out id)
    have hs3 := hs2.out.same hs3
    replace hs3 := Lib.hid hs3
    go_wp2_with fail
    refine (IV'.out _ hs3.out).mono ?_
    rintro e w4 ⟨rfl, hs4⟩
    replace kb := Lib.hid (hs4.at kb.out id)
    have hs4 := hs3.out.same hs4
    replace hs4 := Lib.hid hs4
    have c0 := cell_at kb.out 0
    have c1 := cell_at kb.out 1
    have cl := lt_of_heap kb.out
    go_wp2_with fail
    refine (MV'.out _ hs4.out).mono ?_
    rintro e w5 ⟨rfl, hs5⟩
    skip
    have hs5 := hs4.out.same hs5
    replace hs5 := Lib.hid hs5
    clear c0 c1 cl
    go_wp2_with fail
    refine (LC2.out _ hs5.out).mono ?_
    rintro e w6 ⟨rfl, hs6⟩
    skip
    have hs6 := hs5.out.same hs6
    replace hs6 := Lib.hid hs6
    go_wp2_with fail
    go_ret
    exact ⟨by simp, hs6.out⟩
theorem orderingChecks_any (o : List Int) (a : Option Addr) (cap : Nat) (n : Int) (hn : -9223372036854775808 ≤ n ∧ n ≤ 9223372036854775807) (x y : Int) (hx : -9223372036854775808 ≤ x ∧ x ≤ 9223372036854775807) (hy : -9223372036854775808 ≤ y ∧ y ≤ 9223372036854775807) (w : World) (hO : RowAt w (.slice a o.length cap) o.length (intCells o)) :
    Calls Try.prog 5 #[.slice a o.length cap, .int .i64 n, .agg #[.int .i64 x, .int .i64 y]] w fun e w' => e = .returned (.bool true) ∧ Same w w' := by
  by_cases h6 : 6 < o.length
  · exact checks_far n x y a cap _ w (row_max hO) h6
  · exact checks_near o n x y a cap _ w rfl hO hy.2 h6
end Go.Proofs.Ytmmjijmmocabhaa
