/- BddRenames: the law's walk. -/
import Derived.Test.YtaebjalpebgliaaRename
import Derived.Test.YtaebjalpebgliaaKnown
import Derived.Test.YtaebjalpebgliaaLSame
namespace Go.Proofs.Ytaebjalpebgliaa
open Go.RowKit
set_option linter.unusedVariables false
set_option linter.unusedSimpArgs false

@[go_sem] theorem field1 (x z : Int) (a : Option Addr) (n c : Nat) (w : World) : (Instr.field 31 (.agg #[.int .i64 x, .slice a n c, .int .i64 z]) 1).run Try.prog w = .ok (.slice a n c) w := by kernel_rfl

theorem RenRet.any {n m : Int} {qs : List Int} {L : List Nd} {r : Int} {w w' : World} {e : Ending} (h : RenRet n m qs L r w e w') :
    ∃ gm ga gL gc gr, e = .returned (.tuple #[.agg #[.int .i64 gm, .slice ga (gL : List Nd).length gc, .int .i64 gr], .int .i64 (renW n m qs)]) ∧ SliceAt w' 80 3 (.slice ga gL.length gc) gL.length (ndCells gL) ∧ Same w w' ∧
      (renW n m qs ≠ 0 → gm = 0 ∧ gL = [] ∧ gr = 0) ∧ (renW n m qs = 0 → gm = m ∧ gL = renN (toF qs) L ∧ gr = r) := by
  rcases h with ⟨h0, rfl, hs⟩ | ⟨h0, a, c, rfl, hO, hs⟩
  · exact ⟨0, none, [], 0, 0, rfl, SliceAt.nil _ _ _, hs, fun _ => ⟨rfl, rfl, rfl⟩, fun h => absurd h h0⟩
  · exact ⟨m, a, _, c, r, by rw [h0], hO, hs, fun h => absurd h0 h, fun _ => ⟨rfl, rfl, rfl⟩⟩

set_option maxRecDepth 100000 in
set_option maxHeartbeats 8000000 in
theorem bddRenames_any (v b : Int) (hv : 0 ≤ v ∧ v ≤ 255) (hb : 0 ≤ b ∧ b ≤ 4294967295) (m : Int) (hm : -9223372036854775808 ≤ m ∧ m ≤ 9223372036854775807) (qs : List Int) (aQ : Option Addr) (capQ : Nat) (w : World) (hQ : RowAt w (.slice aQ qs.length capQ) qs.length (intCells qs)) :
    Calls Try.prog 4 #[.agg #[.int .u8 v, .int .u32 b], .int .i64 m, .slice aQ qs.length capQ] w fun e w' => e = .returned (.bool true) ∧ Same w w' := by
  obtain ⟨n, hn⟩ : ∃ n : Nat, (n : Int) = v % 6 := ⟨(v % 6).toNat, by omega⟩
  have hn5 : n ≤ 5 := by omega
  have hnt : (v % 6).toNat = n := by omega
  obtain ⟨q, hq⟩ : ∃ q, q = qs.length := ⟨_, rfl⟩
  rw [← hq] at hQ ⊢
  replace hQ := Lib.hid hQ; replace hq := Lib.hid hq
  by_cases hlen : 6 < q
  · have hl2 : (6 : Int) < q := by omega
    clear hn hnt
    go_enter Try.func4, Try.ntmps4
    go_wp2_with fail
    refine (known_true _).mono ?_
    rintro e w1 ⟨rfl, hs1⟩
    have hw1 := (show Same w _ from (by repeat (first | exact Fr.refl _ _ | apply Fr.alloc | apply Fr.drewN | apply Fr.drew | apply Fr.undrew | apply Fr.undrewN))).same hs1
    replace hs1 := Lib.hid hs1; replace hw1 := Lib.hid hw1
    go_wp2_with fail
    refine (known_true _).mono ?_
    rintro e w2 ⟨rfl, hs2⟩
    have hw2 := hw1.out.same hs2
    replace hs2 := Lib.hid hs2; replace hw2 := Lib.hid hw2
    go_wp2_with fail
    go_ret
    exact ⟨rfl, hw2.out⟩
  · have hl2 : ¬ (6 : Int) < q := by omega
    have et : v.tmod 6 = v % 6 := Int.tmod_eq_emod_of_nonneg hv.1
    by_cases hn5' : v % 6 = 5
    · have hn6 : (v.tmod 6 == 5) = true := by rw [et]; simpa using hn5'
      have hn8 : (v % 6 == 5) = true := by simpa using hn5'
      clear hn hnt hn5' et
      go_enter Try.func4, Try.ntmps4
      go_wp2_with fail
      refine (known_true _).mono ?_
      rintro e w1 ⟨rfl, hs1⟩
      have hw1 := (show Same w _ from (by repeat (first | exact Fr.refl _ _ | apply Fr.alloc | apply Fr.drewN | apply Fr.drew | apply Fr.undrew | apply Fr.undrewN))).same hs1
      have kb := hs1.at (heap_new w _) id
      have x0 := cell_at kb 0
      have x1 := cell_at kb 1
      have xb := lt_of_heap kb
      replace hs1 := Lib.hid hs1; replace hw1 := Lib.hid hw1; replace kb := Lib.hid kb
      go_wp2_with fail
      refine (known_true _).mono ?_
      rintro e w2 ⟨rfl, hs2⟩
      have hw2 := hw1.out.same hs2
      replace hs2 := Lib.hid hs2; replace hw2 := Lib.hid hw2
      go_wp2_with fail
      go_ret
      exact ⟨rfl, hw2.out⟩
    · have hTAB := fun W => ltable_any v b W hv.1 hv.2 hb.1 hb.2
      rw [hnt] at hTAB
      have hn6 : (v.tmod 6 == 5) = false := by rw [et]; simpa using hn5'
      have hn7 : ¬ v.tmod 6 = 5 := by rw [et]; exact hn5'
      have hn8 : (v % 6 == 5) = false := by simpa using hn5'
      have hn9 : ¬ v % 6 = 5 := hn5'
      clear hnt hn5' et
      replace hTAB := Lib.hid hTAB; replace hn := Lib.hid hn; replace hv := Lib.hid hv; replace hb := Lib.hid hb
      go_enter Try.func4, Try.ntmps4
      go_wp2_with fail
      refine (known_true _).mono ?_
      rintro e w1 ⟨rfl, hs1⟩
      have hw1 := (show Same w _ from (by repeat (first | exact Fr.refl _ _ | apply Fr.alloc | apply Fr.drewN | apply Fr.drew | apply Fr.undrew | apply Fr.undrewN))).same hs1
      have kb := hs1.at (heap_new w _) id
      have x0 := cell_at kb 0
      have x1 := cell_at kb 1
      have xb := lt_of_heap kb
      replace hs1 := Lib.hid hs1; replace hw1 := Lib.hid hw1; replace kb := Lib.hid kb
      go_wp2_with fail
      refine (hTAB.out _).mono ?_
      rintro e w2 ⟨t, bT, ht, rfl, hB2, hbT, hs2⟩
      have hw2 := hw1.out.same hs2
      have ht32 : t.length ≤ 32 := by rw [ht]; exact Nat.pow_le_pow_right (by omega) hn5
      have hT2 := (hB2.slice (by omega)).row
      clear x0 x1 xb
      replace hs2 := Lib.hid hs2; replace hw2 := Lib.hid hw2; replace hB2 := Lib.hid hB2; replace hbT := Lib.hid hbT; replace ht := Lib.hid ht; replace ht32 := Lib.hid ht32; replace hT2 := Lib.hid hT2
      go_wp2_with fail
      refine (ldiagram_row n _ _ t w2 (by omega) ht.out hT2.out).mono ?_
      rintro e w3 ⟨a3, c3, rfl, hO3, hs3⟩
      have hw3 := hw2.out.same hs3
      have T3 := IsTab.of (n := n) (t := t) (by omega) ht.out
      obtain ⟨O, r, hOr⟩ : ∃ O r, tableF n [] 0 t = (O, r) := ⟨_, _, rfl⟩
      rw [hOr] at hO3 T3 ⊢
      simp only at hO3 T3 ⊢
      have hQ3 := hQ.out.same hw3
      replace hs3 := Lib.hid hs3; replace hw3 := Lib.hid hw3; replace hO3 := Lib.hid hO3; replace T3 := Lib.hid T3; replace hOr := Lib.hid hOr; replace hQ3 := Lib.hid hQ3
      go_wp2_with fail
      have REN := rename_any ⟨n, a3, c3, O, r⟩ n t m qs aQ capQ w3 hO3.out ⟨rfl, T3.out⟩ (by rw [← hq.out]; omega) (by rw [← hq.out]; exact hQ3.out)
      rw [← hq.out] at REN
      refine REN.mono ?_
      intro e w4 hret
      obtain ⟨gm, ga, gL, gc, gr, rfl, hO4, hs4, hbad, hgood⟩ := hret.any
      clear hret
      obtain ⟨E, hE⟩ : ∃ E, E = renW n m qs := ⟨_, rfl⟩
      rw [← hE] at hbad hgood ⊢
      have hw4 := hw3.out.same hs4
      replace hs4 := Lib.hid hs4; replace hw4 := Lib.hid hw4; replace hO4 := Lib.hid hO4; replace hbad := Lib.hid hbad; replace hgood := Lib.hid hgood; replace hE := Lib.hid hE
      by_cases h1 : m < 0 ∨ 40 < m
      · have hE2 : E = 2 := by rw [hE.out]; unfold renW; rw [if_pos h1]
        obtain ⟨rfl, rfl, rfl⟩ := hbad.out (by omega)
        subst hE2
        simp only [List.length_nil] at hO4 ⊢
        clear hbad hgood
        rcases h1 with h1 | h1
        · go_wp2_with fail; go_loopw [11, 12] (fun x i wr => x = .int .i64 2 ∧ i = .int .i64 0 ∧ Same w wr ∧ wr.heap[w4.heap.size]? = some (.cells #[.int .i64 0, .slice ga 0 gc, .int .i64 0] 31 (0, 0)) ∧ SliceAt wr 80 3 (.slice ga 0 gc) 0 []) (fun _ _ _ => 0)
          case atStart => exact ⟨rfl, rfl, hw4.out.same (by repeat (first | exact Fr.refl _ _ | apply Fr.alloc | apply Fr.drewN | apply Fr.drew | apply Fr.undrew | apply Fr.undrewN)), heap_new _ _, hO4.out.same (by repeat (first | exact Fr.refl _ _ | apply Fr.alloc | apply Fr.drewN | apply Fr.drew | apply Fr.undrew | apply Fr.undrewN))⟩
          case round =>
            obtain ⟨rfl, rfl, hsw, kg, hOr5⟩ := hrel
            have c0 := cell_at kg 0; have c1 := cell_at kg 1; have c2 := cell_at kg 2; have cb := lt_of_heap kg; have N := none_true ga gc wr hOr5; replace N := Lib.hid N; replace kg := Lib.hid kg; replace hsw := Lib.hid hsw; go_wp2_with fail; all_goals (refine N.out.mono ?_; rintro e w5 ⟨rfl, hs5⟩; have hw5 := hsw.out.same hs5; replace hs5 := Lib.hid hs5; replace hw5 := Lib.hid hw5; go_wp2_with fail; go_ret; exact ⟨(by first | rfl | simp), hw5.out⟩)
        · have h1' : ¬ m < 0 := by omega
          go_wp2_with fail; go_loopw [11, 12] (fun x i wr => x = .int .i64 2 ∧ i = .int .i64 0 ∧ Same w wr ∧ wr.heap[w4.heap.size]? = some (.cells #[.int .i64 0, .slice ga 0 gc, .int .i64 0] 31 (0, 0)) ∧ SliceAt wr 80 3 (.slice ga 0 gc) 0 []) (fun _ _ _ => 0)
          case atStart => exact ⟨rfl, rfl, hw4.out.same (by repeat (first | exact Fr.refl _ _ | apply Fr.alloc | apply Fr.drewN | apply Fr.drew | apply Fr.undrew | apply Fr.undrewN)), heap_new _ _, hO4.out.same (by repeat (first | exact Fr.refl _ _ | apply Fr.alloc | apply Fr.drewN | apply Fr.drew | apply Fr.undrew | apply Fr.undrewN))⟩
          case round =>
            obtain ⟨rfl, rfl, hsw, kg, hOr5⟩ := hrel
            have c0 := cell_at kg 0; have c1 := cell_at kg 1; have c2 := cell_at kg 2; have cb := lt_of_heap kg; have N := none_true ga gc wr hOr5; replace N := Lib.hid N; replace kg := Lib.hid kg; replace hsw := Lib.hid hsw; go_wp2_with fail; all_goals (refine N.out.mono ?_; rintro e w5 ⟨rfl, hs5⟩; have hw5 := hsw.out.same hs5; replace hs5 := Lib.hid hs5; replace hw5 := Lib.hid hw5; go_wp2_with fail; go_ret; exact ⟨(by first | rfl | simp), hw5.out⟩)
      · have m0 : 0 ≤ m := by omega
        have m40 : m ≤ 40 := by omega
        by_cases h2 : q = n
        · have hE2 : E = renErr m qs q 0 := by rw [hE.out]; unfold renW; rw [if_neg h1, if_neg (by rw [← hq.out]; omega), ← hq.out]
          have hqn : ((q : Int) != (n : Int)) = false := by rw [h2]; simp
          have hqn2 : ¬ ((q : Int) ≠ (n : Int)) := by rw [h2]; simp
          clear h1
          replace hE2 := Lib.hid hE2
          go_wp2_with fail
          go_loopw [11, 12] (fun X i wr => ∃ (x : Int) (j : Nat), X = .int .i64 x ∧ i = .int .i64 j ∧ j ≤ q ∧ ((x = 0 ∧ renErr m qs (q - j) j = E) ∨ (x ≠ 0 ∧ x = E)) ∧ Same w4 wr ∧ wr.heap[w4.heap.size]? = some (.cells #[.int .i64 gm, .slice ga gL.length gc, .int .i64 gr] 31 (0, 0))) (fun _ i _ => q - (intOf i).toNat)
          case atStart => exact ⟨0, 0, rfl, rfl, by omega, .inl ⟨rfl, hE2.out.symm⟩, (by repeat (first | exact Fr.refl _ _ | apply Fr.alloc | apply Fr.drewN | apply Fr.drew | apply Fr.undrew | apply Fr.undrewN)), heap_new _ _⟩
          case round =>
            obtain ⟨x, j, rfl, rfl, hj, hx, hsw4, kg⟩ := hrel
            have hsw := hw4.out.same hsw4
            have hOr5 := hO4.out.same hsw4
            rcases hx with ⟨rfl, hrE⟩ | ⟨hx0, rfl⟩
            · by_cases hlt : j < q
              · replace hsw4 := Lib.hid hsw4
                replace hsw := Lib.hid hsw
                replace kg := Lib.hid kg
                replace hOr5 := Lib.hid hOr5
                rw [hq.out, renErr_step m qs j (by rw [← hq.out]; exact hlt), ← hq.out] at hrE
                obtain ⟨bq, oq, rfl, hbq, hcq⟩ := ints_row (l := qs) (by rw [← hq.out]; exact hQ.out.same hsw.out) (by rw [← hq.out]; omega)
                have ck := hcq j (by rw [← hq.out]; exact hlt)
                have cp : 0 < j → wr.cell? ⟨bq, oq + (j - 1), none⟩ = some (.int .i64 (toF qs (j - 1))) := fun h => hcq (j - 1) (by rw [← hq.out]; omega)
                clear hcq
                obtain ⟨z, hz⟩ : ∃ z, z = toF qs j := ⟨_, rfl⟩
                rw [← hz] at hrE ck
                replace hz := Lib.hid hz
                by_cases c1 : z < 0 ∨ m ≤ z
                · rw [if_pos c1] at hrE
                  replace hrE := Lib.hid hrE
                  clear cp
                  rcases c1 with c1 | c1
                  · go_wp2_with fail
                    go_roundw
                    case rel => exact ⟨2, j + 1, rfl, by go_num, by omega, .inr ⟨by omega, hrE.out⟩, hsw4.out, kg.out⟩
                    case measure => simp [intOf]; omega
                  · have c2 : ¬ z < 0 := by omega
                    go_wp2_with fail
                    go_roundw
                    case rel => exact ⟨2, j + 1, rfl, by go_num, by omega, .inr ⟨by omega, hrE.out⟩, hsw4.out, kg.out⟩
                    case measure => simp [intOf]; omega
                · rw [if_neg c1] at hrE
                  have c2 : 0 ≤ z := by omega
                  have c3 : z < m := by omega
                  clear c1
                  by_cases c4 : 0 < j
                  · have cp' := cp c4
                    obtain ⟨j', rfl⟩ : ∃ j', j = j' + 1 := ⟨j - 1, by omega⟩
                    rw [Nat.add_sub_cancel] at cp'
                    simp only [Nat.add_sub_cancel] at hrE
                    obtain ⟨u, hu⟩ : ∃ u, u = toF qs j' := ⟨_, rfl⟩
                    rw [← hu] at hrE cp'
                    clear cp
                    replace hu := Lib.hid hu
                    have hjl : j' < q := by omega
                    have hjl2 : j' < n := by omega
                    have hwr1 : IntKind.i64.wrap ((j' : Int) + 1 - 1) = (j' : Int) := by rw [Int.add_sub_cancel]; exact IntWalk.i64_in _ (by omega)
                    have hwr2 : IntKind.i64.wrap (j' : Int) = (j' : Int) := IntWalk.i64_in _ (by omega)
                    by_cases c5 : z ≤ u
                    · rw [if_pos ⟨c4, c5⟩] at hrE
                      replace hrE := Lib.hid hrE
                      go_wp2_with fail
                      refine wp_region_sched (fun _ => True) [0, 0, 0, 0, 0, 0, 1, 0, 0, 0, 0, 1, 0, 0] [0, 1, 2, 3, 4, 5, 7, 8, 9, 10, 6, 11, 12, 13] (by kernel_rfl) (by kernel_rfl) ?_
                      repeat (first | (refine sched_w rfl rfl (fun _ hK => ?_); go_simp; refine hK _ ?_; clear hK) | (refine sched_s rfl rfl (fun _ hK => ?_); go_simp; first | (refine hK _ ?_; clear hK) | (refine ⟨_, fun _ => rfl, hK _ ?_⟩; clear hK)))
                      refine sched_nil (NoPanic.normal ?_)
                      go_wp2_with fail
                      go_roundw
                      case rel => exact ⟨5, j' + 1 + 1, rfl, by go_num, by omega, .inr ⟨by omega, hrE.out⟩, hsw4.out.same (by repeat (first | exact Fr.refl _ _ | apply Fr.alloc | apply Fr.drewN | apply Fr.drew | apply Fr.undrew | apply Fr.undrewN)), kg.out⟩
                      case measure => simp [intOf]; omega
                    · rw [if_neg (fun h => c5 h.2)] at hrE
                      have c6 : u < z := by omega
                      replace hrE := Lib.hid hrE
                      go_wp2_with fail
                      refine wp_region_sched (fun _ => True) [0, 0, 0, 0, 0, 0, 1, 0, 0, 0, 0, 1, 0, 0] [0, 1, 2, 3, 4, 5, 7, 8, 9, 10, 6, 11, 12, 13] (by kernel_rfl) (by kernel_rfl) ?_
                      repeat (first | (refine sched_w rfl rfl (fun _ hK => ?_); go_simp; refine hK _ ?_; clear hK) | (refine sched_s rfl rfl (fun _ hK => ?_); go_simp; first | (refine hK _ ?_; clear hK) | (refine ⟨_, fun _ => rfl, hK _ ?_⟩; clear hK)))
                      refine sched_nil (NoPanic.normal ?_)
                      go_wp2_with fail
                      go_roundw
                      case rel => exact ⟨0, j' + 1 + 1, rfl, by go_num, by omega, .inl ⟨rfl, hrE.out⟩, hsw4.out.same (by repeat (first | exact Fr.refl _ _ | apply Fr.alloc | apply Fr.drewN | apply Fr.drew | apply Fr.undrew | apply Fr.undrewN)), kg.out⟩
                      case measure => simp [intOf]; omega
                  · rw [if_neg (fun h => c4 h.1)] at hrE
                    replace hrE := Lib.hid hrE
                    clear cp
                    go_wp2_with fail
                    refine wp_region_sched (fun _ => True) [0, 0, 0, 0, 0, 0, 1, 0, 0, 0, 0, 1, 0, 0] [0, 1, 2, 3, 4, 5, 7, 8, 9, 10, 6, 11, 12, 13] (by kernel_rfl) (by kernel_rfl) ?_
                    repeat (first | (refine sched_w rfl rfl (fun _ hK => ?_); go_simp; refine hK _ ?_; clear hK) | (refine sched_s rfl rfl (fun _ hK => ?_); go_simp; first | (refine hK _ ?_; clear hK) | (refine ⟨_, fun _ => rfl, hK _ ?_⟩; clear hK)))
                    refine sched_nil (NoPanic.normal ?_)
                    go_wp2_with fail
                    go_roundw
                    case rel => exact ⟨0, j + 1, rfl, by go_num, by omega, .inl ⟨rfl, hrE.out⟩, hsw4.out.same (by repeat (first | exact Fr.refl _ _ | apply Fr.alloc | apply Fr.drewN | apply Fr.drew | apply Fr.undrew | apply Fr.undrewN)), kg.out⟩
                    case measure => simp [intOf]; omega
              · have hjq : j = q := by omega
                subst hjq
                rw [Nat.sub_self, renErr] at hrE
                subst hrE
                obtain ⟨rfl, rfl, rfl⟩ := hgood.out rfl
                obtain ⟨k, rfl⟩ : ∃ k : Nat, gm = (k : Int) := ⟨gm.toNat, by omega⟩
                have hup : Up (toF qs) n k := up_of (by rw [← hq.out]; exact hE2.out.symm) (by rw [← hq.out]; exact h2)
                have RT := ren_tab T3.out hup (by omega)
                have c0 := cell_at kg 0
                have c1 := cell_at kg 1
                have c2 := cell_at kg 2
                have cb := lt_of_heap kg
                have hO5 := hO3.out.same (hs4.out.same hsw4)
                have hT5 := hT2.out.same (hs3.out.same (hs4.out.same hsw4))
                have hQ5 := hQ.out.same hsw
                have hpos := hup.pos
                have hTl := renT_length (toF qs) n k t
                obtain ⟨R, hR⟩ : ∃ R, R = renT (toF qs) n k t := ⟨_, rfl⟩
                have REM := fun (hk : k ≤ 10) W (hW : Same wr W) => renamed_any n k t qs (some ⟨bT, 0, none⟩) aQ t.length capQ W (by omega) hk ht.out (by rw [← hq.out]; exact h2) (hT5.same hW) (by rw [← hq.out]; exact hQ5.same hW) (fun i hi => hpos i (by omega))
                rw [← hq.out, ← hR] at REM
                rw [← hR] at RT hTl
                have hglen := renN_length (toF qs) O
                obtain ⟨gl, hgl⟩ : ∃ gl, gl = renN (toF qs) O := ⟨_, rfl⟩
                rw [← hgl] at kg hOr5 RT c1 hglen
                obtain ⟨ol, hol⟩ : ∃ ol, ol = O.length := ⟨_, rfl⟩
                by_cases h7 : 7 < k
                · have h7' : (7 : Int) < k := by omega
                  have LD := fun W (hW : Same wr W) => ldiagram_row n _ _ t W (by omega) ht.out (hT5.same hW)
                  rw [hOr.out] at LD
                  have CH := fun W (hW : Same wr W) => check_tab ⟨k, ga, gc, gl, gr⟩ k R W (hOr5.same hW) ⟨rfl, RT⟩
                  simp only [Dg.v] at CH
                  simp only at LD
                  unfold D1Ret at LD
                  rw [hglen, ← hol] at CH c1 kg
                  rw [← hol] at LD
                  clear REM
                  replace kg := Lib.hid kg; replace hup := Lib.hid hup; replace RT := Lib.hid RT; replace hO5 := Lib.hid hO5; replace hT5 := Lib.hid hT5; replace hQ5 := Lib.hid hQ5; replace hpos := Lib.hid hpos; replace hTl := Lib.hid hTl; replace hR := Lib.hid hR; replace hOr5 := Lib.hid hOr5; replace hsw := Lib.hid hsw; replace hsw4 := Lib.hid hsw4; replace hglen := Lib.hid hglen; replace hgl := Lib.hid hgl; replace LD := Lib.hid LD; replace CH := Lib.hid CH; replace hol := Lib.hid hol; replace hE2 := Lib.hid hE2
                  go_wp2_with fail
                  refine wp_region_sched (Lk w4.heap.size) [0, 0, 0, 0, 1, 0, 0, 0, 0, 0, 1, 0, 0, 0, 2, 0, 0, 0, 0, 0, 1, 2, 0, 0, 0] [0, 1, 2, 3, 5, 4, 6, 7, 8, 9, 12, 13, 10, 11, 14, 15, 16, 17, 18, 19, 20, 21, 22, 23, 24] (by kernel_rfl) (by kernel_rfl) ?_
                  repeat (first | (refine sched_w rfl rfl (fun _ hK => ?_); go_simp; refine hK _ ?_; clear hK) | (refine sched_s rfl rfl (fun _ hK => ?_); go_simp; first | (refine hK _ ?_; clear hK) | (refine ⟨_, fun _ => rfl, hK _ ?_⟩; clear hK)))
                  refine sched_g rfl rfl (fun _ hK => ?_)
                  go_simp
                  refine (LD.out _ (by repeat (first | exact Fr.refl _ _ | apply Fr.undrew | apply Fr.undrewN | apply Fr.drew | apply Fr.drewN | apply Fr.alloc))).mono ?_
                  rintro e w5 ⟨a5, c5, rfl, hO6, hs5⟩
                  have h5 : Same wr w5 := (show Same wr _ from (by repeat (first | exact Fr.refl _ _ | apply Fr.undrew | apply Fr.undrewN | apply Fr.drew | apply Fr.drewN | apply Fr.alloc))).same hs5
                  have kg5 := h5.at kg.out id
                  have d0 := cell_at kg5 0
                  have d1 := cell_at kg5 1
                  have d2 := cell_at kg5 2
                  have db := lt_of_heap kg5
                  clear c0 c1 c2 cb
                  replace h5 := Lib.hid h5; replace hO6 := Lib.hid hO6; replace kg5 := Lib.hid kg5
                  refine hK _ _ (Kp.of_same hs5) ?_
                  clear hK
                  try simp only [Act.put, List.setIfInBounds_toArray, List.set_cons_zero, List.set_cons_succ]
                  replace hs5 := Lib.hid hs5
                  repeat (first | (refine sched_w rfl rfl (fun _ hK => ?_); go_simp; refine hK _ ?_; clear hK) | (refine sched_s rfl rfl (fun _ hK => ?_); go_simp; first | (refine hK _ ?_; clear hK) | (refine ⟨_, fun _ => rfl, hK _ ?_⟩; clear hK)))
                  refine sched_g rfl rfl (fun _ hK => ?_)
                  go_simp
                  refine (CH.out _ h5.out).mono ?_
                  rintro e w6 ⟨rfl, hs6⟩
                  have hw6 := hsw.out.same (h5.out.same hs6)
                  refine hK _ _ (Kp.of_same hs6) ?_
                  clear hK
                  try simp only [Act.put, List.setIfInBounds_toArray, List.set_cons_zero, List.set_cons_succ]
                  replace hs6 := Lib.hid hs6; replace hw6 := Lib.hid hw6
                  repeat (first | (refine sched_w rfl rfl (fun _ hK => ?_); go_simp; refine hK _ ?_; clear hK) | (refine sched_s rfl rfl (fun _ hK => ?_); go_simp; first | (refine hK _ ?_; clear hK) | (refine ⟨_, fun _ => rfl, hK _ ?_⟩; clear hK)))
                  refine sched_nil (NoPanic.normal ?_)
                  go_wp2_with fail
                  go_ret
                  exact ⟨(by first | rfl | simp), hw6.out⟩
                · have h7' : ¬ (7 : Int) < k := by omega
                  have REM' := REM (by omega)
                  rw [h2] at REM'
                  obtain ⟨M, hM⟩ : ∃ M, M = 2 ^ k := ⟨_, rfl⟩
                  rw [← hM] at REM' hTl
                  have IS := fun W bR (hW : Same wr W) (hB : BoolsAt W bR R) => is_row k R ga (some ⟨bR, 0, none⟩) gc R.length W (by omega) (by rw [hTl, hM]) (hB.slice (by rw [hTl, hM]; exact Nat.le_trans (Nat.pow_le_pow_right (by omega) (show k ≤ 10 by omega)) (by decide))).row
                    (by rw [RT.eq]; exact hOr5.same hW)
                  rw [RT.eq, hTl] at IS
                  simp only at IS
                  rw [hglen, ← hol] at IS c1 kg
                  clear REM
                  replace kg := Lib.hid kg; replace hup := Lib.hid hup; replace RT := Lib.hid RT; replace hO5 := Lib.hid hO5; replace hT5 := Lib.hid hT5; replace hQ5 := Lib.hid hQ5; replace hpos := Lib.hid hpos; replace hTl := Lib.hid hTl; replace hR := Lib.hid hR; replace hOr5 := Lib.hid hOr5; replace hsw := Lib.hid hsw; replace hsw4 := Lib.hid hsw4; replace hglen := Lib.hid hglen; replace hgl := Lib.hid hgl; replace REM' := Lib.hid REM'; replace IS := Lib.hid IS; replace hol := Lib.hid hol; replace hM := Lib.hid hM; replace hE2 := Lib.hid hE2
                  go_wp2_with fail
                  refine wp_region_sched (Lk w4.heap.size) [1, 0, 0, 0, 0, 0, 0, 2, 2, 0] [1, 2, 3, 4, 5, 6, 0, 7, 8, 9] (by kernel_rfl) (by kernel_rfl) ?_
                  repeat (first | (refine sched_w rfl rfl (fun _ hK => ?_); go_simp; refine hK _ ?_; clear hK) | (refine sched_s rfl rfl (fun _ hK => ?_); go_simp; first | (refine hK _ ?_; clear hK) | (refine ⟨_, fun _ => rfl, hK _ ?_⟩; clear hK)))
                  refine sched_g rfl rfl (fun _ hK => ?_)
                  go_simp
                  refine (REM'.out _ (by repeat (first | exact Fr.refl _ _ | apply Fr.undrew | apply Fr.undrewN | apply Fr.drew | apply Fr.drewN | apply Fr.alloc))).mono ?_
                  rintro e w5 ⟨bR, rfl, hBR, hbR, hs5⟩
                  have h5 : Same wr w5 := (show Same wr _ from (by repeat (first | exact Fr.refl _ _ | apply Fr.undrew | apply Fr.undrewN | apply Fr.drew | apply Fr.drewN | apply Fr.alloc))).same hs5
                  clear c0 c1 c2 cb
                  replace h5 := Lib.hid h5; replace hBR := Lib.hid hBR; replace hbR := Lib.hid hbR
                  refine hK _ _ (Kp.of_same hs5) ?_
                  clear hK
                  try simp only [Act.put, List.setIfInBounds_toArray, List.set_cons_zero, List.set_cons_succ]
                  replace hs5 := Lib.hid hs5
                  repeat (first | (refine sched_w rfl rfl (fun _ hK => ?_); go_simp; refine hK _ ?_; clear hK) | (refine sched_s rfl rfl (fun _ hK => ?_); go_simp; first | (refine hK _ ?_; clear hK) | (refine ⟨_, fun _ => rfl, hK _ ?_⟩; clear hK)))
                  refine sched_g rfl rfl (fun _ hK => ?_)
                  go_simp
                  refine (IS.out _ bR h5.out hBR.out).mono ?_
                  rintro e w6 ⟨rfl, hs6⟩
                  have hw6 := hsw.out.same (h5.out.same hs6)
                  refine hK _ _ (Kp.of_same hs6) ?_
                  clear hK
                  try simp only [Act.put, List.setIfInBounds_toArray, List.set_cons_zero, List.set_cons_succ]
                  replace hs6 := Lib.hid hs6; replace hw6 := Lib.hid hw6
                  repeat (first | (refine sched_w rfl rfl (fun _ hK => ?_); go_simp; refine hK _ ?_; clear hK) | (refine sched_s rfl rfl (fun _ hK => ?_); go_simp; first | (refine hK _ ?_; clear hK) | (refine ⟨_, fun _ => rfl, hK _ ?_⟩; clear hK)))
                  refine sched_nil (NoPanic.normal ?_)
                  go_wp2_with fail
                  go_ret
                  exact ⟨(by first | rfl | simp), hw6.out⟩
            · obtain ⟨rfl, rfl, rfl⟩ := hbad.out hx0
              simp only [List.length_nil] at hOr5 kg
              have hx1 : (x != 0) = true := by simpa using hx0
              have hx2 : (x == 0) = false := by simpa using hx0
              clear hE2 hE hbad hgood hO4
              have c0 := cell_at kg 0; have c1 := cell_at kg 1; have c2 := cell_at kg 2; have cb := lt_of_heap kg; have N := none_true ga gc wr hOr5; replace N := Lib.hid N; replace kg := Lib.hid kg; replace hsw := Lib.hid hsw; go_wp2_with fail; all_goals (refine N.out.mono ?_; rintro e w5 ⟨rfl, hs5⟩; have hw5 := hsw.out.same hs5; replace hs5 := Lib.hid hs5; replace hw5 := Lib.hid hw5; go_wp2_with fail; go_ret; exact ⟨(by first | rfl | simp), hw5.out⟩)
        · have hE2 : E = 4 := by rw [hE.out]; unfold renW; rw [if_neg h1, if_pos (by rw [← hq.out]; omega)]
          obtain ⟨rfl, rfl, rfl⟩ := hbad.out (by omega)
          subst hE2
          simp only [List.length_nil] at hO4 ⊢
          have hqn : ((q : Int) != (n : Int)) = true := by simp; omega
          clear hbad hgood h1 h2
          go_wp2_with fail; go_loopw [11, 12] (fun x i wr => x = .int .i64 4 ∧ i = .int .i64 0 ∧ Same w wr ∧ wr.heap[w4.heap.size]? = some (.cells #[.int .i64 0, .slice ga 0 gc, .int .i64 0] 31 (0, 0)) ∧ SliceAt wr 80 3 (.slice ga 0 gc) 0 []) (fun _ _ _ => 0)
          case atStart => exact ⟨rfl, rfl, hw4.out.same (by repeat (first | exact Fr.refl _ _ | apply Fr.alloc | apply Fr.drewN | apply Fr.drew | apply Fr.undrew | apply Fr.undrewN)), heap_new _ _, hO4.out.same (by repeat (first | exact Fr.refl _ _ | apply Fr.alloc | apply Fr.drewN | apply Fr.drew | apply Fr.undrew | apply Fr.undrewN))⟩
          case round =>
            obtain ⟨rfl, rfl, hsw, kg, hOr5⟩ := hrel
            have c0 := cell_at kg 0; have c1 := cell_at kg 1; have c2 := cell_at kg 2; have cb := lt_of_heap kg; have N := none_true ga gc wr hOr5; replace N := Lib.hid N; replace kg := Lib.hid kg; replace hsw := Lib.hid hsw; go_wp2_with fail; all_goals (refine N.out.mono ?_; rintro e w5 ⟨rfl, hs5⟩; have hw5 := hsw.out.same hs5; replace hs5 := Lib.hid hs5; replace hw5 := Lib.hid hw5; go_wp2_with fail; go_ret; exact ⟨(by first | rfl | simp), hw5.out⟩)
end Go.Proofs.Ytaebjalpebgliaa
