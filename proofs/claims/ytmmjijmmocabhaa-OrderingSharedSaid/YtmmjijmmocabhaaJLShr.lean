/- OrderingShared walked. -/
import Derived.Test.YtmmjijmmocabhaaJLSpan
import Derived.Test.YtmmjijmmocabhaaJShrW
namespace Go.Proofs.Ytmmjijmmocabhaa
open Go.RowKit
set_option linter.unusedVariables false
set_option linter.unusedSimpArgs false

theorem shK_short (L : List (List Int)) : ∀ (x : Nat) (m : List Int), m ∈ shK L x → m.length ≤ L.length
  | 0, m, h => by simp [shK] at h
  | x + 1, m, h => by
    rw [shK, List.mem_append] at h
    rcases h with h | h
    · exact shK_short L x m h
    · split at h
      · simp at h; subst h; exact hasK_len L x L.length
      · simp at h
theorem posL_yes {o : List Int} {v : Int} (h : v ∈ o) : 0 ≤ posL o v := by unfold posL; rw [if_pos h]; omega
theorem posL_no {o : List Int} {v : Int} (h : v ∉ o) : posL o v = -1 := by unfold posL; rw [if_neg h]

set_option maxRecDepth 100000 in
set_option maxHeartbeats 4000000 in
theorem shared_far (a : Option Addr) (cap k : Nat) (w : World) (hk : k ≤ 9223372036854775807) (h10 : 10 < k) :
    Calls Try.prog 7 #[.slice a k cap] w fun e w' => e = .returned (.bool true) ∧ Same w w' := by
  have KN := fun W => known_any W
  have h10' : (10 : Int) < k := by omega
  replace KN := Lib.hid KN
  go_enter Try.func7, Try.ntmps7
  go_wp2_with fail
  refine (KN.out _).mono ?_
  rintro e w1 ⟨rfl, hs1⟩
  have hs1 : Same w w1 := hs1
  replace hs1 := Lib.hid hs1
  go_wp2_with fail
  refine (KN.out _).mono ?_
  rintro e w3 ⟨rfl, hs3⟩
  have hs3 := hs1.out.same hs3
  replace hs3 := Lib.hid hs3
  go_wp2_with fail
  go_ret
  exact ⟨rfl, hs3.out⟩

set_option maxRecDepth 100000 in
set_option maxHeartbeats 16000000 in
theorem shared_near (gs : List Grp) (a : Option Addr) (cap k : Nat) (w : World) (hk : k ≤ 10) (hG : GsAt w (.slice a k cap) k gs) :
    Calls Try.prog 7 #[.slice a k cap] w fun e w' => e = .returned (.bool true) ∧ Same w w' := by
  have KN := fun W => known_any W
  have h10' : ¬ (10 : Int) < k := by omega
  obtain ⟨i3, hi3, hi3z, hi3s, hi3b⟩ := info_parts info3
  obtain ⟨j3, hj3, hj3z, hj3s, hj3b⟩ := info_parts info23
  have hkl := hG.len
  have SA := fun W (hW : Same w W) (h8 : ∀ g ∈ gs, g.l.length ≤ 1000) => Shared_any gs a cap k W (by omega) h8 (hG.same hW)
  obtain ⟨L, hL⟩ : ∃ L, L = lst gs := ⟨_, rfl⟩
  have hLl : L.length = k := by rw [hL, lst_len, hkl]
  rw [← hL] at SA
  replace KN := Lib.hid KN; replace hG := Lib.hid hG; replace hkl := Lib.hid hkl; replace hL := Lib.hid hL; replace hLl := Lib.hid hLl; replace SA := Lib.hid SA
  go_enter Try.func7, Try.ntmps7
  go_wp2_with fail
  refine (KN.out _).mono ?_
  rintro e w1 ⟨rfl, hs1⟩
  have hs1 : Same w w1 := hs1
  replace hs1 := Lib.hid hs1
  go_wp2_with fail
  go_loopw [3] (fun v3 wr => ∃ i : Nat, v3 = .int .i64 i ∧ i ≤ k ∧ (∀ g ∈ gs.take i, g.l.length ≤ 8) ∧ Same w wr) (fun i _ => k - (intOf i).toNat)
  case atStart => exact ⟨0, rfl, by omega, by simp, hs1.out⟩
  case round =>
    clear hs1
    obtain ⟨i, rfl, hi, hall, hs⟩ := hrel
    by_cases hlt : i < k
    · have hil : i < gs.length := by rw [hkl.out]; exact hlt
      obtain ⟨b, off, rfl, hbl, c0, hR⟩ := (hG.out.same hs).get hil
      have hst := List.take_succ_eq_append_getElem hil
      have hpm := row_max hR
      generalize gs[i] = g at *
      obtain ⟨ga, gc, gl⟩ := g
      simp only at c0 hR hpm
      obtain ⟨p, hp⟩ : ∃ p, gl.length = p := ⟨_, rfl⟩
      rw [hp] at c0 hR hpm
      by_cases h8 : 8 < p
      · have h8' : (8 : Int) < p := by omega
        replace hs := Lib.hid hs; replace hall := Lib.hid hall; replace hst := Lib.hid hst; replace hR := Lib.hid hR; replace hp := Lib.hid hp
        go_wp2_with fail
        go_ret
        exact ⟨rfl, hs.out⟩
      · have h8' : ¬ (8 : Int) < p := by omega
        have hall2 : ∀ g ∈ gs.take (i + 1), g.l.length ≤ 8 := fun g hg => by
          rw [hst] at hg
          rcases List.mem_append.1 hg with hg | hg
          · exact hall g hg
          · simp at hg; subst hg; simp only; omega
        replace hs := Lib.hid hs; replace hall := Lib.hid hall; replace hst := Lib.hid hst; replace hR := Lib.hid hR; replace hp := Lib.hid hp; replace hall2 := Lib.hid hall2
        go_wp2_with fail
        go_roundw
        case rel => exact ⟨i + 1, by go_num, by omega, hall2.out, hs.out⟩
        case measure => simp [intOf]; omega
    · obtain rfl : i = k := by omega
      rw [List.take_of_length_le (by rw [hkl.out]; exact Nat.le_refl _)] at hall
      obtain ⟨W1, rfl⟩ : ∃ W1, W1 = wr := ⟨_, rfl⟩
      replace hs := Lib.hid hs; replace hall := Lib.hid hall
      go_wp2_with fail
      refine (SA.out _ hs.out (fun g hg => by have := hall.out g hg; omega)).mono ?_
      intro e w2 hres
      obtain ⟨ag, gk, cg, Ev, rfl, F1, F2, F3, hs2⟩ : ∃ (ag : Option Addr) (gk cg : Nat) (Ev : Int), e = .returned (.tuple #[.slice ag gk cg, .int .i64 Ev]) ∧ (csK L ≠ 0 → gk = 0 ∧ Ev = csK L) ∧ (csK L = 0 → lim L → gk = 0 ∧ Ev = 3) ∧
          (csK L = 0 → ¬ lim L → Ev = 0 ∧ gk ≤ 32 ∧ ∃ gs2, GsAt w2 (.slice ag gk cg) gk gs2 ∧ lst gs2 = shK L 32) ∧ Same W1 w2 := by
        rcases hres with ⟨h1, h2, h3⟩ | ⟨h0, h1, h2, h3⟩ | ⟨h0, h1, a', k', c', gs2, h2, h3, h4, h5, h6⟩
        · exact ⟨none, 0, 0, _, h2, fun _ => ⟨rfl, rfl⟩, fun h => absurd h h1, fun h => absurd h h1, h3⟩
        · exact ⟨none, 0, 0, _, h2, fun h => absurd h0 h, fun _ _ => ⟨rfl, rfl⟩, fun _ h => absurd h1 h, h3⟩
        · exact ⟨a', k', c', 0, h2, fun h => absurd h0 h, fun _ h => absurd h h1, fun _ _ => ⟨rfl, h5, gs2, h3, h4⟩, h6⟩
      clear hres
      have hs2 := hs.out.same hs2
      have hs3 : Same w2 (w2.alloc (.cells (List.replicate 41 (Value.slice none 0 0)).toArray 23)) := (by repeat (first | exact Fr.refl _ _ | apply Fr.alloc | apply Fr.drewN | apply Fr.drew | apply Fr.undrew | apply Fr.undrewN))
      replace F1 := Lib.hid F1; replace F2 := Lib.hid F2; replace F3 := Lib.hid F3; replace hs2 := Lib.hid hs2; replace hs3 := Lib.hid hs3
      go_wp2_with (at_make; refine wpList_mkG _ rfl (.const (.int .i64 41)) (.const (.int .i64 41)) 22 rfl 23 j3 Try.underlying22 hj3 hj3z hj3s hj3b 41 rfl rfl (by omega) ?_)
      refine (Shared_many _ 41 41 _ (by omega)).mono ?_
      rintro e w4 ⟨rfl, hs4⟩
      have hs4 := hs3.out.same hs4
      clear hs3
      have hs5 := hs2.out.same hs4
      replace hs4 := Lib.hid hs4; replace hs5 := Lib.hid hs5
      go_wp2_with fail
      go_loopw [8] (fun v8 wr => ∃ j : Nat, v8 = .int .i64 j ∧ j ≤ i ∧ csK L = csK (L.drop j) ∧ Same w4 wr) (fun j _ => i - (intOf j).toNat)
      case atStart => exact ⟨0, rfl, by omega, rfl, Fr.refl _ _⟩
      case round =>
        obtain ⟨j, rfl, hj, hcs, hs6⟩ := hrel
        by_cases hji : j < i
        · have hjl : j < gs.length := by rw [hkl.out]; exact hji
          have hjL : j < L.length := by rw [hLl.out]; exact hji
          obtain ⟨b, off, rfl, hbl, c0, hR⟩ := (hG.out.same (hs5.out.same hs6)).get hjl
          have hgl : L[j] = gs[j].l := by have := lst_get gs hjl; simp only [hL.out]; exact this
          have hdr := csK_drop hjL
          have hg8 := hall.out _ (List.getElem_mem hjl)
          rw [hgl] at hdr
          generalize gs[j] = g at *
          obtain ⟨ga, gc, gl⟩ := g
          simp only at c0 hR hgl hdr hg8
          have CS := checkSet_any 32 gl ga gc wr (by omega) hR
          rw [show renErr 32 gl gl.length 0 = csErr gl from rfl] at CS
          obtain ⟨p, hp⟩ : ∃ p, gl.length = p := ⟨_, rfl⟩
          rw [hp] at c0 hR CS hg8
          obtain ⟨E, hE⟩ : ∃ E, E = csErr gl := ⟨_, rfl⟩
          rw [← hE] at CS hdr
          by_cases hE0 : E = 0
          · subst hE0
            rw [if_neg (by simp)] at hdr
            have hnext := hcs.trans hdr
            replace hR := Lib.hid hR; replace hgl := Lib.hid hgl; replace hdr := Lib.hid hdr; replace CS := Lib.hid CS; replace hp := Lib.hid hp; replace hE := Lib.hid hE; replace hcs := Lib.hid hcs; replace hs6 := Lib.hid hs6; replace hnext := Lib.hid hnext
            go_wp2_with fail
            refine CS.out.mono ?_
            rintro e w7 ⟨rfl, rfl⟩
            go_wp2_with fail
            go_roundw
            case rel => exact ⟨j + 1, by go_num, by omega, hnext.out, hs6.out⟩
            case measure => simp [intOf]; omega
          · rw [if_pos hE0] at hdr
            have hfin := hcs.trans hdr
            obtain ⟨rfl, rfl⟩ := F1.out (by rw [hfin]; exact hE0)
            rw [hfin]
            have hs8 := hs5.out.same hs6
            replace hR := Lib.hid hR; replace hgl := Lib.hid hgl; replace hdr := Lib.hid hdr; replace CS := Lib.hid CS; replace hp := Lib.hid hp; replace hE := Lib.hid hE; replace hcs := Lib.hid hcs; replace hs6 := Lib.hid hs6; replace hfin := Lib.hid hfin; replace hs8 := Lib.hid hs8
            go_wp2_with fail
            refine CS.out.mono ?_
            rintro e w7 ⟨rfl, rfl⟩
            go_wp2_with fail
            go_ret
            exact ⟨by simp, hs8.out⟩
        · obtain rfl : j = i := by omega
          rw [List.drop_of_length_le (by rw [hLl.out]; exact Nat.le_refl _)] at hcs
          have hcs : csK L = 0 := hcs
          have F2 := F2.out hcs
          have F3 := F3.out hcs
          have hs8 := hs5.out.same hs6
          obtain ⟨W2, rfl⟩ : ∃ W2, W2 = wr := ⟨_, rfl⟩
          have hs4' : Same w2 W2 := hs4.out.same hs6
          clear hs4 hs5 hs6 hs2
          replace F2 := Lib.hid F2; replace F3 := Lib.hid F3; replace hcs := Lib.hid hcs; replace hs8 := Lib.hid hs8; replace hs4' := Lib.hid hs4'
          clear F1
          go_wp2_with fail
          go_loopw [10, 11] (fun v10 v11 wr => ∃ (x k2 c2 : Nat) (a2 : Option Addr) (gs2 : List Grp), v11 = .int .i64 x ∧ x ≤ 32 ∧ v10 = .slice a2 k2 c2 ∧ OG W2.heap.size wr a2 k2 c2 gs2 ∧ lst gs2 = shK L x ∧ (∀ y, y < x → ¬ 8 < (hasF L y).length) ∧ Same W2 wr) (fun _ x _ => 32 - (intOf x).toNat)
          case atStart => exact ⟨0, 0, 0, none, [], rfl, by omega, rfl, OG.nil _ _, rfl, fun y hy => by omega, Fr.refl _ _⟩
          case round =>
            obtain ⟨x, k2, c2, a2, gs2, rfl, hx, rfl, hO, hsh, hno, hs9⟩ := hrel
            have hk2 : k2 ≤ x := by
              have h1 := shK_len L x
              rw [← hsh, lst_len, hO.len] at h1
              exact h1
            have hwr := hs9.size
            by_cases hx32 : x < 32
            · obtain ⟨W3, rfl⟩ : ∃ W3, W3 = wr := ⟨_, rfl⟩
              have hstep : shK L (x + 1) = shK L x ++ if 2 ≤ (hasF L x).length then [hasF L x] else [] := rfl
              have h64 : x < 9223372036854775807 := by omega
              have hx32i : (x : Int) < 32 := by omega
              replace hO := Lib.hid hO; replace hsh := Lib.hid hsh; replace hno := Lib.hid hno; replace hs9 := Lib.hid hs9; replace hstep := Lib.hid hstep
              go_wp2_with fail
              go_loopw [12, 13] (fun v12 v13 wr => ∃ (q z c : Nat) (a : Option Addr), v13 = .int .i64 q ∧ q ≤ j ∧ v12 = .slice a z c ∧ (hasK L x q).length = z ∧ wr.ownsRow W3.heap.size 3 1 (.slice a z c) z (intCells (hasK L x q)) ∧ Same W3 wr) (fun _ q _ => j - (intOf q).toNat)
              case atStart => exact ⟨0, 0, 0, none, rfl, by omega, rfl, rfl, World.ownsRow_nil _ _ _ _, Fr.refl _ _⟩
              case round =>
                obtain ⟨q, z, c, ax, rfl, hq, rfl, hz, hB, hs10⟩ := hrel
                have hzq : z ≤ q := by rw [← hz]; exact hasK_len L x q
                have hw3 := hs10.size
                by_cases hqj : q < j
                · have hql : q < gs.length := by rw [hkl.out]; exact hqj
                  have hqL : q < L.length := by rw [hLl.out]; exact hqj
                  have hsx : Same w wr := (hs8.out.same hs9.out).same hs10
                  obtain ⟨b, off, rfl, hbl, c0, hR⟩ := (hG.out.same hsx).get hql
                  have hgl : L[q] = gs[q].l := by have := lst_get gs hql; simp only [hL.out]; exact this
                  have hg8 := hall.out _ (List.getElem_mem hql)
                  have hsK : hasK L x (q + 1) = hasK L x q ++ if (x : Int) ∈ gs[q].l then [(q : Int)] else [] := by
                    rw [hasK, ← hgl]; simp [List.getD, hqL]
                  generalize gs[q] = g at *
                  obtain ⟨ga, gc, gl⟩ := g
                  simp only at c0 hR hgl hsK hg8
                  obtain ⟨p, hp⟩ : ∃ p, gl.length = p := ⟨_, rfl⟩
                  rw [hp] at c0 hR hg8
                  have PO := position_any gl x ga gc p wr hp hR (by omega)
                  by_cases hin : (x : Int) ∈ gl
                  · have hpos := posL_yes hin
                    rw [if_pos hin] at hsK
                    generalize posL gl x = P at *
                    replace hz := Lib.hid hz; replace hB := Lib.hid hB; replace hs10 := Lib.hid hs10; replace hsx := Lib.hid hsx; replace hR := Lib.hid hR; replace hgl := Lib.hid hgl; replace hsK := Lib.hid hsK; replace hp := Lib.hid hp; replace PO := Lib.hid PO; replace hin := Lib.hid hin
                    go_wp2_with fail
                    refine PO.out.mono ?_
                    rintro e w11 ⟨rfl, hs11⟩
                    have hB11 := owns_same hB.out hs11
                    have hs11 := hs10.out.same hs11
                    have hw11 := hs11.size
                    replace hs11 := Lib.hid hs11; replace hB11 := Lib.hid hB11
                    go_wp2_with (at_builtin; refine wpList_append1 rfl (.tmp 85) (.tmp 87) 23 rfl W3.heap.size 3 i3 (.int .i64 0) 1 8 Try.underlying23 hi3 hi3z hi3s hi3b rfl (by decide) (by decide) ax z c (intCells (hasK L x q)) rfl (owns_same hB11.out (by repeat (first | exact Fr.refl _ _ | apply Fr.alloc | apply Fr.drewN | apply Fr.drew | apply Fr.undrew | apply Fr.undrewN))) (by omega) w11.heap.size [.int .i64 q] rfl rfl (heap_new _ _) (by simp [Value.oneCell']) (by simp; omega) ?_; intro a5 c5 w5 ho5 hG5)
                    have hs12 : Same W3 w5 := grew_fresh (hs11.out.same (by repeat (first | exact Fr.refl _ _ | apply Fr.alloc | apply Fr.drewN | apply Fr.drew | apply Fr.undrew | apply Fr.undrewN))) hG5 (fun k hk => (hB11.out.lt k hk).1)
                    have ho5' : w5.ownsRow W3.heap.size 3 1 (.slice a5 (z + 1) c5) (z + 1) (intCells (hasK L x (q + 1))) := by
                      rw [hsK.out]; have := ho5; simpa [intCells] using this
                    clear ho5 hG5
                    go_roundw
                    case rel => exact ⟨q + 1, z + 1, c5, a5, by go_num, by omega, rfl, by rw [hsK.out, List.length_append, hz.out]; rfl, ho5', hs12⟩
                    case measure => simp [intOf]; omega
                  · rw [posL_no hin] at PO
                    rw [if_neg hin, List.append_nil] at hsK
                    replace hz := Lib.hid hz; replace hB := Lib.hid hB; replace hs10 := Lib.hid hs10; replace hsx := Lib.hid hsx; replace hR := Lib.hid hR; replace hgl := Lib.hid hgl; replace hsK := Lib.hid hsK; replace hp := Lib.hid hp; replace PO := Lib.hid PO; replace hin := Lib.hid hin
                    go_wp2_with fail
                    refine PO.out.mono ?_
                    rintro e w11 ⟨rfl, hs11⟩
                    have hB11 := owns_same hB.out hs11
                    have hs11 := hs10.out.same hs11
                    replace hs11 := Lib.hid hs11; replace hB11 := Lib.hid hB11
                    go_wp2_with fail
                    go_roundw
                    case rel => exact ⟨q + 1, z, c, ax, by go_num, by omega, rfl, by rw [hsK.out]; exact hz.out, by rw [hsK.out]; exact hB11.out, hs11.out⟩
                    case measure => simp [intOf]; omega
                · obtain rfl : q = j := by omega
                  have hHF : hasK L x q = hasF L x := by rw [hasF, hLl.out]
                  rw [hHF] at hz hB
                  have hstep := hstep.out
                  rw [hz] at hstep
                  have hO2 := hO.out.same hs10
                  have hel := SliceAt.of_owns hB
                  have hs13 := hs9.out.same hs10
                  have hw13 := hs13.size
                  by_cases h8 : 8 < z
                  · have h8' : (8 : Int) < z := by omega
                    obtain ⟨rfl, rfl⟩ := F2.out ⟨x, hx32, by rw [hz]; exact h8⟩
                    have hs14 := hs8.out.same hs13
                    replace hz := Lib.hid hz; replace hB := Lib.hid hB; replace hs10 := Lib.hid hs10; replace hHF := Lib.hid hHF; replace hstep := Lib.hid hstep; replace hO2 := Lib.hid hO2; replace hel := Lib.hid hel; replace hs13 := Lib.hid hs13; replace hs14 := Lib.hid hs14
                    go_wp2_with fail
                    go_ret
                    exact ⟨by simp, hs14.out⟩
                  · have h8' : ¬ (8 : Int) < z := by omega
                    have hno2 : ∀ y, y < x + 1 → ¬ 8 < (hasF L y).length := fun y hy => by
                      by_cases e : y = x
                      · subst e; rw [hz]; exact h8
                      · exact hno.out y (by omega)
                    by_cases h2 : 2 ≤ z
                    · have h2' : (1 : Int) < z := by omega
                      rw [if_pos h2] at hstep
                      replace hz := Lib.hid hz; replace hB := Lib.hid hB; replace hs10 := Lib.hid hs10; replace hHF := Lib.hid hHF; replace hstep := Lib.hid hstep; replace hO2 := Lib.hid hO2; replace hel := Lib.hid hel; replace hs13 := Lib.hid hs13; replace hno2 := Lib.hid hno2
                      go_wp2_with (at_builtin; refine wpList_append1 rfl (.tmp 102) (.tmp 104) 22 rfl W2.heap.size 23 j3 (.slice none 0 0) 1 24 Try.underlying22 hj3 hj3z hj3s hj3b rfl (by decide) (by decide) a2 k2 c2 (gs2.map Grp.v) rfl (owns_same hO2.out.own (by repeat (first | exact Fr.refl _ _ | apply Fr.alloc | apply Fr.drewN | apply Fr.drew | apply Fr.undrew | apply Fr.undrewN))) (by omega) wr.heap.size [.slice ax z c] rfl rfl (heap_new _ _) (by simp [Value.oneCell']) (by simp; omega) ?_; intro a6 c6 w6 ho6 hG6; replace ho6 := Lib.hid ho6; replace hG6 := Lib.hid hG6)
                      have hv6 : Grp.v ⟨ax, c, hasF L x⟩ = .slice ax z c := by unfold Grp.v; simp [hz.out]
                      have hWs : Same wr (wr.alloc (.cells #[.slice ax z c] 23)) := (by repeat (first | exact Fr.refl _ _ | apply Fr.alloc | apply Fr.drewN | apply Fr.drew | apply Fr.undrew | apply Fr.undrewN))
                      have hG7 := OG.push (g := ⟨ax, c, hasF L x⟩) hO2.out hWs (by rw [hv6]; simp only [hz.out]; exact hel.out.same hWs) (by rw [hv6]; exact ho6.out) hG6.out
                      have hs7 : Same W2 w6 := grew_fresh (hs13.out.same hWs) hG6.out (fun k hk => (hO2.out.own.lt k hk).1)
                      replace hG7 := Lib.hid hG7; replace hs7 := Lib.hid hs7
                      clear ho6 hG6 hv6 hWs
                      go_roundw
                      case rel => exact ⟨x + 1, k2 + 1, c6, a6, _, by go_num, by omega, rfl, hG7.out, by rw [lst, List.map_append, ← lst, hsh.out, hstep.out]; rfl, hno2.out, hs7.out⟩
                      case measure => simp [intOf]; omega
                    · have h2' : ¬ (1 : Int) < z := by omega
                      rw [if_neg h2, List.append_nil] at hstep
                      replace hz := Lib.hid hz; replace hB := Lib.hid hB; replace hs10 := Lib.hid hs10; replace hHF := Lib.hid hHF; replace hstep := Lib.hid hstep; replace hO2 := Lib.hid hO2; replace hel := Lib.hid hel; replace hs13 := Lib.hid hs13; replace hno2 := Lib.hid hno2
                      go_wp2_with fail
                      go_roundw
                      case rel => exact ⟨x + 1, k2, c2, a2, gs2, by go_num, by omega, rfl, hO2.out, by rw [hsh.out, hstep.out], hno2.out, hs13.out⟩
                      case measure => simp [intOf]; omega
            · obtain rfl : x = 32 := by omega
              have hnl : ¬ lim L := fun ⟨y, hy, h⟩ => hno y hy h
              obtain ⟨rfl, hg32, gs3, hG3, hl3⟩ := F3.out hnl
              have hG3 := hG3.same (hs4'.out.same hs9)
              have hOG := hO.gs
              have hk3 := hG3.len
              have hk4 := hOG.len
              have hgk : gk = k2 := by
                have h1 : (lst gs3).length = (lst gs2).length := by rw [hl3, hsh]
                rw [lst_len, lst_len] at h1
                omega
              subst hgk
              have hll : lst gs3 = lst gs2 := by rw [hl3, hsh]
              have hs15 := hs8.out.same hs9
              obtain ⟨W9, rfl⟩ : ∃ W9, W9 = wr := ⟨_, rfl⟩
              replace hO := Lib.hid hO; replace hsh := Lib.hid hsh; replace hno := Lib.hid hno; replace hs9 := Lib.hid hs9; replace hnl := Lib.hid hnl; replace hG3 := Lib.hid hG3; replace hOG := Lib.hid hOG; replace hl3 := Lib.hid hl3; replace hll := Lib.hid hll; replace hs15 := Lib.hid hs15; replace hk3 := Lib.hid hk3; replace hk4 := Lib.hid hk4
              clear F2 F3
              go_wp2_with fail
              go_loopw [14] (fun v14 wr => ∃ q : Nat, v14 = .int .i64 q ∧ q ≤ gk ∧ Same W9 wr) (fun q _ => gk - (intOf q).toNat)
              case atStart => exact ⟨0, rfl, by omega, Fr.refl _ _⟩
              case round =>
                obtain ⟨q, rfl, hq, hs16⟩ := hrel
                by_cases hqk : q < gk
                · have hq3 : q < gs3.length := by rw [hk3.out]; exact hqk
                  have hq4 : q < gs2.length := by rw [hk4.out]; exact hqk
                  obtain ⟨b3, o3, rfl, hb3, d3, hR3⟩ := (hG3.out.same hs16).get hq3
                  obtain ⟨b4, o4, rfl, hb4, d4, hR4⟩ := (hOG.out.same hs16).get hq4
                  have e1 := lst_get gs3 hq3
                  have e2 := lst_get gs2 hq4
                  have e3 : gs3[q].l = gs2[q].l := by
                    rw [← e1, ← e2]; simp only [hll.out]
                  have hlm := row_max hR3
                  have hl41 : gs3[q].l.length ≤ 1000000 := by
                    have hm : gs3[q].l ∈ shK L 32 := by rw [← hl3.out, ← e1]; exact List.getElem_mem _
                    have := shK_short L 32 _ hm
                    rw [hLl.out] at this
                    omega
                  have SM := osame_any gs3[q].l gs2[q].l gs3[q].a gs2[q].a gs3[q].cap gs2[q].cap gs3[q].l.length gs2[q].l.length wr.drew rfl rfl (hR3.same (by repeat (first | exact Fr.refl _ _ | apply Fr.undrew | apply Fr.undrewN | apply Fr.drew | apply Fr.drewN | apply Fr.alloc))) (hR4.same (by repeat (first | exact Fr.refl _ _ | apply Fr.undrew | apply Fr.undrewN | apply Fr.drew | apply Fr.drewN | apply Fr.alloc))) hl41
                  rw [show decide (gs3[q].l = gs2[q].l) = true by simpa using e3] at SM
                  generalize gs3[q] = g3 at *
                  generalize gs2[q] = g4 at *
                  obtain ⟨a3, c3, l3⟩ := g3
                  obtain ⟨a4, c4, l4⟩ := g4
                  simp only at d3 d4 SM
                  generalize l3.length = n3 at *
                  generalize l4.length = n4 at *
                  clear hR3 hR4 e1 e2 e3 hlm hl41
                  replace hs16 := Lib.hid hs16; replace SM := Lib.hid SM
                  go_upto_region 37 with fail
                  refine wp_region_sched (fun k => k = b3 ∨ k = b4) [0, 0, 0, 1, 0, 0, 0, 1, 3, 0] [0, 1, 2, 4, 5, 6, 3, 7, 8, 9] (by kernel_rfl) (by kernel_rfl) ?_
                  repeat (first | (refine sched_w rfl rfl (fun _ hK => ?_); go_simp; refine hK _ ?_; clear hK) | (refine sched_s rfl rfl (fun _ hK => ?_); go_simp; first | (refine hK _ ?_; clear hK) | (refine ⟨_, fun _ => rfl, hK _ ?_⟩; clear hK)))
                  refine sched_l rfl (by decide) (fun _ hK => ?_); go_simp
                  refine SM.out.mono ?_
                  rintro e w17 ⟨rfl, hs17⟩
                  refine hK _ _ ?_; clear hK; try simp only [Act.put, List.setIfInBounds_toArray, List.set_cons_zero, List.set_cons_succ]
                  have hs18 := hs16.out.same ((show Same wr _ from (by repeat (first | exact Fr.refl _ _ | apply Fr.undrew | apply Fr.undrewN | apply Fr.drew | apply Fr.drewN | apply Fr.alloc))).same hs17)
                  replace hs18 := Lib.hid hs18
                  repeat (first | (refine sched_w rfl rfl (fun _ hK => ?_); go_simp; refine hK _ ?_; clear hK) | (refine sched_s rfl rfl (fun _ hK => ?_); go_simp; first | (refine hK _ ?_; clear hK) | (refine ⟨_, fun _ => rfl, hK _ ?_⟩; clear hK)))
                  refine sched_nil (NoPanic.normal ?_)
                  go_wp2_with fail
                  go_roundw
                  case rel => exact ⟨q + 1, by go_num, by omega, hs18.out⟩
                  case measure => simp [intOf]; omega
                · obtain rfl : q = gk := by omega
                  have hs19 := hs15.out.same hs16
                  replace hs16 := Lib.hid hs16; replace hs19 := Lib.hid hs19
                  go_wp2_with fail
                  go_ret
                  exact ⟨rfl, hs19.out⟩
theorem orderingShared_any (gs : List Grp) (a : Option Addr) (cap : Nat) (w : World) (hG : GsAt w (.slice a gs.length cap) gs.length gs) :
    Calls Try.prog 7 #[.slice a gs.length cap] w fun e w' => e = .returned (.bool true) ∧ Same w w' := by
  by_cases h : 10 < gs.length
  · exact shared_far a cap _ w (row_max hG.1) h
  · exact shared_near gs a cap _ w (by omega) hG
end Go.Proofs.Ytmmjijmmocabhaa
