/-  -/
import Derived.Test.YtcipnkemnepbaaaGreatSRowL
set_option maxRecDepth 100000
set_option maxHeartbeats 1000000
set_option linter.unusedVariables false
set_option linter.unusedSimpArgs false
namespace Go.Proofs.YtcipnkemnepbaaaGreat
open Go.RowKit
theorem RowAt.bool3 {w : World} {a : Option Addr} {q cap : Nat} {l : List Bool} (h : RowAt w (.slice a q cap) q (gz l)) {k : Nat} (hk : k < l.length) (hq : l.length = q) :
 ∃ b off, a = some ⟨b, off, none⟩ ∧ b < w.heap.size ∧ w.cell? ⟨b, off + k, none⟩ = some (.bool l[k]) := by
 obtain ⟨b, off, h1, h2, h3⟩ := h.cell (by omega)
 exact ⟨b, off, h1, h2, h3 _ _ (boolCells_get l k hk)⟩
theorem equalI_any (l l' : List Int) (a a' : Option Addr) (q q' cap cap' : Nat) (w : World) (hq : l.length = q) (hq' : l'.length = q') (h : RowAt w (.slice a q cap) q (gw l)) (h' : RowAt w (.slice a' q' cap') q' (gw l')) (hl : q ≤ 100000) :
 Calls Tryz.prog 13 #[.slice a q cap, .slice a' q' cap'] w fun e w' => e = .returned (.bool (decide (l = l'))) ∧ Same w w' := by
 obtain ⟨R, hR⟩ : ∃ R : Bool, R = decide (l = l') := ⟨_, rfl⟩
 rw [← hR]
 by_cases hlen : q = q'
 · subst hlen
   have hL : l.length = q := hq
   have hL' : l'.length = q := hq'
   clear hq hq'
   replace hL := gi hL; replace hL' := gi hL'; replace hR := gi hR; replace h := gi h; replace h' := gi h'
   go_enter Tryz.func13, Tryz.ntmps13
   go_wp2_with fail
   go_loopw [5, 13] (fun _ i wr => ∃ k : Nat, i = .int .i64 k ∧ k ≤ q ∧ (∀ (j : Nat), j < k → l[j]? = l'[j]?) ∧ Same w wr) (fun _ i _ => q - (intOf i).toNat)
   case atStart => exact ⟨0, rfl, by omega, fun _ h => by omega, Fr.refl _ _⟩
   case round =>
    obtain ⟨k, rfl, hk, hf, hs⟩ := hrel
    by_cases hlt : k < q
    · have hkl : k < l.length := by rw [hL.out]; exact hlt
      have hkl' : k < l'.length := by rw [hL'.out]; exact hlt
      obtain ⟨bb, off, rfl, hbl, z0⟩ := (h.out.same hs).int (by rw [hL.out]) hlt
      obtain ⟨bb', off', rfl, hbl', z0'⟩ := (h'.out.same hs).int (by rw [hL'.out]) hlt
      have hx : l[k]? = some l[k] := List.getElem?_eq_getElem hkl
      have hx' : l'[k]? = some l'[k] := List.getElem?_eq_getElem hkl'
      generalize l[k] = x at *
      generalize l'[k] = y at *
      clear hkl hkl'
      by_cases he : x = y
      · have hpe : (x == y) = true := by simpa using he
        replace hf := gi hf; replace hs := gi hs; replace hx := gi hx; replace hx' := gi hx'; replace he := gi he
        go_upto_region 6 with fail
        refine wp_region_sched (fun k => k = bb ∨ k = bb') [0, 0, 0, 1, 0, 0, 0, 1, 0] [0, 1, 2, 4, 5, 6, 3, 7, 8] (by kernel_rfl) (by kernel_rfl) ?_
        repeat ((first | refine sched_w rfl rfl fun _ k => ?_ | refine sched_s rfl rfl fun _ k => ?_); go_simp; (first | refine k _ ?_ | refine ⟨_, fun _ => rfl, k _ ?_⟩); clear k)
        refine sched_nil (NoPanic.normal ?_)
        go_wp2_with fail
        go_roundw
        case rel =>
         refine ⟨k + 1, by go_num, by omega, fun j hj => ?_, hs.out.same fs2⟩
         by_cases hjk : j < k
         · exact hf.out j hjk
         · obtain rfl : j = k := by omega
           rw [hx.out, hx'.out, he.out]
        case measure => simp [intOf]; omega
      · have hpe : (x == y) = false := by simpa using he
        replace hf := gi hf; replace hs := gi hs; replace hx := gi hx; replace hx' := gi hx'; replace he := gi he
        go_upto_region 6 with fail
        refine wp_region_sched (fun k => k = bb ∨ k = bb') [0, 0, 0, 1, 0, 0, 0, 1, 0] [0, 1, 2, 4, 5, 6, 3, 7, 8] (by kernel_rfl) (by kernel_rfl) ?_
        repeat ((first | refine sched_w rfl rfl fun _ k => ?_ | refine sched_s rfl rfl fun _ k => ?_); go_simp; (first | refine k _ ?_ | refine ⟨_, fun _ => rfl, k _ ?_⟩); clear k)
        refine sched_nil (NoPanic.normal ?_)
        go_wp2_with fail
        go_ret
        refine ⟨?_, hs.out.same fs2⟩
        have : ¬ l = l' := fun e => he.out (by subst e; have := hx.out.symm.trans hx'.out; simpa using this)
        rw [hR.out, decide_eq_false this]; rfl
    · obtain rfl : k = q := by omega
      replace hf := gi hf; replace hs := gi hs
      go_wp2_with fail
      go_ret
      refine ⟨?_, hs.out.same fs2⟩
      have : l = l' := by
       apply List.ext_getElem?
       intro j
       by_cases hj : j < k
       · exact hf.out j hj
       · rw [List.getElem?_eq_none (by have := hL.out; omega), List.getElem?_eq_none (by have := hL'.out; omega)]
      rw [hR.out, decide_eq_true this]; rfl
 · have hne : ¬ l = l' := fun e => hlen (by rw [← hq, ← hq', e])
   rw [decide_eq_false hne] at hR
   obtain rfl := hR
   have hb : (q : Int) ≠ q' := by omega
   replace h := gi h; replace h' := gi h'; replace hne := gi hne; replace hlen := gi hlen; replace hq := gi hq; replace hq' := gi hq'
   go_enter Tryz.func13, Tryz.ntmps13
   go_wp2_with fail
   go_ret
   exact ⟨rfl, Fr.refl _ _⟩
theorem equalB_any (l l' : List Bool) (a a' : Option Addr) (q q' cap cap' : Nat) (w : World) (hq : l.length = q) (hq' : l'.length = q') (h : RowAt w (.slice a q cap) q (gz l)) (h' : RowAt w (.slice a' q' cap') q' (gz l')) (hl : q ≤ 100000) :
 Calls Tryz.prog 35 #[.slice a q cap, .slice a' q' cap'] w fun e w' => e = .returned (.bool (decide (l = l'))) ∧ Same w w' := by
 obtain ⟨R, hR⟩ : ∃ R : Bool, R = decide (l = l') := ⟨_, rfl⟩
 rw [← hR]
 by_cases hlen : q = q'
 · subst hlen
   have hL : l.length = q := hq
   have hL' : l'.length = q := hq'
   clear hq hq'
   replace hL := gi hL; replace hL' := gi hL'; replace hR := gi hR; replace h := gi h; replace h' := gi h'
   go_enter Tryz.func35, Tryz.ntmps35
   go_wp2_with fail
   go_loopw [5, 13] (fun _ i wr => ∃ k : Nat, i = .int .i64 k ∧ k ≤ q ∧ (∀ (j : Nat), j < k → l[j]? = l'[j]?) ∧ Same w wr) (fun _ i _ => q - (intOf i).toNat)
   case atStart => exact ⟨0, rfl, by omega, fun _ h => by omega, Fr.refl _ _⟩
   case round =>
    obtain ⟨k, rfl, hk, hf, hs⟩ := hrel
    by_cases hlt : k < q
    · have hkl : k < l.length := by rw [hL.out]; exact hlt
      have hkl' : k < l'.length := by rw [hL'.out]; exact hlt
      obtain ⟨bb, off, rfl, hbl, z0⟩ := (h.out.same hs).bool3 hkl hL.out
      obtain ⟨bb', off', rfl, hbl', z0'⟩ := (h'.out.same hs).bool3 hkl' hL'.out
      have hx : l[k]? = some l[k] := List.getElem?_eq_getElem hkl
      have hx' : l'[k]? = some l'[k] := List.getElem?_eq_getElem hkl'
      generalize l[k] = x at *
      generalize l'[k] = y at *
      clear hkl hkl'
      by_cases he : x = y
      · have hpe : (x == y) = true := by simpa using he
        replace hf := gi hf; replace hs := gi hs; replace hx := gi hx; replace hx' := gi hx'; replace he := gi he
        go_upto_region 6 with fail
        refine wp_region_sched (fun k => k = bb ∨ k = bb') [0, 0, 0, 1, 0, 0, 0, 1, 0] [0, 1, 2, 4, 5, 6, 3, 7, 8] (by kernel_rfl) (by kernel_rfl) ?_
        repeat ((first | refine sched_w rfl rfl fun _ k => ?_ | refine sched_s rfl rfl fun _ k => ?_); go_simp; (first | refine k _ ?_ | refine ⟨_, fun _ => rfl, k _ ?_⟩); clear k)
        refine sched_nil (NoPanic.normal ?_)
        go_wp2_with fail
        go_roundw
        case rel =>
         refine ⟨k + 1, by go_num, by omega, fun j hj => ?_, hs.out.same fs2⟩
         by_cases hjk : j < k
         · exact hf.out j hjk
         · obtain rfl : j = k := by omega
           rw [hx.out, hx'.out, he.out]
        case measure => simp [intOf]; omega
      · have hpe : (x == y) = false := by simpa using he
        replace hf := gi hf; replace hs := gi hs; replace hx := gi hx; replace hx' := gi hx'; replace he := gi he
        go_upto_region 6 with fail
        refine wp_region_sched (fun k => k = bb ∨ k = bb') [0, 0, 0, 1, 0, 0, 0, 1, 0] [0, 1, 2, 4, 5, 6, 3, 7, 8] (by kernel_rfl) (by kernel_rfl) ?_
        repeat ((first | refine sched_w rfl rfl fun _ k => ?_ | refine sched_s rfl rfl fun _ k => ?_); go_simp; (first | refine k _ ?_ | refine ⟨_, fun _ => rfl, k _ ?_⟩); clear k)
        refine sched_nil (NoPanic.normal ?_)
        go_wp2_with fail
        go_ret
        refine ⟨?_, hs.out.same fs2⟩
        have : ¬ l = l' := fun e => he.out (by subst e; have := hx.out.symm.trans hx'.out; simpa using this)
        rw [hR.out, decide_eq_false this]; rfl
    · obtain rfl : k = q := by omega
      replace hf := gi hf; replace hs := gi hs
      go_wp2_with fail
      go_ret
      refine ⟨?_, hs.out.same fs2⟩
      have : l = l' := by
       apply List.ext_getElem?
       intro j
       by_cases hj : j < k
       · exact hf.out j hj
       · rw [List.getElem?_eq_none (by have := hL.out; omega), List.getElem?_eq_none (by have := hL'.out; omega)]
      rw [hR.out, decide_eq_true this]; rfl
 · have hne : ¬ l = l' := fun e => hlen (by rw [← hq, ← hq', e])
   rw [decide_eq_false hne] at hR
   obtain rfl := hR
   have hb : (q : Int) ≠ q' := by omega
   replace h := gi h; replace h' := gi h'; replace hne := gi hne; replace hlen := gi hlen; replace hq := gi hq; replace hq' := gi hq'
   go_enter Tryz.func35, Tryz.ntmps35
   go_wp2_with fail
   go_ret
   exact ⟨rfl, Fr.refl _ _⟩
end Go.Proofs.YtcipnkemnepbaaaGreat
