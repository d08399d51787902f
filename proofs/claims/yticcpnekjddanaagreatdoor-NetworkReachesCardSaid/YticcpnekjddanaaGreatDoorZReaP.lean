/-  -/
import Derived.Test.YticcpnekjddanaaGreatDoorZMkM
import Derived.Laws.MakeOwn
import Derived.Test.YticcpnekjddanaaGreatDoorZSortI
import Derived.Test.YticcpnekjddanaaGreatDoorZRowL
set_option linter.unusedVariables false
set_option linter.unusedSimpArgs false
namespace Go.Proofs.YticcpnekjddanaaGreatDoor
open Go.RowKit
theorem qlT {m : Int} {qs : List Int} (h : qaw m qs qs.length 0 = 0) : qs.Pairwise (· < ·) := by
 have step : ∀ j, j + 1 < qs.length → toF qs j < toF qs (j + 1) := fun j hj => by
  have := (qbT qs.length 0 h (j + 1) (by omega) (by omega)).2.2 (by omega)
  simpa using this
 have all : ∀ d i, i + d + 1 < qs.length → toF qs i < toF qs (i + d + 1) := by
  intro d
  induction d with
  | zero => intro i hi; exact step i hi
  | succ d ih => intro i hi; exact Int.lt_trans (ih i (by omega)) (step (i + d + 1) hi)
 rw [List.pairwise_iff_getElem]
 intro i j hi hj hij
 have := all (j - i - 1) i (by omega)
 rw [show i + (j - i - 1) + 1 = j by omega] at this
 unfold toF at this
 simpa [List.getD, hi, hj] using this
theorem qlS.ok {al : List Int} {g : List Nat} {C : Au} (h : qlS al g C) (hal : qaw 32 al al.length 0 = 0) : qbC C = 0 := by
 have hF := qgd (al := al) (qj2 al (mkN g) (gT g) (mkN g))
 refine qc1.err ⟨by rw [h.hal]; exact hal, ?_, ?_, ?_, ?_⟩
 · rw [h.hn]; split <;> omega
 · have := qj3 al g
   rw [h.hn]; split <;> omega
 · rw [h.hma, h.hn]
   by_cases c : 250 ≤ gS g
   · rw [if_pos c, if_pos c]; rfl
   · rw [if_neg c, if_neg c]
     exact fil_err _ _
 · rw [h.hes, h.hn, h.hal]
   by_cases c : 250 ≤ gS g
   · rw [if_pos c, if_pos c]; rfl
   · rw [if_neg c, if_neg c]
     exact edgC_ok (qlT hal) hF.2
theorem qlS.n5 {al : List Int} {g : List Nat} {C : Au} (h : qlS al g C) : ∃ n : Nat, C.n = n ∧ n ≤ 5 := by
 by_cases c : 250 ≤ gS g
 · exact ⟨0, by rw [h.hn, if_pos c]; rfl, by omega⟩
 · exact ⟨(mkF al g).length, by rw [h.hn, if_neg c], qj3 al g⟩
theorem qlS.small {al : List Int} {g : List Nat} {C : Au} (h : qlS al g C) (hal : al.length ≤ 5) : C.small ∧ C.es.length ≤ 25 := by
 have hF := qj3 al g
 have hE : C.es.length ≤ 25 := by
  rw [h.hes]
  by_cases c : 250 ≤ gS g
  · rw [if_pos c]; simp
  · rw [if_neg c]
    refine Nat.le_trans (qhF _ _ _ _) ?_
    exact Nat.mul_le_mul hF hal
 refine ⟨⟨by rw [h.hal]; omega, ?_, by omega⟩, hE⟩
 rw [h.hma]
 by_cases c : 250 ≤ gS g
 · rw [if_pos c]; simp
 · rw [if_neg c, qaG]
   exact Nat.le_trans (qdB _ _) (by omega)
end Go.Proofs.YticcpnekjddanaaGreatDoor
