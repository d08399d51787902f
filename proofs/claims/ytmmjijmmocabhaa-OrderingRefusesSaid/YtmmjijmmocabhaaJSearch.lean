/- alphabet.CheckSet and Contains; the library's binary search. The reference's Renamed. -/
import Derived.Test.YtmmjijmmocabhaaJValue
import Derived.Test.YtmmjijmmocabhaaJRowAt
import Derived.Test.YtmmjijmmocabhaaJGrpP
namespace Go.Proofs.Ytmmjijmmocabhaa
open Go.RowKit
set_option linter.unusedVariables false
set_option linter.unusedSimpArgs false

theorem ints_row {w : World} {a : Option Addr} {cap : Nat} {l : List Int} (h : RowAt w (.slice a l.length cap) l.length (intCells l)) (hn : 0 < l.length) :
    ∃ b off, a = some ⟨b, off, none⟩ ∧ b < w.heap.size ∧ ∀ j, j < l.length → w.cell? ⟨b, off + j, none⟩ = some (.int .i64 (toF l j)) := by
  obtain ⟨b, off, ha, hb, hc⟩ := h.cell hn
  refine ⟨b, off, ha, hb, fun j hj => hc j _ ?_⟩
  rw [intCells_get l j hj]
  rfl

theorem bools_row {w : World} {a : Option Addr} {cap : Nat} {l : List Bool} (h : RowAt w (.slice a l.length cap) l.length (boolCells l)) (hn : 0 < l.length) :
    ∃ b off, a = some ⟨b, off, none⟩ ∧ b < w.heap.size ∧ ∀ j, j < l.length → w.cell? ⟨b, off + j, none⟩ = some (.bool (l.getD j false)) := by
  obtain ⟨b, off, ha, hb, hc⟩ := h.cell hn
  refine ⟨b, off, ha, hb, fun j hj => hc j _ ?_⟩
  simp [boolCells, List.getD, hj]

end Go.Proofs.Ytmmjijmmocabhaa
namespace Go.Proofs.Ytmmjijmmocabhaa
open Go.RowKit
set_option linter.unusedVariables false
set_option linter.unusedSimpArgs false

theorem renErr_at (m : Int) (qs : List Int) (k : Nat) (h : k < qs.length) : renErr m qs (qs.length - k) k = if toF qs k < 0 ∨ m ≤ toF qs k then 2 else if 0 < k ∧ toF qs k ≤ toF qs (k - 1) then 5 else renErr m qs (qs.length - (k + 1)) (k + 1) := by
  have e : qs.length - k = (qs.length - (k + 1)) + 1 := by omega
  rw [e, renErr]

set_option maxRecDepth 100000 in
set_option maxHeartbeats 2000000 in
theorem checkSet_any (n : Int) (qs : List Int) (aQ : Option Addr) (capQ : Nat) (w : World) (hl7 : qs.length ≤ 1000) (hQ : RowAt w (.slice aQ qs.length capQ) qs.length (intCells qs)) :
    Calls Try.prog 38 #[.slice aQ qs.length capQ, .int .i64 n] w fun e w' => e = .returned (.int .i64 (renErr n qs qs.length 0)) ∧ w = w' := by
  obtain ⟨E, hE⟩ : ∃ E, E = renErr n qs qs.length 0 := ⟨_, rfl⟩
  rw [← hE]
  obtain ⟨q, hq⟩ : ∃ q, q = qs.length := ⟨_, rfl⟩
  have hql : q ≤ 1000 := by omega
  rw [← hq] at hQ hE ⊢
  replace hQ := Lib.hid hQ; replace hE := Lib.hid hE; replace hq := Lib.hid hq
  go_enter Try.func38, Try.ntmps38
  go_wp2_with fail
  go_loopw [9] (fun i wr => ∃ k : Nat, i = .int .i64 k ∧ k ≤ q ∧ renErr n qs (q - k) k = E ∧ w = wr) (fun i _ => q - (intOf i).toNat)
  case atStart => exact ⟨0, rfl, by omega, hE.out.symm, rfl⟩
  case round =>
    obtain ⟨k, rfl, hk, hrE, rfl⟩ := hrel
    by_cases hlt : k < q
    · rw [hq.out, renErr_at n qs k (by rw [← hq.out]; exact hlt), ← hq.out] at hrE
      obtain ⟨bq, oq, rfl, hbq, hcq⟩ := ints_row (l := qs) (by rw [← hq.out]; exact hQ.out) (by rw [← hq.out]; omega)
      have ck := hcq k (by rw [← hq.out]; exact hlt)
      have cp : 0 < k → w.cell? ⟨bq, oq + (k - 1), none⟩ = some (.int .i64 (toF qs (k - 1))) := fun h => hcq (k - 1) (by rw [← hq.out]; omega)
      clear hcq
      obtain ⟨v, hv'⟩ : ∃ v, v = toF qs k := ⟨_, rfl⟩
      rw [← hv'] at hrE ck
      replace hv' := Lib.hid hv'
      by_cases c1 : v < 0 ∨ n ≤ v
      · rw [if_pos c1] at hrE
        subst hrE
        clear cp
        by_cases c2 : v < 0
        · clear c1
          go_wp2_with fail
          go_ret
          exact ⟨rfl, rfl⟩
        · have c3 : n ≤ v := by omega
          clear c1
          go_wp2_with fail
          go_ret
          exact ⟨rfl, rfl⟩
      · rw [if_neg c1] at hrE
        have c2 : 0 ≤ v := by omega
        have c3 : v < n := by omega
        clear c1
        by_cases c4 : 0 < k
        · have cp' := cp c4
          obtain ⟨k', rfl⟩ : ∃ k', k = k' + 1 := ⟨k - 1, by omega⟩
          rw [Nat.add_sub_cancel] at cp'
          obtain ⟨u, hu⟩ : ∃ u, u = toF qs k' := ⟨_, rfl⟩
          simp only [Nat.add_sub_cancel] at hrE
          rw [← hu] at hrE cp'
          have hkk : 0 < k' + 1 := c4
          have hkk2 : ((k' : Int) + 1 - 1) = (k' : Int) := by omega
          clear cp
          replace hu := Lib.hid hu
          by_cases c5 : v ≤ u
          · rw [if_pos ⟨c4, c5⟩] at hrE
            subst hrE
            go_wp2_with fail
            go_ret
            exact ⟨rfl, rfl⟩
          · rw [if_neg (fun h => c5 h.2)] at hrE
            have c6 : u < v := by omega
            clear c5
            replace hrE := Lib.hid hrE
            go_wp2_with fail
            go_roundw
            case rel => exact ⟨k' + 1 + 1, by go_num, by omega, hrE.out, (by first | rfl | trivial)⟩
            case measure => simp [intOf]; omega
        · rw [if_neg (fun h => c4 h.1)] at hrE
          have c7 : k = 0 := by omega
          replace c7 := Lib.hid c7
          clear cp
          replace hrE := Lib.hid hrE
          go_wp2_with fail
          go_roundw
          case rel => exact ⟨k + 1, by go_num, by omega, hrE.out, (by first | rfl | trivial)⟩
          case measure => simp [intOf]; omega
    · have hkq : k = q := by omega
      subst hkq
      rw [Nat.sub_self, renErr] at hrE
      subst hrE
      go_wp2_with fail
      go_ret
      exact ⟨rfl, rfl⟩

theorem toF_mem (qs : List Int) (x : Int) : x ∈ qs ↔ ∃ t, t < qs.length ∧ toF qs t = x := by
  constructor
  · intro h
    obtain ⟨i, hi, he⟩ := List.mem_iff_getElem.1 h
    exact ⟨i, hi, by simp [toF, List.getD, hi, he]⟩
  · rintro ⟨t, ht, rfl⟩
    have : toF qs t = qs[t] := by simp [toF, List.getD, ht]
    rw [this]
    exact List.getElem_mem ht

end Go.Proofs.Ytmmjijmmocabhaa
