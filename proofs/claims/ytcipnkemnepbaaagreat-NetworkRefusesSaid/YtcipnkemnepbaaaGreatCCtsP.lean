/-  -/
import Derived.Test.YtcipnkemnepbaaaGreatCAll
import Derived.Test.YtcipnkemnepbaaaGreatCChgP
import Derived.Lib.SlicesCompact
set_option linter.unusedVariables false
set_option linter.unusedSimpArgs false
namespace Go.Proofs.YtcipnkemnepbaaaGreat
def rowB (n i : Nat) : List Bool := (List.range n).map (bitF n i)
theorem rowB_length (n i : Nat) : (rowB n i).length = n := by simp [rowB]
theorem bitF_low {d i : Nat} (u : Nat) : bitF (d + 1) i (u + 1) = bitF d i u := by
 unfold bitF
 have e : d + 1 - 1 - (u + 1) = d - 1 - u := by omega
 rw [e]
theorem bitF_zero {d i : Nat} (h : i < 2 ^ d) : bitF (d + 1) i 0 = false := by
 unfold bitF
 have e : d + 1 - 1 - 0 = d := by omega
 rw [e, Nat.div_eq_of_lt h]
 rfl
theorem bitF_one {d i : Nat} (h : i < 2 ^ d) : bitF (d + 1) (2 ^ d + i) 0 = true := by
 unfold bitF
 have e : d + 1 - 1 - 0 = d := by omega
 have hp := Nat.two_pow_pos d
 rw [e, Nat.add_div_left _ hp, Nat.div_eq_of_lt h]
 rfl
theorem bitF_up {d i u : Nat} (hu : u < d) : bitF d (2 ^ d + i) u = bitF d i u := by
 unfold bitF
 have hp := Nat.two_pow_pos (d - 1 - u)
 have e : 2 ^ d = 2 ^ (d - 1 - u) * (2 * 2 ^ u) := by
  rw [← Nat.pow_succ', ← Nat.pow_add]
  congr 1
  omega
 rw [e, Nat.mul_add_div hp, Nat.add_comm, Nat.add_mul_mod_self_left]
theorem rowB_low {d i : Nat} (h : i < 2 ^ d) : rowB (d + 1) i = false :: rowB d i := by
 unfold rowB
 rw [List.range_succ_eq_map, List.map_cons, bitF_zero h, List.map_map]
 congr 1
 refine List.map_congr_left (fun u hu => ?_)
 simp only [Function.comp, Nat.succ_eq_add_one]
 exact bitF_low u
theorem rowB_high {d i : Nat} (h : i < 2 ^ d) : rowB (d + 1) (2 ^ d + i) = true :: rowB d i := by
 unfold rowB
 rw [List.range_succ_eq_map, List.map_cons, bitF_one h, List.map_map]
 congr 1
 refine List.map_congr_left (fun u hu => ?_)
 simp only [Function.comp, Nat.succ_eq_add_one]
 rw [bitF_low u, bitF_up (List.mem_range.1 hu)]
def truesF (t : List Bool) (m : Nat) : List Nat := (List.range m).filter fun i => t.getD i false
theorem truesF_append {a b : List Bool} {m : Nat} (ha : a.length = m) (hb : b.length = m) : truesF (a ++ b) (m + m) = truesF a m ++ (truesF b m).map (m + ·) := by
 unfold truesF
 rw [List.range_add, List.filter_append, List.filter_map]
 congr 1
 · refine List.filter_congr (fun i hi => ?_)
   have := List.mem_range.1 hi
   simp only [List.getD_eq_getElem?_getD]
   rw [List.getElem?_append_left (by omega)]
 · congr 1
   refine List.filter_congr (fun i hi => ?_)
   simp only [Function.comp, List.getD_eq_getElem?_getD]
   rw [List.getElem?_append_right (by omega)]
   congr 2
   omega
theorem truesF_zero (m : Nat) : truesF (List.replicate m false) m = [] := by
 unfold truesF
 refine List.filter_eq_nil_iff.2 (fun i hi => ?_)
 simp [List.getD, List.mem_range.1 hi]
theorem rowsL_trues {N : List Nd} {n : Nat} (hN : Ord N n) : ∀ (d v : Nat) (k : Int) (bg : List Bool), v + d = n → VNum N k → (v : Int) ≤ topF N k →
 rowsL N d v k bg = (truesF (tab N d v k) (2 ^ d)).map fun i => bg ++ rowB d i := by
 intro d
 have n40 := hN.n40
 induction d with
 | zero =>
  intro v k bg hv hk tk
  rcases hN.const hk (by omega) with rfl | rfl
  · rfl
  · simp [rowsL, truesF, tab, rowB, List.range_one]
 | succ d ih =>
  intro v k bg hv hk tk
  have cv : ((v : Int) + 1) = ((v + 1 : Nat) : Int) := by omega
  by_cases h0 : k = 0
  · subst h0
    rw [rowsL, if_pos rfl, tab_zero _ _ _ (by omega), truesF_zero]
    rfl
  · have p0 := hN.part false hk tk (by omega)
    have p1 := hN.part true hk tk (by omega)
    have e2 : 2 ^ (d + 1) = 2 ^ d + 2 ^ d := by omega
    rw [rowsL, if_neg h0, ih (v + 1) _ _ (by omega) p0.1 (by have := p0.2; omega), ih (v + 1) _ _ (by omega) p1.1 (by have := p1.2; omega), tab, e2, truesF_append (tab_length _ _ _ _) (tab_length _ _ _ _), cv, List.map_append, List.map_map]
    congr 1
    · refine List.map_congr_left (fun i hi => ?_)
      have hi' : i < 2 ^ d := by unfold truesF at hi; exact List.mem_range.1 (List.mem_filter.1 hi).1
      rw [rowB_low hi', List.append_assoc]; rfl
    · refine List.map_congr_left (fun i hi => ?_)
      have hi' : i < 2 ^ d := by unfold truesF at hi; exact List.mem_range.1 (List.mem_filter.1 hi).1
      simp only [Function.comp]
      rw [rowB_high hi', List.append_assoc]; rfl
theorem rowsL_all {n : Nat} {t : List Bool} {L : List Nd} {r : Int} (T : IsTab n t L r) : rowsL L n 0 r [] = (truesF t (2 ^ n)).map (rowB n) := by
 obtain ⟨ho, hv, ht⟩ := T.ord
 have h := rowsL_trues ho n 0 r [] (by omega) hv (topF_range ho.val hv).1
 have e0 : ((0 : Nat) : Int) = 0 := rfl
 rw [e0, ht] at h
 rw [h]
 rfl
end Go.Proofs.YtcipnkemnepbaaaGreat
