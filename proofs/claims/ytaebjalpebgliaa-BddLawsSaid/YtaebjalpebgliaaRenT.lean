/- The table of a renamed function, as the reference lays it, is that of the renamed diagram. -/
import Derived.Test.YtaebjalpebgliaaRenP
namespace Go.Proofs.Ytaebjalpebgliaa
set_option linter.unusedVariables false

/-- One more variable at the end. -/
theorem placeF_snoc (ρ : Nat → Bool) : ∀ (d v : Nat), placeF ρ (d + 1) v = 2 * placeF ρ d v + if ρ (v + d) then 1 else 0 := by
  intro d
  induction d with
  | zero => intro v; simp [placeF]
  | succ d ih =>
    intro v
    rw [placeF, ih (v + 1), placeF]
    have e : v + 1 + d = v + (d + 1) := by omega
    rw [e, Nat.pow_succ]
    split <;> omega

/-- The place in the old table of a place in the new one, by the first d variables. -/
def fromF (f : Nat → Int) (m i d : Nat) : Nat := placeF (fun v => bitF m i (f v).toNat) d 0

theorem fromF_succ (f : Nat → Int) (m i d : Nat) : fromF f m i (d + 1) = 2 * fromF f m i d + if bitF m i (f d).toNat then 1 else 0 := by
  unfold fromF
  rw [placeF_snoc, Nat.zero_add]

theorem fromF_lt (f : Nat → Int) (m i d : Nat) : fromF f m i d < 2 ^ d := placeF_lt _ _ _

def renT (f : Nat → Int) (n m : Nat) (t : List Bool) : List Bool := (List.range (2 ^ m)).map fun i => t.getD (fromF f m i n) false

theorem renT_length (f : Nat → Int) (n m : Nat) (t : List Bool) : (renT f n m t).length = 2 ^ m := by simp [renT]

theorem tab_ren {f : Nat → Int} {n m : Nat} {t : List Bool} {L : List Nd} {r : Int} (h : IsTab n t L r) (hu : Up f n m) (hm : m ≤ 40) : tab (renN f L) m 0 r = renT f n m t := by
  obtain ⟨ho, hv, ht⟩ := h.ord
  have ho' := ren_ord ho hu (by omega)
  have hv' := renN_num (f := f) hv
  refine List.ext_getElem (by rw [tab_length, renT_length]) (fun i h1 h2 => ?_)
  rw [tab_length] at h1
  have e1 := tab_bit ho' hv' h1
  rw [ren_ev (n := 0) ho.val ho'.val _ r.toNat r hv (Nat.le_refl _)] at e1
  have e2 := tab_ev ho (fun v => bitF m i (f v).toNat) n 0 r (by omega) hv (topF_range ho.val hv).1
  have : ((0 : Nat) : Int) = 0 := rfl
  rw [this, ht] at e2
  simp only [List.getD_eq_getElem?_getD] at e1
  rw [List.getElem?_eq_getElem (by rw [tab_length]; exact h1), Option.getD_some] at e1
  rw [e1, ← e2]
  simp [renT, fromF]

theorem ren_tab {f : Nat → Int} {n m : Nat} {t : List Bool} {L : List Nd} {r : Int} (h : IsTab n t L r) (hu : Up f n m) (hm : m ≤ 40) : IsTab m (renT f n m t) (renN f L) r := by
  have := ren_isTab h hu hm
  rwa [tab_ren h hu hm] at this

/-! ### the first error of a list of variables -/
def toF (qs : List Int) (i : Nat) : Int := qs.getD i 0

def renErr (m : Int) (qs : List Int) : Nat → Nat → Int
  | 0, _ => 0
  | k + 1, i => if toF qs i < 0 ∨ m ≤ toF qs i then 2 else if 0 < i ∧ toF qs i ≤ toF qs (i - 1) then 5 else renErr m qs k (i + 1)

def renW (n m : Int) (qs : List Int) : Int := if m < 0 ∨ 40 < m then 2 else if (qs.length : Int) ≠ n then 4 else renErr m qs qs.length 0

theorem renErr_up {m : Int} {qs : List Int} : ∀ (k i : Nat), renErr m qs k i = 0 → (∀ j, i ≤ j → j < i + k → 0 ≤ toF qs j ∧ toF qs j < m ∧ (0 < j → toF qs (j - 1) < toF qs j)) := by
  intro k
  induction k with
  | zero => intro i _ j h1 h2; omega
  | succ k ih =>
    intro i h j h1 h2
    simp only [renErr] at h
    split at h
    · omega
    · split at h
      · omega
      · rcases Nat.lt_or_eq_of_le h1 with hlt | rfl
        · exact ih (i + 1) h j (by omega) (by omega)
        · exact ⟨by omega, by omega, fun h0 => by omega⟩

theorem up_of {n m : Nat} {qs : List Int} (h : renErr m qs qs.length 0 = 0) (hl : qs.length = n) : Up (toF qs) n m := by
  have H := renErr_up qs.length 0 h
  refine ⟨fun i hi => ⟨(H i (by omega) (by omega)).1, (H i (by omega) (by omega)).2.1⟩, ?_⟩
  intro i j hij hj
  induction j with
  | zero => omega
  | succ j ih =>
    have h1 := (H (j + 1) (by omega) (by omega)).2.2 (by omega)
    rw [Nat.add_sub_cancel] at h1
    rcases Nat.lt_or_eq_of_le (Nat.lt_succ_iff.1 hij) with hlt | rfl
    · have := ih hlt (by omega); omega
    · exact h1
end Go.Proofs.Ytaebjalpebgliaa
