/- Check, plain: what it answers; what add makes of valid nodes is valid. -/
import Derived.Test.YtaebjalpebgliaaCheckN
import Derived.Test.YtaebjalpebgliaaEqual
namespace Go.Proofs.Ytaebjalpebgliaa
set_option linter.unusedVariables false
set_option linter.unusedSimpArgs false

theorem VNd.laid {N : List Nd} (h : VNd N) : Laid N := fun i x hx => ⟨(h i x hx).2.2.1, (h i x hx).2.2.2.1, (h i x hx).2.2.2.2.1, (h i x hx).2.2.2.2.2⟩

theorem addF_valid : ∀ (L : List Nd) (s : List Nd × List Int), VNd s.1 → (∀ x ∈ s.2, VNum s.1 x) →
    (∀ (i : Nat) (x : Nd), L[i]? = some x → (0 ≤ x.1 ∧ x.1 < 40) ∧ 0 ≤ x.2.1 ∧ x.2.1 < (i : Int) + s.2.length ∧ 0 ≤ x.2.2 ∧ x.2.2 < (i : Int) + s.2.length) →
    VNd (addF L s).1 ∧ ∀ x ∈ (addF L s).2, VNum (addF L s).1 x
  | [], s, h1, h2, _ => ⟨h1, h2⟩
  | x :: L, s, h1, h2, h3 => by
    have h0 := h3 0 x rfl
    have g1 : VNum s.1 (s.2[x.2.1.toNat]?.getD 0) := by
      have hlt : x.2.1.toNat < s.2.length := by omega
      rw [List.getElem?_eq_getElem hlt]
      exact h2 _ (List.getElem_mem _)
    have g2 : VNum s.1 (s.2[x.2.2.toNat]?.getD 0) := by
      have hlt : x.2.2.toNat < s.2.length := by omega
      rw [List.getElem?_eq_getElem hlt]
      exact h2 _ (List.getElem_mem _)
    obtain ⟨v1, v2⟩ := numF_valid h1 h0.1 g1 g2
    have hg := (numF_grows s.1 (x.1, s.2[x.2.1.toNat]?.getD 0, s.2[x.2.2.toNat]?.getD 0)).1
    unfold addF
    refine addF_valid L _ v1 (fun y hy => ?_) (fun i y hy => ?_)
    · rcases List.mem_append.1 hy with h | h
      · exact (h2 y h).mono hg
      · rw [List.mem_singleton.1 h]; exact v2
    · have := h3 (i + 1) y (by simpa using hy)
      simp only [List.length_append, List.length_singleton]
      push_cast at this ⊢
      omega

/-- The first error among m nodes from index i on. -/
def firstErr (n : Int) (L : List Nd) : Nat → Nat → Int
  | 0, _ => 0
  | m + 1, i => if checkNodeF n L i (L.getD i (0, 0, 0)) (decide (L.getD i (0, 0, 0) ∈ L.take i)) ≠ 0 then checkNodeF n L i (L.getD i (0, 0, 0)) (decide (L.getD i (0, 0, 0) ∈ L.take i)) else firstErr n L m (i + 1)

/-- What Check answers; O and q: what the nodes become when they are added to an empty builder and finished. -/
def checkF (n : Int) (L : List Nd) (r : Int) (O : List Nd) (q : Int) : Int :=
  if n < 0 ∨ 40 < n then 2 else if 16384 < L.length then 3 else if firstErr n L L.length 0 ≠ 0 then firstErr n L L.length 0
  else if r < 0 ∨ (L.length : Int) + 1 < r then 2 else if r = q ∧ L = O then 0 else 6

theorem firstErr_zero {n : Int} {L : List Nd} : ∀ (m i : Nat), i + m = L.length → firstErr n L m i = 0 → ∀ (j : Nat) (hj : j < L.length), i ≤ j → checkNodeF n L j L[j] (decide (L[j] ∈ L.take j)) = 0
  | 0, i, h, _, j, hj, hij => by omega
  | m + 1, i, h, he, j, hj, hij => by
    unfold firstErr at he
    split at he
    · rename_i h0; exact absurd he h0
    · rename_i h0
      by_cases hji : j = i
      · subst hji
        simpa [List.getD, List.getElem?_eq_getElem hj] using h0
      · exact firstErr_zero m (i + 1) (by omega) he j hj (by omega)

theorem checkNodeF_zero {n : Int} {L : List Nd} {i : Nat} {x : Nd} {kn : Bool} (h : checkNodeF n L i x kn = 0) : (0 ≤ x.1 ∧ x.1 < n) ∧ 0 ≤ x.2.1 ∧ x.2.1 < (i : Int) + 2 ∧ 0 ≤ x.2.2 ∧ x.2.2 < (i : Int) + 2 := by
  unfold checkNodeF at h
  split at h
  · cases h
  · omega

theorem firstErr_valid {n : Int} {L : List Nd} (hn : n ≤ 40) (h : firstErr n L L.length 0 = 0) : VNd L := by
  intro i x hx
  obtain ⟨hi, rfl⟩ := List.getElem?_eq_some_iff.1 hx
  have := checkNodeF_zero (firstErr_zero L.length 0 (by omega) h i hi (Nat.zero_le _))
  omega

theorem added_valid {L : List Nd} (h : VNd L) : VNd (addF L ([], [0, 1])).1 ∧ ∀ x ∈ (addF L ([], [0, 1])).2, VNum (addF L ([], [0, 1])).1 x := by
  refine addF_valid L ([], [0, 1]) (fun i x hx => by simp at hx) (fun x hx => ?_) (fun i x hx => ?_)
  · simp at hx
    rcases hx with rfl | rfl <;> simp [VNum]
  · have := h i x hx
    simp
    omega

theorem added_root {L : List Nd} (h : VNd L) {r : Int} (h0 : 0 ≤ r) (hr : r < L.length + 2) : VNum (addF L ([], [0, 1])).1 ((addF L ([], [0, 1])).2.getD r.toNat 0) := by
  have hlen := addF_length L ([], [0, 1])
  have hlt : r.toNat < (addF L ([], [0, 1])).2.length := by rw [hlen]; simp; omega
  rw [List.getD_eq_getElem?_getD, List.getElem?_eq_getElem hlt]
  exact (added_valid h).2 _ (List.getElem_mem _)
end Go.Proofs.Ytaebjalpebgliaa
