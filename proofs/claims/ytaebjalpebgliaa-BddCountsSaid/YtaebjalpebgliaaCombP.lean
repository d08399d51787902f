/- combine, plain: the numbers of some diagrams in one builder. -/
import Derived.Test.YtaebjalpebgliaaCheck
import Derived.Test.YtaebjalpebgliaaDo
namespace Go.Proofs.Ytaebjalpebgliaa
set_option linter.unusedVariables false
set_option linter.unusedSimpArgs false

/-- What combine makes of its diagrams: the builder's nodes and the diagrams' numbers. -/
def addAllF : List Dg → List Nd × List Int → List Nd × List Int
  | [], s => s
  | d :: l, s => addAllF l ((addF d.L (s.1, [0, 1])).1, s.2 ++ [(addF d.L (s.1, [0, 1])).2.getD d.r.toNat 0])

theorem addAllF_snoc (l : List Dg) (d : Dg) (s : List Nd × List Int) : addAllF (l ++ [d]) s = ((addF d.L ((addAllF l s).1, [0, 1])).1, (addAllF l s).2 ++ [(addF d.L ((addAllF l s).1, [0, 1])).2.getD d.r.toNat 0]) := by
  induction l generalizing s with
  | nil => rfl
  | cons x l ih => simp only [List.cons_append, addAllF]; exact ih _

theorem addF_grows : ∀ (L : List Nd) (s : List Nd × List Int), s.1.length ≤ (addF L s).1.length
  | [], s => Nat.le_refl _
  | x :: L, s => by rw [addF]; exact Nat.le_trans (numF_grows s.1 _).1 (addF_grows L (_, _))

theorem addAllF_length (l : List Dg) (s : List Nd × List Int) : (addAllF l s).2.length = s.2.length + l.length := by
  induction l generalizing s with
  | nil => rfl
  | cons x l ih => rw [addAllF, ih]; simp; omega

/-- A diagram whose nodes and root are valid. -/
def Dg.ok (d : Dg) : Prop := VNd d.L ∧ 0 ≤ d.r ∧ d.r < (d.L.length : Int) + 2

theorem added_on {N : List Nd} (hN : VNd N) {d : Dg} (hd : d.ok) : VNd (addF d.L (N, [0, 1])).1 ∧ VNum (addF d.L (N, [0, 1])).1 ((addF d.L (N, [0, 1])).2.getD d.r.toNat 0) := by
  have h := addF_valid d.L (N, [0, 1]) hN (fun x hx => by
    simp at hx
    rcases hx with rfl | rfl
    · exact ⟨by omega, by simp; omega⟩
    · exact ⟨by omega, by simp; omega⟩) (fun i x hx => by
    have := hd.1 i x hx
    simp
    omega)
  refine ⟨h.1, ?_⟩
  have hlen := addF_length d.L (N, [0, 1])
  have hlt : d.r.toNat < (addF d.L (N, [0, 1])).2.length := by rw [hlen]; have := hd.2; simp; omega
  rw [List.getD_eq_getElem?_getD, List.getElem?_eq_getElem hlt]
  exact h.2 _ (List.getElem_mem _)

theorem addAllF_valid (l : List Dg) (h : ∀ d ∈ l, d.ok) : VNd (addAllF l ([], [])).1 ∧ (∀ x ∈ (addAllF l ([], [])).2, VNum (addAllF l ([], [])).1 x) := by
  have key : ∀ k, k ≤ l.length → VNd (addAllF (l.take k) ([], [])).1 ∧ (∀ x ∈ (addAllF (l.take k) ([], [])).2, VNum (addAllF (l.take k) ([], [])).1 x) := by
    intro k
    induction k with
    | zero => intro _; simp [addAllF, VNd]
    | succ k ih =>
      intro hk
      obtain ⟨i1, i2⟩ := ih (by omega)
      rw [List.take_succ_eq_append_getElem (by omega), addAllF_snoc]
      obtain ⟨j1, j2⟩ := added_on i1 (h l[k] (List.getElem_mem _))
      refine ⟨j1, fun x hx => ?_⟩
      have hg := addF_grows l[k].L ((addAllF (l.take k) ([], [])).1, [0, 1])
      rcases List.mem_append.1 hx with hx | hx
      · exact (i2 x hx).mono hg
      · rw [List.mem_singleton.1 hx]; exact j2
  have := key l.length (Nat.le_refl _)
  rwa [List.take_length] at this
end Go.Proofs.Ytaebjalpebgliaa
