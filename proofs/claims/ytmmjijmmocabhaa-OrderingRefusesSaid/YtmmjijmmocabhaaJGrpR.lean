/- The reverse of an order: the same spans and widths. Plain. -/
import Derived.Test.YtmmjijmmocabhaaJLawK
namespace Go.Proofs.Ytmmjijmmocabhaa
set_option linter.unusedVariables false
set_option linter.unusedSimpArgs false

theorem rev_ord {n : Nat} {o : List Int} (h : IsOrd n o) : IsOrd n o.reverse where
  n40 := h.n40
  len := by rw [List.length_reverse]; exact h.len
  nodup := by
    have := h.nodup
    unfold List.Nodup at this ⊢
    rw [List.pairwise_reverse]
    exact this.imp (fun h => Ne.symm h)
  range := fun x hx => h.range x (by simpa using hx)

theorem rev_pos {n : Nat} {o : List Int} (h : IsOrd n o) {v : Int} (hv : 0 ≤ v ∧ v < n) : posA o.reverse v = (n : Int) - 1 - posA o v := by
  have hv' : v.toNat < n := by omega
  have hlt := atF_lt h hv'
  have hlt' := atF_lt (rev_ord h) hv'
  have hg := atF_get h hv'
  have hg' := atF_get (rev_ord h) hv'
  have hl := h.len
  rw [List.getElem?_reverse (by omega)] at hg'
  have e : o.length - 1 - atF o.reverse v.toNat = atF o v.toNat := by
    have h1 : o.length - 1 - atF o.reverse v.toNat < o.length := by omega
    have h2 : atF o v.toNat < o.length := by omega
    rw [List.getElem?_eq_getElem h1] at hg'
    rw [List.getElem?_eq_getElem h2] at hg
    have e1 := h.nodup.idxOf_getElem _ h1
    have e2 := h.nodup.idxOf_getElem _ h2
    rw [(Option.some.inj hg').trans (Option.some.inj hg).symm] at e1
    exact e1.symm.trans e2
  unfold posA
  omega

theorem ends_neg {f f' : Int → Int} {c : Int} {g : List Int} (h0 : 0 < g.length) (h : ∀ x ∈ g, f' x = c - f x) : loF f' g = c - hiF f g ∧ hiF f' g = c - loF f g := by
  have hm : f' (g.headD 0) = c - f (g.headD 0) := by
    cases g with
    | nil => simp at h0
    | cons x l => exact h x (by simp)
  have k1 : ∀ (l : List Int) (a : Int), (∀ x ∈ l, f' x = c - f x) → l.foldl (fun m v => min m (f' v)) (c - a) = c - l.foldl (fun m v => max m (f v)) a := by
    intro l
    induction l with
    | nil => intro a _; rfl
    | cons x l ih =>
      intro a hx
      simp only [List.foldl_cons]
      rw [hx x (by simp), show min (c - a) (c - f x) = c - max a (f x) by omega]
      exact ih _ (fun y hy => hx y (by simp [hy]))
  have k2 : ∀ (l : List Int) (a : Int), (∀ x ∈ l, f' x = c - f x) → l.foldl (fun m v => max m (f' v)) (c - a) = c - l.foldl (fun m v => min m (f v)) a := by
    intro l
    induction l with
    | nil => intro a _; rfl
    | cons x l ih =>
      intro a hx
      simp only [List.foldl_cons]
      rw [hx x (by simp), show max (c - a) (c - f x) = c - min a (f x) by omega]
      exact ih _ (fun y hy => hx y (by simp [hy]))
  unfold loF hiF
  rw [hm]
  exact ⟨k1 g _ h, k2 g _ h⟩

theorem rev_ends {n : Nat} {o : List Int} (h : IsOrd n o) {g : List Int} (hg : IsGrp n g) : loF (posA o.reverse) g = (n : Int) - 1 - hiF (posA o) g ∧ hiF (posA o.reverse) g = (n : Int) - 1 - loF (posA o) g :=
  ends_neg hg.pos (fun x hx => rev_pos h (hg.range x hx))

theorem rev_span {n : Nat} {o : List Int} (h : IsOrd n o) : ∀ (gs : List (List Int)), (∀ g ∈ gs, IsGrp n g) → spanF (posA o.reverse) gs = spanF (posA o) gs := by
  have key : ∀ (gs : List (List Int)) (a : Int), (∀ g ∈ gs, IsGrp n g) → gs.foldl (fun s g => s + (hiF (posA o.reverse) g - loF (posA o.reverse) g)) a = gs.foldl (fun s g => s + (hiF (posA o) g - loF (posA o) g)) a := by
    intro gs
    induction gs with
    | nil => intro a _; rfl
    | cons g gs ih =>
      intro a hg
      obtain ⟨e1, e2⟩ := rev_ends h (hg g (by simp))
      simp only [List.foldl_cons]
      rw [e1, e2, show a + ((n : Int) - 1 - loF (posA o) g - (n - 1 - hiF (posA o) g)) = a + (hiF (posA o) g - loF (posA o) g) by omega]
      exact ih _ (fun x hx => hg x (by simp [hx]))
  exact fun gs hg => key gs 0 hg

theorem rev_cross {n : Nat} {o : List Int} (h : IsOrd n o) (gs : List (List Int)) (hg : ∀ g ∈ gs, IsGrp n g) {j : Nat} (hj : j ≤ n) : crossF (posA o.reverse) gs j = crossF (posA o) gs (n - j) := by
  unfold crossF
  congr 2
  refine List.filter_congr (fun g hgm => ?_)
  obtain ⟨e1, e2⟩ := rev_ends h (hg g hgm)
  rw [e1, e2]
  congr 1
  apply propext
  constructor <;> intro ⟨a, b⟩ <;> constructor <;> omega

theorem rev_width {n : Nat} {o : List Int} (h : IsOrd n o) (gs : List (List Int)) (hg : ∀ g ∈ gs, IsGrp n g) : widthF (posA o.reverse) gs = widthF (posA o) gs := by
  have hm := mxF_is (crossF (posA o) gs)
  have h40 := h.n40
  refine IsMx.unique (mxF_is (crossF (posA o.reverse) gs)) ⟨fun j hj => ?_, ?_, hm.nn⟩
  · by_cases hjn : 0 < j ∧ j < n
    · rw [rev_cross h gs hg (by omega)]
      exact hm.le _ (by omega)
    · rw [cross_out (rev_ord h) hg (by omega)]
      exact hm.nn
  · rcases hm.is with e | ⟨j, hj, e⟩
    · exact .inl e
    · by_cases hjn : 0 < j ∧ j < n
      · refine .inr ⟨n - j, by omega, ?_⟩
        rw [rev_cross h gs hg (by omega), show n - (n - j) = j by omega]
        exact e
      · left
        rw [cross_out h hg (by omega)] at e
        exact e.symm

theorem ordErr_rev {o : List Int} (h : ordErr o.length o = 0) : ordErr o.length o.reverse = 0 := by
  have ho := (ordErr_zero.1 h).2
  exact ordErr_zero.2 ⟨by rw [List.length_reverse], by rw [List.length_reverse]; exact rev_ord ho⟩
theorem rev_groups {gs : List (List Int)} {o : List Int} (h : groupsErr gs o = 0) : groupsErr gs o.reverse = 0 := by
  unfold groupsErr at h ⊢
  split at h
  · rename_i h0; omega
  · rename_i h0
    rw [List.length_reverse, if_neg (by rw [ordErr_rev (by omega)]; simp)]
    exact h
end Go.Proofs.Ytmmjijmmocabhaa
