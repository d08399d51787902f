/- Orders and their inverses on tables; sifting does not make a diagram greater; all orders. Plain. -/
import Derived.Test.YtmmjijmmocabhaaJLawK
import Derived.Test.YtmmjijmmocabhaaJOrdT
import Derived.Test.YtmmjijmmocabhaaJGrpV
namespace Go.Proofs.Ytmmjijmmocabhaa
set_option linter.unusedVariables false
set_option linter.unusedSimpArgs false

/-- The inverse of an order. -/
def invO (n : Nat) (o : List Int) : List Int := (invL o).take n
theorem invO_len {n : Nat} {o : List Int} (h : IsOrd n o) : (invO n o).length = n := by
  have := h.n40
  unfold invO
  rw [List.length_take, invL_len]
  omega
theorem invO_get {n : Nat} {o : List Int} (h : IsOrd n o) {v : Nat} (hv : v < n) : (invO n o)[v]? = some (atF o v : Int) := by
  unfold invO
  rw [List.getElem?_take, if_pos hv, invL_get h hv]
theorem atF_inj {n : Nat} {o : List Int} (h : IsOrd n o) {u v : Nat} (hu : u < n) (hv : v < n) (e : atF o u = atF o v) : u = v := by
  have h1 := atF_get h hu
  have h2 := atF_get h hv
  rw [e, h2] at h1
  have := Option.some.inj h1
  omega
theorem invO_ord {n : Nat} {o : List Int} (h : IsOrd n o) : IsOrd n (invO n o) where
  n40 := h.n40
  len := invO_len h
  nodup := by
    have hl := invO_len h
    unfold List.Nodup
    rw [List.pairwise_iff_getElem]
    intro i j hi hj hij e
    have h1 := invO_get h (v := i) (by omega)
    have h2 := invO_get h (v := j) (by omega)
    rw [List.getElem?_eq_getElem hi] at h1
    rw [List.getElem?_eq_getElem hj] at h2
    rw [Option.some.inj h1, Option.some.inj h2] at e
    have := atF_inj h (show i < n by omega) (show j < n by omega) (by omega)
    omega
  range := by
    intro x hx
    have hl := invO_len h
    obtain ⟨i, hi, rfl⟩ := List.mem_iff_getElem.1 hx
    have h1 := invO_get h (v := i) (by omega)
    rw [List.getElem?_eq_getElem hi] at h1
    have := atF_lt h (show i < n by omega)
    rw [Option.some.inj h1]
    omega
theorem inv_left {n : Nat} {o : List Int} (h : IsOrd n o) {u : Nat} (hu : u < n) : atF (invO n o) (atF o u) = u := by
  have hl := invO_len h
  have hi := invO_get h hu
  have hul : u < (invO n o).length := by omega
  rw [List.getElem?_eq_getElem hul] at hi
  have := (invO_ord h).nodup.idxOf_getElem u hul
  rw [Option.some.inj hi] at this
  exact this
theorem inv_right {n : Nat} {o : List Int} (h : IsOrd n o) {u : Nat} (hu : u < n) : atF o (atF (invO n o) u) = u := by
  have hlt := atF_lt (invO_ord h) hu
  have h1 := atF_get (invO_ord h) hu
  rw [invO_get h hlt] at h1
  have := Option.some.inj h1
  omega
theorem place_id {n y : Nat} (hy : y < 2 ^ n) {ρ : Nat → Bool} (h : ∀ u, u < n → ρ u = bitF n y u) : placeF ρ n 0 = y := by
  rw [placeF_congr (σ := bitF n y) (fun u hu => h u (by omega)), bit_place n 0 n y (by omega), Nat.mod_eq_of_lt hy]
theorem permI_inv {n : Nat} {o : List Int} (h : IsOrd n o) {y : Nat} (hy : y < 2 ^ n) : permI o n (permI (invO n o) n y) = y := by
  rw [permI]
  refine place_id hy (fun u hu => ?_)
  rw [perm_bit (atF_lt h hu), inv_left h hu]
theorem permI_inv' {n : Nat} {o : List Int} (h : IsOrd n o) {y : Nat} (hy : y < 2 ^ n) : permI (invO n o) n (permI o n y) = y := by
  rw [permI]
  refine place_id hy (fun u hu => ?_)
  rw [perm_bit (atF_lt (invO_ord h) hu), inv_right h hu]
theorem permT_inv {n : Nat} {o : List Int} {t : List Bool} (h : IsOrd n o) (ht : t.length = 2 ^ n) : permT (invO n o) n (permT o n t) = t := by
  refine ext_getD (permT_length _ _ _) ht (fun i hi => ?_)
  rw [permT_get _ _ _ hi, permT_get _ _ _ (permI_lt _ _ _), permI_inv h hi]
theorem permT_perm {n : Nat} {o : List Int} {t : List Bool} (h : IsOrd n o) (ht : t.length = 2 ^ n) : (permT o n t).Perm t := by
  have e : t = (List.range (2 ^ n)).map (fun i => t.getD i false) := by
    refine ext_getD ht (by simp) (fun i hi => ?_)
    simp [List.getD, hi]
  have hp : ((List.range (2 ^ n)).map (permI o n)).Perm (List.range (2 ^ n)) := by
    refine (List.perm_ext_iff_of_nodup ?_ List.nodup_range).2 (fun a => ?_)
    · unfold List.Nodup
      rw [List.pairwise_iff_getElem]
      intro i j hi hj hij e
      simp at hi hj e
      have := permI_inv' h hi
      rw [e, permI_inv' h hj] at this
      omega
    · rw [List.mem_map, List.mem_range]
      constructor
      · rintro ⟨y, _, rfl⟩
        exact permI_lt _ _ _
      · intro ha
        exact ⟨permI (invO n o) n a, List.mem_range.2 (permI_lt _ _ _), permI_inv h ha⟩
  have e2 : permT o n t = ((List.range (2 ^ n)).map (permI o n)).map (fun i => t.getD i false) := by
    rw [List.map_map]; rfl
  rw [e2]
  refine (hp.map _).trans ?_
  rw [← e]
theorem permT_count {n : Nat} {o : List Int} {t : List Bool} (h : IsOrd n o) (ht : t.length = 2 ^ n) : (permT o n t).count true = t.count true := (permT_perm h ht).count_eq true

/-! ### sifting -/
theorem movF_at {n : Nat} {o : List Int} (h : IsOrd n o) {v : Nat} (hv : v < n) : movF o v (atF o v) = o := by
  obtain ⟨A, B, e⟩ := List.append_of_mem (h.has hv)
  have hn := h.nodup
  rw [e, List.nodup_append] at hn
  obtain ⟨hA, hB, hd⟩ := hn
  have hvA : (v : Int) ∉ A := fun hm => hd _ hm _ (by simp) rfl
  have hvB : (v : Int) ∉ B := (List.nodup_cons.1 hB).1
  have hi : atF o v = A.length := by
    unfold atF
    rw [e, List.idxOf_append, if_neg hvA]
    simp
  have f1 : A.filter (fun x => !(x == (v : Int))) = A := by
    rw [List.filter_eq_self]
    intro x hx
    simp only [Bool.not_eq_true', beq_eq_false_iff_ne]
    rintro rfl; exact hvA hx
  have f2 : B.filter (fun x => !(x == (v : Int))) = B := by
    rw [List.filter_eq_self]
    intro x hx
    simp only [Bool.not_eq_true', beq_eq_false_iff_ne]
    rintro rfl; exact hvB hx
  rw [hi]
  unfold movF
  have f3 : o.filter (fun x => !(x == (v : Int))) = A ++ B := by
    rw [e, List.filter_append, f1, List.filter_cons_of_neg (by simp), f2]
  rw [f3, List.take_left, List.drop_left, e]
theorem siftV_le {n : Nat} {t : List Bool} {o : List Int} (h : IsOrd n o) {v : Nat} (hv : v < n) : szF n t (siftV n t o v) ≤ szF n t o := by
  have := (bestF_size (n := n) (t := t) (o := o) (v := v) n (by omega)).2 (atF o v) (atF_lt h hv)
  rw [movF_at h hv] at this
  exact this
theorem siftN_le {n : Nat} {t : List Bool} {o : List Int} (h : IsOrd n o) : ∀ v, v ≤ n → szF n t (siftN n t o v) ≤ szF n t o
  | 0, _ => Int.le_refl _
  | v + 1, hv => Int.le_trans (siftV_le (siftN_ord h v (by omega)) (by omega)) (siftN_le h v (by omega))
theorem siftF_le {n : Nat} {t : List Bool} {o : List Int} (h : IsOrd n o) : szF n t (siftF n t o) ≤ szF n t o := siftN_le h n (Nat.le_refl _)
theorem impF_ord {n : Nat} {t : List Bool} : ∀ (f : Nat) {o : List Int} (bf : Int), IsOrd n o → IsOrd n (impF n t f o bf)
  | 0, o, bf, h => by rw [impF]; exact h
  | f + 1, o, bf, h => by
    rw [impF]
    split
    · exact siftF_ord h
    · exact impF_ord f _ (siftF_ord h)
theorem impE_ord {n : Nat} {t : List Bool} {o : List Int} (h : IsOrd n o) : IsOrd n (impE n t o) := impF_ord _ _ h

/-! ### all orders -/
theorem complF_all {n : Nat} : ∀ (d : Nat) (p r : List Int), r.length = d → (p ++ r).Nodup → (∀ x ∈ r, 0 ≤ x ∧ x < n) → p ++ r ∈ complF n d p
  | 0, p, r, hl, _, _ => by
    have : r = [] := List.length_eq_zero_iff.1 hl
    subst this
    simp [complF]
  | d + 1, p, r, hl, hn, hr => by
    match r, hl with
    | x :: r', hl =>
      have hx := hr x (by simp)
      have hxp : x ∉ p := fun hm => by
        rw [List.nodup_append] at hn
        exact hn.2.2 _ hm _ (by simp) rfl
      have ih := complF_all d (p ++ [x]) r' (by simpa using hl) (by simpa using hn) (fun y hy => hr y (by simp [hy]))
      rw [complF, List.mem_flatMap]
      refine ⟨x.toNat, List.mem_range.2 (by omega), ?_⟩
      rw [show ((x.toNat : Nat) : Int) = x by omega, if_neg hxp]
      simpa using ih
theorem ordsF_all {n : Nat} {o : List Int} (h : IsOrd n o) : o ∈ ordsF n := by
  have := complF_all (n := n) n [] o h.len (by simpa using h.nodup) h.range
  exact this
theorem leastF_le {n : Nat} {t : List Bool} : ∀ (l : List (List Int)), l ≠ [] → (leastF n t l).2 = szF n t (leastF n t l).1 ∧ (leastF n t l).1 ∈ l ∧ ∀ x ∈ l, (leastF n t l).2 ≤ szF n t x := by
  intro l
  induction hl : l.length generalizing l with
  | zero => intro h; exact absurd (List.length_eq_zero_iff.1 hl) h
  | succ k ih =>
    intro hne
    obtain ⟨l', x, rfl⟩ : ∃ l' x, l = l' ++ [x] := ⟨l.dropLast, l.getLast hne, (List.dropLast_concat_getLast hne).symm⟩
    rw [leastF_snoc]
    have hz := szF_nonneg n t x
    by_cases he : l' = []
    · subst he
      have : lstep n t (leastF n t []) x = (x, szF n t x) := by
        unfold lstep leastF
        rw [if_pos (.inl (by simp))]
      simp [this]
    · obtain ⟨i1, i2, i3⟩ := ih l' (by simpa using hl) he
      unfold lstep
      split
      · rename_i h
        have hb := szF_nonneg n t (leastF n t l').1
        have h2 : szF n t x < (leastF n t l').2 := by omega
        refine ⟨rfl, by simp, fun y hy => ?_⟩
        rcases List.mem_append.1 hy with hy | hy
        · have := i3 y hy; simp only; omega
        · simp at hy; subst hy; exact Int.le_refl _
      · rename_i h
        refine ⟨i1, by simp [i2], fun y hy => ?_⟩
        rcases List.mem_append.1 hy with hy | hy
        · exact i3 y hy
        · simp at hy; subst hy; omega

/-! ### level by level -/
def levF (n : Nat) : Nat → List (List Int)
  | 0 => [[]]
  | i + 1 => (levF n i).flatMap fun l => (List.range n).flatMap fun (v : Nat) => if (v : Int) ∈ l then [] else [l ++ [(v : Int)]]
theorem compl_lev (n : Nat) : ∀ (d : Nat) (p : List Int), complF n (d + 1) p = ((List.range n).flatMap fun (v : Nat) => if (v : Int) ∈ p then [] else [p ++ [(v : Int)]]).flatMap (complF n d) := by
  intro d p
  rw [complF, List.flatMap_assoc]
  congr 1
  funext v
  split <;> simp
theorem lev_compl (n : Nat) : ∀ (i d : Nat), i + d = n → (levF n i).flatMap (complF n d) = complF n n []
  | 0, d, h => by
    obtain rfl : d = n := by omega
    simp [levF]
  | i + 1, d, h => by
    rw [← lev_compl n i (d + 1) (by omega), levF, List.flatMap_assoc]
    congr 1
    funext l
    rw [compl_lev]
theorem lev_ords (n : Nat) : levF n n = ordsF n := by
  have h := lev_compl n n 0 (by omega)
  have e : ∀ l : List (List Int), l.flatMap (complF n 0) = l := fun l => by
    induction l with
    | nil => rfl
    | cons x l ih => rw [List.flatMap_cons, ih]; simp [complF]
  rw [e] at h
  exact h
theorem lev_len (n : Nat) : ∀ (i : Nat) (l : List Int), l ∈ levF n i → l.length = i
  | 0, l, h => by simp [levF] at h; simp [h]
  | i + 1, l, h => by
    rw [levF, List.mem_flatMap] at h
    obtain ⟨p, hp, h2⟩ := h
    rw [List.mem_flatMap] at h2
    obtain ⟨v, _, h3⟩ := h2
    have := lev_len n i p hp
    split at h3
    · simp at h3
    · simp at h3; subst h3; simp [this]
end Go.Proofs.Ytmmjijmmocabhaa
