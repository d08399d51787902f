/- BddLarge, plain: the diagrams of the functions that are true where the first j variables are. -/
import Derived.Test.YtaebjalpebgliaaRenP
import Derived.Test.YtaebjalpebgliaaLawP
import Derived.Test.YtaebjalpebgliaaList
namespace Go.Proofs.Ytaebjalpebgliaa
set_option linter.unusedVariables false
set_option linter.unusedSimpArgs false

def chL (j : Nat) : List Nd := (List.range j).map fun (i : Nat) => ((j : Int) - 1 - i, (0 : Int), (i : Int) + 1)

theorem chL_length (j : Nat) : (chL j).length = j := by simp [chL]
theorem chL_get (j i : Nat) (h : i < (chL j).length) : (chL j)[i] = ((j : Int) - 1 - i, (0 : Int), (i : Int) + 1) := by simp [chL]
theorem chL_get? {j i : Nat} {x : Nd} (h : (chL j)[i]? = some x) : i < j ∧ x = ((j : Int) - 1 - i, (0 : Int), (i : Int) + 1) := by
  obtain ⟨hi, he⟩ := List.getElem?_eq_some_iff.1 h
  rw [chL_get] at he
  exact ⟨by rw [chL_length] at hi; exact hi, he.symm⟩

theorem chL_node (j c : Nat) (h : c < j) : nodeF (chL j) ((c : Int) + 2) = ((j : Int) - 1 - c, (0 : Int), (c : Int) + 1) := by
  unfold nodeF
  have e : ((c : Int) + 2 - 2).toNat = c := by omega
  rw [e]
  simp only [List.getD_eq_getElem?_getD]
  rw [List.getElem?_eq_getElem (by rw [chL_length]; exact h), Option.getD_some, chL_get]

theorem chL_num (j c : Nat) (h : c ≤ j) : VNum (chL j) ((c : Int) + 1) := ⟨by omega, by rw [chL_length]; omega⟩

theorem chL_top (j c : Nat) (h : c ≤ j) : topF (chL j) ((c : Int) + 1) = if c = 0 then 40 else (j : Int) - c := by
  by_cases h0 : c = 0
  · subst h0; rfl
  · rw [if_neg h0]
    obtain ⟨c, rfl⟩ : ∃ d, c = d + 1 := ⟨c - 1, by omega⟩
    have e : ((c + 1 : Nat) : Int) + 1 = (c : Int) + 2 := by omega
    rw [e, topF_node (by omega), chL_node j c (by omega)]
    simp only
    omega

theorem chL_ord {j m : Nat} (h : j ≤ m) (hm : m ≤ 40) : Ord (chL j) m := by
  have mem : ∀ x ∈ chL j, ∃ i, i < j ∧ x = ((j : Int) - 1 - i, (0 : Int), (i : Int) + 1) := fun x hx => by
    obtain ⟨i, hi, he⟩ := List.mem_iff_getElem.1 hx
    rw [chL_get] at he
    exact ⟨i, by rw [chL_length] at hi; exact hi, he.symm⟩
  refine ⟨by omega, ?_, ?_, ?_, ?_, ?_⟩
  · intro i x hx
    obtain ⟨hi, rfl⟩ := chL_get? hx
    simp only
    omega
  · intro x hx
    obtain ⟨i, hi, rfl⟩ := mem x hx
    simp only
    omega
  · intro x hx
    obtain ⟨i, hi, rfl⟩ := mem x hx
    simp only
    omega
  · intro x hx
    obtain ⟨i, hi, rfl⟩ := mem x hx
    simp only
    refine ⟨by rw [topF_const (by omega)]; omega, ?_⟩
    rw [chL_top j i (by omega)]
    split <;> omega
  · unfold chL
    rw [List.Nodup, List.pairwise_map]
    refine List.nodup_range.imp ?_
    intro a b hab he
    simp only [Prod.mk.injEq] at he
    exact hab (by omega)

theorem chL_visit (j : Nat) : ∀ (c : Nat), c ≤ j → ∃ M, visitF (chL j) (c + 1) ([], [(0, 0), (1, 1)]) ((c : Int) + 1) = some (((chL j).take c, M), (c : Int) + 1) ∧ mget M 0 = some 0 := by
  intro c
  induction c with
  | zero => intro _; exact ⟨[(0, 0), (1, 1)], by simp [visitF, mget], by simp [mget]⟩
  | succ c ih =>
    intro h
    obtain ⟨M, h1, h2⟩ := ih (by omega)
    have e : ((c + 1 : Nat) : Int) + 1 = (c : Int) + 2 := by omega
    rw [e, visitF]
    have hm : mget ([(0, 0), (1, 1)] : List (Int × Int)) ((c : Int) + 2) = none := by
      simp only [mget]
      rw [if_neg (by omega), if_neg (by omega)]
    simp only [hm]
    rw [chL_node j c (by omega)]
    have hz : visitF (chL j) (c + 1) ([], [(0, 0), (1, 1)]) 0 = some (([], [(0, 0), (1, 1)]), 0) := by simp [visitF, mget]
    simp only [hz, h1]
    refine ⟨mput M ((c : Int) + 2) (((chL j).take c).length + 2), ?_, by rw [mget_put, if_neg (by omega)]; exact h2⟩
    have hl : ((chL j).take c).length = c := by rw [List.length_take, chL_length]; omega
    rw [hl]
    have ht : (chL j).take (c + 1) = (chL j).take c ++ [((j : Int) - 1 - c, (0 : Int), (c : Int) + 1)] := by
      rw [List.take_succ_eq_append_getElem (by rw [chL_length]; omega), chL_get]
    rw [ht]

/-- The table of the first j of m variables. -/
def chT' (m j : Nat) : List Bool := tab (chL j) m 0 ((j : Int) + 1)

theorem chL_tab {j m : Nat} (h : j ≤ m) (hm : m ≤ 40) : IsTab m (chT' m j) (chL j) ((j : Int) + 1) := by
  have ho := chL_ord h hm
  have hv := chL_num j j (Nat.le_refl _)
  refine ⟨hm, tab_length _ _ _ _, ?_, by rw [chL_length]; omega⟩
  obtain ⟨s1, a1, a2⟩ := finish_table ho hv
  obtain ⟨M, b1, _⟩ := chL_visit j j (Nat.le_refl _)
  have e1 := visitF_fuel a1 b1
  simp only [Prod.mk.injEq] at e1
  rw [List.take_of_length_le (by rw [chL_length]; omega)] at e1
  refine Prod.ext ?_ ?_
  · rw [chT', ← a2, e1.1]
  · rw [chT']; exact e1.2

/-- All variables from v on, below j. -/
def allV (ρ : Nat → Bool) (v : Nat) : Nat → Bool
  | 0 => true
  | c + 1 => ρ v && allV ρ (v + 1) c

theorem chL_ev (j : Nat) (hj : j ≤ 40) (ρ : Nat → Bool) : ∀ c, c ≤ j → ev (chL j) ((c : Int) + 1) ρ = allV ρ (j - c) c := by
  have ho := chL_ord (Nat.le_refl j) hj
  intro c
  induction c with
  | zero => intro _; rw [ev_const (by omega)]; rfl
  | succ c ih =>
    intro h
    have e : ((c + 1 : Nat) : Int) + 1 = (c : Int) + 2 := by omega
    have hv := chL_num j (c + 1) h
    rw [e] at hv ⊢
    rw [ev_node ho.val hv (by omega), chL_node j c (by omega)]
    simp only
    have e2 : ((j : Int) - 1 - c).toNat = j - (c + 1) := by omega
    have e3 : j - (c + 1) + 1 = j - c := by omega
    rw [ih (by omega), ev_const (by omega), e2, allV, e3]
    cases ρ (j - (c + 1)) <;> simp

theorem allV_snoc (ρ : Nat → Bool) : ∀ (c v : Nat), allV ρ v (c + 1) = (allV ρ v c && ρ (v + c)) := by
  intro c
  induction c with
  | zero => intro v; simp [allV]
  | succ c ih =>
    intro v
    rw [allV, ih (v + 1), allV]
    have e : v + 1 + c = v + (c + 1) := by omega
    rw [e, Bool.and_assoc]

theorem chT_get {m j i : Nat} (h : j ≤ m) (hm : m ≤ 40) (hi : i < 2 ^ m) : (chT' m j).getD i false = allV (bitF m i) 0 j := by
  rw [chT', tab_bit (chL_ord h hm) (chL_num j j (Nat.le_refl _)) hi, chL_ev j (by omega) _ j (Nat.le_refl _), Nat.sub_self]

/-- One variable more. -/
theorem chT_and {m j : Nat} (h : j < m) (hm : m ≤ 40) : ite3 (chT' m j) (varT m j) (fls m) = chT' m (j + 1) := by
  have l1 : (chT' m j).length = 2 ^ m := tab_length _ _ _ _
  have l2 : (chT' m (j + 1)).length = 2 ^ m := tab_length _ _ _ _
  refine ext_getD (ite3_len l1 (varT_length m j) (fls_len m)) l2 (fun i hi => ?_)
  rw [ite3_get l1 (varT_length m j) (fls_len m) hi, chT_get (by omega) hm hi, chT_get (by omega) hm hi, var_get m j hi, flsG, allV_snoc, Nat.zero_add]
  cases allV (bitF m i) 0 j <;> simp

/-! ### ite along a chain -/
inductive Chain (N : List Nd) (J : Int) : Int → Prop
  | zero : Chain N J 0
  | one : Chain N J 1
  | node (k : Int) (h2 : 2 ≤ k) (hv : VNum N k) (hl : (nodeF N k).2.1 = 0) (hx : (nodeF N k).1 < J) (hc : Chain N J (nodeF N k).2.2) : Chain N J k

theorem chain_of_tab {N : List Nd} {m j : Nat} (hN : Ord N m) (hj : j ≤ m) (hm : m ≤ 40) : ∀ (d : Nat) (v : Int) (k : Int) (c : Nat), v + d = m → 0 ≤ v → VNum N k → v ≤ topF N k → c ≤ j → v ≤ topF (chL j) ((c : Int) + 1) → tab N d v k = tab (chL j) d v ((c : Int) + 1) → Chain N j k := by
  have hO := chL_ord hj hm
  intro d
  induction d with
  | zero =>
    intro v k c hv h0 hk tk hc tc _
    rcases hN.const hk (by omega) with rfl | rfl
    · exact .zero
    · exact .one
  | succ d ih =>
    intro v k c hv h0 hk tk hc tc he
    have p0 := hN.part false hk tk (by omega)
    have p1 := hN.part true hk tk (by omega)
    rw [tab, tab] at he
    have hl := List.append_inj he (by rw [tab_length, tab_length])
    by_cases hs : v < topF (chL j) ((c : Int) + 1)
    · rw [partF_skip hs, partF_skip hs] at hl
      have heq : partF N k v false = partF N k v true := tab_inj hN d (v + 1) _ _ (by omega) p0.1 p1.1 p0.2 p1.2 (by rw [hl.1, hl.2])
      have hk' : v < topF N k := by
        rcases Int.lt_or_eq_of_le tk with h | h
        · exact h
        · exfalso
          rw [partF_low h.symm, partF_high h.symm] at heq
          have h2 : 2 ≤ k := by
            rcases Int.lt_or_le k 2 with h' | h'
            · rw [topF_const h'] at h; omega
            · exact h'
          exact hN.red _ (nodeF_mem h2 hk.2) heq
      rw [partF_skip hk'] at hl
      exact ih (v + 1) k c (by omega) (by omega) hk (by omega) hc (by omega) hl.1
    · have htop : topF (chL j) ((c : Int) + 1) = v := by omega
      rw [chL_top j c hc] at htop
      have hc0 : c ≠ 0 := by
        rintro rfl
        rw [if_pos rfl] at htop
        omega
      rw [if_neg hc0] at htop
      obtain ⟨c, rfl⟩ : ∃ q, c = q + 1 := ⟨c - 1, by omega⟩
      have e : ((c + 1 : Nat) : Int) + 1 = (c : Int) + 2 := by omega
      have htop2 : topF (chL j) ((c : Int) + 2) = v := by rw [topF_node (by omega), chL_node j c (by omega)]; simp only; omega
      rw [e, partF_low htop2, partF_high htop2, chL_node j c (by omega)] at hl
      simp only at hl
      have hz : partF N k v false = 0 := by
        refine tab_inj hN d (v + 1) _ 0 (by omega) p0.1 ⟨by omega, by omega⟩ p0.2 (by rw [topF_const (by omega)]; omega) ?_
        rw [hl.1, tab_zero _ _ _ (by omega), tab_zero _ _ _ (by omega)]
      rcases Int.lt_or_eq_of_le tk with h | h
      · rw [partF_skip h] at hz
        rw [hz]; exact .zero
      · rw [partF_low h.symm] at hz
        rw [partF_high h.symm] at p1 hl
        have h2 : 2 ≤ k := by
          rcases Int.lt_or_le k 2 with h' | h'
          · rw [topF_const h'] at h; omega
          · exact h'
        refine .node k h2 hk hz ?_ ?_
        · rw [← topF_node h2]; omega
        · refine ih (v + 1) _ c (by omega) (by omega) p1.1 p1.2 (by omega) ?_ hl.2
          rw [chL_top j c (by omega)]
          split <;> omega

theorem chain_grow {N : List Nd} {m : Nat} {J : Int} (hN : Ord N m) (hJ : J ≤ 40) {g : Int} (hg : VNum N g) (tg : J ≤ topF N g) : ∀ (f : Int), Chain N J f → ∀ (fuel : Nat) (s s' : Is) (k : Int), N <+: s.1 → VNum N f → iteF fuel s f g 0 = some (s', k) → s'.1.length ≤ s.1.length + (m - topF N f).toNat := by
  intro f hf
  induction hf with
  | zero =>
    intro fuel s s' k hp hv h
    obtain ⟨fuel, rfl⟩ : ∃ q, fuel = q + 1 := by
      cases fuel with
      | zero => simp [iteF] at h
      | succ q => exact ⟨q, rfl⟩
    unfold iteF at h
    by_cases h1 : (0 : Int) = 1 ∨ g = 0
    · rw [if_pos h1] at h
      simp only [Option.some.injEq, Prod.mk.injEq] at h
      rw [← h.1]; omega
    · rw [if_neg h1, if_pos rfl] at h
      simp only [Option.some.injEq, Prod.mk.injEq] at h
      rw [← h.1]; omega
  | one =>
    intro fuel s s' k hp hv h
    obtain ⟨fuel, rfl⟩ : ∃ q, fuel = q + 1 := by
      cases fuel with
      | zero => simp [iteF] at h
      | succ q => exact ⟨q, rfl⟩
    unfold iteF at h
    rw [if_pos (.inl rfl)] at h
    simp only [Option.some.injEq, Prod.mk.injEq] at h
    rw [← h.1]; omega
  | node f h2 hv hl hx hc ih =>
    intro fuel s s' k hp _ h
    obtain ⟨fuel, rfl⟩ : ∃ q, fuel = q + 1 := by
      cases fuel with
      | zero => simp [iteF] at h
      | succ q => exact ⟨q, rfl⟩
    by_cases h1 : f = 1 ∨ g = 0
    · unfold iteF at h
      rw [if_pos h1] at h
      simp only [Option.some.injEq, Prod.mk.injEq] at h
      rw [← h.1]; omega
    · have h0 : ¬ f = 0 := by omega
      cases hm : mget s.2 (f, g, 0) with
      | some u =>
        unfold iteF at h
        rw [if_neg h1, if_neg h0] at h
        simp only [hm, Option.some.injEq, Prod.mk.injEq] at h
        rw [← h.1]; omega
      | none =>
        obtain ⟨s1, low, s2, high, e1, e2, hr⟩ := iteF_eq fuel s f g 0 h1 h0 hm h
        have tf : topF N f = (nodeF N f).1 := topF_node h2
        have tfs : topF s.1 f = (nodeF N f).1 := by rw [topF_ext hp hv, tf]
        have tgs : J ≤ topF s.1 g := by rw [topF_ext hp hg]; exact tg
        have hmin : min3 (topF s.1 f) (topF s.1 g) (topF s.1 0) = (nodeF N f).1 := min3_eq (by omega) (by omega) (by rw [topF_const (by omega)]; omega) (.inl tfs.symm)
        rw [hmin] at e1 e2 hr
        have hpf : partF s.1 f (nodeF N f).1 false = 0 := by rw [partF_low tfs, nodeF_ext hp h2 hv, hl]
        have hpg : partF s.1 g (nodeF N f).1 false = g := partF_skip (by omega)
        have hp0 : partF s.1 0 (nodeF N f).1 false = 0 := partF_skip (by rw [topF_const (by omega)]; omega)
        rw [hpf, hpg, hp0] at e1
        have hs1 : s1 = s := by
          cases fuel with
          | zero => simp [iteF] at e1
          | succ q =>
            unfold iteF at e1
            rw [if_neg (by omega), if_pos rfl] at e1
            simp only [Option.some.injEq, Prod.mk.injEq] at e1
            exact e1.1.symm
        subst hs1
        have hpf1 : partF s1.1 f (nodeF N f).1 true = (nodeF N f).2.2 := by rw [partF_high tfs, nodeF_ext hp h2 hv]
        have hpg1 : partF s1.1 g (nodeF N f).1 true = g := partF_skip (by omega)
        have hp01 : partF s1.1 0 (nodeF N f).1 true = 0 := partF_skip (by rw [topF_const (by omega)]; omega)
        rw [hpf1, hpg1, hp01] at e2
        have hlow := hN.low h2 hv
        have hvh := (nodeF_valid hN.val h2 hv.2).2.2.2.1
        have hg2 := ih fuel s1 s2 high hp hvh e2
        have ho := (hN.ord _ (nodeF_mem h2 hv.2)).2
        have hvar := hN.var _ (nodeF_mem h2 hv.2)
        have hn := (numF_grows s2.1 ((nodeF N f).1, low, high)).2
        simp only [Prod.mk.injEq] at hr
        rw [hr.1]
        simp only
        omega

/-- A number with the table of another one asks no earlier variable. -/
theorem top_of_tab {N L : List Nd} {m : Nat} (hN : Ord N m) (hL : Ord L m) : ∀ (d : Nat) (v k q : Int), v + d = m → 0 ≤ v → VNum N k → VNum L q → v ≤ topF N k → v ≤ topF L q → tab N d v k = tab L d v q → ∀ J, J ≤ (m : Int) → J ≤ topF L q → J ≤ topF N k := by
  intro d
  induction d with
  | zero => intro v k q hv h0 hk hq tk tq _ J hJ _; omega
  | succ d ih =>
    intro v k q hv h0 hk hq tk tq he J hJ hq2
    by_cases hs : J ≤ v
    · omega
    · have p0 := hN.part false hk tk (by omega)
      have p1 := hN.part true hk tk (by omega)
      have hsk : v < topF L q := by omega
      rw [tab, tab] at he
      have hl := List.append_inj he (by rw [tab_length, tab_length])
      rw [partF_skip hsk, partF_skip hsk] at hl
      have heq : partF N k v false = partF N k v true := tab_inj hN d (v + 1) _ _ (by omega) p0.1 p1.1 p0.2 p1.2 (by rw [hl.1, hl.2])
      have hk' : v < topF N k := by
        rcases Int.lt_or_eq_of_le tk with h | h
        · exact h
        · exfalso
          rw [partF_low h.symm, partF_high h.symm] at heq
          have h2 : 2 ≤ k := by
            rcases Int.lt_or_le k 2 with h' | h'
            · have := hN.n40; rw [topF_const h'] at h; omega
            · exact h'
          exact hN.red _ (nodeF_mem h2 hk.2) heq
      rw [partF_skip hk'] at hl
      exact ih (v + 1) k q (by omega) (by omega) hk hq (by omega) (by omega) hl.1 J hJ hq2

theorem chL_count {m j : Nat} (hj : j ≤ m) (hm : m ≤ 40) : ∀ (d v c : Nat), v + d = m → c ≤ j → v ≤ j - c → (tab (chL j) d v ((c : Int) + 1)).count true = 2 ^ (d - c) := by
  intro d
  induction d with
  | zero =>
    intro v c hv hc hvc
    obtain rfl : c = 0 := by omega
    rfl
  | succ d ih =>
    intro v c hv hc hvc
    by_cases h0 : c = 0
    · subst h0
      have e : (((0 : Nat) : Int) + 1) = 1 := rfl
      rw [e, tab_one _ _ _ (by omega), List.count_replicate_self]
      rfl
    · obtain ⟨c, rfl⟩ : ∃ q, c = q + 1 := ⟨c - 1, by omega⟩
      have htop := chL_top j (c + 1) hc
      rw [if_neg (by omega)] at htop
      have cv : ((v : Int) + 1) = ((v + 1 : Nat) : Int) := by omega
      by_cases hs : v < j - (c + 1)
      · rw [tab_skip (by omega), List.count_append, cv, ih (v + 1) (c + 1) (by omega) hc (by omega)]
        have e : d + 1 - (c + 1) = (d - (c + 1)) + 1 := by omega
        rw [e, Nat.pow_succ]
        omega
      · have ht : topF (chL j) (((c + 1 : Nat) : Int) + 1) = v := by omega
        rw [tab, partF_low ht, partF_high ht]
        have e : ((c + 1 : Nat) : Int) + 1 = (c : Int) + 2 := by omega
        rw [e, chL_node j c (by omega)]
        simp only
        rw [List.count_append, tab_zero _ _ _ (by omega), cv, ih (v + 1) c (by omega) (by omega) (by omega), List.count_replicate]
        have e3 : d + 1 - (c + 1) = d - c := by omega
        rw [e3]
        simp

theorem chT_count {m j : Nat} (hj : j ≤ m) (hm : m ≤ 40) : (chT' m j).count true = 2 ^ (m - j) := chL_count hj hm m 0 j (by omega) (Nat.le_refl _) (by omega)

theorem rowsL_length {N : List Nd} {n : Nat} (hN : Ord N n) : ∀ (d v : Nat) (k : Int) (bg : List Bool), v + d = n → VNum N k → (v : Int) ≤ topF N k → (rowsL N d v k bg).length = (tab N d v k).count true := by
  intro d
  have n40 := hN.n40
  induction d with
  | zero =>
    intro v k bg hv hk tk
    rcases hN.const hk (by omega) with rfl | rfl
    · rfl
    · rfl
  | succ d ih =>
    intro v k bg hv hk tk
    have cv : ((v : Int) + 1) = ((v + 1 : Nat) : Int) := by omega
    by_cases h0 : k = 0
    · subst h0
      rw [rowsL, if_pos rfl, tab_zero _ _ _ (by omega), List.count_replicate]
      simp
    · have p0 := hN.part false hk tk (by omega)
      have p1 := hN.part true hk tk (by omega)
      rw [rowsL, if_neg h0, List.length_append, ih (v + 1) _ _ (by omega) p0.1 (by have := p0.2; omega), ih (v + 1) _ _ (by omega) p1.1 (by have := p1.2; omega), tab, List.count_append, cv]
open Go.RowKit

theorem big_var {m j : Nat} (hj : j < m) (hm : m ≤ 40) : IsTab m (varT m j) [((j : Int), 0, 1)] 2 := ⟨hm, varT_length m j, table_var hm hj, by simp⟩

theorem and_big {m j : Nat} (hj : j < m) (hm : m ≤ 40) (a b : Option Addr) (c e : Nat) (w : World) (hat : SliceAt w 80 3 (.slice a (chL j).length c) (chL j).length (ndCells (chL j))) (hbt : SliceAt w 80 3 (.slice b 1 e) 1 (ndCells [((j : Int), 0, 1)])) :
    Calls Try.prog 16 #[.agg #[.int .i64 m, .slice a (chL j).length c, .int .i64 ((j : Int) + 1)], .agg #[.int .i64 m, .slice b 1 e, .int .i64 2]] w (DRet w m (chL (j + 1)) ((j : Int) + 2)) := by
  have T := chL_tab (j := j) (by omega) hm
  have U := big_var hj hm
  have T' := chL_tab (j := j + 1) (by omega) hm
  have e2 : ((j + 1 : Nat) : Int) + 1 = (j : Int) + 2 := by omega
  have key : Calls Try.prog 16 #[(⟨m, a, c, chL j, (j : Int) + 1⟩ : Dg).v, (⟨m, b, e, [((j : Int), 0, 1)], 2⟩ : Dg).v] w (DRet w m (tableF m [] 0 (chT' m (j + 1))).1 (tableF m [] 0 (chT' m (j + 1))).2) := by
    refine and_call ⟨m, a, c, chL j, (j : Int) + 1⟩ ⟨m, b, e, [((j : Int), 0, 1)], 2⟩ m _ _ 0 w (fun W a' hW hD => ?_)
    refine (comb_tab 51 enter_And a' 2 [⟨m, a, c, chL j, (j : Int) + 1⟩, ⟨m, b, e, [((j : Int), 0, 1)], 2⟩] W hD (by simp) (by simp) (fun x hx => by simp at hx; rcases hx with rfl | rfl <;> first | exact SliceAt.same hat hW | exact SliceAt.same hbt hW) m [chT' m j, varT m j] ⟨⟨rfl, T⟩, ⟨rfl, U⟩, trivial⟩ _ hm (by rw [T'.eq]; exact T'.short) ?_)
    intro N ks hN hT hl _
    obtain ⟨k, i, rfl, ⟨hk, ht⟩, hi, hu⟩ := hT.two
    have tk := (topF_range hN.val hk).1
    have ti := (topF_range hN.val hi).1
    obtain ⟨s', r, a1, a2, a3, a4, a5, a6, a7, a8⟩ := ite_right m 0 k i 0 (N, []) (m + 1) hN (Memo.nil _ _) hk hi (vnum0 N) tk ti (by rw [topF_const (by omega)]; omega) (by omega) (by omega) (by omega)
    simp only at a4 a7 a8
    have hO := chL_ord (j := j) (by omega) hm
    have hch := chain_of_tab hN (by omega) hm m 0 k j (by omega) (by omega) hk tk (Nat.le_refl _) (topF_range hO.val (chL_num j j (Nat.le_refl _))).1 (by rw [ht]; rfl)
    have hOv := U.ord
    have htop := top_of_tab hN hOv.1 m 0 i 2 (by omega) (by omega) hi hOv.2.1 ti (topF_range hOv.1.val hOv.2.1).1 (by rw [hu, hOv.2.2]) j (by omega) (by rw [topF_node (by omega)]; simp [nodeF])
    have hgr := chain_grow hN (J := (j : Int)) (by omega) hi htop k hch (m + 1) (N, []) s' r (List.prefix_refl _) hk a1
    simp only at hgr
    refine ⟨s'.1, r, a2, a5, by rw [a7, ht, hu, tab0 _ hm, chT_and hj hm], by omega, ?_⟩
    intro W B p m' mm a'' cap' ar cr h1 h2 h3 h4
    exact and_do (m + 1) B p m' mm a'' cap' N ar cr k i s' r W h1 h2 h3 hN.val h4 hk hi a1 (by omega)
  rw [T'.eq, e2] at key
  exact key
end Go.Proofs.Ytaebjalpebgliaa
