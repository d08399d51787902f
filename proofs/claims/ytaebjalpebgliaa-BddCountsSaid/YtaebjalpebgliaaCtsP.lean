/- BddCounts, plain: the assignments in order; the first one; the variables that a function depends on. No program in sight. -/
import Derived.Test.YtaebjalpebgliaaBigP
import Derived.Test.YtaebjalpebgliaaChgP
import Derived.Lib.SlicesCompact
namespace Go.Proofs.Ytaebjalpebgliaa
set_option linter.unusedVariables false
set_option linter.unusedSimpArgs false

/-! ### the rows -/
/-- The bits of an index. -/
def bitsF (n i : Nat) : List Bool := (List.range n).map (bitF n i)

theorem bitsF_length (n i : Nat) : (bitsF n i).length = n := by simp [bitsF]
theorem bitsF_get (n i v : Nat) (h : v < n) : (bitsF n i)[v]? = some (bitF n i v) := by simp [bitsF, h]

theorem bitF_low {d i : Nat} (u : Nat) : bitF (d + 1) i (u + 1) = bitF d i u := by
  unfold bitF
  have e : d + 1 - 1 - (u + 1) = d - 1 - u := by omega
  rw [e]

theorem bitF_zero {d i : Nat} (h : i < 2 ^ d) : bitF (d + 1) i 0 = false := by
  unfold bitF
  have e : d + 1 - 1 - 0 = d := by omega
  rw [e, Nat.div_eq_of_lt h]
  rfl

theorem bitF_one {d i : Nat} (h : i < 2 ^ d) : bitF (d + 1) (2 ^ d + i) 0 = true := by
  unfold bitF
  have e : d + 1 - 1 - 0 = d := by omega
  have hp := Nat.two_pow_pos d
  rw [e, Nat.add_div_left _ hp, Nat.div_eq_of_lt h]
  rfl

theorem bitF_up {d i u : Nat} (hu : u < d) : bitF d (2 ^ d + i) u = bitF d i u := by
  unfold bitF
  have hp := Nat.two_pow_pos (d - 1 - u)
  have e : 2 ^ d = 2 ^ (d - 1 - u) * (2 * 2 ^ u) := by
    rw [← Nat.pow_succ', ← Nat.pow_add]
    congr 1
    omega
  rw [e, Nat.mul_add_div hp, Nat.add_comm, Nat.add_mul_mod_self_left]

theorem bitsF_low {d i : Nat} (h : i < 2 ^ d) : bitsF (d + 1) i = false :: bitsF d i := by
  unfold bitsF
  rw [List.range_succ_eq_map, List.map_cons, bitF_zero h, List.map_map]
  congr 1
  refine List.map_congr_left (fun u hu => ?_)
  simp only [Function.comp, Nat.succ_eq_add_one]
  exact bitF_low u

theorem bitsF_high {d i : Nat} (h : i < 2 ^ d) : bitsF (d + 1) (2 ^ d + i) = true :: bitsF d i := by
  unfold bitsF
  rw [List.range_succ_eq_map, List.map_cons, bitF_one h, List.map_map]
  congr 1
  refine List.map_congr_left (fun u hu => ?_)
  simp only [Function.comp, Nat.succ_eq_add_one]
  rw [bitF_low u, bitF_up (List.mem_range.1 hu)]

/-- The indices at which a table is true. -/
def truesF (t : List Bool) (m : Nat) : List Nat := (List.range m).filter fun i => t.getD i false

theorem truesF_append {a b : List Bool} {m : Nat} (ha : a.length = m) (hb : b.length = m) : truesF (a ++ b) (m + m) = truesF a m ++ (truesF b m).map (m + ·) := by
  unfold truesF
  rw [List.range_add, List.filter_append, List.filter_map]
  congr 1
  · refine List.filter_congr (fun i hi => ?_)
    have := List.mem_range.1 hi
    simp only [List.getD_eq_getElem?_getD]
    rw [List.getElem?_append_left (by omega)]
  · congr 1
    refine List.filter_congr (fun i hi => ?_)
    simp only [Function.comp, List.getD_eq_getElem?_getD]
    rw [List.getElem?_append_right (by omega)]
    congr 2
    omega

theorem truesF_zero (m : Nat) : truesF (List.replicate m false) m = [] := by
  unfold truesF
  refine List.filter_eq_nil_iff.2 (fun i hi => ?_)
  simp [List.getD, List.mem_range.1 hi]

theorem rowsL_trues {N : List Nd} {n : Nat} (hN : Ord N n) : ∀ (d v : Nat) (k : Int) (bg : List Bool), v + d = n → VNum N k → (v : Int) ≤ topF N k →
    rowsL N d v k bg = (truesF (tab N d v k) (2 ^ d)).map fun i => bg ++ bitsF d i := by
  intro d
  have n40 := hN.n40
  induction d with
  | zero =>
    intro v k bg hv hk tk
    rcases hN.const hk (by omega) with rfl | rfl
    · rfl
    · simp [rowsL, truesF, tab, bitsF, List.range_one]
  | succ d ih =>
    intro v k bg hv hk tk
    have cv : ((v : Int) + 1) = ((v + 1 : Nat) : Int) := by omega
    by_cases h0 : k = 0
    · subst h0
      rw [rowsL, if_pos rfl, tab_zero _ _ _ (by omega), truesF_zero]
      rfl
    · have p0 := hN.part false hk tk (by omega)
      have p1 := hN.part true hk tk (by omega)
      have e2 : 2 ^ (d + 1) = 2 ^ d + 2 ^ d := by omega
      rw [rowsL, if_neg h0, ih (v + 1) _ _ (by omega) p0.1 (by have := p0.2; omega), ih (v + 1) _ _ (by omega) p1.1 (by have := p1.2; omega), tab, e2, truesF_append (tab_length _ _ _ _) (tab_length _ _ _ _), cv, List.map_append, List.map_map]
      congr 1
      · refine List.map_congr_left (fun i hi => ?_)
        have hi' : i < 2 ^ d := by unfold truesF at hi; exact List.mem_range.1 (List.mem_filter.1 hi).1
        rw [bitsF_low hi', List.append_assoc]; rfl
      · refine List.map_congr_left (fun i hi => ?_)
        have hi' : i < 2 ^ d := by unfold truesF at hi; exact List.mem_range.1 (List.mem_filter.1 hi).1
        simp only [Function.comp]
        rw [bitsF_high hi', List.append_assoc]; rfl

/-- All rows of a table. -/
theorem rowsL_all {n : Nat} {t : List Bool} {L : List Nd} {r : Int} (T : IsTab n t L r) : rowsL L n 0 r [] = (truesF t (2 ^ n)).map (bitsF n) := by
  obtain ⟨ho, hv, ht⟩ := T.ord
  have h := rowsL_trues ho n 0 r [] (by omega) hv (topF_range ho.val hv).1
  have e0 : ((0 : Nat) : Int) = 0 := rfl
  rw [e0, ht] at h
  rw [h]
  rfl

theorem truesF_succ (t : List Bool) (m : Nat) : truesF t (m + 1) = truesF t m ++ (if t.getD m false then [m] else []) := by
  unfold truesF
  rw [List.range_succ, List.filter_append]
  congr 1
  rw [List.filter_cons, List.filter_nil]

/-- The row of an index at which the table is true. -/
theorem truesF_at (t : List Bool) (M i : Nat) (h : i < M) (hf : t.getD i false = true) : (truesF t M)[(truesF t i).length]? = some i := by
  obtain ⟨c, rfl⟩ : ∃ c, M = (i + 1) + c := ⟨M - (i + 1), by omega⟩
  have e : truesF t (i + 1 + c) = (truesF t i ++ [i]) ++ ((List.range c).map (i + 1 + ·)).filter fun i => t.getD i false := by
    have := truesF_succ t i
    rw [hf, if_pos rfl] at this
    rw [← this]
    unfold truesF
    rw [List.range_add, List.filter_append]
  rw [e, List.append_assoc, List.getElem?_append_right (Nat.le_refl _), Nat.sub_self]
  rfl

theorem truesF_le (t : List Bool) : ∀ (i M : Nat), i ≤ M → (truesF t i).length ≤ (truesF t M).length := by
  intro i M h
  obtain ⟨c, rfl⟩ : ∃ c, M = i + c := ⟨M - i, by omega⟩
  unfold truesF
  rw [List.range_add, List.filter_append, List.length_append]
  omega

theorem truesF_len (t : List Bool) (i : Nat) : (truesF t i).length ≤ i := by
  have := List.length_filter_le (fun i => t.getD i false) (List.range i)
  simpa [truesF] using this

/-! ### the first row -/
theorem take_snoc_get {bs : List Bool} {v : Nat} (h : v < bs.length) : bs.take (v + 1) = bs.take v ++ [bs[v]] := by
  rw [List.take_succ_eq_append_getElem h]

theorem any_head {N : List Nd} {n : Nat} (hN : Ord N n) : ∀ (d v : Nat) (k : Int) (bs : List Bool), v + d = n → VNum N k → (v : Int) ≤ topF N k → k ≠ 0 → bs.length = n → (∀ u, v ≤ u → bs.getD u false = false) →
    (rowsL N d v k (bs.take v)).head? = some (anyF N k.toNat k bs) := by
  intro d
  have n40 := hN.n40
  induction d with
  | zero =>
    intro v k bs hv hk tk h0 hb hz
    rcases hN.const hk (by omega) with rfl | rfl
    · exact absurd rfl h0
    · have e : anyF N (1 : Int).toNat 1 bs = bs := rfl
      rw [e, rowsL, if_neg (by omega), List.take_of_length_le (by omega)]
      rfl
  | succ d ih =>
    intro v k bs hv hk tk h0 hb hz
    have p0 := hN.part false hk tk (by omega)
    have p1 := hN.part true hk tk (by omega)
    have hvb : v < bs.length := by omega
    have hbv : bs[v] = false := by have := hz v (Nat.le_refl _); simpa [List.getD, hvb] using this
    have t0 : bs.take v ++ [false] = bs.take (v + 1) := by rw [take_snoc_get hvb, hbv]
    rw [rowsL, if_neg h0]
    by_cases ht : topF N k = v
    · have h2 : 2 ≤ k := by
        rcases Int.lt_or_le k 2 with h' | h'
        · rw [topF_const h'] at ht; omega
        · exact h'
      rw [partF_low ht] at p0 ⊢
      rw [partF_high ht] at p1 ⊢
      have hst := anyF_step hN.val hk h2 bs
      have hlow := hN.low h2 hk
      have hvn : (nodeF N k).1.toNat = v := by rw [← topF_node h2, ht]; rfl
      rw [hst]
      by_cases hl : (nodeF N k).2.1 = 0
      · rw [if_pos hl, hl]
        have e0 : ∀ (m w : Nat) (l : List Bool), rowsL N m w 0 l = [] := by intro m w l; cases m <;> simp [rowsL]
        rw [e0, List.nil_append, hvn]
        have t1 : bs.take v ++ [true] = (bs.set v true).take (v + 1) := by
          rw [take_snoc_get (by simpa using hvb), List.getElem_set_self, List.take_set_of_le (Nat.le_refl _)]
        rw [t1]
        refine ih (v + 1) _ _ (by omega) p1.1 (by have := p1.2; omega) (fun e => hlow.2.2.2.2 (by rw [hl, e])) (by simpa using hb) (fun u hu => ?_)
        have := hz u (by omega)
        rw [List.getD, List.getElem?_set_ne (by omega)]
        exact this
      · rw [if_neg hl, t0, List.head?_append, ih (v + 1) _ bs (by omega) p0.1 (by have := p0.2; omega) hl hb (fun u hu => hz u (by omega))]
        rfl
    · rw [partF_skip (by omega)] at p0 ⊢
      rw [t0, List.head?_append, ih (v + 1) _ bs (by omega) hk (by have := p0.2; omega) h0 hb (fun u hu => hz u (by omega))]
      rfl

theorem any_first {n : Nat} {t : List Bool} {L : List Nd} {r : Int} (T : IsTab n t L r) (h0 : r ≠ 0) : (rowsL L n 0 r [])[0]? = some (anyF L r.toNat r (List.replicate n false)) := by
  obtain ⟨ho, hv, ht⟩ := T.ord
  have h := any_head ho n 0 r (List.replicate n false) (by omega) hv (topF_range ho.val hv).1 h0 (by simp) (fun u _ => by
    simp only [List.getD_eq_getElem?_getD, List.getElem?_replicate]; split <;> rfl)
  rw [← List.head?_eq_getElem?]
  simpa using h

/-! ### what a function depends on -/
def depF (n : Nat) (t : List Bool) (v : Nat) : Bool := (List.range (2 ^ n)).any fun i => t.getD i false != t.getD (withF n i v true) false

theorem ev_not {N : List Nd} (h : VNd N) {v : Nat} {b : Bool} {ρ : Nat → Bool} (hv : ∀ x ∈ N, x.1 ≠ (v : Int)) : ∀ (f : Nat) (k : Int), VNum N k → evF N f k (updF ρ v b) = evF N f k ρ := by
  intro f
  induction f with
  | zero => intro k _; rfl
  | succ f ih =>
    intro k hk
    simp only [evF]
    by_cases h2 : k < 2
    · rw [if_pos h2, if_pos h2]
    · rw [if_neg h2, if_neg h2]
      have hvn := nodeF_valid h (by omega) hk.2
      have hm := nodeF_mem (N := N) (k := k) (by omega) hk.2
      have hne : (nodeF N k).1.toNat ≠ v := by
        intro e
        exact hv _ hm (by have := hvn.1; omega)
      have e : updF ρ v b (nodeF N k).1.toNat = ρ (nodeF N k).1.toNat := by simp [updF, hne]
      rw [e, ih _ hvn.2.2.2.1, ih _ hvn.2.2.1]

theorem dep_mem {n : Nat} {t : List Bool} {L : List Nd} {r : Int} (T : IsTab n t L r) {v : Nat} (hv : v < n) (h : depF n t v = true) : (v : Int) ∈ L.map (·.1) := by
  obtain ⟨ho, hr, ht⟩ := T.ord
  apply Classical.byContradiction
  intro hn
  have hn' : ∀ x ∈ L, x.1 ≠ (v : Int) := fun x hx e => hn (List.mem_map.2 ⟨x, hx, e⟩)
  unfold depF at h
  obtain ⟨i, hi, hne⟩ := List.any_eq_true.1 h
  have hi' := List.mem_range.1 hi
  have e1 : t.getD i false = ev L r (bitF n i) := by rw [← ht]; exact tab_bit ho hr hi'
  have e2 : t.getD (withF n i v true) false = ev L r (updF (bitF n i) v true) := by
    rw [with_place n i v true hi' hv, ← ht]
    have := tab_ev ho (updF (bitF n i) v true) n 0 r (by omega) hr (topF_range ho.val hr).1
    exact this
  rw [e1, e2] at hne
  unfold ev at hne
  rw [ev_not ho.val hn' _ _ hr] at hne
  simp at hne

def DepR : Nat → List Bool → Int → Int → Prop
  | 0, _, _, _ => False
  | d + 1, t, v, u => (u = v ∧ t.take (t.length / 2) ≠ t.drop (t.length / 2)) ∨ DepR d (t.take (t.length / 2)) (v + 1) u ∨ DepR d (t.drop (t.length / 2)) (v + 1) u

theorem table_dep {n : Int} : ∀ (d : Nat) (N : List Nd) (v : Int) (t : List Bool), Ord N n → v + d = n → 0 ≤ v → t.length = 2 ^ d → ∀ x ∈ (tableF d N v t).1, x ∈ N ∨ DepR d t v x.1 := by
  intro d
  induction d with
  | zero => intro N v t hN hv h0 hl x hx; exact .inl hx
  | succ d ih =>
    intro N v t hN hv h0 hl x hx
    have hh : t.length / 2 = 2 ^ d := by rw [hl]; omega
    have l1 : (t.take (t.length / 2)).length = 2 ^ d := by simp; omega
    have l2 : (t.drop (t.length / 2)).length = 2 ^ d := by simp; omega
    obtain ⟨a1, a2, a3, a4, a5⟩ := table_ord d N (v + 1) (t.take (t.length / 2)) hN (by omega) (by omega)
    obtain ⟨b1, b2, b3, b4, b5⟩ := table_ord d (tableF d N (v + 1) (t.take (t.length / 2))).1 (v + 1) (t.drop (t.length / 2)) a1 (by omega) (by omega)
    have IA := ih N (v + 1) (t.take (t.length / 2)) hN (by omega) (by omega) l1
    have IB := ih (tableF d N (v + 1) (t.take (t.length / 2))).1 (v + 1) (t.drop (t.length / 2)) a1 (by omega) (by omega) l2
    rw [tableF] at hx
    have hold : ∀ y ∈ (tableF d (tableF d N (v + 1) (t.take (t.length / 2))).1 (v + 1) (t.drop (t.length / 2))).1, y ∈ N ∨ DepR (d + 1) t v y.1 := by
      intro y hy
      rcases IB y hy with h | h
      · rcases IA y h with h | h
        · exact .inl h
        · exact .inr (.inr (.inl h))
      · exact .inr (.inr (.inr h))
    unfold numF at hx
    split at hx
    · exact hold x hx
    · rename_i hne
      split at hx
      · rcases List.mem_append.1 hx with h | h
        · exact hold x h
        · rw [List.mem_singleton.1 h]
          refine .inr (.inl ⟨rfl, fun he => hne ?_⟩)
          have e1 := a5 l1
          have e2 := b5 l2
          rw [← he] at e2
          refine tab_inj b1 d (v + 1) _ _ (by omega) (a3.ext b2) b3 (by rw [topF_ext b2 a3]; exact a4) b4 ?_
          rw [tab_ext a1 b2 d _ _ (by omega) a3 a4, e1]
          rw [he] at e2 ⊢
          exact e2.symm
      · exact hold x hx

theorem withF_low (d i u : Nat) (b : Bool) : withF (d + 1) i (u + 1) b = withF d i u b := by
  unfold withF
  have e : d + 1 - 1 - (u + 1) = d - 1 - u := by omega
  rw [bitF_low, e]

theorem withF_up {d i u : Nat} (hi : i < 2 ^ d) (hu : u < d) : withF (d + 1) (2 ^ d + i) (u + 1) true = 2 ^ d + withF d i u true := by
  rw [withF_low]
  unfold withF
  rw [bitF_up hu]
  split
  · rfl
  · simp only [if_true]; omega

theorem depR_with : ∀ (d : Nat) (t : List Bool) (v u : Int), t.length = 2 ^ d → DepR d t v u → v ≤ u ∧ u < v + d ∧ ∃ i, i < 2 ^ d ∧ t.getD i false ≠ t.getD (withF d i (u - v).toNat true) false := by
  intro d
  induction d with
  | zero => intro t v u _ h; exact h.elim
  | succ d ih =>
    intro t v u hl h
    have hh : t.length / 2 = 2 ^ d := by rw [hl]; omega
    have hp := Nat.two_pow_pos d
    have l1 : (t.take (t.length / 2)).length = 2 ^ d := by simp; omega
    have l2 : (t.drop (t.length / 2)).length = 2 ^ d := by simp; omega
    have gt : ∀ i, i < 2 ^ d → (t.take (t.length / 2)).getD i false = t.getD i false := by
      intro i hi
      simp only [List.getD_eq_getElem?_getD]
      rw [List.getElem?_take_of_lt (by omega)]
    have gd : ∀ i, (t.drop (t.length / 2)).getD i false = t.getD (2 ^ d + i) false := by
      intro i
      simp only [List.getD_eq_getElem?_getD]
      rw [List.getElem?_drop, hh]
    rcases h with ⟨rfl, hne⟩ | h | h
    · refine ⟨by omega, by omega, ?_⟩
      apply Classical.byContradiction
      intro hn
      apply hne
      apply List.ext_getElem (by omega)
      intro i h1 h2
      have hi : i < 2 ^ d := by omega
      have e1 := gt i hi
      have e2 := gd i
      have hw : withF (d + 1) i (u - u).toNat true = 2 ^ d + i := by
        have e : (u - u).toNat = 0 := by omega
        rw [e]
        unfold withF
        rw [bitF_zero hi, if_neg (by simp), if_pos rfl]
        have e : d + 1 - 1 - 0 = d := by omega
        rw [e]; omega
      have : t.getD i false = t.getD (2 ^ d + i) false := by
        apply Classical.byContradiction
        intro hc
        exact hn ⟨i, by omega, by rw [hw]; exact hc⟩
      rw [← e1, ← e2] at this
      simp only [List.getD_eq_getElem?_getD, List.getElem?_eq_getElem h1, List.getElem?_eq_getElem h2, Option.getD_some] at this
      exact this
    · obtain ⟨a1, a2, i, a3, a4⟩ := ih _ (v + 1) u l1 h
      refine ⟨by omega, by omega, i, by omega, ?_⟩
      have e : (u - v).toNat = (u - (v + 1)).toNat + 1 := by omega
      have hw := with_lt d i (u - (v + 1)).toNat true a3 (by omega)
      rw [gt i a3, gt _ hw] at a4
      rw [e, withF_low]
      exact a4
    · obtain ⟨a1, a2, i, a3, a4⟩ := ih _ (v + 1) u l2 h
      refine ⟨by omega, by omega, 2 ^ d + i, by omega, ?_⟩
      have e : (u - v).toNat = (u - (v + 1)).toNat + 1 := by omega
      rw [gd, gd] at a4
      rw [e, withF_up a3 (by omega)]
      exact a4

theorem mem_dep {n : Nat} {t : List Bool} {L : List Nd} {r : Int} (T : IsTab n t L r) {u : Int} (h : u ∈ L.map (·.1)) : 0 ≤ u ∧ u < n ∧ depF n t u.toNat = true := by
  obtain ⟨x, hx, rfl⟩ := List.mem_map.1 h
  have hd := table_dep (n := n) n [] 0 t (Ord.nil (by have := T.n40; omega)) (by omega) (by omega) T.len
  rw [T.eq] at hd
  rcases hd x hx with h | h
  · simp at h
  · obtain ⟨a1, a2, i, a3, a4⟩ := depR_with n t 0 x.1 T.len h
    refine ⟨by omega, by omega, ?_⟩
    unfold depF
    refine List.any_eq_true.2 ⟨i, List.mem_range.2 a3, ?_⟩
    have e : (x.1 - 0).toNat = x.1.toNat := by omega
    rw [e] at a4
    simpa using a4

/-- The variables on which a table depends, below one. -/
def depsF (n : Nat) (t : List Bool) (m : Nat) : List Int := ((List.range m).filter (depF n t)).map fun (v : Nat) => (v : Int)

theorem depsF_succ (n : Nat) (t : List Bool) (m : Nat) : depsF n t (m + 1) = depsF n t m ++ (if depF n t m then [(m : Int)] else []) := by
  unfold depsF
  rw [List.range_succ, List.filter_append, List.map_append]
  congr 1
  cases h : depF n t m <;> simp [h]

theorem strict_ext : ∀ (a b : List Int), a.Pairwise (· < ·) → b.Pairwise (· < ·) → (∀ x, x ∈ a ↔ x ∈ b) → a = b := by
  intro a
  induction a with
  | nil =>
    intro b _ _ h
    cases b with
    | nil => rfl
    | cons y b => have := (h y).2 (by simp); simp at this
  | cons x a ih =>
    intro b ha hb h
    cases b with
    | nil => have := (h x).1 (by simp); simp at this
    | cons y b =>
      have pa := List.pairwise_cons.1 ha
      have pb := List.pairwise_cons.1 hb
      have exy : x = y := by
        have h1 := (h x).1 (by simp)
        have h2 := (h y).2 (by simp)
        rcases List.mem_cons.1 h1 with h1 | h1
        · exact h1
        · rcases List.mem_cons.1 h2 with h2 | h2
          · exact h2.symm
          · have := pb.1 x h1; have := pa.1 y h2; omega
      subst exy
      congr 1
      refine ih b pa.2 pb.2 (fun z => ⟨fun hz => ?_, fun hz => ?_⟩)
      · rcases List.mem_cons.1 ((h z).1 (List.mem_cons_of_mem _ hz)) with e | e
        · subst e; have := pa.1 z hz; omega
        · exact e
      · rcases List.mem_cons.1 ((h z).2 (List.mem_cons_of_mem _ hz)) with e | e
        · subst e; have := pb.1 z hz; omega
        · exact e

open Go.Lib in
theorem compact_sorted {d : Array Int} (hs : ∀ i j, i ≤ j → j < d.size → d[i]! ≤ d[j]!) : ∀ m, m ≤ d.size →
    (compactUpTo d m).Pairwise (· < ·) ∧ (∀ x, x ∈ compactUpTo d m ↔ ∃ j, j < m ∧ d[j]! = x) := by
  intro m
  induction m with
  | zero => intro _; exact ⟨List.Pairwise.nil, fun x => ⟨fun h => by simp [compactUpTo] at h, fun ⟨j, hj, _⟩ => by omega⟩⟩
  | succ m ih =>
    intro hm
    obtain ⟨a1, a2⟩ := ih (by omega)
    rw [compactUpTo_succ]
    by_cases hk : keeps d m = true
    · rw [hk, if_pos rfl]
      refine ⟨List.pairwise_append.2 ⟨a1, List.pairwise_singleton _ _, fun x hx y hy => ?_⟩, fun x => ?_⟩
      · rw [List.mem_singleton.1 hy]
        obtain ⟨j, hj, rfl⟩ := (a2 x).1 hx
        have h1 := hs j (m - 1) (by omega) (by omega)
        have h2 := hs (m - 1) m (by omega) (by omega)
        have h3 : d[m]! ≠ d[m - 1]! := by
          unfold keeps at hk
          rcases of_decide_eq_true hk with h | h
          · omega
          · exact h
        omega
      · rw [List.mem_append, a2 x, List.mem_singleton]
        constructor
        · rintro (⟨j, hj, h⟩ | h)
          · exact ⟨j, by omega, h⟩
          · exact ⟨m, by omega, h.symm⟩
        · rintro ⟨j, hj, h⟩
          by_cases e : j = m
          · subst e; exact .inr h.symm
          · exact .inl ⟨j, by omega, h⟩
    · have hk' : keeps d m = false := by simpa using hk
      rw [hk']
      simp only [Bool.false_eq_true, if_false, List.append_nil]
      refine ⟨a1, fun x => ?_⟩
      rw [a2 x]
      unfold keeps at hk'
      have hk2 := of_decide_eq_false hk'
      have hm0 : m ≠ 0 := fun e => hk2 (.inl e)
      have he : d[m]! = d[m - 1]! := by
        apply Classical.byContradiction
        intro hc
        exact hk2 (.inr hc)
      constructor
      · rintro ⟨j, hj, h⟩; exact ⟨j, by omega, h⟩
      · rintro ⟨j, hj, h⟩
        by_cases e : j = m
        · subst e; exact ⟨j - 1, by omega, by rw [← he]; exact h⟩
        · exact ⟨j, by omega, h⟩

/-- What Support makes of the variables of the nodes. -/
def supF (L : List Nd) : List Int := Go.Lib.compact ((L.map (·.1)).mergeSort fun x y => decide (x ≤ y))

theorem supF_deps {n : Nat} {t : List Bool} {L : List Nd} {r : Int} (T : IsTab n t L r) : supF L = depsF n t n := by
  have hsort : ((L.map (·.1)).mergeSort fun x y => decide (x ≤ y)).Pairwise (fun a b : Int => a ≤ b) := by
    have := List.pairwise_mergeSort (le := fun x y : Int => decide (x ≤ y)) (by intro a b c h1 h2; simp at *; omega) (by intro a b; simp; omega) (L.map (·.1))
    simpa using this
  obtain ⟨zs, hzs⟩ : ∃ zs, zs = (L.map (·.1)).mergeSort fun x y => decide (x ≤ y) := ⟨_, rfl⟩
  have hmem : ∀ x, x ∈ zs ↔ x ∈ L.map (·.1) := fun x => by rw [hzs]; exact List.mem_mergeSort
  rw [← hzs] at hsort
  have hc := compact_sorted (d := zs.toArray) (fun i j hij hj => by
    have hj' : j < zs.length := by simpa using hj
    have hi' : i < zs.length := by omega
    have e1 : zs.toArray[i]! = zs[i] := by simp [hi']
    have e2 : zs.toArray[j]! = zs[j] := by simp [hj']
    rw [e1, e2]
    rcases Nat.lt_or_eq_of_le hij with h | h
    · exact List.pairwise_iff_getElem.1 hsort i j hi' hj' h
    · subst h; exact Int.le_refl _) zs.length (by simp)
  have hd : (depsF n t n).Pairwise (· < ·) := by
    unfold depsF
    rw [List.pairwise_map]
    refine List.Pairwise.filter _ ?_
    exact List.pairwise_lt_range.imp (fun h => by omega)
  unfold supF
  rw [← hzs]
  unfold Go.Lib.compact
  refine strict_ext _ _ hc.1 hd (fun x => ?_)
  rw [hc.2 x]
  constructor
  · rintro ⟨j, hj, rfl⟩
    have e1 : zs.toArray[j]! = zs[j] := by simp [hj]
    rw [e1]
    obtain ⟨h1, h2, h3⟩ := mem_dep T ((hmem _).1 (List.getElem_mem hj))
    unfold depsF
    exact List.mem_map.2 ⟨zs[j].toNat, List.mem_filter.2 ⟨List.mem_range.2 (by omega), h3⟩, by omega⟩
  · intro hx
    unfold depsF at hx
    obtain ⟨v, hv, rfl⟩ := List.mem_map.1 hx
    obtain ⟨hv1, hv2⟩ := List.mem_filter.1 hv
    have := (hmem _).2 (dep_mem T (List.mem_range.1 hv1) hv2)
    obtain ⟨j, hj, e⟩ := List.mem_iff_getElem.1 this
    exact ⟨j, hj, by simp [hj, e]⟩
end Go.Proofs.Ytaebjalpebgliaa
