/- Reduced ordered nodes on plain lists: tables, canonical form, and what number, table, finish, add and ite make. No program in sight. -/
import Derived.Test.YtaebjalpebgliaaPure
namespace Go.Proofs.Ytaebjalpebgliaa

theorem nodup_inj {α : Type} {l : List α} (h : l.Nodup) {i j : Nat} (hi : i < l.length) (hj : j < l.length) (e : l[i] = l[j]) : i = j := by
  rcases Nat.lt_trichotomy i j with h' | h' | h'
  · exact absurd e (List.pairwise_iff_getElem.1 h i j hi hj h')
  · exact h'
  · exact absurd e.symm (List.pairwise_iff_getElem.1 h j i hj hi h')

/-- The table of a number: the variables from v on, d of them. -/
def tab (N : List Nd) : Nat → Int → Int → List Bool
  | 0, _, k => [decide (k = 1)]
  | d + 1, v, k => tab N d (v + 1) (partF N k v false) ++ tab N d (v + 1) (partF N k v true)

theorem tab_length (N : List Nd) (d : Nat) : ∀ (v k : Int), (tab N d v k).length = 2 ^ d := by
  induction d with
  | zero => intro v k; rfl
  | succ d ih => intro v k; simp [tab, ih]; omega

/-- Reduced and ordered nodes over n variables, each once. -/
structure Ord (N : List Nd) (n : Int) : Prop where
  n40 : n ≤ 40
  val : VNd N
  var : ∀ x ∈ N, x.1 < n
  red : ∀ x ∈ N, x.2.1 ≠ x.2.2
  ord : ∀ x ∈ N, x.1 < topF N x.2.1 ∧ x.1 < topF N x.2.2
  nodup : N.Nodup

theorem nodeF_mem {N : List Nd} {k : Int} (h2 : 2 ≤ k) (hk : k < (N.length : Int) + 2) : nodeF N k ∈ N := by
  have hlt : (k - 2).toNat < N.length := by omega
  simp [nodeF, hlt]

theorem topF_const {N : List Nd} {k : Int} (h : k < 2) : topF N k = 40 := by simp [topF, h]
theorem topF_node {N : List Nd} {k : Int} (h : 2 ≤ k) : topF N k = (nodeF N k).1 := by simp [topF, Int.not_lt.2 h]

theorem Ord.top_lt {N : List Nd} {n : Int} (h : Ord N n) {k : Int} (h2 : 2 ≤ k) (hk : VNum N k) : topF N k < n := by
  rw [topF_node h2]; exact h.var _ (nodeF_mem h2 hk.2)

theorem Ord.const {N : List Nd} {n : Int} (h : Ord N n) {k : Int} (hk : VNum N k) (ht : n ≤ topF N k) : k = 0 ∨ k = 1 := by
  rcases Int.lt_or_le k 2 with h2 | h2
  · have := hk.1; omega
  · have := h.top_lt h2 hk; omega

theorem Ord.low {N : List Nd} {n : Int} (h : Ord N n) {k : Int} (h2 : 2 ≤ k) (hk : VNum N k) :
    VNum N (nodeF N k).2.1 ∧ VNum N (nodeF N k).2.2 ∧ topF N k < topF N (nodeF N k).2.1 ∧ topF N k < topF N (nodeF N k).2.2 ∧ (nodeF N k).2.1 ≠ (nodeF N k).2.2 := by
  have hv := nodeF_valid h.val h2 hk.2
  have hm := nodeF_mem h2 hk.2
  rw [topF_node h2]
  exact ⟨hv.2.2.1, hv.2.2.2.1, (h.ord _ hm).1, (h.ord _ hm).2, h.red _ hm⟩

theorem partF_skip {N : List Nd} {k v : Int} {b : Bool} (h : v < topF N k) : partF N k v b = k := by
  unfold partF; rw [if_pos (by omega)]
theorem partF_low {N : List Nd} {k v : Int} (h : topF N k = v) : partF N k v false = (nodeF N k).2.1 := by
  unfold partF; simp [h]
theorem partF_high {N : List Nd} {k v : Int} (h : topF N k = v) : partF N k v true = (nodeF N k).2.2 := by
  unfold partF; simp [h]

theorem Ord.part {N : List Nd} {n : Int} (h : Ord N n) {k v : Int} (b : Bool) (hk : VNum N k) (hv : v ≤ topF N k) (hn : v < n) : VNum N (partF N k v b) ∧ v + 1 ≤ topF N (partF N k v b) := by
  by_cases ht : topF N k = v
  · have h2 : 2 ≤ k := by
      rcases Int.lt_or_le k 2 with h' | h'
      · rw [topF_const h'] at ht; have := h.n40; omega
      · exact h'
    have := h.low h2 hk
    cases b
    · rw [partF_low ht]; exact ⟨this.1, by omega⟩
    · rw [partF_high ht]; exact ⟨this.2.1, by omega⟩
  · rw [partF_skip (by omega)]; exact ⟨hk, by omega⟩

theorem tab_skip {N : List Nd} {d : Nat} {v k : Int} (h : v < topF N k) : tab N (d + 1) v k = tab N d (v + 1) k ++ tab N d (v + 1) k := by
  rw [tab, partF_skip h, partF_skip h]

theorem tab_inj {N : List Nd} {n : Int} (h : Ord N n) : ∀ (d : Nat) (v j k : Int), v + d = n → VNum N j → VNum N k → v ≤ topF N j → v ≤ topF N k → tab N d v j = tab N d v k → j = k := by
  intro d
  induction d with
  | zero =>
    intro v j k hv hj hk tj tk he
    have a := h.const hj (by omega)
    have b := h.const hk (by omega)
    simp [tab] at he
    omega
  | succ d ih =>
    intro v j k hv hj hk tj tk he
    have hn : v < n := by omega
    rw [tab, tab] at he
    obtain ⟨e1, e2⟩ := List.append_inj he (by simp [tab_length])
    have j0 := h.part false hj tj hn
    have j1 := h.part true hj tj hn
    have k0 := h.part false hk tk hn
    have k1 := h.part true hk tk hn
    have e1 := ih (v + 1) _ _ (by omega) j0.1 k0.1 j0.2 k0.2 e1
    have e2 := ih (v + 1) _ _ (by omega) j1.1 k1.1 j1.2 k1.2 e2
    have two : ∀ i, VNum N i → topF N i = v → 2 ≤ i := by
      intro i hi ht
      rcases Int.lt_or_le i 2 with h' | h'
      · rw [topF_const h'] at ht; have := h.n40; omega
      · exact h'
    by_cases hj' : topF N j = v
    · by_cases hk' : topF N k = v
      · rw [partF_low hj', partF_low hk'] at e1
        rw [partF_high hj', partF_high hk'] at e2
        have a2 := two j hj hj'
        have b2 := two k hk hk'
        have t1 := topF_node (N := N) a2
        have t2 := topF_node (N := N) b2
        have en : nodeF N j = nodeF N k := Prod.ext (by omega) (Prod.ext e1 e2)
        have la : (j - 2).toNat < N.length := by have := hj.2; omega
        have lb : (k - 2).toNat < N.length := by have := hk.2; omega
        have en' : N[(j - 2).toNat] = N[(k - 2).toNat] := by simpa [nodeF, la, lb] using en
        have := nodup_inj h.nodup la lb en'
        omega
      · rw [partF_low hj', partF_skip (by omega)] at e1
        rw [partF_high hj', partF_skip (by omega)] at e2
        exact absurd (e1.trans e2.symm) (h.low (two j hj hj') hj).2.2.2.2
    · by_cases hk' : topF N k = v
      · rw [partF_low hk', partF_skip (by omega)] at e1
        rw [partF_high hk', partF_skip (by omega)] at e2
        exact absurd (e1.symm.trans e2) (h.low (two k hk hk') hk).2.2.2.2
      · rw [partF_skip (by omega), partF_skip (by omega)] at e1
        exact e1

/-! ### more nodes -/
theorem nodeF_ext {N N' : List Nd} (h : N <+: N') {k : Int} (h2 : 2 ≤ k) (hk : VNum N k) : nodeF N' k = nodeF N k := by
  obtain ⟨M, rfl⟩ := h
  have hlt : (k - 2).toNat < N.length := by have := hk.2; omega
  simp [nodeF, List.getElem?_append, hlt]

theorem topF_ext {N N' : List Nd} (h : N <+: N') {k : Int} (hk : VNum N k) : topF N' k = topF N k := by
  rcases Int.lt_or_le k 2 with h2 | h2
  · rw [topF_const h2, topF_const h2]
  · rw [topF_node h2, topF_node h2, nodeF_ext h h2 hk]

theorem VNum.ext {N N' : List Nd} {k : Int} (hk : VNum N k) (h : N <+: N') : VNum N' k := hk.mono h.length_le

theorem partF_ext {N N' : List Nd} (h : N <+: N') {k v : Int} {b : Bool} (hv : v < 40) (hk : VNum N k) : partF N' k v b = partF N k v b := by
  unfold partF
  rw [topF_ext h hk]
  rcases Int.lt_or_le k 2 with h2 | h2
  · rw [topF_const h2, if_pos (by omega), if_pos (by omega)]
  · rw [nodeF_ext h h2 hk]

theorem tab_ext {N N' : List Nd} {n : Int} (hN : Ord N n) (h : N <+: N') : ∀ (d : Nat) (v k : Int), v + d = n → VNum N k → v ≤ topF N k → tab N' d v k = tab N d v k := by
  intro d
  induction d with
  | zero => intro v k _ _ _; rfl
  | succ d ih =>
    intro v k hv hk ht
    have hn : v < n := by omega
    have h40 : v < 40 := by have := hN.n40; omega
    have p0 := hN.part false hk ht hn
    have p1 := hN.part true hk ht hn
    rw [tab, tab, partF_ext h h40 hk, partF_ext h h40 hk, ih _ _ (by omega) p0.1 p0.2, ih _ _ (by omega) p1.1 p1.2]

/-! ### number -/
theorem findFrom_zero : ∀ (N : List Nd) (x : Nd) (c : Int), 0 < c → findFrom N x c = 0 → x ∉ N
  | [], _, _, _, _ => by simp
  | y :: N, x, c, hc, h => by
    unfold findFrom at h
    split at h
    · omega
    · rename_i hne
      have := findFrom_zero N x (c + 1) (by omega) h
      simp only [List.mem_cons, not_or]
      exact ⟨fun e => hne e.symm, this⟩

theorem findFrom_get : ∀ (N : List Nd) (x : Nd) (c : Int), 0 < c → findFrom N x c ≠ 0 → N[(findFrom N x c - c).toNat]? = some x
  | [], _, _, _, h => by simp [findFrom] at h
  | y :: N, x, c, hc, h => by
    unfold findFrom at h ⊢
    split
    · rename_i e
      simp [e]
    · rename_i hne
      rw [if_neg hne] at h
      have hg := findFrom_get N x (c + 1) (by omega) h
      have hr := (findFrom_range N x (c + 1) (by omega)).resolve_left h
      rw [show (findFrom N x (c + 1) - c).toNat = (findFrom N x (c + 1) - (c + 1)).toNat + 1 by omega]
      simpa using hg

theorem nodeF_find {N : List Nd} {x : Nd} (h : findFrom N x 2 ≠ 0) : nodeF N (findFrom N x 2) = x := by
  have := findFrom_get N x 2 (by omega) h
  simp [nodeF, List.getD, this]

theorem find_node {N : List Nd} {n : Int} (h : Ord N n) {k : Int} (h2 : 2 ≤ k) (hk : VNum N k) : findFrom N (nodeF N k) 2 = k := by
  have hm := nodeF_mem h2 hk.2
  have h0 : findFrom N (nodeF N k) 2 ≠ 0 := fun e => findFrom_zero N _ 2 (by omega) e hm
  have hg := findFrom_get N _ 2 (by omega) h0
  have hr := (findFrom_range N (nodeF N k) 2 (by omega)).resolve_left h0
  have la : (k - 2).toNat < N.length := by have := hk.2; omega
  have lb : (findFrom N (nodeF N k) 2 - 2).toNat < N.length := by omega
  rw [List.getElem?_eq_getElem lb] at hg
  have en : N[(findFrom N (nodeF N k) 2 - 2).toNat] = N[(k - 2).toNat] := by
    rw [Option.some.inj hg]; simp [nodeF, la]
  have := nodup_inj h.nodup lb la en
  omega

theorem numF_prefix (N : List Nd) (x : Nd) : N <+: (numF N x).1 := by
  unfold numF; split
  · exact List.prefix_refl _
  · split
    · exact List.prefix_append _ _
    · exact List.prefix_refl _

/-- A node is given its number. -/
theorem num_ord {N : List Nd} {n : Int} (h : Ord N n) {v l r : Int} (hv : 0 ≤ v ∧ v < n) (hl : VNum N l) (hr : VNum N r) (tl : v < topF N l) (tr : v < topF N r) :
    Ord (numF N (v, l, r)).1 n ∧ VNum (numF N (v, l, r)).1 (numF N (v, l, r)).2 ∧ v ≤ topF (numF N (v, l, r)).1 (numF N (v, l, r)).2 ∧
    (l ≠ r → topF (numF N (v, l, r)).1 (numF N (v, l, r)).2 = v) ∧
    ∀ d : Nat, v + 1 + d = n → tab (numF N (v, l, r)).1 (d + 1) v (numF N (v, l, r)).2 = tab N d (v + 1) l ++ tab N d (v + 1) r := by
  have h40 := h.n40
  have hval := numF_valid h.val (v := v) (l := l) (h := r) ⟨hv.1, by omega⟩ hl hr
  have hpre := numF_prefix N (v, l, r)
  unfold numF at hval hpre ⊢
  by_cases e : l = r
  · subst e
    simp only [if_true]
    exact ⟨h, hl, by omega, fun c => absurd rfl c, fun d hd => tab_skip tl⟩
  · simp only [if_neg e] at hval hpre ⊢
    by_cases h0 : findFrom N (v, l, r) 2 = 0
    · simp only [if_pos h0] at hval hpre ⊢
      have hnm := findFrom_zero N _ 2 (by omega) h0
      have nd : nodeF (N ++ [(v, l, r)]) ((N.length : Int) + 2) = (v, l, r) := by simp [nodeF]
      have tp : topF (N ++ [(v, l, r)]) ((N.length : Int) + 2) = v := by rw [topF_node (by omega), nd]
      have ho : Ord (N ++ [(v, l, r)]) n := by
        refine ⟨h40, hval.1, fun x hx => ?_, fun x hx => ?_, fun x hx => ?_, ?_⟩
        · rcases List.mem_append.1 hx with hx | hx
          · exact h.var x hx
          · rw [List.mem_singleton.1 hx]; exact hv.2
        · rcases List.mem_append.1 hx with hx | hx
          · exact h.red x hx
          · rw [List.mem_singleton.1 hx]; exact e
        · rcases List.mem_append.1 hx with hx | hx
          · obtain ⟨i, hi, rfl⟩ := List.mem_iff_getElem.1 hx
            have hvi := h.val i N[i] (List.getElem?_eq_getElem hi)
            rw [topF_ext hpre ⟨hvi.2.2.1, by omega⟩, topF_ext hpre ⟨hvi.2.2.2.2.1, by omega⟩]
            exact h.ord _ hx
          · rw [List.mem_singleton.1 hx]
            rw [topF_ext hpre hl, topF_ext hpre hr]
            exact ⟨tl, tr⟩
        · rw [List.nodup_append]
          refine ⟨h.nodup, by simp, fun a ha b hb => ?_⟩
          rw [List.mem_singleton.1 hb]
          rintro rfl
          exact hnm ha
      refine ⟨ho, hval.2, by rw [tp]; omega, fun _ => tp, fun d hd => ?_⟩
      rw [tab, partF_low tp, partF_high tp, nd]
      rw [tab_ext h hpre d _ _ (by omega) hl (by omega), tab_ext h hpre d _ _ (by omega) hr (by omega)]
    · simp only [if_neg h0] at hval hpre ⊢
      have h2 := (findFrom_range N (v, l, r) 2 (by omega)).resolve_left h0
      have nd := nodeF_find h0
      have tp : topF N (findFrom N (v, l, r) 2) = v := by rw [topF_node h2.1, nd]
      refine ⟨h, hval.2, by omega, fun _ => tp, fun d hd => ?_⟩
      rw [tab, partF_low tp, partF_high tp, nd]

theorem Ord.nil {n : Int} (h : n ≤ 40) : Ord [] n := ⟨h, fun i x hx => by simp at hx, by simp, by simp, by simp, by simp⟩

/-! ### table -/
theorem table_ord {n : Int} : ∀ (d : Nat) (N : List Nd) (v : Int) (t : List Bool), Ord N n → v + d = n → 0 ≤ v →
    Ord (tableF d N v t).1 n ∧ N <+: (tableF d N v t).1 ∧ VNum (tableF d N v t).1 (tableF d N v t).2 ∧ v ≤ topF (tableF d N v t).1 (tableF d N v t).2 ∧
    (t.length = 2 ^ d → tab (tableF d N v t).1 d v (tableF d N v t).2 = t) := by
  intro d
  induction d with
  | zero =>
    intro N v t hN hv h0
    have h40 := hN.n40
    simp only [tableF]
    refine ⟨hN, List.prefix_refl _, ?_, ?_, fun hl => ?_⟩
    · split <;> exact ⟨by omega, by omega⟩
    · split <;> rw [topF_const (by omega)] <;> omega
    · match t, hl with
      | [b], _ => cases b <;> simp [tab]
  | succ d ih =>
    intro N v t hN hv h0
    obtain ⟨a1, a2, a3, a4, a5⟩ := ih N (v + 1) (t.take (t.length / 2)) hN (by omega) (by omega)
    obtain ⟨b1, b2, b3, b4, b5⟩ := ih (tableF d N (v + 1) (t.take (t.length / 2))).1 (v + 1) (t.drop (t.length / 2)) a1 (by omega) (by omega)
    obtain ⟨c1, c2, c3, _, c5⟩ := num_ord b1 (v := v) ⟨h0, by omega⟩ (a3.ext b2) b3 (by rw [topF_ext b2 a3]; omega) (by omega)
    rw [tableF]
    refine ⟨c1, a2.trans (b2.trans (numF_prefix _ _)), c2, c3, fun hl => ?_⟩
    have hh : t.length / 2 = 2 ^ d := by rw [hl]; omega
    rw [c5 d (by omega), tab_ext a1 b2 d _ _ (by omega) a3 (by omega), a5 (by simp; omega), b5 (by simp; omega), List.take_append_drop]

theorem half_append {α : Type} (a b : List α) (h : a.length = b.length) : (a ++ b).take ((a ++ b).length / 2) = a ∧ (a ++ b).drop ((a ++ b).length / 2) = b := by
  have e : (a ++ b).length / 2 = a.length := by simp; omega
  rw [e]; simp

theorem table_again {n : Int} {N : List Nd} (hN : Ord N n) : ∀ (d : Nat) (v k : Int), v + d = n → 0 ≤ v → VNum N k → v ≤ topF N k → tableF d N v (tab N d v k) = (N, k) := by
  intro d
  induction d with
  | zero =>
    intro v k hv h0 hk ht
    rcases hN.const hk (by omega) with rfl | rfl <;> simp [tableF, tab]
  | succ d ih =>
    intro v k hv h0 hk ht
    have p0 := hN.part false hk ht (by omega)
    have p1 := hN.part true hk ht (by omega)
    obtain ⟨e1, e2⟩ := half_append (tab N d (v + 1) (partF N k v false)) (tab N d (v + 1) (partF N k v true)) (by simp [tab_length])
    rw [tableF, tab, e1, e2, ih _ _ (by omega) (by omega) p0.1 p0.2]
    simp only
    rw [ih _ _ (by omega) (by omega) p1.1 p1.2]
    simp only
    by_cases hv' : topF N k = v
    · have h2 : 2 ≤ k := by
        rcases Int.lt_or_le k 2 with h' | h'
        · rw [topF_const h'] at hv'; have := hN.n40; omega
        · exact h'
      have hne := (hN.low h2 hk).2.2.2.2
      rw [partF_low hv', partF_high hv']
      have en : (v, (nodeF N k).2.1, (nodeF N k).2.2) = nodeF N k := by rw [← hv', topF_node h2]
      unfold numF
      rw [en, find_node hN h2 hk, if_neg hne, if_neg (by omega)]
    · rw [partF_skip (by omega), partF_skip (by omega)]
      simp [numF]

/-! ### finish -/
structure Coh (N : List Nd) (n : Int) (s : Vs) : Prop where
  ord : Ord s.1 n
  m0 : mget s.2 0 = some 0
  m1 : mget s.2 1 = some 1
  img : ∀ k j, mget s.2 k = some j → VNum N k ∧ VNum s.1 j ∧ topF s.1 j = topF N k ∧ ∀ (d : Nat) (v : Int), v + d = n → 0 ≤ v → v ≤ topF N k → tab s.1 d v j = tab N d v k
  onto : ∀ j, 2 ≤ j → VNum s.1 j → ∃ k, mget s.2 k = some j

theorem tab_zero (N : List Nd) (d : Nat) : ∀ v, v + (d : Int) ≤ 40 → tab N d v 0 = List.replicate (2 ^ d) false := by
  induction d with
  | zero => intro v _; rfl
  | succ d ih =>
    intro v h
    rw [tab_skip (by rw [topF_const (by omega)]; omega), ih _ (by omega), List.replicate_append_replicate]
    congr 1; omega

theorem tab_one (N : List Nd) (d : Nat) : ∀ v, v + (d : Int) ≤ 40 → tab N d v 1 = List.replicate (2 ^ d) true := by
  induction d with
  | zero => intro v _; rfl
  | succ d ih =>
    intro v h
    rw [tab_skip (by rw [topF_const (by omega)]; omega), ih _ (by omega), List.replicate_append_replicate]
    congr 1; omega

theorem tab_down {N N' : List Nd} {j k : Int} (ht : topF N' j = topF N k) (d0 : Nat) (v0 : Int) (h0 : v0 ≤ topF N k) (he : tab N' d0 v0 j = tab N d0 v0 k) :
    ∀ (i : Nat), tab N' (d0 + i) (v0 - i) j = tab N (d0 + i) (v0 - i) k := by
  intro i
  induction i with
  | zero => simpa using he
  | succ i ih =>
    have e : v0 - (i + 1 : Nat) + 1 = v0 - i := by omega
    rw [← Nat.add_assoc, tab_skip (by omega), tab_skip (by omega), e, ih]

theorem coh_start {N : List Nd} {n : Int} (h : n ≤ 40) : Coh N n ([], [(0, 0), (1, 1)]) := by
  refine ⟨Ord.nil h, rfl, rfl, fun k j hk => ?_, fun j h2 hj => ?_⟩
  · simp only [mget] at hk
    split at hk
    · rename_i e; subst e; cases hk
      exact ⟨⟨by omega, by omega⟩, ⟨by omega, by simp⟩, by rw [topF_const (by omega), topF_const (by omega)], fun d v hv _ _ => by rw [tab_zero _ _ _ (by omega), tab_zero _ _ _ (by omega)]⟩
    · split at hk
      · rename_i e; subst e; cases hk
        exact ⟨⟨by omega, by omega⟩, ⟨by omega, by simp⟩, by rw [topF_const (by omega), topF_const (by omega)], fun d v hv _ _ => by rw [tab_one _ _ _ (by omega), tab_one _ _ _ (by omega)]⟩
      · cases hk
  · have := hj.2; simp at this; omega

theorem visit_table {N : List Nd} {n : Int} (hN : Ord N n) : ∀ (d : Nat) (v k : Int) (s : Vs) (fuel : Nat), Coh N n s → VNum N k → v ≤ topF N k → v + d = n → 0 ≤ v → d < fuel →
    ∃ s' j, visitF N fuel s k = some (s', j) ∧ tableF d s.1 v (tab N d v k) = (s'.1, j) ∧ Coh N n s' ∧ mget s'.2 k = some j ∧ s.1 <+: s'.1 ∧ (∀ i j, mget s.2 i = some j → mget s'.2 i = some j) ∧
      (∀ i j, mget s'.2 i = some j → mget s.2 i = some j ∨ v ≤ topF N i) := by
  intro d
  induction d with
  | zero =>
    intro v k s fuel hs hk ht hv h0 hf
    obtain ⟨fuel, rfl⟩ : ∃ f, fuel = f + 1 := ⟨fuel - 1, by omega⟩
    rcases hN.const hk (by omega) with rfl | rfl
    · exact ⟨s, 0, by simp [visitF, hs.m0], by simp [tableF, tab], hs, hs.m0, List.prefix_refl _, fun _ _ h => h, fun _ _ h => .inl h⟩
    · exact ⟨s, 1, by simp [visitF, hs.m1], by simp [tableF, tab], hs, hs.m1, List.prefix_refl _, fun _ _ h => h, fun _ _ h => .inl h⟩
  | succ d ih =>
    intro v k s fuel hs hk ht hv h0 hf
    cases hm : mget s.2 k with
    | some j =>
      obtain ⟨fuel, rfl⟩ : ∃ f, fuel = f + 1 := ⟨fuel - 1, by omega⟩
      obtain ⟨_, i2, i3, i4⟩ := hs.img k j hm
      refine ⟨s, j, by simp [visitF, hm], ?_, hs, hm, List.prefix_refl _, fun _ _ h => h, fun _ _ h => .inl h⟩
      rw [← i4 (d + 1) v (by omega) h0 ht]
      exact table_again hs.ord _ _ _ (by omega) h0 i2 (by omega)
    | none =>
      have h2 : 2 ≤ k := by
        rcases Int.lt_or_le k 2 with h' | h'
        · have : k = 0 ∨ k = 1 := by have := hk.1; omega
          rcases this with rfl | rfl
          · rw [hs.m0] at hm; cases hm
          · rw [hs.m1] at hm; cases hm
        · exact h'
      by_cases hv' : topF N k = v
      · obtain ⟨fuel, rfl⟩ : ∃ f, fuel = f + 1 := ⟨fuel - 1, by omega⟩
        obtain ⟨l1, l2, l3, l4, l5⟩ := hN.low h2 hk
        obtain ⟨s1, lo, a1, a2, a3, a4, a5, a6, a7⟩ := ih (v + 1) (nodeF N k).2.1 s fuel hs l1 (by omega) (by omega) (by omega) (by omega)
        obtain ⟨s2, hi, b1, b2, b3, b4, b5, b6, b7⟩ := ih (v + 1) (nodeF N k).2.2 s1 fuel a3 l2 (by omega) (by omega) (by omega) (by omega)
        have lo' := b6 _ _ a4
        obtain ⟨_, p2, p3, p4⟩ := b3.img _ _ lo'
        obtain ⟨_, q2, q3, q4⟩ := b3.img _ _ b4
        have hne : lo ≠ hi := by
          rintro rfl
          refine l5 (tab_inj hN d (v + 1) _ _ (by omega) l1 l2 (by omega) (by omega) ?_)
          rw [← p4 d (v + 1) (by omega) (by omega) (by omega), q4 d (v + 1) (by omega) (by omega) (by omega)]
        -- the node is new
        have hv1 := nodeF_valid hN.val h2 hk.2
        have e1 : (nodeF N k).1 = v := by rw [← topF_node h2]; exact hv'
        have hnew : findFrom s2.1 (v, lo, hi) 2 = 0 := by
          by_cases hc : findFrom s2.1 (v, lo, hi) 2 = 0
          · exact hc
          exfalso
          have hr := (findFrom_range s2.1 (v, lo, hi) 2 (by omega)).resolve_left hc
          have nd := nodeF_find hc
          have vj : VNum s2.1 (findFrom s2.1 (v, lo, hi) 2) := ⟨by omega, by omega⟩
          obtain ⟨k', hk'⟩ := b3.onto _ hr.1 vj
          obtain ⟨r1, r2, r3, r4⟩ := b3.img _ _ hk'
          have tp : topF s2.1 (findFrom s2.1 (v, lo, hi) 2) = v := by rw [topF_node hr.1, nd]
          have hkk : k' = k := by
            refine tab_inj hN (d + 1) v _ _ (by omega) r1 hk (by omega) (by omega) ?_
            rw [← r4 (d + 1) v (by omega) h0 (by omega), tab, tab, partF_low tp, partF_high tp, nd, partF_low hv', partF_high hv']
            rw [p4 d (v + 1) (by omega) (by omega) (by omega), q4 d (v + 1) (by omega) (by omega) (by omega)]
          subst hkk
          rcases b7 _ _ hk' with h' | h'
          · rcases a7 _ _ h' with h'' | h''
            · rw [hm] at h''; cases h''
            · omega
          · omega
        obtain ⟨c1, c2, c3, c4, c5⟩ := num_ord b3.ord (v := v) (l := lo) (r := hi) ⟨h0, by omega⟩ p2 q2 (by omega) (by omega)
        have en : numF s2.1 (v, lo, hi) = (s2.1 ++ [(v, lo, hi)], (s2.1.length : Int) + 2) := by simp [numF, hne, hnew]
        rw [en] at c1 c2 c3 c4 c5
        simp only at c1 c2 c3 c4 c5
        have tp := c4 hne
        have hpre : s2.1 <+: s2.1 ++ [(v, lo, hi)] := List.prefix_append _ _
        refine ⟨(s2.1 ++ [(v, lo, hi)], mput s2.2 k (s2.1.length + 2)), s2.1.length + 2, ?_, ?_, ⟨c1, ?_, ?_, ?_, ?_⟩, ?_, a5.trans (b5.trans hpre), ?_, ?_⟩
        · simp [visitF, hm, a1, b1, e1]
        · obtain ⟨f1, f2⟩ := half_append (tab N d (v + 1) (nodeF N k).2.1) (tab N d (v + 1) (nodeF N k).2.2) (by simp [tab_length])
          rw [tableF, tab, partF_low hv', partF_high hv', f1, f2, a2]
          simp only
          rw [b2]
          simp only
          exact en
        · simp only [mget_put]; rw [if_neg (by omega)]; exact b3.m0
        · simp only [mget_put]; rw [if_neg (by omega)]; exact b3.m1
        · intro k1 j1 h1
          simp only [mget_put] at h1
          split at h1
          · rename_i e; subst e; cases h1
            refine ⟨hk, c2, by simp only; omega, fun d' v' hd' hv0 ht' => ?_⟩
            have base := c5 d (by omega)
            have base' : tab (s2.1 ++ [(v, lo, hi)]) (d + 1) v (s2.1.length + 2) = tab N (d + 1) v k1 := by
              rw [base, tab, partF_low hv', partF_high hv', p4 d (v + 1) (by omega) (by omega) (by omega), q4 d (v + 1) (by omega) (by omega) (by omega)]
            have := tab_down (N := N) (N' := s2.1 ++ [(v, lo, hi)]) (j := s2.1.length + 2) (k := k1) (by omega) (d + 1) v (by omega) base' (v - v').toNat
            rw [show d + 1 + (v - v').toNat = d' by omega, show v - ((v - v').toNat : Int) = v' by omega] at this
            exact this
          · obtain ⟨g1, g2, g3, g4⟩ := b3.img _ _ h1
            refine ⟨g1, g2.ext hpre, by rw [topF_ext hpre g2, g3], fun d' v' hd' hv0 ht' => ?_⟩
            rw [tab_ext b3.ord hpre d' v' _ (by omega) g2 (by omega)]
            exact g4 d' v' hd' hv0 ht'
        · intro j h2j hj
          simp only [mget_put]
          by_cases e : j = s2.1.length + 2
          · exact ⟨k, by simp [e]⟩
          · have hj' : VNum s2.1 j := ⟨hj.1, by have := hj.2; simp at this; omega⟩
            obtain ⟨k1, hk1⟩ := b3.onto j h2j hj'
            refine ⟨k1, ?_⟩
            rw [if_neg]
            · exact hk1
            · rintro rfl
              rcases b7 _ _ hk1 with h' | h'
              · rcases a7 _ _ h' with h'' | h''
                · rw [hm] at h''; cases h''
                · omega
              · omega
        · simp only [mget_put]; simp
        · intro i j hi'
          simp only [mget_put]
          rw [if_neg]
          · exact b6 _ _ (a6 _ _ hi')
          · rintro rfl; rw [hm] at hi'; cases hi'
        · intro i j hi'
          simp only [mget_put] at hi'
          split at hi'
          · rename_i e; subst e; exact .inr (by omega)
          · rcases b7 _ _ hi' with h' | h'
            · exact (a7 _ _ h').imp id (fun h => by omega)
            · exact .inr (by omega)
      · obtain ⟨s1, j, a1, a2, a3, a4, a5, a6, a7⟩ := ih (v + 1) k s fuel hs hk (by omega) (by omega) (by omega) (by omega)
        refine ⟨s1, j, a1, ?_, a3, a4, a5, a6, fun i j h => (a7 i j h).imp id (fun h => by omega)⟩
        obtain ⟨_, i2, i3, i4⟩ := a3.img _ _ a4
        rw [tab_skip (by omega), tableF]
        obtain ⟨e1, e2⟩ := half_append (tab N d (v + 1) k) (tab N d (v + 1) k) rfl
        rw [e1, e2, a2]
        simp only
        rw [← i4 d (v + 1) (by omega) (by omega) (by omega), table_again a3.ord _ _ _ (by omega) (by omega) i2 (by omega)]
        simp [numF]

/-- What finish makes is what table makes. -/
theorem finish_table {N : List Nd} {n : Nat} {k : Int} (hN : Ord N n) (hk : VNum N k) : ∃ s', visitF N (n + 1) ([], [(0, 0), (1, 1)]) k = some (s', (tableF n [] 0 (tab N n 0 k)).2) ∧ s'.1 = (tableF n [] 0 (tab N n 0 k)).1 := by
  have ht := topF_range hN.val hk
  obtain ⟨s', j, h1, h2, _⟩ := visit_table hN n 0 k ([], [(0, 0), (1, 1)]) (n + 1) (coh_start hN.n40) hk ht.1 (by omega) (by omega) (by omega)
  simp only at h2
  exact ⟨s', by rw [h1, h2], by rw [h2]⟩

end Go.Proofs.Ytaebjalpebgliaa
