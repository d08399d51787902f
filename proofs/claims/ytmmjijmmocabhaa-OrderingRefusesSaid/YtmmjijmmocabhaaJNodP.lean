/- How many nodes the diagram of a table has: one for each different part whose halves differ. -/
import Derived.Test.YtmmjijmmocabhaaJFrom
namespace Go.Proofs.Ytmmjijmmocabhaa
set_option linter.unusedVariables false
set_option linter.unusedSimpArgs false

/-- The part of the table that a node stands for. -/
def subT (N : List Nd) (n : Int) (x : Nd) : List Bool := tab N (n - 1 - x.1).toNat (x.1 + 1) x.2.1 ++ tab N (n - 1 - x.1).toNat (x.1 + 1) x.2.2
theorem subT_length (N : List Nd) (n : Int) (x : Nd) : (subT N n x).length = 2 ^ (n - 1 - x.1).toNat + 2 ^ (n - 1 - x.1).toNat := by simp [subT, tab_length]

theorem node_num {N : List Nd} {n : Int} (h : Ord N n) {x : Nd} (hx : x ∈ N) : 0 ≤ x.1 ∧ x.1 < n ∧ VNum N x.2.1 ∧ VNum N x.2.2 := by
  obtain ⟨i, hi, rfl⟩ := List.mem_iff_getElem.1 hx
  have hv := h.val i _ (List.getElem?_eq_getElem hi)
  exact ⟨hv.1, h.var _ hx, ⟨by omega, by omega⟩, ⟨by omega, by omega⟩⟩

theorem pow_two_inj {a b : Nat} (h : 2 ^ a + 2 ^ a = 2 ^ b + 2 ^ b) : a = b := by
  rcases Nat.lt_trichotomy a b with h1 | h1 | h1
  · have := Nat.pow_lt_pow_right (a := 2) (by omega) h1; omega
  · exact h1
  · have := Nat.pow_lt_pow_right (a := 2) (by omega) h1; omega

theorem subT_inj {N : List Nd} {n : Int} (h : Ord N n) {x y : Nd} (hx : x ∈ N) (hy : y ∈ N) (e : subT N n x = subT N n y) : x = y := by
  have hl := congrArg List.length e
  rw [subT_length, subT_length] at hl
  obtain ⟨x0, x1, x2, x3⟩ := node_num h hx
  obtain ⟨y0, y1, y2, y3⟩ := node_num h hy
  have hd := pow_two_inj hl
  have hv : x.1 = y.1 := by omega
  unfold subT at e
  rw [hd, hv] at e
  obtain ⟨e1, e2⟩ := List.append_inj e (by simp [tab_length])
  have ox := h.ord x hx
  have oy := h.ord y hy
  have i1 := tab_inj h _ (y.1 + 1) _ _ (by omega) x2 y2 (by omega) (by omega) e1
  have i2 := tab_inj h _ (y.1 + 1) _ _ (by omega) x3 y3 (by omega) (by omega) e2
  exact Prod.ext hv (Prod.ext i1 i2)

theorem subT_ext {N N' : List Nd} {n : Int} (hN : Ord N n) (hp : N <+: N') {x : Nd} (hx : x ∈ N) : subT N' n x = subT N n x := by
  obtain ⟨x0, x1, x2, x3⟩ := node_num hN hx
  have ox := hN.ord x hx
  unfold subT
  rw [tab_ext hN hp _ _ _ (by omega) x2 (by omega), tab_ext hN hp _ _ _ (by omega) x3 (by omega)]

def imgT (N : List Nd) (n : Int) : List (List Bool) := N.map (subT N n)
theorem img_nodup {N : List Nd} {n : Int} (h : Ord N n) : (imgT N n).Nodup := by
  unfold imgT
  rw [List.nodup_iff_pairwise_ne, List.pairwise_map]
  refine List.Pairwise.imp_of_mem ?_ (List.nodup_iff_pairwise_ne.1 h.nodup)
  intro a b ha hb hne he
  exact hne (subT_inj h ha hb he)
theorem img_ext {N N' : List Nd} {n : Int} (hN : Ord N n) (hp : N <+: N') {s : List Bool} (h : s ∈ imgT N n) : s ∈ imgT N' n := by
  obtain ⟨x, hx, rfl⟩ := List.mem_map.1 h
  exact List.mem_map.2 ⟨x, hp.subset hx, subT_ext hN hp hx⟩

/-- s is a part of the table t whose halves differ. -/
def ChkR : Nat → List Bool → List Bool → Prop
  | 0, _, _ => False
  | d + 1, t, s => (s = t ∧ t.take (t.length / 2) ≠ t.drop (t.length / 2)) ∨ ChkR d (t.take (t.length / 2)) s ∨ ChkR d (t.drop (t.length / 2)) s

theorem tbl_img {n : Int} : ∀ (d : Nat) (N : List Nd) (v : Int) (t : List Bool), Ord N n → v + d = n → 0 ≤ v → t.length = 2 ^ d → ∀ s, s ∈ imgT (tableF d N v t).1 n ↔ s ∈ imgT N n ∨ ChkR d t s := by
  intro d
  induction d with
  | zero => intro N v t hN hv h0 hl s; simp [tableF, ChkR]
  | succ d ih =>
    intro N v t hN hv h0 hl s
    have hh : t.length / 2 = 2 ^ d := by rw [hl]; omega
    have l1 : (t.take (t.length / 2)).length = 2 ^ d := by simp; omega
    have l2 : (t.drop (t.length / 2)).length = 2 ^ d := by simp; omega
    have hcat : t.take (t.length / 2) ++ t.drop (t.length / 2) = t := List.take_append_drop _ _
    obtain ⟨a1, a2, a3, a4, a5⟩ := table_ord d N (v + 1) (t.take (t.length / 2)) hN (by omega) (by omega)
    obtain ⟨b1, b2, b3, b4, b5⟩ := table_ord d (tableF d N (v + 1) (t.take (t.length / 2))).1 (v + 1) (t.drop (t.length / 2)) a1 (by omega) (by omega)
    have IA := ih N (v + 1) (t.take (t.length / 2)) hN (by omega) (by omega) l1
    have IB := ih (tableF d N (v + 1) (t.take (t.length / 2))).1 (v + 1) (t.drop (t.length / 2)) a1 (by omega) (by omega) l2
    have e1 := a5 l1
    have e2 := b5 l2
    rw [tableF, ChkR]
    generalize hlo : (tableF d N (v + 1) (t.take (t.length / 2))).2 = lo at *
    generalize hN1 : (tableF d N (v + 1) (t.take (t.length / 2))).1 = N1 at *
    generalize hhi : (tableF d N1 (v + 1) (t.drop (t.length / 2))).2 = hi at *
    generalize hN2 : (tableF d N1 (v + 1) (t.drop (t.length / 2))).1 = N2 at *
    have e3 : tab N2 d (v + 1) lo = t.take (t.length / 2) := by rw [tab_ext a1 b2 d _ _ (by omega) a3 a4, e1]
    have alo : v + 1 ≤ topF N2 lo := by rw [topF_ext b2 a3]; exact a4
    have hold : s ∈ imgT N2 n ↔ s ∈ imgT N n ∨ ChkR d (t.take (t.length / 2)) s ∨ ChkR d (t.drop (t.length / 2)) s := by
      rw [IB s, IA s, or_assoc]
    have hd : (n - 1 - v).toNat = d := by omega
    have hs : ∀ N3, N2 <+: N3 → subT N3 n (v, lo, hi) = t := by
      intro N3 hp
      unfold subT
      simp only [hd]
      rw [tab_ext b1 hp d _ _ (by omega) (a3.ext b2) alo, tab_ext b1 hp d _ _ (by omega) b3 b4, e3, e2, hcat]
    unfold numF
    split
    · rename_i he
      have he' : lo = hi := he
      have : t.take (t.length / 2) = t.drop (t.length / 2) := by rw [← e3, ← e2, he']
      rw [hold]
      constructor
      · rintro (h | h)
        · exact .inl h
        · exact .inr (.inr h)
      · rintro (h | h | h)
        · exact .inl h
        · exact absurd this h.2
        · exact .inr h
    · rename_i hne
      have hne' : t.take (t.length / 2) ≠ t.drop (t.length / 2) := by
        intro he
        refine hne (tab_inj b1 d (v + 1) _ _ (by omega) (a3.ext b2) b3 alo b4 ?_)
        rw [e3, e2, he]
      split
      · rename_i hz
        have hm : imgT (N2 ++ [(v, lo, hi)]) n = imgT N2 n ++ [t] := by
          have hp : N2 <+: N2 ++ [(v, lo, hi)] := List.prefix_append _ _
          unfold imgT
          rw [List.map_append]
          congr 1
          · exact List.map_congr_left fun x hx => subT_ext b1 hp hx
          · simp [hs _ hp]
        show s ∈ imgT (N2 ++ [(v, lo, hi)]) n ↔ _
        rw [hm, List.mem_append, hold, List.mem_singleton]
        constructor
        · rintro ((h | h) | h)
          · exact .inl h
          · exact .inr (.inr h)
          · exact .inr (.inl ⟨h, hne'⟩)
        · rintro (h | h | h)
          · exact .inl (.inl h)
          · exact .inr h.1
          · exact .inl (.inr h)
      · rename_i hz
        show s ∈ imgT N2 n ↔ _
        have hin : t ∈ imgT N2 n := by
          have hg := findFrom_get N2 (v, lo, hi) 2 (by omega) hz
          exact List.mem_map.2 ⟨(v, lo, hi), List.mem_of_getElem? hg, hs _ (List.prefix_refl _)⟩
        constructor
        · intro h
          rcases hold.1 h with h | h
          · exact .inl h
          · exact .inr (.inr h)
        · rintro (h | h | h)
          · exact hold.2 (.inl h)
          · rw [h.1]; exact hin
          · exact hold.2 (.inr h)

/-! ### level by level -/
/-- The i-th part of length 2 ^ d. -/
def chunk (t : List Bool) (d i : Nat) : List Bool := (t.drop (i * 2 ^ d)).take (2 ^ d)
theorem chunk_length {t : List Bool} {n d i : Nat} (ht : t.length = 2 ^ n) (hd : d ≤ n) (hi : i < 2 ^ (n - d)) : (chunk t d i).length = 2 ^ d := by
  have h1 : (i + 1) * 2 ^ d ≤ 2 ^ (n - d) * 2 ^ d := Nat.mul_le_mul_right _ (by omega)
  rw [← Nat.pow_add, Nat.sub_add_cancel hd] at h1
  rw [Nat.add_mul] at h1
  simp only [chunk, List.length_take, List.length_drop, ht]
  omega
def diffB (s : List Bool) : Bool := s.take (s.length / 2) != s.drop (s.length / 2)
/-- The different parts of one length, of the first m, whose halves differ. -/
def seenF (t : List Bool) (d : Nat) : Nat → List (List Bool)
  | 0 => []
  | m + 1 => if diffB (chunk t d m) && !(seenF t d m).contains (chunk t d m) then seenF t d m ++ [chunk t d m] else seenF t d m
theorem seenF_mem (t : List Bool) (d : Nat) (s : List Bool) : ∀ m, s ∈ seenF t d m ↔ ∃ i, i < m ∧ s = chunk t d i ∧ diffB s = true
  | 0 => by simp [seenF]
  | m + 1 => by
    have ih := seenF_mem t d s m
    unfold seenF
    split
    · rename_i h
      simp only [Bool.and_eq_true] at h
      rw [List.mem_append, List.mem_singleton, ih]
      constructor
      · rintro (⟨i, h1, h2⟩ | rfl)
        · exact ⟨i, by omega, h2⟩
        · exact ⟨m, by omega, rfl, h.1⟩
      · rintro ⟨i, h1, h2, h3⟩
        by_cases e : i = m
        · subst e; exact .inr h2
        · exact .inl ⟨i, by omega, h2, h3⟩
    · rename_i h
      rw [ih]
      constructor
      · rintro ⟨i, h1, h2⟩; exact ⟨i, by omega, h2⟩
      · rintro ⟨i, h1, h2, h3⟩
        by_cases e : i = m
        · subst e
          subst h2
          have : (seenF t d i).contains (chunk t d i) = true := by
            rcases hc : (seenF t d i).contains (chunk t d i) with _ | _
            · rw [h3, hc] at h; simp at h
            · rfl
          exact ih.1 (by simpa using this)
        · exact ⟨i, by omega, h2, h3⟩
theorem seenF_nodup (t : List Bool) (d : Nat) : ∀ m, (seenF t d m).Nodup
  | 0 => by simp [seenF]
  | m + 1 => by
    have ih := seenF_nodup t d m
    unfold seenF
    split
    · rename_i h
      simp only [Bool.and_eq_true, Bool.not_eq_true', List.contains_eq_mem, decide_eq_false_iff_not] at h
      rw [List.nodup_append]
      refine ⟨ih, by simp, fun a ha b hb => ?_⟩
      rintro rfl
      simp at hb
      subst hb
      exact h.2 ha
    · exact ih
/-- All parts, from those of length 2 ^ k on down. -/
def allF (t : List Bool) (n : Nat) : Nat → List (List Bool)
  | 0 => []
  | k + 1 => seenF t (k + 1) (2 ^ (n - (k + 1))) ++ allF t n k
theorem allF_mem (t : List Bool) (n : Nat) (s : List Bool) : ∀ k, s ∈ allF t n k ↔ ∃ d i, 1 ≤ d ∧ d ≤ k ∧ i < 2 ^ (n - d) ∧ s = chunk t d i ∧ diffB s = true
  | 0 => by simp only [allF, List.not_mem_nil, false_iff]; rintro ⟨d, i, h1, h2, _⟩; omega
  | k + 1 => by
    rw [allF, List.mem_append, seenF_mem, allF_mem t n s k]
    constructor
    · rintro (⟨i, h1, h2⟩ | ⟨d, i, h1, h2, h3⟩)
      · exact ⟨k + 1, i, by omega, by omega, h1, h2⟩
      · exact ⟨d, i, h1, by omega, h3⟩
    · rintro ⟨d, i, h1, h2, h3⟩
      by_cases e : d = k + 1
      · subst e; exact .inl ⟨i, h3⟩
      · exact .inr ⟨d, i, h1, by omega, h3⟩
theorem allF_nodup {t : List Bool} {n : Nat} (ht : t.length = 2 ^ n) : ∀ k, k ≤ n → (allF t n k).Nodup
  | 0, _ => by simp [allF]
  | k + 1, hk => by
    rw [allF, List.nodup_append]
    refine ⟨seenF_nodup _ _ _, allF_nodup ht k (by omega), fun a ha b hb => ?_⟩
    rintro rfl
    obtain ⟨i, h1, h2, _⟩ := (seenF_mem _ _ _ _).1 ha
    obtain ⟨d, j, d1, d2, d3, d4, _⟩ := (allF_mem _ _ _ _).1 hb
    have l1 := chunk_length ht hk h1
    have l2 := chunk_length ht (by omega) d3
    rw [← h2] at l1
    rw [← d4, l1] at l2
    have := Nat.pow_lt_pow_right (a := 2) (m := d) (n := k + 1) (by omega) (by omega)
    omega

theorem diffB_iff (s : List Bool) : diffB s = true ↔ s.take (s.length / 2) ≠ s.drop (s.length / 2) := by simp [diffB]

theorem chkR_iff : ∀ (n : Nat) (t s : List Bool), t.length = 2 ^ n → (ChkR n t s ↔ ∃ d i, 1 ≤ d ∧ d ≤ n ∧ i < 2 ^ (n - d) ∧ s = chunk t d i ∧ diffB s = true)
  | 0, t, s, _ => by simp only [ChkR, false_iff]; rintro ⟨d, i, h1, h2, _⟩; omega
  | n + 1, t, s, ht => by
    have hh : t.length / 2 = 2 ^ n := by rw [ht]; omega
    have l1 : (t.take (t.length / 2)).length = 2 ^ n := by simp; omega
    have l2 : (t.drop (t.length / 2)).length = 2 ^ n := by simp; omega
    have hpow : ∀ d, d ≤ n → 2 ^ (n - d) * 2 ^ d = 2 ^ n := fun d hd => by rw [← Nat.pow_add, Nat.sub_add_cancel hd]
    have cl : ∀ d i, d ≤ n → i < 2 ^ (n - d) → chunk (t.take (t.length / 2)) d i = chunk t d i := by
      intro d i hd hi
      have h1 : (i + 1) * 2 ^ d ≤ 2 ^ (n - d) * 2 ^ d := Nat.mul_le_mul_right _ (by omega)
      rw [hpow d hd, Nat.add_mul] at h1
      unfold chunk
      rw [hh, List.drop_take, List.take_take]
      congr 1
      omega
    have cr : ∀ d i, d ≤ n → chunk (t.drop (t.length / 2)) d i = chunk t d (2 ^ (n - d) + i) := by
      intro d i hd
      unfold chunk
      rw [hh, List.drop_drop, Nat.add_mul, hpow d hd]
    rw [ChkR, chkR_iff n _ s l1, chkR_iff n _ s l2, ← diffB_iff]
    constructor
    · rintro (⟨rfl, h⟩ | ⟨d, i, h1, h2, h3, h4, h5⟩ | ⟨d, i, h1, h2, h3, h4, h5⟩)
      · refine ⟨n + 1, 0, by omega, by omega, by simp, ?_, h⟩
        unfold chunk
        rw [Nat.zero_mul, List.drop_zero, ← ht, List.take_length]
      · refine ⟨d, i, h1, by omega, ?_, by rw [h4, cl d i h2 h3], h5⟩
        have := Nat.pow_le_pow_right (n := 2) (by omega) (show n - d ≤ n + 1 - d by omega)
        omega
      · refine ⟨d, 2 ^ (n - d) + i, h1, by omega, ?_, by rw [h4, cr d i h2], h5⟩
        rw [show n + 1 - d = (n - d) + 1 by omega, Nat.pow_succ]
        omega
    · rintro ⟨d, i, h1, h2, h3, h4, h5⟩
      by_cases e : d = n + 1
      · subst e
        rw [Nat.sub_self, Nat.pow_zero] at h3
        obtain rfl : i = 0 := by omega
        have : s = t := by
          rw [h4]
          unfold chunk
          rw [Nat.zero_mul, List.drop_zero, ← ht, List.take_length]
        exact .inl ⟨this, by rw [← this]; exact h5⟩
      · have hd : d ≤ n := by omega
        rw [show n + 1 - d = (n - d) + 1 by omega, Nat.pow_succ] at h3
        by_cases hi : i < 2 ^ (n - d)
        · exact .inr (.inl ⟨d, i, h1, hd, hi, by rw [cl d i hd hi, h4], h5⟩)
        · refine .inr (.inr ⟨d, i - 2 ^ (n - d), h1, hd, by omega, ?_, h5⟩)
          rw [cr d _ hd, h4]
          congr 1
          omega

/-- What the law reckons: how many different parts whose halves differ there are, from length 2 ^ k on down. -/
def cntF (t : List Bool) (n : Nat) : Nat → Nat
  | 0 => 0
  | k + 1 => (seenF t (k + 1) (2 ^ (n - (k + 1)))).length + cntF t n k
theorem cntF_eq (t : List Bool) (n : Nat) : ∀ k, cntF t n k = (allF t n k).length
  | 0 => rfl
  | k + 1 => by rw [cntF, allF, List.length_append, cntF_eq t n k]

/-- The number of nodes. -/
theorem nodes_cnt {n : Nat} {t : List Bool} (hn : n ≤ 40) (ht : t.length = 2 ^ n) : (tableF n [] 0 t).1.length = cntF t n n := by
  have hO := (table_ord (n := n) n [] 0 t (Ord.nil (by omega)) (by omega) (by omega)).1
  have h1 := tbl_img (n := n) n [] 0 t (Ord.nil (by omega)) (by omega) (by omega) ht
  have hp : (imgT (tableF n [] 0 t).1 n).Perm (allF t n n) := by
    rw [List.perm_ext_iff_of_nodup (img_nodup hO) (allF_nodup ht n (Nat.le_refl _))]
    intro s
    rw [h1 s, allF_mem, ← chkR_iff n t s ht]
    simp [imgT]
  rw [cntF_eq, ← hp.length_eq]
  simp [imgT]
end Go.Proofs.Ytmmjijmmocabhaa
