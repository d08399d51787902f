/- The value of a number for an assignment; tables by their places; constants and variables. No program in sight. -/
import Derived.Test.YtaebjalpebgliaaCanonI
namespace Go.Proofs.Ytaebjalpebgliaa

/-- The value of a number for an assignment. -/
def evF (N : List Nd) : Nat → Int → (Nat → Bool) → Bool
  | 0, k, _ => decide (k = 1)
  | f + 1, k, ρ => if k < 2 then decide (k = 1) else if ρ (nodeF N k).1.toNat then evF N f (nodeF N k).2.2 ρ else evF N f (nodeF N k).2.1 ρ

theorem evF_fuel {N : List Nd} (h : VNd N) : ∀ (f g : Nat) (k : Int) (ρ : Nat → Bool), VNum N k → k.toNat ≤ f → k.toNat ≤ g → evF N f k ρ = evF N g k ρ := by
  intro f
  induction f with
  | zero =>
    intro g k ρ hk hf hg
    cases g with
    | zero => rfl
    | succ g => simp only [evF]; rw [if_pos (by omega)]
  | succ f ih =>
    intro g k ρ hk hf hg
    cases g with
    | zero => simp only [evF]; rw [if_pos (by omega)]
    | succ g =>
      simp only [evF]
      by_cases h2 : k < 2
      · rw [if_pos h2, if_pos h2]
      · rw [if_neg h2, if_neg h2]
        have hv := nodeF_valid h (by omega) hk.2
        rw [ih g _ _ hv.2.2.2.1 (by omega) (by omega), ih g _ _ hv.2.2.1 (by omega) (by omega)]

def ev (N : List Nd) (k : Int) (ρ : Nat → Bool) : Bool := evF N k.toNat k ρ

theorem ev_const {N : List Nd} {k : Int} (h : k < 2) (ρ : Nat → Bool) : ev N k ρ = decide (k = 1) := by
  unfold ev
  cases k.toNat with
  | zero => rfl
  | succ f => simp only [evF]; rw [if_pos h]

theorem ev_node {N : List Nd} (h : VNd N) {k : Int} (hk : VNum N k) (h2 : 2 ≤ k) (ρ : Nat → Bool) :
    ev N k ρ = if ρ (nodeF N k).1.toNat then ev N (nodeF N k).2.2 ρ else ev N (nodeF N k).2.1 ρ := by
  have hv := nodeF_valid h h2 hk.2
  obtain ⟨f, hf⟩ : ∃ f, k.toNat = f + 1 := ⟨k.toNat - 1, by omega⟩
  unfold ev
  rw [hf, evF, if_neg (by omega), evF_fuel h f _ _ _ hv.2.2.2.1 (by omega) (Nat.le_refl _), evF_fuel h f _ _ _ hv.2.2.1 (by omega) (Nat.le_refl _)]

theorem ev_part {N : List Nd} {n : Int} (h : Ord N n) {k : Int} (hk : VNum N k) {v : Nat} (hv : (v : Int) < n) (ρ : Nat → Bool) : ev N k ρ = ev N (partF N k v (ρ v)) ρ := by
  by_cases ht : topF N k = v
  · have h2 : 2 ≤ k := by
      rcases Int.lt_or_le k 2 with h' | h'
      · rw [topF_const h'] at ht; have := h.n40; omega
      · exact h'
    have e : (nodeF N k).1.toNat = v := by rw [← topF_node h2, ht]; omega
    rw [ev_node h.val hk h2, e]
    cases hρ : ρ v
    · rw [partF_low ht]; rfl
    · rw [partF_high ht]; rfl
  · unfold partF; rw [if_pos ht]

/-- The place of an assignment of the variables from v on, d of them. -/
def placeF (ρ : Nat → Bool) : Nat → Nat → Nat
  | 0, _ => 0
  | d + 1, v => (if ρ v then 2 ^ d else 0) + placeF ρ d (v + 1)

theorem placeF_lt (ρ : Nat → Bool) : ∀ d v, placeF ρ d v < 2 ^ d := by
  intro d
  induction d with
  | zero => intro v; simp [placeF]
  | succ d ih => intro v; have := ih (v + 1); simp only [placeF]; split <;> omega

theorem tab_ev {N : List Nd} {n : Int} (h : Ord N n) (ρ : Nat → Bool) : ∀ (d v : Nat) (k : Int), (v : Int) + d = n → VNum N k → (v : Int) ≤ topF N k → (tab N d v k).getD (placeF ρ d v) false = ev N k ρ := by
  intro d
  induction d with
  | zero =>
    intro v k hv hk ht
    have := h.const hk (by omega)
    rw [ev_const (by omega)]
    simp [tab, placeF]
  | succ d ih =>
    intro v k hv hk ht
    have p := fun b => h.part b hk ht (by omega)
    have hlt := placeF_lt ρ d (v + 1)
    rw [ev_part h hk (v := v) (by omega), tab, placeF]
    have e := ih (v + 1) (partF N k v (ρ v)) (by omega) (p _).1 (by have := (p (ρ v)).2; omega)
    have l0 := tab_length N d ((v : Int) + 1) (partF N k v false)
    have c : ((v + 1 : Nat) : Int) = (v : Int) + 1 := by omega
    rw [c] at e
    rw [← e]
    cases hρ : ρ v
    · simp only [Bool.false_eq_true, if_false, Nat.zero_add]
      simp only [List.getD_eq_getElem?_getD]
      rw [List.getElem?_append_left (by omega)]
    · simp only [if_true]
      simp only [List.getD_eq_getElem?_getD]
      rw [List.getElem?_append_right (by omega)]
      congr 2
      omega

theorem placeF_congr {ρ σ : Nat → Bool} : ∀ {d v : Nat}, (∀ u, u < v + d → ρ u = σ u) → placeF ρ d v = placeF σ d v := by
  intro d
  induction d with
  | zero => intro v _; rfl
  | succ d ih =>
    intro v h
    rw [placeF, placeF, h v (by omega), ih (fun u hu => h u (by omega))]

/-- A bit of a place among 2^n: variable 0 is the first. -/
def bitF (n i v : Nat) : Bool := decide (i / 2 ^ (n - 1 - v) % 2 = 1)

theorem bit_place : ∀ (d v n i : Nat), v + d = n → placeF (bitF n i) d v = i % 2 ^ d := by
  intro d
  induction d with
  | zero => intro v n i _; simp [placeF, Nat.mod_one]
  | succ d ih =>
    intro v n i hv
    rw [placeF, ih (v + 1) n i (by omega)]
    have e : n - 1 - v = d := by omega
    have key : i % 2 ^ (d + 1) = i % 2 ^ d + 2 ^ d * (i / 2 ^ d % 2) := by
      rw [Nat.pow_succ, Nat.mod_mul]
    rw [key]
    unfold bitF
    rw [e]
    have := Nat.mod_two_eq_zero_or_one (i / 2 ^ d)
    rcases this with h | h <;> simp [h] <;> omega

theorem tab_bit {N : List Nd} {n : Nat} (h : Ord N n) {k : Int} (hk : VNum N k) {i : Nat} (hi : i < 2 ^ n) : (tab N n 0 k).getD i false = ev N k (bitF n i) := by
  have := tab_ev h (bitF n i) n 0 k (by omega) hk (topF_range h.val hk).1
  rw [bit_place n 0 n i (by omega), Nat.mod_eq_of_lt hi] at this
  exact this

/-! ### the tables of constants and variables -/
theorem table_const {n : Nat} (h : n ≤ 40) (b : Bool) : tableF n [] 0 (List.replicate (2 ^ n) b) = ([], if b then 1 else 0) := by
  have hN : Ord [] (n : Int) := Ord.nil (by omega)
  cases b
  · have := table_again hN n 0 0 (by omega) (by omega) ⟨by omega, by simp⟩ (by simp [topF])
    rw [tab_zero _ _ _ (by omega)] at this
    exact this
  · have := table_again hN n 0 1 (by omega) (by omega) ⟨by omega, by simp⟩ (by simp [topF])
    rw [tab_one _ _ _ (by omega)] at this
    exact this

def varT (n i : Nat) : List Bool := (List.range (2 ^ n)).map fun k => bitF n k i
theorem varT_length (n i : Nat) : (varT n i).length = 2 ^ n := by simp [varT]

theorem ord_var {n i : Nat} (h : n ≤ 40) (hi : i < n) : Ord [((i : Int), 0, 1)] (n : Int) := by
  refine ⟨by omega, fun j x hx => ?_, fun x hx => ?_, fun x hx => ?_, fun x hx => ?_, by simp⟩
  · cases j with
    | zero => simp at hx; subst hx; simp; omega
    | succ j => simp at hx
  · simp at hx; subst hx; simp; omega
  · simp at hx; subst hx; simp
  · simp at hx; subst hx; simp [topF]; omega

theorem table_var {n i : Nat} (h : n ≤ 40) (hi : i < n) : tableF n [] 0 (varT n i) = ([((i : Int), 0, 1)], 2) := by
  have hN := ord_var h hi
  have hk : VNum [((i : Int), 0, 1)] 2 := ⟨by omega, by simp⟩
  have ht : tab [((i : Int), 0, 1)] n 0 2 = varT n i := by
    refine List.ext_getElem (by rw [tab_length, varT_length]) (fun j h1 h2 => ?_)
    have hj : j < 2 ^ n := by rw [tab_length] at h1; exact h1
    have e := tab_bit hN hk hj
    rw [List.getD_eq_getElem?_getD, List.getElem?_eq_getElem h1] at e
    simp only [Option.getD_some] at e
    rw [e, ev_node hN.val hk (by omega)]
    have e2 : nodeF [((i : Int), 0, 1)] 2 = ((i : Int), 0, 1) := rfl
    rw [e2]
    simp only [Int.toNat_natCast]
    rw [ev_const (by omega), ev_const (by omega)]
    simp only [varT, List.getElem_map, List.getElem_range]
    cases bitF n j i <;> rfl
  obtain ⟨s', h1, h2⟩ := finish_table hN hk
  rw [ht] at h1 h2
  -- finishing one node gives it back
  have hv : visitF [((i : Int), 0, 1)] (n + 1) ([], [(0, 0), (1, 1)]) 2 = some (([((i : Int), 0, 1)], [(0, 0), (1, 1), (2, 2)]), 2) := by
    obtain ⟨m, rfl⟩ : ∃ m, n = m + 1 := ⟨n - 1, by omega⟩
    simp [visitF, mget, nodeF, mput]
  rw [hv] at h1
  simp only [Option.some.injEq, Prod.mk.injEq] at h1
  obtain ⟨rfl, h3⟩ := h1
  exact Prod.ext h2.symm h3.symm

end Go.Proofs.Ytaebjalpebgliaa
