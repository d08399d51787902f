/- counts, plain: how many assignments make a number true. No program in sight. -/
import Derived.Test.YtaebjalpebgliaaCanonI
namespace Go.Proofs.Ytaebjalpebgliaa

/-- The level of a number: the constants stand below all variables. -/
def lev (L : List Nd) (n : Nat) (k : Int) : Int := if k < 2 then n else (nodeF L k).1
/-- The assignments of the variables from its own one on that make a number true. -/
def cnt (L : List Nd) (n : Nat) (k : Int) : Nat := (tab L (n - (lev L n k).toNat) (lev L n k) k).count true

theorem lev_range {L : List Nd} {n : Nat} (h : Ord L n) {k : Int} (hk : VNum L k) : 0 ≤ lev L n k ∧ lev L n k ≤ n ∧ lev L n k ≤ topF L k := by
  unfold lev
  have := h.n40
  split
  · rename_i h2; rw [topF_const h2]; omega
  · have h1 := (topF_range h.val hk).1
    have h2 := h.top_lt (by omega) hk
    rw [topF_node (by omega)] at h1 h2 ⊢
    omega

theorem cnt_le {L : List Nd} {n : Nat} (k : Int) : cnt L n k ≤ 2 ^ (n - (lev L n k).toNat) := by
  have := List.count_le_length (a := true) (l := tab L (n - (lev L n k).toNat) (lev L n k) k)
  rw [tab_length] at this
  exact this

theorem count_down {L : List Nd} {k : Int} (d0 : Nat) (v0 : Int) (h0 : v0 ≤ topF L k) : ∀ i : Nat, (tab L (d0 + i) (v0 - i) k).count true = 2 ^ i * (tab L d0 v0 k).count true := by
  intro i
  induction i with
  | zero => simp
  | succ i ih =>
    have e : v0 - (i + 1 : Nat) + 1 = v0 - i := by omega
    rw [← Nat.add_assoc, tab_skip (by omega), e, List.count_append, ih, Nat.pow_succ, ← Nat.add_mul]
    congr 1
    omega

theorem cnt_at {L : List Nd} {n : Nat} (h : Ord L n) {k : Int} (hk : VNum L k) (v : Int) (h0 : 0 ≤ v) (hv : v ≤ lev L n k) : (tab L (n - v.toNat) v k).count true = cnt L n k * 2 ^ (lev L n k - v).toNat := by
  have hr := lev_range h hk
  have := count_down (L := L) (k := k) (n - (lev L n k).toNat) (lev L n k) hr.2.2 (lev L n k - v).toNat
  rw [show n - (lev L n k).toNat + (lev L n k - v).toNat = n - v.toNat by omega, show lev L n k - ((lev L n k - v).toNat : Int) = v by omega] at this
  rw [this, Nat.mul_comm]; rfl

/-- The step of counts. -/
theorem cnt_node {L : List Nd} {n : Nat} (h : Ord L n) {k : Int} (h2 : 2 ≤ k) (hk : VNum L k) :
    cnt L n k = cnt L n (nodeF L k).2.1 * 2 ^ (lev L n (nodeF L k).2.1 - lev L n k - 1).toNat + cnt L n (nodeF L k).2.2 * 2 ^ (lev L n (nodeF L k).2.2 - lev L n k - 1).toNat ∧
    lev L n k + 1 ≤ lev L n (nodeF L k).2.1 ∧ lev L n k + 1 ≤ lev L n (nodeF L k).2.2 := by
  have hlow := h.low h2 hk
  have hr := lev_range h hk
  have h40 := h.n40
  have e : lev L n k = topF L k := by unfold lev; rw [if_neg (by omega), topF_node h2]
  have hlt := h.top_lt h2 hk
  have g : ∀ j, VNum L j → topF L k < topF L j → lev L n k + 1 ≤ lev L n j := by
    intro j hj hjt
    rw [e]
    have : lev L n j = if j < 2 then (n : Int) else (nodeF L j).1 := rfl
    rw [this]
    split
    · omega
    · rw [topF_node (k := j) (by omega)] at hjt; omega
  have g1 := g _ hlow.1 hlow.2.2.1
  have g2 := g _ hlow.2.1 hlow.2.2.2.1
  refine ⟨?_, g1, g2⟩
  have e1 := cnt_at h hlow.1 (lev L n k + 1) (by omega) g1
  have e2 := cnt_at h hlow.2.1 (lev L n k + 1) (by omega) g2
  rw [show lev L n (nodeF L k).2.1 - (lev L n k + 1) = lev L n (nodeF L k).2.1 - lev L n k - 1 by omega] at e1
  rw [show lev L n (nodeF L k).2.2 - (lev L n k + 1) = lev L n (nodeF L k).2.2 - lev L n k - 1 by omega] at e2
  rw [← e1, ← e2]
  unfold cnt
  rw [show n - (lev L n k).toNat = (n - (lev L n k + 1).toNat) + 1 by omega, tab, partF_low e.symm, partF_high e.symm, List.count_append]

theorem cnt_root {L : List Nd} {n : Nat} (h : Ord L n) {k : Int} (hk : VNum L k) : cnt L n k * 2 ^ (lev L n k).toNat = (tab L n 0 k).count true := by
  have hr := lev_range h hk
  have := cnt_at h hk 0 (Int.le_refl _) hr.1
  simpa using this.symm

/-- The numbers that counts has made ahead of node m. -/
def belowL (L : List Nd) (n : Nat) (m : Nat) : List Int := (List.range (m + 2)).map fun (i : Nat) => ((cnt L n (i : Int) : Nat) : Int)

theorem belowL_length (L : List Nd) (n m : Nat) : (belowL L n m).length = m + 2 := by simp [belowL]
theorem belowL_get (L : List Nd) (n m : Nat) {i : Nat} (h : i < m + 2) : (belowL L n m)[i]? = some (cnt L n (i : Int) : Int) := by
  simp [belowL, h]
theorem belowL_succ (L : List Nd) (n m : Nat) : belowL L n (m + 1) = belowL L n m ++ [(cnt L n ((m : Int) + 2) : Int)] := by
  simp only [belowL, List.range_succ, List.map_append, List.map_cons, List.map_nil]
  congr 2
theorem belowL_zero (L : List Nd) (n : Nat) : belowL L n 0 = [0, 1] := by
  have e0 : cnt L n 0 = 0 := by simp [cnt, lev, tab]
  have e1 : cnt L n 1 = 1 := by simp [cnt, lev, tab]
  simp [belowL, List.range_succ, e0, e1]

/-- One product of counts is small. -/
theorem cnt_shift {L : List Nd} {n : Nat} (h : Ord L n) {k : Int} (hk : VNum L k) (v : Int) (h0 : 0 ≤ v) (hv : v ≤ lev L n k) : cnt L n k * 2 ^ (lev L n k - v).toNat ≤ 2 ^ (n - v.toNat) := by
  rw [← cnt_at h hk v h0 hv]
  have := List.count_le_length (a := true) (l := tab L (n - v.toNat) v k)
  rwa [tab_length] at this
end Go.Proofs.Ytaebjalpebgliaa
