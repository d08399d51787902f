/- Plain: images of unions, the identity, meets. Chapter 11: the program's functions at the law's lists. Chapter 11: known walked; a diagram in its box. -/
import Derived.Test.YtcipnkemnepbaaaGreatVNetA
import Derived.Test.YtcipnkemnepbaaaGreatVRestr
import Derived.Test.YtcipnkemnepbaaaGreatVNetC
import Derived.Test.YtcipnkemnepbaaaGreatVRelGenB
import Derived.Test.YtcipnkemnepbaaaGreatVRelB
namespace Go.Proofs.YtcipnkemnepbaaaGreat
open Go.RowKit
set_option linter.unusedVariables false
set_option linter.unusedSimpArgs false

theorem DgE.ok {E : Int} {n : Nat} {t : List Bool} {w w' : World} {e : Ending} (h : DgE E n t w e w') (h0 : E = 0) : DgN n t w e w' := by
  rcases h with ⟨h, _⟩ | ⟨_, h⟩
  · exact absurd h0 h
  · exact h
theorem ClE.ok {E : Int} {b s : Nat} {r u : List Bool} {w w' : World} {e : Ending} (h : ClE E b s r u w e w') (h0 : E = 0) : ClR b s r u w e w' := by
  rcases h with ⟨h, _⟩ | ⟨_, h⟩
  · exact absurd h0 h
  · exact h
theorem ClR.open {b s : Nat} {r u : List Bool} {w w' : World} {e : Ending} (h : ClR b s r u w e w') : ∃ (k : Nat) (a : Option Addr) (c : Nat) (L : List Nd) (q : Int), e = .returned (.tuple #[.agg #[.int .i64 b, .slice a L.length c, .int .i64 q], .int .i64 k, .int .i64 0]) ∧ Dg.at w' ⟨b, a, c, L, q⟩ ∧ IsTab b (clI b s r u k) L q ∧ clI b s r u (k + 1) = clI b s r u k ∧ (∀ j, j < k → clI b s r u j ≠ clI b s r u (j + 1)) ∧ Same w w' := by
  obtain ⟨⟨n, a, c, L, q⟩, k, he, hd, ⟨hn, ht⟩, h1, h2, hs⟩ := h
  obtain rfl : n = b := hn
  exact ⟨k, a, c, L, q, he, hd, ht, h1, h2, hs⟩
/-! ### the chapter's example -/
def kA (s : Nat) : Au := ⟨[0, 1], 3, [], [(0, 0, 1), (1, 0, 2), (2, 1, 0)], some ⟨s, 0, none⟩, 2, none, 0, some ⟨s + 1, 0, none⟩, 3⟩
theorem renErr_0 {m : Int} {qs : List Int} : ∀ (k i : Nat), i + k = qs.length → (∀ j, j < qs.length → 0 ≤ toF qs j ∧ toF qs j < m) → (∀ j, j + 1 < qs.length → toF qs j < toF qs (j + 1)) → renErr m qs k i = 0
  | 0, _, _, _, _ => rfl
  | k + 1, i, h, h1, h2 => by
    have b := h1 i (by omega)
    rw [renErr, if_neg (by omega), if_neg (fun hh => by
      have := h2 (i - 1) (by omega)
      rw [show i - 1 + 1 = i by omega] at this
      omega)]
    exact renErr_0 k (i + 1) (by omega) h1 h2
theorem natI_toF {l : List Nat} {j : Nat} (h : j < l.length) : toF (natI l) j = ((l[j] : Nat) : Int) := by
  unfold toF natI
  simp [List.getD, h]
theorem filF_pair (p : Nat → Bool) (n : Nat) : (filF p n).Pairwise (· < ·) := List.pairwise_lt_range.filter _
theorem fil_err (p : Nat → Bool) (n : Nat) : renErr n (natI (filF p n)) (natI (filF p n)).length 0 = 0 := by
  refine renErr_0 _ 0 (by omega) (fun j hj => ?_) (fun j hj => ?_)
  · rw [natI_len] at hj
    rw [natI_toF hj]
    have := (filF_mem.1 (List.getElem_mem hj)).1
    omega
  · rw [natI_len] at hj
    rw [natI_toF hj, natI_toF (by omega)]
    have := List.pairwise_iff_getElem.1 (filF_pair p n) j (j + 1) (by omega) hj (by omega)
    omega

theorem idL_lt (k : Nat) : ∀ p ∈ idL k, p.1 < k ∧ p.2 < k := fun p hp => by
  obtain ⟨i, hi, rfl⟩ := List.mem_map.1 hp
  have := List.mem_range.1 hi
  exact ⟨this, this⟩
theorem IsTab.zero {n : Nat} {t : List Bool} {L : List Nd} {r : Int} (h : IsTab n t L r) : r = 0 ↔ t = fls n := by
  constructor
  · rintro rfl
    have := h.ord.2.2
    rw [tab0 _ h.n40] at this
    exact this.symm
  · rintro rfl
    have := h.eq
    rw [show fls n = List.replicate (2 ^ n) false from rfl, tableF_false] at this
    exact (congrArg Prod.snd this).symm
end Go.Proofs.YtcipnkemnepbaaaGreat
