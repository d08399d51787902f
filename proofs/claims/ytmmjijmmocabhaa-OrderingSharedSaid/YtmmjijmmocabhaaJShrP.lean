/- Shared: the groups of those that share an event. Plain. -/
import Derived.Test.YtmmjijmmocabhaaJGrpP
namespace Go.Proofs.Ytmmjijmmocabhaa
set_option linter.unusedVariables false
set_option linter.unusedSimpArgs false

def hasK (L : List (List Int)) (x : Int) : Nat → List Int
  | 0 => []
  | i + 1 => hasK L x i ++ if x ∈ L.getD i [] then [(i : Int)] else []
def hasF (L : List (List Int)) (x : Int) : List Int := hasK L x L.length
theorem hasK_len (L : List (List Int)) (x : Int) : ∀ i, (hasK L x i).length ≤ i
  | 0 => by simp [hasK]
  | i + 1 => by
    have := hasK_len L x i
    rw [hasK, List.length_append]
    split <;> simp <;> omega
/-- Of the i-th list, only the first k elements. -/
def hasM (L : List (List Int)) (x : Int) (i k : Nat) : List Int := hasK L x i ++ if x ∈ (L.getD i []).take k then [(i : Int)] else []
theorem hasM_zero (L : List (List Int)) (x : Int) (i : Nat) : hasM L x i 0 = hasK L x i := by simp [hasM]
theorem hasM_end (L : List (List Int)) (x : Int) (i : Nat) {k : Nat} (h : (L.getD i []).length ≤ k) : hasM L x i k = hasK L x (i + 1) := by
  unfold hasM
  rw [List.take_of_length_le h, hasK]
theorem hasM_len (L : List (List Int)) (x : Int) (i k : Nat) : (hasM L x i k).length ≤ i + 1 := by
  have := hasK_len L x i
  unfold hasM
  rw [List.length_append]
  split <;> simp <;> omega
theorem hasM_step {L : List (List Int)} {x : Int} {i k : Nat} {l : List Int} (hl : L.getD i [] = l) (hn : l.Nodup) (hk : k < l.length) :
    hasM L x i (k + 1) = if x = l[k] then hasM L x i k ++ [(i : Int)] else hasM L x i k := by
  unfold hasM
  rw [hl, List.take_succ_eq_append_getElem hk]
  by_cases hx : x = l[k]
  · have hnot : x ∉ l.take k := by
      intro hm
      obtain ⟨j, hj, e⟩ := List.mem_take_iff_getElem.1 hm
      have e1 := hn.idxOf_getElem j (by omega)
      have e2 := hn.idxOf_getElem k hk
      rw [e, hx, e2] at e1
      omega
    rw [if_pos hx, if_neg hnot, if_pos (List.mem_append.2 (.inr (List.mem_singleton.2 hx))), List.append_nil]
  · rw [if_neg hx]
    by_cases hm : x ∈ l.take k
    · rw [if_pos (List.mem_append.2 (.inl hm)), if_pos hm]
    · rw [if_neg (fun h => (List.mem_append.1 h).elim hm (fun h => hx (List.mem_singleton.1 h))), if_neg hm]

def csErr (l : List Int) : Int := renErr 32 l l.length 0
def csK : List (List Int) → Int
  | [] => 0
  | l :: L => if csErr l ≠ 0 then csErr l else csK L
theorem csK_drop {L : List (List Int)} {k : Nat} (h : k < L.length) : csK (L.drop k) = if csErr L[k] ≠ 0 then csErr L[k] else csK (L.drop (k + 1)) := by
  rw [List.drop_eq_getElem_cons h, csK]
theorem cs_nodup {l : List Int} (h : csErr l = 0) : l.Nodup ∧ ∀ x ∈ l, 0 ≤ x ∧ x < 32 := by
  have h1 := renErr_pair h
  exact ⟨List.Pairwise.imp (fun h => by omega) h1, renErr_range h⟩

/-- The groups of the first x events. -/
def shK (L : List (List Int)) : Nat → List (List Int)
  | 0 => []
  | x + 1 => shK L x ++ if 2 ≤ (hasF L x).length then [hasF L x] else []
theorem shK_len (L : List (List Int)) : ∀ x, (shK L x).length ≤ x
  | 0 => by simp [shK]
  | x + 1 => by
    have := shK_len L x
    rw [shK, List.length_append]
    split <;> simp <;> omega
def lim (L : List (List Int)) : Prop := ∃ x : Nat, x < 32 ∧ 8 < (hasF L x).length
end Go.Proofs.Ytmmjijmmocabhaa
