/- A slice of one-cell elements that is only read: its cells, wherever they lie. -/
import Derived.Test.YtaebjalpebgliaaBase
namespace Go.Proofs.Ytaebjalpebgliaa
open Go.RowKit
set_option linter.unusedVariables false

def RowAt (w : World) (v : Value) (n : Nat) (cells : List Value) : Prop :=
  cells.length = n ∧ ∃ a cap, v = .slice a n cap ∧ n ≤ cap ∧ cap ≤ maxLen ∧ (a = none → cap = 0) ∧
    (0 < n → ∃ b off, a = some ⟨b, off, none⟩ ∧ b < w.heap.size ∧ ∀ j u, cells[j]? = some u → w.cell? ⟨b, off + j, none⟩ = some u)

theorem SliceAt.row {w : World} {T : TypeId} {a : Option Addr} {n cap : Nat} {cells : List Value} (h : SliceAt w T 1 (.slice a n cap) n cells) : RowAt w (.slice a n cap) n cells := by
  refine ⟨by rw [h.1, Nat.mul_one], ?_⟩
  obtain ⟨hl, a', cap', he, h1, h2, h3, h4⟩ := id h
  cases he
  exact ⟨a, cap, rfl, h1, h2, h3, fun hn => h.cell hn⟩

theorem RowAt.cell {w : World} {a : Option Addr} {cap n : Nat} {cells : List Value} (h : RowAt w (.slice a n cap) n cells) (hn : 0 < n) :
    ∃ b off, a = some ⟨b, off, none⟩ ∧ b < w.heap.size ∧ ∀ j u, cells[j]? = some u → w.cell? ⟨b, off + j, none⟩ = some u := by
  obtain ⟨hl, a', cap', he, _, _, _, hb⟩ := h
  cases he
  exact hb hn

theorem RowAt.form {w : World} {v : Value} {n : Nat} {cells : List Value} (h : RowAt w v n cells) : ∃ a cap, v = .slice a n cap ∧ n ≤ cap ∧ cap ≤ maxLen := by
  obtain ⟨_, a, cap, he, h1, h2, _⟩ := h
  exact ⟨a, cap, he, h1, h2⟩

/-- It stands where its block is as it was. -/
theorem RowAt.keep {w w' : World} {a : Option Addr} {n cap : Nat} {cells : List Value} (h : RowAt w (.slice a n cap) n cells) (hs : w.heap.size ≤ w'.heap.size)
    (hk : ∀ k, (Value.slice a n cap).ownBlock = some k → k < w.heap.size → w'.heap[k]? = w.heap[k]?) : RowAt w' (.slice a n cap) n cells := by
  obtain ⟨hl, a', cap', he, h1, h2, h3, hb⟩ := h
  cases he
  refine ⟨hl, a, cap, rfl, h1, h2, h3, fun hn => ?_⟩
  obtain ⟨b, off, ha, hlt, hc⟩ := hb hn
  have hh := hk b (by simp [Value.ownBlock, ha]) hlt
  refine ⟨b, off, ha, Nat.lt_of_lt_of_le hlt hs, fun j u hu => ?_⟩
  rw [← hc j u hu]
  simp [World.cell?, hh]

theorem RowAt.same {w w' : World} {v : Value} {n : Nat} {cells : List Value} (h : RowAt w v n cells) (hf : Same w w') : RowAt w' v n cells := by
  obtain ⟨a, cap, rfl, _⟩ := h.form
  exact h.keep hf.size (fun k _ hk => hf.block k hk id)

theorem RowAt.nil (w : World) : RowAt w (.slice none 0 0) 0 [] := ⟨rfl, none, 0, rfl, Nat.le_refl _, Nat.zero_le _, fun _ => rfl, fun h => absurd h (Nat.lt_irrefl 0)⟩

/-- The elements from k on. -/
theorem RowAt.cut {w : World} {a : Option Addr} {n cap : Nat} {cells : List Value} (h : RowAt w (.slice a n cap) n cells) (hn : 0 < n) (k l : Nat) (hkl : k ≤ l) (hl : l ≤ n) (hk : k < n) :
    ∃ b off, a = some ⟨b, off, none⟩ ∧ RowAt w (.slice (some ⟨b, off + k, none⟩) (l - k) (cap - k)) (l - k) ((cells.drop k).take (l - k)) := by
  obtain ⟨hlen, a', cap', he, h1, h2, h3, hb⟩ := h
  cases he
  obtain ⟨b, off, rfl, hlt, hc⟩ := hb hn
  refine ⟨b, off, rfl, by simp only [List.length_take, List.length_drop, hlen]; omega, _, _, rfl, by omega, by omega, by simp, fun _ => ⟨b, off + k, rfl, hlt, fun j u hu => ?_⟩⟩
  rw [List.getElem?_take] at hu
  split at hu
  · rw [List.getElem?_drop] at hu
    rw [Nat.add_assoc]
    exact hc _ _ hu
  · cases hu

theorem RowAt.below {w : World} {n : Nat} {a : Option Addr} {cap : Nat} {cells : List Value} (h : RowAt w (.slice a n cap) n cells) (hn : 0 < n) : ∀ k, (Value.slice a n cap).ownBlock = some k → k < w.heap.size := by
  obtain ⟨b, off, rfl, hb, _⟩ := h.cell hn
  intro k hk
  simp [Value.ownBlock] at hk
  omega
end Go.Proofs.Ytaebjalpebgliaa
