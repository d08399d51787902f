/-  -/
import Derived.Lib.ItoaNum
import Derived.Test.YticcpnekjddanaaGreatDoorZKey2
set_option linter.unusedVariables false
set_option linter.unusedSimpArgs false
namespace Go.Proofs.YticcpnekjddanaaGreatDoor
open Go.RowKit
def qlZ (l : List UInt8) : Value := .string ⟨l.toArray⟩
theorem qpW {a b : List UInt8} (h : (⟨a.toArray⟩ : ByteArray) = ⟨b.toArray⟩) : a = b := by
 have := congrArg (fun z => z.data.toList) h
 simpa using this
theorem qgj (a b : ByteArray) : (a == b) = decide (a = b) := by
 obtain ⟨a⟩ := a
 obtain ⟨b⟩ := b
 rw [show ((⟨a⟩ : ByteArray) == ⟨b⟩) = (a == b) from rfl, Bool.eq_iff_iff, beq_iff_eq, decide_eq_true_iff]
 exact ⟨fun h => by rw [h], fun h => congrArg ByteArray.data h⟩
theorem qiR : Tryz.prog.underlying 9 = some .string := Tryz.underlying9
theorem qgk (a : List UInt8) : ∀ (es : List MapEntry) (ks : List (List UInt8)) (i : Nat), es.map (·.key) = ks.map qlZ → Instr.findNow .string (qlZ a) es i = some (qbJ a ks es i)
 | [], ks, i, h => by cases ks <;> simp [Instr.findNow, qbJ] at *
 | e :: es, [], i, h => by simp at h
 | e :: es, x :: ks, i, h => by
  simp only [List.map_cons, List.cons.injEq] at h
  obtain ⟨h1, h2⟩ := h
  by_cases hx : a = x
  · subst hx; simp [Instr.findNow, qbJ, h1, Instr.sameNow, qlZ, qgj]
  · have : ((⟨a.toArray⟩ : ByteArray) == ⟨x.toArray⟩) = false := by rw [qgj, decide_eq_false_iff_not]; exact fun h => hx (qpW h)
    simp [Instr.findNow, qbJ, h1, Instr.sameNow, qlZ, this, hx]
    exact qgk a es ks (i + 1) h2
theorem keyS : qdK Tryz.prog 9 qlZ where
 check a w b := by
  have h : ∀ n, (Instr.checkKey b (n + 1) 9 (qlZ a)).run Tryz.prog w = .ok () w := fun n => by simp [Instr.checkKey, run_underlying qiR, qlZ]
  exact h 9999
 find a es ks w h := by simp [Instr.findKey, run_underlying qiR, qgk a es ks 0 h]
 same a := by unfold Instr.sameBits; simp [qlZ, qgj]
def qe7 (x : List Nat) : List UInt8 := x.flatMap fun n => Lib.decDigits n ++ [32]
theorem qhI : qe7 [] = [] := rfl
theorem qds (n : Nat) (x : List Nat) : qe7 (n :: x) = Lib.decDigits n ++ 32 :: qe7 x := by simp [qe7]
theorem qoi (n : Nat) (x : List Nat) : qe7 (x ++ [n]) = qe7 x ++ Lib.decDigits n ++ [32] := by simp [qe7]
theorem qoj : ∀ n : Fin 100, ¬ (32 : UInt8) ∈ Lib.decDigits n.val := by decide +kernel
theorem qj6 : ∀ n m : Fin 100, Lib.decDigits n.val = Lib.decDigits m.val → n = m := by decide +kernel
theorem qgl : ∀ n : Fin 100, (Lib.decDigits n.val).length ≤ 2 := by decide +kernel
theorem qk4 : ∀ {a b r s : List UInt8}, ¬ 32 ∈ a → ¬ 32 ∈ b → a ++ 32 :: r = b ++ 32 :: s → a = b ∧ r = s
 | [], [], r, s, _, _, h => by simpa using h
 | [], y :: b, r, s, _, hb, h => by
  simp only [List.nil_append, List.cons_append, List.cons.injEq] at h
  exact absurd (h.1 ▸ List.mem_cons_self) hb
 | x :: a, [], r, s, ha, _, h => by
  simp only [List.nil_append, List.cons_append, List.cons.injEq] at h
  exact absurd (h.1 ▸ List.mem_cons_self) ha
 | x :: a, y :: b, r, s, ha, hb, h => by
  simp only [List.cons_append, List.cons.injEq] at h
  obtain ⟨h1, h2⟩ := qk4 (fun hm => ha (List.mem_cons_of_mem _ hm)) (fun hm => hb (List.mem_cons_of_mem _ hm)) h.2
  exact ⟨by rw [h.1, h1], h2⟩
theorem qhJ : ∀ {x y : List Nat}, (∀ n ∈ x, n < 100) → (∀ n ∈ y, n < 100) → qe7 x = qe7 y → x = y
 | [], [], _, _, _ => rfl
 | [], n :: y, _, _, h => by rw [qhI, qds] at h; simp at h
 | n :: x, [], _, _, h => by rw [qhI, qds] at h; simp at h
 | n :: x, m :: y, hx, hy, h => by
  rw [qds, qds] at h
  have hn := hx n List.mem_cons_self
  have hm := hy m List.mem_cons_self
  obtain ⟨h1, h2⟩ := qk4 (qoj ⟨n, hn⟩) (qoj ⟨m, hm⟩) h
  have h3 := qj6 ⟨n, hn⟩ ⟨m, hm⟩ h1
  have h4 : n = m := congrArg Fin.val h3
  rw [h4, qhJ (fun k hk => hx k (List.mem_cons_of_mem _ hk)) (fun k hk => hy k (List.mem_cons_of_mem _ hk)) h2]
end Go.Proofs.YticcpnekjddanaaGreatDoor
