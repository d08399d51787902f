/- Unions of sets of events, plain. -/
import Derived.Test.YtknlkcfnfjchdaaGreatULNetE
import Derived.Test.YtknlkcfnfjchdaaGreatUReaA
namespace Go.Proofs.YtknlkcfnfjchdaaGreat
open Go.RowKit
set_option linter.unusedVariables false
set_option linter.unusedSimpArgs false

theorem bits_or8 (a b : Nat) (ha : a < 256) (hb : b < 256) : bits .or .u8 (a : Int) (b : Int) = ((a ||| b : Nat) : Int) := by
  have h : a ||| b < 2 ^ 8 := Nat.or_lt_two_pow (by omega) (by omega)
  have e1 : (BitVec.ofInt 8 (a : Int)).toNat = a := by rw [BitVec.ofInt_natCast, BitVec.toNat_ofNat]; omega
  have e2 : (BitVec.ofInt 8 (b : Int)).toNat = b := by rw [BitVec.ofInt_natCast, BitVec.toNat_ofNat]; omega
  show IntKind.u8.wrap ((BitVec.ofInt 8 (a : Int) ||| BitVec.ofInt 8 (b : Int)).toNat : Int) = _
  rw [BitVec.toNat_or, e1, e2]
  generalize a ||| b = c at *
  unfold IntKind.wrap
  simp [IntKind.signed, IntKind.bits]
  omega
theorem setP8_all : ∀ (x : Fin 256) (k : Fin 5), setP8 ((x.val : Nat) : Int) k.val = x.val.testBit k.val := by decide +kernel
theorem setP8_or (a b k : Nat) (ha : a < 256) (hb : b < 256) (hk : k < 5) : setP8 ((a ||| b : Nat) : Int) k = (setP8 (a : Int) k || setP8 (b : Int) k) := by
  have h : a ||| b < 2 ^ 8 := Nat.or_lt_two_pow (by omega) (by omega)
  have h1 := setP8_all ⟨a ||| b, by omega⟩ ⟨k, hk⟩
  have h2 := setP8_all ⟨a, ha⟩ ⟨k, hk⟩
  have h3 := setP8_all ⟨b, hb⟩ ⟨k, hk⟩
  simp only at h1 h2 h3
  rw [h1, h2, h3, Nat.testBit_or]
theorem evL_any (s : Int) (f : Int → Bool) : (evL s).any f = (List.range 5).any fun k => setP8 s k && f k := by
  unfold evL
  have : ∀ n, (natI (filF (setP8 s) n)).any f = (List.range n).any fun k => setP8 s k && f k := by
    intro n
    induction n with
    | zero => rfl
    | succ n ih =>
      rw [List.range_succ, List.any_append, ← ih]
      by_cases h : setP8 s n = true
      · rw [filF_yes h]
        unfold natI
        rw [List.map_append, List.any_append]
        simp [h]
      · have h' : setP8 s n = false := by simpa using h
        rw [filF_no h']
        simp [h']
  exact this 5
theorem steps_or (As : List Au) (a b : Nat) (ha : a < 256) (hb : b < 256) : stepsB As (evL ((a ||| b : Nat) : Int)) = fun x y => stepsB As (evL (a : Int)) x y || stepsB As (evL (b : Int)) x y := by
  funext x y
  unfold stepsB
  rw [evL_any, evL_any, evL_any]
  have h0 := setP8_or a b 0 ha hb (by omega)
  have h1 := setP8_or a b 1 ha hb (by omega)
  have h2 := setP8_or a b 2 ha hb (by omega)
  have h3 := setP8_or a b 3 ha hb (by omega)
  have h4 := setP8_or a b 4 ha hb (by omega)
  simp only [List.range, List.range.loop, List.any_cons, List.any_nil, h0, h1, h2, h3, h4]
  generalize setP8 (a : Int) 0 = p0
  generalize setP8 (a : Int) 1 = p1
  generalize setP8 (a : Int) 2 = p2
  generalize setP8 (a : Int) 3 = p3
  generalize setP8 (a : Int) 4 = p4
  generalize setP8 (b : Int) 0 = q0
  generalize setP8 (b : Int) 1 = q1
  generalize setP8 (b : Int) 2 = q2
  generalize setP8 (b : Int) 3 = q3
  generalize setP8 (b : Int) 4 = q4
  simp only [Bool.or_false, Bool.and_or_distrib_right]
  ac_rfl
/-- The relation of a union of events is the union of the relations. -/
theorem rel_union (N : Nw) (a b : Nat) (ha : a < 256) (hb : b < 256) : ite3 (N.rel (stepsB N.As (evL (a : Int)))) (tru (2 * N.all)) (N.rel (stepsB N.As (evL (b : Int)))) = N.rel (stepsB N.As (evL ((a ||| b : Nat) : Int))) := by
  rw [steps_or N.As a b ha hb]
  exact rel_or _ _ _ _ _ _
end Go.Proofs.YtknlkcfnfjchdaaGreat
