/- count; slices.Equal and Equal. -/
import Derived.Test.YtaebjalpebgliaaFinish
import Derived.Deep.QuietTactic
import Derived.BigQuiet
namespace Go.Proofs.Ytaebjalpebgliaa
open Go.RowKit
set_option linter.unusedVariables false
set_option linter.unusedSimpArgs false

theorem count_any (n : Int) (w : World) : Calls Try.prog 55 #[.int .i64 n] w fun e w' => e = .returned (.int .i64 (if n < 0 ∨ 40 < n then 2 else 0)) ∧ w = w' := by
  obtain ⟨R, hR⟩ : ∃ R : Int, R = if n < 0 ∨ 40 < n then 2 else 0 := ⟨_, rfl⟩
  rw [← hR]
  replace hR := Lib.hid hR
  go_enter Try.func55, Try.ntmps55
  go_wp2
  all_goals go_ret
  all_goals refine ⟨?_, rfl⟩
  all_goals rw [hR.out]
  all_goals first
    | (rw [if_pos (by omega)]; rfl)
    | (rw [if_neg (by omega)]; rfl)

theorem nde_eq (x y : Nd) : nde x.1 x.2.1 x.2.2 y.1 y.2.1 y.2.2 = decide (x = y) := by
  by_cases hx : x = y
  · rw [nde_true hx]; simp [hx]
  · rw [nde_false hx]; simp [hx]

set_option maxHeartbeats 400000 in
theorem slEq_any (a a' : Option Addr) (cap cap' : Nat) (L L' : List Nd) (w : World) (h : SliceAt w 80 3 (.slice a L.length cap) L.length (ndCells L)) (h' : SliceAt w 80 3 (.slice a' L'.length cap') L'.length (ndCells L')) (hl : L.length ≤ 1000000) (hl' : L'.length ≤ 1000000) :
    Calls Try.prog 70 #[.slice a L.length cap, .slice a' L'.length cap'] w fun e w' => e = .returned (.bool (decide (L = L'))) ∧ Same w w' := by
  by_cases hlen : L.length = L'.length
  · replace h := Lib.hid h
    rw [← hlen] at h' ⊢
    replace h' := Lib.hid h'
    replace hlen := Lib.hid hlen
    obtain ⟨R, hR⟩ : ∃ R : Bool, R = decide (L = L') := ⟨_, rfl⟩
    rw [← hR]
    replace hR := Lib.hid hR
    go_enter Try.func70, Try.ntmps70
    go_wp2
    go_loopw [13] (fun i wr => (∃ k : Nat, k ≤ L.length ∧ i = .int .i64 k ∧ ∀ (j : Nat), j < k → L[j]? = L'[j]?) ∧ ∃ n, wr = w.drewN n) (fun i _ => L.length - (intOf i).toNat)
    case atStart => exact ⟨⟨0, by omega, rfl, fun _ h => by omega⟩, 0, rfl⟩
    case round =>
      obtain ⟨⟨k, hk, rfl, hf⟩, n, rfl⟩ := hrel
      replace hf := Lib.hid hf
      by_cases hlt : k < L.length
      · have hlt' : k < L'.length := by rw [← hlen.out]; exact hlt
        obtain ⟨b, off, ha, hb, h1, h2, h3⟩ := h.out.node hlt
        have h'' := h'.out
        rw [hlen.out] at h''
        obtain ⟨b', off', ha', hb', h1', h2', h3'⟩ := h''.node hlt'
        replace h' := Lib.hid h'
        clear h''
        replace hlt' := Lib.hid hlt'
        subst ha
        subst ha'
        by_cases hx : L[k] = L'[k]'(hlt'.out)
        · have hn := nde_true hx
          replace hx := Lib.hid hx
          go_wp2
          go_quiet (fail)
          go_wp2
          go_roundw
          case rel =>
            refine ⟨⟨k + 1, by omega, by go_num, fun j hj => ?_⟩, _, rfl⟩
            by_cases hjk : j < k
            · exact hf.out j hjk
            · have : j = k := by omega
              subst this
              rw [List.getElem?_eq_getElem hlt, List.getElem?_eq_getElem hlt'.out, hx.out]
          case measure => simp [intOf]; omega
        · have hn := nde_false hx
          replace hx := Lib.hid hx
          go_wp2
          go_quiet (fail)
          go_wp2
          go_ret
          refine ⟨?_, (by repeat (first | exact Fr.refl _ _ | apply Fr.alloc | apply Fr.drewN | apply Fr.drew))⟩
          rw [hR.out]
          have : ¬ L = L' := fun e => hx.out (by subst e; rfl)
          simp [this]
      · go_wp2
        go_ret
        refine ⟨?_, (by repeat (first | exact Fr.refl _ _ | apply Fr.alloc | apply Fr.drewN | apply Fr.drew))⟩
        rw [hR.out]
        have : L = L' := by
          apply List.ext_getElem?
          intro j
          by_cases hj : j < k
          · exact hf.out j hj
          · rw [List.getElem?_eq_none (by omega), List.getElem?_eq_none (by have := hlen.out; omega)]
        simp [this]
  · have hne : ¬ L = L' := fun e => hlen (by rw [e])
    rw [decide_eq_false hne]
    have hb : (L.length : Int) ≠ L'.length := by omega
    clear hne h h'
    go_enter Try.func70, Try.ntmps70
    go_wp2
    go_ret
    exact ⟨rfl, Fr.refl _ _⟩

set_option maxHeartbeats 400000 in
theorem equal_any (n n' r r' : Int) (a a' : Option Addr) (cap cap' : Nat) (L L' : List Nd) (w : World) (h : SliceAt w 80 3 (.slice a L.length cap) L.length (ndCells L)) (h' : SliceAt w 80 3 (.slice a' L'.length cap') L'.length (ndCells L')) (hl : L.length ≤ 1000000) (hl' : L'.length ≤ 1000000) :
    Calls Try.prog 42 #[.agg #[.int .i64 n, .slice a L.length cap, .int .i64 r], .agg #[.int .i64 n', .slice a' L'.length cap', .int .i64 r']] w fun e w' => e = .returned (.bool (decide (n = n' ∧ r = r' ∧ L = L'))) ∧ Same w w' := by
  replace h := Lib.hid h
  replace h' := Lib.hid h'
  by_cases hn : n = n'
  · subst hn
    by_cases hr : r = r'
    · subst hr
      simp only [true_and]
      go_enter Try.func42, Try.ntmps42
      go_wp2_with fail
      refine (slEq_any a a' cap cap' L L' _ (h.out.same (by repeat (first | exact Fr.refl _ _ | apply Fr.alloc | apply Fr.drewN | apply Fr.drew))) (h'.out.same (by repeat (first | exact Fr.refl _ _ | apply Fr.alloc | apply Fr.drewN | apply Fr.drew))) hl hl').mono ?_
      rintro e w1 ⟨rfl, hs⟩
      replace hs := Lib.hid hs
      go_wp2_with fail
      go_ret
      refine ⟨rfl, (show Same w _ from (by repeat (first | exact Fr.refl _ _ | apply Fr.alloc | apply Fr.drewN | apply Fr.drew))).same hs.out⟩
    · have e1 : decide (n = n ∧ r = r' ∧ L = L') = false := by simp [hr]
      rw [e1]
      have hb : (r == r') = false := by simpa using hr
      clear e1 hr
      go_enter Try.func42, Try.ntmps42
      go_wp2_with fail
      go_ret
      exact ⟨rfl, (by repeat (first | exact Fr.refl _ _ | apply Fr.alloc | apply Fr.drewN | apply Fr.drew))⟩
  · have e1 : decide (n = n' ∧ r = r' ∧ L = L') = false := by simp [hn]
    rw [e1]
    have hb : (n == n') = false := by simpa using hn
    clear e1 hn
    go_enter Try.func42, Try.ntmps42
    go_wp2_with fail
    go_ret
    exact ⟨rfl, (by repeat (first | exact Fr.refl _ _ | apply Fr.alloc | apply Fr.drewN | apply Fr.drew))⟩
end Go.Proofs.Ytaebjalpebgliaa
