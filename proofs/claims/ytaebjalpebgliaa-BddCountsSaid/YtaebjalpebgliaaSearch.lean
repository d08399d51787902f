/- alphabet.CheckSet and Contains; the library's binary search. -/
import Derived.Test.YtaebjalpebgliaaRRen
namespace Go.Proofs.Ytaebjalpebgliaa
open Go.RowKit
set_option linter.unusedVariables false
set_option linter.unusedSimpArgs false

theorem renErr_at (m : Int) (qs : List Int) (k : Nat) (h : k < qs.length) : renErr m qs (qs.length - k) k = if toF qs k < 0 ∨ m ≤ toF qs k then 2 else if 0 < k ∧ toF qs k ≤ toF qs (k - 1) then 5 else renErr m qs (qs.length - (k + 1)) (k + 1) := by
  have e : qs.length - k = (qs.length - (k + 1)) + 1 := by omega
  rw [e, renErr]

set_option maxRecDepth 100000 in
set_option maxHeartbeats 2000000 in
theorem checkSet_any (n : Int) (qs : List Int) (aQ : Option Addr) (capQ : Nat) (w : World) (hl7 : qs.length ≤ 1000) (hQ : RowAt w (.slice aQ qs.length capQ) qs.length (intCells qs)) :
    Calls Try.prog 83 #[.slice aQ qs.length capQ, .int .i64 n] w fun e w' => e = .returned (.int .i64 (renErr n qs qs.length 0)) ∧ w = w' := by
  obtain ⟨E, hE⟩ : ∃ E, E = renErr n qs qs.length 0 := ⟨_, rfl⟩
  rw [← hE]
  obtain ⟨q, hq⟩ : ∃ q, q = qs.length := ⟨_, rfl⟩
  have hql : q ≤ 1000 := by omega
  rw [← hq] at hQ hE ⊢
  replace hQ := Lib.hid hQ; replace hE := Lib.hid hE; replace hq := Lib.hid hq
  go_enter Try.func83, Try.ntmps83
  go_wp2_with fail
  go_loopw [9] (fun i wr => ∃ k : Nat, i = .int .i64 k ∧ k ≤ q ∧ renErr n qs (q - k) k = E ∧ w = wr) (fun i _ => q - (intOf i).toNat)
  case atStart => exact ⟨0, rfl, by omega, hE.out.symm, rfl⟩
  case round =>
    obtain ⟨k, rfl, hk, hrE, rfl⟩ := hrel
    by_cases hlt : k < q
    · rw [hq.out, renErr_at n qs k (by rw [← hq.out]; exact hlt), ← hq.out] at hrE
      obtain ⟨bq, oq, rfl, hbq, hcq⟩ := ints_row (l := qs) (by rw [← hq.out]; exact hQ.out) (by rw [← hq.out]; omega)
      have ck := hcq k (by rw [← hq.out]; exact hlt)
      have cp : 0 < k → w.cell? ⟨bq, oq + (k - 1), none⟩ = some (.int .i64 (toF qs (k - 1))) := fun h => hcq (k - 1) (by rw [← hq.out]; omega)
      clear hcq
      obtain ⟨v, hv'⟩ : ∃ v, v = toF qs k := ⟨_, rfl⟩
      rw [← hv'] at hrE ck
      replace hv' := Lib.hid hv'
      by_cases c1 : v < 0 ∨ n ≤ v
      · rw [if_pos c1] at hrE
        subst hrE
        clear cp
        by_cases c2 : v < 0
        · clear c1
          go_wp2_with fail
          go_ret
          exact ⟨rfl, rfl⟩
        · have c3 : n ≤ v := by omega
          clear c1
          go_wp2_with fail
          go_ret
          exact ⟨rfl, rfl⟩
      · rw [if_neg c1] at hrE
        have c2 : 0 ≤ v := by omega
        have c3 : v < n := by omega
        clear c1
        by_cases c4 : 0 < k
        · have cp' := cp c4
          obtain ⟨k', rfl⟩ : ∃ k', k = k' + 1 := ⟨k - 1, by omega⟩
          rw [Nat.add_sub_cancel] at cp'
          obtain ⟨u, hu⟩ : ∃ u, u = toF qs k' := ⟨_, rfl⟩
          simp only [Nat.add_sub_cancel] at hrE
          rw [← hu] at hrE cp'
          have hkk : 0 < k' + 1 := c4
          have hkk2 : ((k' : Int) + 1 - 1) = (k' : Int) := by omega
          clear cp
          replace hu := Lib.hid hu
          by_cases c5 : v ≤ u
          · rw [if_pos ⟨c4, c5⟩] at hrE
            subst hrE
            go_wp2_with fail
            go_ret
            exact ⟨rfl, rfl⟩
          · rw [if_neg (fun h => c5 h.2)] at hrE
            have c6 : u < v := by omega
            clear c5
            replace hrE := Lib.hid hrE
            go_wp2_with fail
            go_roundw
            case rel => exact ⟨k' + 1 + 1, by go_num, by omega, hrE.out, (by first | rfl | trivial)⟩
            case measure => simp [intOf]; omega
        · rw [if_neg (fun h => c4 h.1)] at hrE
          have c7 : k = 0 := by omega
          replace c7 := Lib.hid c7
          clear cp
          replace hrE := Lib.hid hrE
          go_wp2_with fail
          go_roundw
          case rel => exact ⟨k + 1, by go_num, by omega, hrE.out, (by first | rfl | trivial)⟩
          case measure => simp [intOf]; omega
    · have hkq : k = q := by omega
      subst hkq
      rw [Nat.sub_self, renErr] at hrE
      subst hrE
      go_wp2_with fail
      go_ret
      exact ⟨rfl, rfl⟩

theorem nan_c (x : Int) (w : World) : Calls Try.prog 107 #[.int .i64 x] w fun e w' => e = .returned (.bool false) ∧ w = w' := by
  go_enter Try.func107, Try.ntmps107
  go_wp2
  go_ret
  exact ⟨by simp, rfl⟩

theorem nan_s (x : Int) (w : World) : Calls Try.prog 101 #[.int .i64 x] w fun e w' => e = .returned (.bool false) ∧ w = w' := by
  go_enter Try.func101, Try.ntmps101
  go_wp2
  go_ret
  exact ⟨by simp, rfl⟩

theorem less_c (x y : Int) (w : World) : Calls Try.prog 96 #[.int .i64 x, .int .i64 y] w fun e w' => e = .returned (.bool (decide (x < y))) ∧ w = w' := by
  go_enter Try.func96, Try.ntmps96
  go_wp2_with (go_at_call 107; refine (nan_c _ _).mono ?_; rintro e w' ⟨rfl, rfl⟩)
  go_ret
  exact ⟨rfl, rfl⟩

theorem toF_mem (qs : List Int) (x : Int) : x ∈ qs ↔ ∃ t, t < qs.length ∧ toF qs t = x := by
  constructor
  · intro h
    obtain ⟨i, hi, he⟩ := List.mem_iff_getElem.1 h
    exact ⟨i, hi, by simp [toF, List.getD, hi, he]⟩
  · rintro ⟨t, ht, rfl⟩
    have : toF qs t = qs[t] := by simp [toF, List.getD, ht]
    rw [this]
    exact List.getElem_mem ht

set_option maxRecDepth 100000 in
set_option maxHeartbeats 4000000 in
theorem bsearch_any (qs : List Int) (x : Int) (aQ : Option Addr) (capQ : Nat) (w : World) (hl7 : qs.length ≤ 1000) (hQ : RowAt w (.slice aQ qs.length capQ) qs.length (intCells qs)) (hs : ∀ i j, i ≤ j → j < qs.length → toF qs i ≤ toF qs j) :
    Calls Try.prog 89 #[.slice aQ qs.length capQ, .int .i64 x] w fun e w' => ∃ k : Int, e = .returned (.tuple #[.int .i64 k, .bool (decide (x ∈ qs))]) ∧ Same w w' := by
  have hend : ∀ lo, lo ≤ qs.length → (∀ t, t < lo → toF qs t < x) → (∀ t, lo ≤ t → t < qs.length → x ≤ toF qs t) → decide (x ∈ qs) = decide (lo < qs.length ∧ toF qs lo = x) := by
    intro lo hlo h1 h2
    refine decide_eq_decide.2 ?_
    rw [toF_mem]
    constructor
    · rintro ⟨t, ht, rfl⟩
      have hlt : lo ≤ t := by
        rcases Nat.lt_or_ge t lo with h | h
        · have := h1 t h; omega
        · exact h
      exact ⟨by omega, by have g1 := h2 lo (Nat.le_refl _) (by omega); have g2 := hs lo t hlt ht; omega⟩
    · rintro ⟨h, rfl⟩
      exact ⟨lo, h, rfl⟩
  obtain ⟨R, hR⟩ : ∃ R, R = decide (x ∈ qs) := ⟨_, rfl⟩
  rw [← hR] at hend ⊢
  obtain ⟨n, hn⟩ : ∃ n, n = qs.length := ⟨_, rfl⟩
  have hnl : n ≤ 1000 := by omega
  rw [← hn] at hQ hs hend ⊢
  have hcell : 0 < n → ∃ b off, aQ = some ⟨b, off, none⟩ ∧ b < w.heap.size ∧ ∀ j, j < n → w.cell? ⟨b, off + j, none⟩ = some (.int .i64 (toF qs j)) := fun h => by
    obtain ⟨b, off, h1, h2, h3⟩ := ints_row (l := qs) (by rw [← hn]; exact hQ) (by omega)
    exact ⟨b, off, h1, h2, fun j hj => h3 j (by omega)⟩
  replace hQ := Lib.hid hQ; replace hs := Lib.hid hs; replace hend := Lib.hid hend; replace hR := Lib.hid hR; replace hn := Lib.hid hn; replace hcell := Lib.hid hcell
  go_enter Try.func89, Try.ntmps89
  go_wp2_with fail
  go_loopw [7, 8] (fun s7 s8 wr => ∃ lo hi q : Nat, s7 = .int .i64 lo ∧ s8 = .int .i64 hi ∧ lo ≤ hi ∧ hi ≤ n ∧ wr = w.drewN q ∧ (∀ t, t < lo → toF qs t < x) ∧ (∀ t, hi ≤ t → t < n → x ≤ toF qs t)) (fun s7 s8 _ => (intOf s8).toNat - (intOf s7).toNat)
  case atStart => exact ⟨0, n, 0, rfl, rfl, Nat.zero_le _, Nat.le_refl _, rfl, fun t ht => absurd ht (Nat.not_lt_zero _), fun t h1 h2 => by omega⟩
  case round =>
    obtain ⟨lo, hi, q, rfl, rfl, hlh, hin, rfl, h1, h2⟩ := hrel
    replace h1 := Lib.hid h1
    replace h2 := Lib.hid h2
    by_cases hlt : lo < hi
    · obtain ⟨b, off, rfl, hb, hc⟩ := hcell.out (by omega)
      have cm := hc ((lo + hi) / 2) (by omega)
      clear hc
      obtain ⟨y, hy⟩ : ∃ y, y = toF qs ((lo + hi) / 2) := ⟨_, rfl⟩
      rw [← hy] at cm
      replace hy := Lib.hid hy
      by_cases hyx : y < x
      · go_wp2_with (go_at_call 96; refine (less_c _ _ _).mono ?_; rintro e w' ⟨rfl, rfl⟩)
        go_roundw
        case rel =>
          refine ⟨(lo + hi) / 2 + 1, hi, q, by simp, rfl, by omega, hin, rfl, fun t ht => ?_, h2.out⟩
          have := hs.out t ((lo + hi) / 2) (by omega) (by omega)
          rw [← hy.out] at this
          omega
        case measure => simp [intOf]; omega
      · go_wp2_with (go_at_call 96; refine (less_c _ _ _).mono ?_; rintro e w' ⟨rfl, rfl⟩)
        go_roundw
        case rel =>
          refine ⟨lo, (lo + hi) / 2, q, rfl, by simp, by omega, by omega, rfl, h1.out, fun t ht htn => ?_⟩
          have := hs.out ((lo + hi) / 2) t ht htn
          rw [← hy.out] at this
          omega
        case measure => simp [intOf]; omega
    · have hll : lo = hi := by omega
      subst hll
      have he := hend.out lo hin h1.out h2.out
      by_cases hn2 : lo < n
      · obtain ⟨b, off, rfl, hb, hc⟩ := hcell.out (by omega)
        have cm := hc lo hn2
        clear hc
        obtain ⟨y, hy⟩ : ∃ y, y = toF qs lo := ⟨_, rfl⟩
        rw [← hy] at cm he
        replace hy := Lib.hid hy
        by_cases hyx : y = x
        · rw [decide_eq_true (show lo < n ∧ y = x from ⟨hn2, hyx⟩)] at he
          have hb1 : (y == x) = true := by simpa using hyx
          subst he
          clear hyx
          go_wp2_with (go_at_call 101; refine (nan_s _ _).mono ?_; rintro e w' ⟨rfl, rfl⟩)
          go_ret2
          exact ⟨_, rfl, (by repeat (first | exact Fr.refl _ _ | apply Fr.alloc | apply Fr.drewN | apply Fr.drew | apply Fr.undrew | apply Fr.undrewN))⟩
        · rw [decide_eq_false (show ¬ (lo < n ∧ y = x) from fun h => hyx h.2)] at he
          have hb1 : (y == x) = false := by simpa using hyx
          subst he
          clear hyx
          go_wp2_with (go_at_call 101; refine (nan_s _ _).mono ?_; rintro e w' ⟨rfl, rfl⟩)
          go_ret2
          exact ⟨_, rfl, (by repeat (first | exact Fr.refl _ _ | apply Fr.alloc | apply Fr.drewN | apply Fr.drew | apply Fr.undrew | apply Fr.undrewN))⟩
      · rw [decide_eq_false (show ¬ (lo < n ∧ toF qs lo = x) from fun h => hn2 h.1)] at he
        subst he
        go_wp2_with (go_at_call 101; refine (nan_s _ _).mono ?_; rintro e w' ⟨rfl, rfl⟩)
        go_ret2
        exact ⟨_, rfl, (by repeat (first | exact Fr.refl _ _ | apply Fr.alloc | apply Fr.drewN | apply Fr.drew | apply Fr.undrew | apply Fr.undrewN))⟩

theorem contains_any (qs : List Int) (x : Int) (aQ : Option Addr) (capQ : Nat) (w : World) (hl7 : qs.length ≤ 1000) (hQ : RowAt w (.slice aQ qs.length capQ) qs.length (intCells qs)) (hs : ∀ i j, i ≤ j → j < qs.length → toF qs i ≤ toF qs j) :
    Calls Try.prog 85 #[.slice aQ qs.length capQ, .int .i64 x] w fun e w' => e = .returned (.bool (decide (x ∈ qs))) ∧ Same w w' := by
  have B := bsearch_any qs x aQ capQ w hl7 hQ hs
  obtain ⟨R, hR⟩ : ∃ R, R = decide (x ∈ qs) := ⟨_, rfl⟩
  rw [← hR] at B ⊢
  replace B := Lib.hid B; replace hQ := Lib.hid hQ; replace hs := Lib.hid hs; replace hR := Lib.hid hR
  go_enter Try.func85, Try.ntmps85
  go_wp2_with fail
  refine B.out.mono ?_
  rintro e w1 ⟨k, rfl, hs1⟩
  replace hs1 := Lib.hid hs1
  go_wp2_with fail
  go_ret
  exact ⟨rfl, hs1.out⟩
end Go.Proofs.Ytaebjalpebgliaa
