/- value; Table; the reference's Bit. -/
import Derived.Test.YtaebjalpebgliaaEval
import Derived.Test.YtaebjalpebgliaaAny
import Derived.Test.YtaebjalpebgliaaLTable
import Derived.Test.YtaebjalpebgliaaFrom
namespace Go.Proofs.Ytaebjalpebgliaa
open Go.RowKit
set_option linter.unusedVariables false
set_option linter.unusedSimpArgs false

set_option maxRecDepth 100000 in
set_option maxHeartbeats 1000000 in
theorem value_any (n : Nat) (r : Int) (a ab : Option Addr) (cap cb : Nat) (L : List Nd) (bits : List Bool) (w : World) (hL : SliceAt w 80 3 (.slice a L.length cap) L.length (ndCells L)) (hl : L.length ≤ 100000) (ho : Ord L n) (hr : VNum L r)
    (hb : bits.length = n) (hB : SliceAt w 4 1 (.slice ab n cb) n (boolCells bits)) :
    Calls Try.prog 61 #[.agg #[.int .i64 n, .slice a L.length cap, .int .i64 r], .slice ab n cb] w fun e w' => e = .returned (.bool (ev L r (fun u => bits.getD u false))) ∧ Same w w' := by
  have n40 := ho.n40
  obtain ⟨R, hR⟩ : ∃ R, R = ev L r (fun u => bits.getD u false) := ⟨_, rfl⟩
  rw [← hR]
  replace hL := Lib.hid hL; replace ho := Lib.hid ho; replace hB := Lib.hid hB; replace hR := Lib.hid hR; replace hb := Lib.hid hb
  go_enter Try.func61, Try.ntmps61
  go_wp2_with fail
  go_loopw [5] (fun i wr => ∃ (k : Int), i = .int .i64 k ∧ VNum L k ∧ ev L k (fun u => bits.getD u false) = R ∧ wr.heap[w.heap.size]? = some (.cells #[.int .i64 n, .slice a L.length cap, .int .i64 r] 31 (0, 0)) ∧ Same w wr) (fun i _ => (intOf i).toNat)
  case atStart => exact ⟨r, rfl, hr, hR.out.symm, heap_new _ _, (by repeat (first | exact Fr.refl _ _ | apply Fr.alloc | apply Fr.drewN | apply Fr.drew | apply Fr.undrew | apply Fr.undrewN))⟩
  case round =>
    obtain ⟨k, rfl, hk, hev, hbx, hs⟩ := hrel
    have k0 := hk.1
    have k1 := hk.2
    have y0 := cell_at hbx 0
    have y1 := cell_at hbx 1
    have y2 := cell_at hbx 2
    have yb := lt_of_heap hbx
    by_cases hlt : 1 < k
    · obtain ⟨b, off, ha, hbl, z0, z1, z2⟩ := (hL.out.same hs).node3 hlt k1
      subst ha
      have hnv := nodeF_valid ho.out.val (by omega) k1
      have hvn := ho.out.var _ (nodeF_mem (by omega) k1)
      have hst := ev_node ho.out.val hk (by omega) (fun u => bits.getD u false)
      rw [hev] at hst
      obtain ⟨v, lo, hi, hnd⟩ : ∃ v lo hi, nodeF L k = (v, lo, hi) := ⟨_, _, _, rfl⟩
      rw [hnd] at hnv hvn hst z0 z1 z2
      simp only at hnv hvn hst z0 z1 z2
      obtain ⟨q1, q2, q3, q4, q5, q6⟩ := hnv
      have hw2 : IntKind.i64.wrap (k - 2) = k - 2 := IntWalk.i64_in _ (by omega)
      have hkn : (k - 2).toNat < L.length := by omega
      have hvb : v.toNat < bits.length := by have := hb.out; omega
      have hBr := hB.out.same hs
      obtain ⟨b', off', hab, hbl', hcb⟩ := hBr.cell (by omega)
      subst hab
      have bc := hcb v.toNat _ (boolCells_get bits v.toNat hvb)
      have hv3 : v.toNat < n := by have := hb.out; omega
      have hgd : bits.getD v.toNat false = bits[v.toNat] := by simp [List.getD, hvb]
      rw [hgd] at hst
      clear hcb hBr hgd
      replace hbx := Lib.hid hbx; replace hs := Lib.hid hs; replace hev := Lib.hid hev; replace hst := Lib.hid hst; replace hk := Lib.hid hk; replace hnd := Lib.hid hnd; replace q3 := Lib.hid q3; replace q4 := Lib.hid q4
      cases hbit : bits[v.toNat]
      · rw [hbit] at bc hst
        replace hbit := Lib.hid hbit
        go_wp2_with fail
        go_roundw
        case rel => exact ⟨lo, rfl, q3.out, by have := hst.out; simpa using this.symm, heap_old hbx.out _, hs.out.alloc _⟩
        case measure => simp [intOf]; omega
      · rw [hbit] at bc hst
        replace hbit := Lib.hid hbit
        go_wp2_with fail
        go_roundw
        case rel => exact ⟨hi, rfl, q4.out, by have := hst.out; simpa using this.symm, heap_old hbx.out _, hs.out.alloc _⟩
        case measure => simp [intOf]; omega
    · have h2 : k < 2 := by omega
      have hk01 : k = 0 ∨ k = 1 := by omega
      have hRe : R = decide (k = 1) := by rw [← hev, ev_const h2]
      replace hRe := Lib.hid hRe; replace hev := Lib.hid hev; replace hbx := Lib.hid hbx; replace hs := Lib.hid hs; replace hk := Lib.hid hk
      rcases hk01 with rfl | rfl
      · go_wp2_with fail
        go_ret
        exact ⟨by rw [hRe.out]; rfl, hs.out⟩
      · go_wp2_with fail
        go_ret
        exact ⟨by rw [hRe.out]; rfl, hs.out⟩

set_option maxHeartbeats 400000 in
/-- The reference's Bit. -/
theorem bit_any (n i v : Nat) (w : World) (hv : v < n) (hn : n ≤ 40) (hi : i < 2 ^ n) :
    Calls Try.prog 30 #[.int .i64 n, .int .i64 i, .int .i64 v] w fun e w' => e = .returned (.bool (bitF n i v)) ∧ w = w' := by
  have P := fun W => power_nat (n - 1 - v) W (by omega)
  obtain ⟨q, hq⟩ : ∃ q, q = 2 ^ (n - 1 - v) := ⟨_, rfl⟩
  rw [← hq] at P
  have hq1 : 1 ≤ q := by rw [hq]; exact Nat.two_pow_pos _
  have hq2 : q ≤ 2 ^ 40 := by rw [hq]; exact Nat.pow_le_pow_right (by omega) (by omega)
  have hi2 : i ≤ 2 ^ 40 := Nat.le_trans (Nat.le_of_lt hi) (Nat.pow_le_pow_right (by omega) hn)
  obtain ⟨d, hd⟩ : ∃ d, d = n - 1 - v := ⟨_, rfl⟩
  have e1 : ((n : Int) - 1 - v) = (d : Int) := by omega
  rw [← hd] at P
  obtain ⟨R, hR⟩ : ∃ R, R = bitF n i v := ⟨_, rfl⟩
  rw [← hR]
  have hRe : R = decide (i / q % 2 = 1) := by rw [hR, bitF, hq]
  replace P := Lib.hid P; replace hq := Lib.hid hq; replace hR := Lib.hid hR; replace hRe := Lib.hid hRe; replace hd := Lib.hid hd
  clear hi
  go_enter Try.func30, Try.ntmps30
  go_wp2_with fail
  refine (P.out _).mono ?_
  rintro e w' ⟨rfl, rfl⟩
  go_wp2_with fail
  go_ret
  refine ⟨?_, rfl⟩
  rw [hRe.out]
  have hw : wrap64 ((i : Int) / (q : Int)) = ((i / q : Nat) : Int) := by
    have h1 : i / q ≤ i := Nat.div_le_self _ _
    have e : ((i : Int) / (q : Int)) = ((i / q : Nat) : Int) := by simp
    rw [e]
    generalize i / q = X at h1 ⊢
    exact IntWalk.wrap64_in _ ⟨by omega, by omega⟩
  have hm : ((wrap64 ((i : Int) / (q : Int))).tmod 2 == 1) = decide (i / q % 2 = 1) := by
    rw [hw]
    generalize i / q = X
    have : ((X : Int)).tmod 2 = ((X % 2 : Nat) : Int) := by rw [Int.tmod_eq_emod_of_nonneg (by omega)]; simp
    rw [this]
    rcases Nat.mod_two_eq_zero_or_one X with h | h <;> simp [h]
  rw [← hm]
  rfl
end Go.Proofs.Ytaebjalpebgliaa
