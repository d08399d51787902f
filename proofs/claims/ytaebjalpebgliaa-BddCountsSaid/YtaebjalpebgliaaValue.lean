/- value; Table; the reference's Bit. -/
import Derived.Test.YtaebjalpebgliaaCanon
import Derived.Test.YtaebjalpebgliaaAny
import Derived.Test.YtaebjalpebgliaaMade
import Derived.Test.YtaebjalpebgliaaFrom
import Derived.Test.YtaebjalpebgliaaRowAt
import Derived.Test.YtaebjalpebgliaaOpsR
namespace Go.Proofs.Ytaebjalpebgliaa
open Go.RowKit
set_option linter.unusedVariables false
set_option linter.unusedSimpArgs false

set_option maxRecDepth 100000 in
set_option maxHeartbeats 1000000 in
theorem value_row (n : Nat) (r : Int) (a ab : Option Addr) (cap cb : Nat) (L : List Nd) (bits : List Bool) (w : World) (hL : SliceAt w 80 3 (.slice a L.length cap) L.length (ndCells L)) (hl : L.length ≤ 100000) (ho : Ord L n) (hr : VNum L r)
    (hb : bits.length = n) (hB : RowAt w (.slice ab n cb) n (boolCells bits)) :
    Calls Try.prog 61 #[.agg #[.int .i64 n, .slice a L.length cap, .int .i64 r], .slice ab n cb] w fun e w' => e = .returned (.bool (ev L r (fun u => bits.getD u false))) ∧ Same w w' := by
  have n40 := ho.n40
  obtain ⟨R, hR⟩ : ∃ R, R = ev L r (fun u => bits.getD u false) := ⟨_, rfl⟩
  rw [← hR]
  replace hL := Lib.hid hL; replace ho := Lib.hid ho; replace hB := Lib.hid hB; replace hR := Lib.hid hR; replace hb := Lib.hid hb
  go_enter Try.func61, Try.ntmps61
  go_wp2_with fail
  go_loopw [5] (fun i wr => ∃ (k : Int), i = .int .i64 k ∧ VNum L k ∧ ev L k (fun u => bits.getD u false) = R ∧ wr.heap[w.heap.size]? = some (.cells #[.int .i64 n, .slice a L.length cap, .int .i64 r] 31 (0, 0)) ∧ Same w wr) (fun i _ => (intOf i).toNat)
  case atStart => exact ⟨r, rfl, hr, hR.out.symm, heap_new _ _, (by repeat (first | exact Fr.refl _ _ | apply Fr.alloc | apply Fr.drewN | apply Fr.drew | apply Fr.undrew | apply Fr.undrewN))⟩
  case round =>
    obtain ⟨k, rfl, hk, hev, hbx, hs⟩ := hrel
    have k0 := hk.1
    have k1 := hk.2
    have y0 := cell_at hbx 0
    have y1 := cell_at hbx 1
    have y2 := cell_at hbx 2
    have yb := lt_of_heap hbx
    by_cases hlt : 1 < k
    · obtain ⟨b, off, ha, hbl, z0, z1, z2⟩ := (hL.out.same hs).node3 hlt k1
      subst ha
      have hnv := nodeF_valid ho.out.val (by omega) k1
      have hvn := ho.out.var _ (nodeF_mem (by omega) k1)
      have hst := ev_node ho.out.val hk (by omega) (fun u => bits.getD u false)
      rw [hev] at hst
      obtain ⟨v, lo, hi, hnd⟩ : ∃ v lo hi, nodeF L k = (v, lo, hi) := ⟨_, _, _, rfl⟩
      rw [hnd] at hnv hvn hst z0 z1 z2
      simp only at hnv hvn hst z0 z1 z2
      obtain ⟨q1, q2, q3, q4, q5, q6⟩ := hnv
      have hw2 : IntKind.i64.wrap (k - 2) = k - 2 := IntWalk.i64_in _ (by omega)
      have hkn : (k - 2).toNat < L.length := by omega
      have hvb : v.toNat < bits.length := by have := hb.out; omega
      have hBr := hB.out.same hs
      obtain ⟨b', off', hab, hbl', hcb⟩ := hBr.cell (by omega)
      subst hab
      have bc := hcb v.toNat _ (boolCells_get bits v.toNat hvb)
      have hv3 : v.toNat < n := by have := hb.out; omega
      have hgd : bits.getD v.toNat false = bits[v.toNat] := by simp [List.getD, hvb]
      rw [hgd] at hst
      clear hcb hBr hgd
      replace hbx := Lib.hid hbx; replace hs := Lib.hid hs; replace hev := Lib.hid hev; replace hst := Lib.hid hst; replace hk := Lib.hid hk; replace hnd := Lib.hid hnd; replace q3 := Lib.hid q3; replace q4 := Lib.hid q4
      cases hbit : bits[v.toNat]
      · rw [hbit] at bc hst
        replace hbit := Lib.hid hbit
        go_wp2_with fail
        go_roundw
        case rel => exact ⟨lo, rfl, q3.out, by have := hst.out; simpa using this.symm, heap_old hbx.out _, hs.out.alloc _⟩
        case measure => simp [intOf]; omega
      · rw [hbit] at bc hst
        replace hbit := Lib.hid hbit
        go_wp2_with fail
        go_roundw
        case rel => exact ⟨hi, rfl, q4.out, by have := hst.out; simpa using this.symm, heap_old hbx.out _, hs.out.alloc _⟩
        case measure => simp [intOf]; omega
    · have h2 : k < 2 := by omega
      have hk01 : k = 0 ∨ k = 1 := by omega
      have hRe : R = decide (k = 1) := by rw [← hev, ev_const h2]
      replace hRe := Lib.hid hRe; replace hev := Lib.hid hev; replace hbx := Lib.hid hbx; replace hs := Lib.hid hs; replace hk := Lib.hid hk
      rcases hk01 with rfl | rfl
      · go_wp2_with fail
        go_ret
        exact ⟨by rw [hRe.out]; rfl, hs.out⟩
      · go_wp2_with fail
        go_ret
        exact ⟨by rw [hRe.out]; rfl, hs.out⟩

theorem value_any (n : Nat) (r : Int) (a ab : Option Addr) (cap cb : Nat) (L : List Nd) (bits : List Bool) (w : World) (hL : SliceAt w 80 3 (.slice a L.length cap) L.length (ndCells L)) (hl : L.length ≤ 100000) (ho : Ord L n) (hr : VNum L r)
    (hb : bits.length = n) (hB : SliceAt w 4 1 (.slice ab n cb) n (boolCells bits)) :
    Calls Try.prog 61 #[.agg #[.int .i64 n, .slice a L.length cap, .int .i64 r], .slice ab n cb] w fun e w' => e = .returned (.bool (ev L r (fun u => bits.getD u false))) ∧ Same w w' :=
  value_row n r a ab cap cb L bits w hL hl ho hr hb hB.row

set_option maxHeartbeats 400000 in
/-- The reference's Bit. -/
theorem bit_any (n i v : Nat) (w : World) (hv : v < n) (hn : n ≤ 40) (hi : i < 2 ^ n) :
    Calls Try.prog 30 #[.int .i64 n, .int .i64 i, .int .i64 v] w fun e w' => e = .returned (.bool (bitF n i v)) ∧ w = w' := by
  have P := fun W => power_nat (n - 1 - v) W (by omega)
  obtain ⟨q, hq⟩ : ∃ q, q = 2 ^ (n - 1 - v) := ⟨_, rfl⟩
  rw [← hq] at P
  have hq1 : 1 ≤ q := by rw [hq]; exact Nat.two_pow_pos _
  have hq2 : q ≤ 2 ^ 40 := by rw [hq]; exact Nat.pow_le_pow_right (by omega) (by omega)
  have hi2 : i ≤ 2 ^ 40 := Nat.le_trans (Nat.le_of_lt hi) (Nat.pow_le_pow_right (by omega) hn)
  obtain ⟨d, hd⟩ : ∃ d, d = n - 1 - v := ⟨_, rfl⟩
  have e1 : ((n : Int) - 1 - v) = (d : Int) := by omega
  rw [← hd] at P
  obtain ⟨R, hR⟩ : ∃ R, R = bitF n i v := ⟨_, rfl⟩
  rw [← hR]
  have hRe : R = decide (i / q % 2 = 1) := by rw [hR, bitF, hq]
  replace P := Lib.hid P; replace hq := Lib.hid hq; replace hR := Lib.hid hR; replace hRe := Lib.hid hRe; replace hd := Lib.hid hd
  clear hi
  go_enter Try.func30, Try.ntmps30
  go_wp2_with fail
  refine (P.out _).mono ?_
  rintro e w' ⟨rfl, rfl⟩
  go_wp2_with fail
  go_ret
  refine ⟨?_, rfl⟩
  rw [hRe.out]
  have hw : wrap64 ((i : Int) / (q : Int)) = ((i / q : Nat) : Int) := by
    have h1 : i / q ≤ i := Nat.div_le_self _ _
    have e : ((i : Int) / (q : Int)) = ((i / q : Nat) : Int) := by simp
    rw [e]
    generalize i / q = X at h1 ⊢
    exact IntWalk.wrap64_in _ ⟨by omega, by omega⟩
  have hm : ((wrap64 ((i : Int) / (q : Int))).tmod 2 == 1) = decide (i / q % 2 = 1) := by
    rw [hw]
    generalize i / q = X
    have : ((X : Int)).tmod 2 = ((X % 2 : Nat) : Int) := by rw [Int.tmod_eq_emod_of_nonneg (by omega)]; simp
    rw [this]
    rcases Nat.mod_two_eq_zero_or_one X with h | h <;> simp [h]
  rw [← hm]
  rfl

set_option maxRecDepth 100000 in
set_option maxHeartbeats 1000000 in
theorem valueP_ok (d : Dg) (n : Nat) (t : List Bool) (ab : Option Addr) (cb : Nat) (bits : List Bool) (w : World) (hat : d.at w) (T : d.tab n t) (hb : bits.length = n) (hB : RowAt w (.slice ab n cb) n (boolCells bits)) :
    Calls Try.prog 36 #[d.v, .slice ab n cb] w fun e w' => e = .returned (.tuple #[.bool (ev d.L d.r (fun u => bits.getD u false)), .int .i64 0]) ∧ Same w w' := by
  have C := fun W (hW : Same w W) => check_tab d n t W (SliceAt.same hat hW) T
  obtain ⟨ho, hv, ht⟩ := T.2.ord
  have D := fun W (hW : Same w W) => value_row n d.r d.a ab d.cap cb d.L bits W (SliceAt.same hat hW) (by have := T.2.short; omega) ho hv hb (hB.same hW)
  have e := T.1
  rw [Dg.v, e] at C ⊢
  obtain ⟨R, hR⟩ : ∃ R, R = ev d.L d.r (fun u => bits.getD u false) := ⟨_, rfl⟩
  rw [← hR] at D ⊢
  replace C := Lib.hid C; replace D := Lib.hid D; replace ho := Lib.hid ho; replace hv := Lib.hid hv; replace ht := Lib.hid ht; replace T := Lib.hid T; replace hat := Lib.hid hat; replace e := Lib.hid e; replace hb := Lib.hid hb; replace hB := Lib.hid hB; replace hR := Lib.hid hR
  go_enter Try.func36, Try.ntmps36
  go_wp2_with fail
  refine (C.out _ (by repeat (first | exact Fr.refl _ _ | apply Fr.alloc | apply Fr.drewN | apply Fr.drew | apply Fr.undrew | apply Fr.undrewN))).mono ?_
  rintro e w1 ⟨rfl, hs1⟩
  have kb := hs1.at (heap_new w _) id
  have x0 := cell_at kb 0; have x1 := cell_at kb 1; have x2 := cell_at kb 2
  have xb := lt_of_heap kb
  have hw1 : Same w w1 := (show Same w _ from (by repeat (first | exact Fr.refl _ _ | apply Fr.alloc | apply Fr.drewN | apply Fr.drew | apply Fr.undrew | apply Fr.undrewN))).same hs1
  replace kb := Lib.hid kb; replace hs1 := Lib.hid hs1; replace hw1 := Lib.hid hw1
  go_wp2_with fail
  refine (D.out _ hw1.out).mono ?_
  rintro e w2 ⟨rfl, hs2⟩
  have hw2 := hw1.out.same hs2
  replace hs2 := Lib.hid hs2; replace hw2 := Lib.hid hw2
  go_wp2_with fail
  go_ret2
  exact ⟨rfl, hw2.out⟩

set_option maxRecDepth 100000 in
set_option maxHeartbeats 1000000 in
theorem valueP_size (d : Dg) (n : Nat) (t : List Bool) (ab : Option Addr) (cb q : Nat) (w : World) (hat : d.at w) (T : d.tab n t) (hb : q ≠ n) :
    Calls Try.prog 36 #[d.v, .slice ab q cb] w fun e w' => e = .returned (.tuple #[.bool false, .int .i64 4]) ∧ Same w w' := by
  have C := fun W (hW : Same w W) => check_tab d n t W (SliceAt.same hat hW) T
  have e := T.1
  rw [Dg.v, e] at C ⊢
  have hq : ((q : Int) != (n : Int)) = true := by simp; omega
  replace C := Lib.hid C; replace T := Lib.hid T; replace hat := Lib.hid hat; replace e := Lib.hid e
  go_enter Try.func36, Try.ntmps36
  go_wp2_with fail
  refine (C.out _ (by repeat (first | exact Fr.refl _ _ | apply Fr.alloc | apply Fr.drewN | apply Fr.drew | apply Fr.undrew | apply Fr.undrewN))).mono ?_
  rintro e w1 ⟨rfl, hs1⟩
  have kb := hs1.at (heap_new w _) id
  have x0 := cell_at kb 0; have x1 := cell_at kb 1; have x2 := cell_at kb 2
  have xb := lt_of_heap kb
  have hw1 : Same w w1 := (show Same w _ from (by repeat (first | exact Fr.refl _ _ | apply Fr.alloc | apply Fr.drewN | apply Fr.drew | apply Fr.undrew | apply Fr.undrewN))).same hs1
  replace kb := Lib.hid kb; replace hs1 := Lib.hid hs1; replace hw1 := Lib.hid hw1
  go_wp2_with fail
  go_ret2
  exact ⟨rfl, hw1.out⟩
end Go.Proofs.Ytaebjalpebgliaa
