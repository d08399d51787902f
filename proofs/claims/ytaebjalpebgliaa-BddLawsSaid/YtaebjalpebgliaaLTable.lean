/- The law's Table. -/
import Derived.Test.YtaebjalpebgliaaMade
import Derived.Test.YtaebjalpebgliaaT1
import Derived.Test.YtaebjalpebgliaaCheck
namespace Go.Proofs.Ytaebjalpebgliaa
open Go.RowKit
set_option linter.unusedVariables false
set_option linter.unusedSimpArgs false

/-- The law's Table returns some table of n variables, of its own. -/
def TabRet (n : Nat) (w : World) (e : Ending) (w' : World) : Prop :=
  ∃ (t : List Bool) (b : Nat), t.length = 2 ^ n ∧ e = .returned (.tuple #[.int .i64 n, .slice (some ⟨b, 0, none⟩) t.length t.length]) ∧ BoolsAt w' b t ∧ w.heap.size ≤ b ∧ Same w w'

theorem pow2_eq (n : Nat) : pow2 n = ((2 ^ n : Nat) : Int) := by
  induction n with
  | zero => rfl
  | succ n ih => rw [pow2, ih, Nat.pow_succ]; omega

theorem power_nat (n : Nat) (w : World) (hn : n ≤ 60) : Calls Try.prog 32 #[.int .i64 n] w fun e w' => e = .returned (.int .i64 ((2 ^ n : Nat) : Int)) ∧ w = w' := by
  have := power_any n w hn
  rwa [pow2_eq] at this

set_option maxRecDepth 100000 in
set_option maxHeartbeats 1000000 in
theorem ltable_any (v b : Int) (w : World) (hv : 0 ≤ v) (hv' : v ≤ 255) (hb : 0 ≤ b) (hb' : b ≤ 4294967295) :
    Calls Try.prog 13 #[.agg #[.int .u8 v, .int .u32 b]] w (TabRet (v % 6).toNat w) := by
  obtain ⟨n, hn⟩ : ∃ n : Nat, (n : Int) = v % 6 := ⟨(v % 6).toNat, by omega⟩
  have hn5 : n ≤ 5 := by omega
  rw [← hn, Int.toNat_natCast]
  obtain ⟨m, hm⟩ : ∃ m, m = 2 ^ n := ⟨_, rfl⟩
  have hm32 : m ≤ 32 := by rw [hm]; exact Nat.pow_le_pow_right (by omega) hn5
  obtain ⟨i3, hi3, hi3z, hi3s, hi3b⟩ := info_parts info4
  have P := fun W => power_nat n W (by omega)
  rw [← hm] at P
  replace P := Lib.hid P
  replace hm := Lib.hid hm
  go_enter Try.func13, Try.ntmps13
  go_wp2_with fail
  rw [← hn]
  refine (P.out _).mono ?_
  rintro e w' ⟨rfl, rfl⟩
  go_wp2_with (at_make; refine wpList_mkb _ rfl (.tmp 12) (.tmp 12) 26 rfl 4 i3 Try.underlying26 hi3 hi3z hi3s hi3b m rfl rfl (by omega) ?_)
  go_loopw [6] (fun i wr => ∃ (k : Nat) (cs : List Bool), i = .int .i64 k ∧ k ≤ m ∧ cs.length = m ∧ BoolsAt wr (w.heap.size + 1) cs ∧ wr.heap[w.heap.size]? = some (.cells #[.int .u8 v, .int .u32 b] 24 (0, 0)) ∧ Same w wr) (fun i _ => m - (intOf i).toNat)
  case atStart =>
    exact ⟨0, List.replicate m false, rfl, by omega, by simp, heap_new_at (by simp) _, heap_old (heap_new _ _) _, (by repeat (first | exact Fr.refl _ _ | apply Fr.alloc | apply Fr.drewN | apply Fr.drew))⟩
  case round =>
    obtain ⟨k, cs, rfl, hk, hcs, hB, hbox, hs⟩ := hrel
    have c1 := cell_at hbox 1
    have b1 := lt_of_heap hbox
    have b2 := hB.lt
    have hfr := hB.free k
    replace hs := Lib.hid hs
    replace hbox := Lib.hid hbox
    by_cases hlt : k < m
    · have hc := hB.cell (k := k) (by omega)
      replace hB := Lib.hid hB
      replace hcs := Lib.hid hcs
      go_wp2_with fail
      go_roundw
      case rel =>
        refine ⟨k + 1, _, by go_num, by omega, ?_, hB.out.set k _, ?_, hs.out.setCell _ _ (fun h => by simp only at h; omega)⟩
        · simp [hcs.out]
        · rw [heap_setCell_other (by simp)]; exact hbox.out
      case measure => simp [intOf]; omega
    · replace hB := Lib.hid hB
      replace hcs := Lib.hid hcs
      go_wp2_with fail
      go_ret2
      refine ⟨cs, w.heap.size + 1, by rw [hcs.out, hm.out], ?_, hB.out, by omega, hs.out⟩
      rw [hcs.out, ← hn]
      rfl
end Go.Proofs.Ytaebjalpebgliaa
