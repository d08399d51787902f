/- checkNode of a node that passes; count; slices.Equal and Equal. -/
import Derived.Test.YtaebjalpebgliaaFinish
import Derived.Deep.QuietTactic
import Derived.BigQuiet
namespace Go.Proofs.Ytaebjalpebgliaa
open Go.RowKit
set_option linter.unusedVariables false
set_option linter.unusedSimpArgs false

/-- What checkNode answers for a node of index i; kn: the map has it. -/
def checkNodeF (n : Int) (L : List Nd) (i : Nat) (x : Nd) (kn : Bool) : Int :=
  if x.1 < 0 ∨ n ≤ x.1 ∨ x.2.1 < 0 ∨ (i : Int) + 1 < x.2.1 ∨ x.2.2 < 0 ∨ (i : Int) + 1 < x.2.2 then 2
  else if x.2.1 = x.2.2 ∨ kn = true then 6
  else if (1 < x.2.1 ∧ (nodeF L x.2.1).1 ≤ x.1) ∨ (1 < x.2.2 ∧ (nodeF L x.2.2).1 ≤ x.1) then 5 else 0

theorem SliceAt.nodeN {w : World} {a : Option Addr} {cap : Nat} {L : List Nd} (hL : SliceAt w 80 3 (.slice a L.length cap) L.length (ndCells L)) {k : Int} (h2 : 1 < k) (hk : k < L.length + 2) :
    ∃ b off, a = some ⟨b, off, none⟩ ∧ b < w.heap.size ∧ w.cell? ⟨b, off + (k - 2).toNat * 3, none⟩ = some (.int .i64 (nodeF L k).1) := by
  have hlt : (k - 2).toNat < L.length := by omega
  have := hL.node hlt
  simp [nodeF, hlt]
  obtain ⟨b, off, h1, h2, h3, _⟩ := this
  exact ⟨b, off, h1, h2, h3⟩

set_option maxRecDepth 100000 in
set_option maxHeartbeats 1000000 in
theorem checkNode_any (n r : Int) (aL : Option Addr) (capL : Nat) (L : List Nd) (w : World) (hL : SliceAt w 80 3 (.slice aL L.length capL) L.length (ndCells L)) (hlen : L.length ≤ 100000)
    (i : Nat) (hi : i < L.length) (mb : Nat) (M : List (Nd × Bool)) (hM : MapAt ndv Value.bool w mb M) (hMt : ∀ y u, mget M y = some u → u = true) :
    Calls Try.prog 56 #[.agg #[.int .i64 n, .slice aL L.length capL, .int .i64 r], .int .i64 i, .map (some mb)] w fun e w' => e = .returned (.int .i64 (checkNodeF n L i L[i] (mget M L[i]).isSome)) ∧ Same w w' := by
  have hl0 : ∀ w', Same w w' → (Instr.lookup 90 (.map (some mb)) (ndv L[i]) false).run Try.prog w' = .ok (.bool (mget M L[i]).isSome) w' := by
    intro w' hs
    have hM' := hM.of_block (hs.block _ hM.lt id)
    cases hm : mget M L[i] with
    | none => exact lookup_miss keyB mapBb hM' hm (zeroBo _) false
    | some u =>
      have := hMt _ _ hm
      subst this
      exact lookup_hit keyB mapBb hM' hm false
  obtain ⟨b, off, rfl, hb, n0, n1, n2⟩ := hL.node hi
  have HL := Lib.hid hL
  obtain ⟨kn, hkn⟩ : ∃ kn, kn = (mget M L[i]).isSome := ⟨_, rfl⟩
  rw [← hkn] at hl0 ⊢
  obtain ⟨⟨v, lo, hh⟩, hxe⟩ : ∃ x, x = L[i] := ⟨_, rfl⟩
  rw [← hxe] at n0 n1 n2 hl0 ⊢
  simp only at n0 n1 n2
  have hl : ∀ o o', (Instr.lookup 90 (.map (some mb)) (.agg #[.int .i64 v, .int .i64 lo, .int .i64 hh]) false).run Try.prog ((w.alloc o).alloc o') = .ok (.bool kn) ((w.alloc o).alloc o') :=
    fun o o' => hl0 _ (by repeat (first | exact Fr.refl _ _ | apply Fr.alloc | apply Fr.drewN | apply Fr.drew))
  clear hM hL hMt hkn hxe hl0 M
  obtain ⟨R, hR⟩ : ∃ R, R = checkNodeF n L i (v, lo, hh) kn := ⟨_, rfl⟩
  rw [← hR]
  replace hR := Lib.hid hR
  go_enter Try.func56, Try.ntmps56
  go_wp2_with fail
  all_goals try (
    go_ret
    refine ⟨?_, (by repeat (first | exact Fr.refl _ _ | apply Fr.alloc | apply Fr.drewN | apply Fr.drew))⟩
    rw [hR.out]
    unfold checkNodeF
    clear hR hl HL n0 n1 n2
    simp only
    first
    | (rw [if_pos (by omega)]; rfl)
    | (cases kn <;> simp_all <;> omega)
    | (cases kn <;> simp_all))
  replace hl := Lib.hid hl
  have hb3 : b < w.heap.size + 1 + 1 + 1 := by omega
  have hb2 : b < w.heap.size + 1 + 1 := by omega
  have hb1 : b < w.heap.size + 1 := by omega
  have HF : checkNodeF n L i (v, lo, hh) kn = if (1 < lo ∧ (nodeF L lo).1 ≤ v) ∨ (1 < hh ∧ (nodeF L hh).1 ≤ v) then 5 else 0 := by
    unfold checkNodeF
    simp only
    rw [if_neg (by omega), if_neg (by simp_all)]
  replace HF := Lib.hid HF
  rename_i g7 g8 K0 a0
  clear g7 g8
  go_loopw [67] (fun i wr => (∃ k : Nat, k ≤ 2 ∧ i = .int .i64 k ∧ (0 < k → ¬ (1 < lo ∧ (nodeF L lo).1 ≤ v)) ∧ (1 < k → ¬ (1 < hh ∧ (nodeF L hh).1 ≤ v))) ∧
    ∃ j, wr = (((w.alloc (.cells #[.int .i64 n, .slice (some ⟨b, off, none⟩) L.length capL, .int .i64 r] 31)).alloc (.cells #[.int .i64 v, .int .i64 lo, .int .i64 hh] 80)).alloc (.cells #[.int .i64 lo, .int .i64 hh] 3)).drewN j) (fun i _ => 2 - (intOf i).toNat)
  case atStart => exact ⟨⟨0, by omega, rfl, by omega, by omega⟩, 0, rfl⟩
  case round =>
    obtain ⟨⟨k, hk, rfl, r1, r2⟩, j, rfl⟩ := hrel
    have hk3 : k = 0 ∨ k = 1 ∨ k = 2 := by omega
    rcases hk3 with rfl | rfl | rfl
    · clear r1 r2
      by_cases c1 : 1 < lo
      · obtain ⟨b', off', hbo, -, t0⟩ := HL.out.nodeN c1 (by omega)
        simp only [Option.some.injEq, Addr.mk.injEq, and_true] at hbo
        obtain ⟨rfl, rfl⟩ := hbo
        have w1 : IntKind.i64.wrap (lo - 2) = lo - 2 := IntWalk.i64_in _ (by omega)
        have w2 : 2 ≤ lo := by omega
        have w4 : (decide (1 < lo)) = true := by simpa using c1
        have w3 : lo - 2 < L.length := by omega
        go_wp2
        refine wp_region_sched (fun _ => True) [0, 0, 0, 0, 1, 0, 0, 0, 0, 1, 0, 1, 0, 0] [0, 1, 2, 3, 5, 6, 10, 4, 7, 8, 9, 11, 12, 13] (by kernel_rfl) (by kernel_rfl) ?_
        repeat (first | (refine sched_w rfl rfl (fun _ hK => ?_); go_simp; refine hK _ ?_; clear hK) | (refine sched_s rfl rfl (fun _ hK => ?_); go_simp; first | (refine hK _ ?_; clear hK) | (refine ⟨_, fun _ => rfl, hK _ ?_⟩; clear hK)))
        refine sched_nil (NoPanic.normal ?_)
        by_cases c2 : (nodeF L lo).1 ≤ v
        · go_wp2
          go_ret
          refine ⟨?_, (by repeat (first | exact Fr.refl _ _ | apply Fr.alloc | apply Fr.drewN | apply Fr.drew))⟩
          rw [hR.out, HF.out, if_pos (.inl ⟨c1, c2⟩)]
          rfl
        · go_wp2
          go_roundw
          case rel => exact ⟨⟨1, by omega, rfl, fun _ h => c2 h.2, by omega⟩, _, rfl⟩
          case measure => simp [intOf]
      · have w2 : lo ≤ 1 := by omega
        have w3 : (lo > 1) = False := by simp; omega
        have w4 : (1 < lo) = False := by simp; omega
        go_wp2
        refine wp_region_sched (fun _ => True) [0, 0, 0, 0, 1, 0, 0, 0, 0, 1, 0, 1, 0, 0] [0, 1, 2, 3, 5, 6, 10, 4, 7, 8, 9, 11, 12, 13] (by kernel_rfl) (by kernel_rfl) ?_
        repeat (first | (refine sched_w rfl rfl (fun _ hK => ?_); go_simp; refine hK _ ?_; clear hK) | (refine sched_s rfl rfl (fun _ hK => ?_); go_simp; first | (refine hK _ ?_; clear hK) | (refine ⟨_, fun _ => rfl, hK _ ?_⟩; clear hK)))
        refine sched_nil (NoPanic.normal ?_)
        go_wp2
        go_roundw
        case rel => exact ⟨⟨1, by omega, rfl, fun _ h => absurd h.1 (by omega), by omega⟩, _, rfl⟩
        case measure => simp [intOf]
    · replace r1 := Lib.hid (r1 (by omega))
      clear r2
      by_cases c1 : 1 < hh
      · obtain ⟨b', off', hbo, -, t0⟩ := HL.out.nodeN c1 (by omega)
        simp only [Option.some.injEq, Addr.mk.injEq, and_true] at hbo
        obtain ⟨rfl, rfl⟩ := hbo
        have w1 : IntKind.i64.wrap (hh - 2) = hh - 2 := IntWalk.i64_in _ (by omega)
        have w2 : 2 ≤ hh := by omega
        have w4 : (decide (1 < hh)) = true := by simpa using c1
        have w3 : hh - 2 < L.length := by omega
        go_wp2
        refine wp_region_sched (fun _ => True) [0, 0, 0, 0, 1, 0, 0, 0, 0, 1, 0, 1, 0, 0] [0, 1, 2, 3, 5, 6, 10, 4, 7, 8, 9, 11, 12, 13] (by kernel_rfl) (by kernel_rfl) ?_
        repeat (first | (refine sched_w rfl rfl (fun _ hK => ?_); go_simp; refine hK _ ?_; clear hK) | (refine sched_s rfl rfl (fun _ hK => ?_); go_simp; first | (refine hK _ ?_; clear hK) | (refine ⟨_, fun _ => rfl, hK _ ?_⟩; clear hK)))
        refine sched_nil (NoPanic.normal ?_)
        by_cases c2 : (nodeF L hh).1 ≤ v
        · go_wp2
          go_ret
          refine ⟨?_, (by repeat (first | exact Fr.refl _ _ | apply Fr.alloc | apply Fr.drewN | apply Fr.drew))⟩
          rw [hR.out, HF.out, if_pos (.inr ⟨c1, c2⟩)]
          rfl
        · go_wp2
          go_roundw
          case rel => exact ⟨⟨2, by omega, rfl, fun _ => r1.out, fun _ h => c2 h.2⟩, _, rfl⟩
          case measure => simp [intOf]
      · have w2 : hh ≤ 1 := by omega
        have w3 : (hh > 1) = False := by simp; omega
        have w4 : (1 < hh) = False := by simp; omega
        go_wp2
        refine wp_region_sched (fun _ => True) [0, 0, 0, 0, 1, 0, 0, 0, 0, 1, 0, 1, 0, 0] [0, 1, 2, 3, 5, 6, 10, 4, 7, 8, 9, 11, 12, 13] (by kernel_rfl) (by kernel_rfl) ?_
        repeat (first | (refine sched_w rfl rfl (fun _ hK => ?_); go_simp; refine hK _ ?_; clear hK) | (refine sched_s rfl rfl (fun _ hK => ?_); go_simp; first | (refine hK _ ?_; clear hK) | (refine ⟨_, fun _ => rfl, hK _ ?_⟩; clear hK)))
        refine sched_nil (NoPanic.normal ?_)
        go_wp2
        go_roundw
        case rel => exact ⟨⟨2, by omega, rfl, fun _ => r1.out, fun _ h => absurd h.1 (by omega)⟩, _, rfl⟩
        case measure => simp [intOf]
    · replace r1 := Lib.hid (r1 (by omega))
      replace r2 := Lib.hid (r2 (by omega))
      go_wp2
      go_ret
      refine ⟨?_, (by repeat (first | exact Fr.refl _ _ | apply Fr.alloc | apply Fr.drewN | apply Fr.drew))⟩
      rw [hR.out, HF.out, if_neg (fun h => h.elim r1.out r2.out)]
      rfl
end Go.Proofs.Ytaebjalpebgliaa
