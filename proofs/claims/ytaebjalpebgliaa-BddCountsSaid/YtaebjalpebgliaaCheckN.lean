/- checkNode of a node that passes; count; slices.Equal and Equal. -/
import Derived.Test.YtaebjalpebgliaaVisit
import Derived.Deep.QuietTactic
import Derived.BigQuiet
namespace Go.Proofs.Ytaebjalpebgliaa
open Go.RowKit
set_option linter.unusedVariables false
set_option linter.unusedSimpArgs false

/-- What checkNode answers for a node of index i; kn: the map has it. -/
def checkNodeF (n : Int) (L : List Nd) (i : Nat) (x : Nd) (kn : Bool) : Int :=
  if x.1 < 0 ∨ n ≤ x.1 ∨ x.2.1 < 0 ∨ (i : Int) + 1 < x.2.1 ∨ x.2.2 < 0 ∨ (i : Int) + 1 < x.2.2 then 2
  else if x.2.1 = x.2.2 ∨ kn = true then 6
  else if (1 < x.2.1 ∧ (nodeF L x.2.1).1 ≤ x.1) ∨ (1 < x.2.2 ∧ (nodeF L x.2.2).1 ≤ x.1) then 5 else 0

theorem NodesAt.nodeN {w : World} {a : Option Addr} {cap : Nat} {L : List Nd} (hL : NodesAt w a L cap) {k : Int} (h2 : 1 < k) (hk : k < L.length + 2) :
    ∃ b off, a = some ⟨b, off, none⟩ ∧ b < w.heap.size ∧ w.cell? ⟨b, off + (k - 2).toNat * 3, none⟩ = some (.int .i64 (nodeF L k).1) := by
  have hlt : (k - 2).toNat < L.length := by omega
  have := hL.node hlt
  simp [nodeF, hlt]
  obtain ⟨b, off, h1, h2, h3, _⟩ := this
  exact ⟨b, off, h1, h2, h3⟩

set_option maxRecDepth 100000 in
set_option maxHeartbeats 1000000 in
theorem checkNode_nds (n r : Int) (aL : Option Addr) (capL : Nat) (L : List Nd) (w : World) (hL : NodesAt w aL L capL) (hlen : L.length ≤ 100000)
    (i : Nat) (hi : i < L.length) (mb : Nat) (M : List (Nd × Bool)) (hM : MapAt ndv Value.bool w mb M) (hMt : ∀ y u, mget M y = some u → u = true) :
    Calls Try.prog 56 #[.agg #[.int .i64 n, .slice aL L.length capL, .int .i64 r], .int .i64 i, .map (some mb)] w fun e w' => e = .returned (.int .i64 (checkNodeF n L i L[i] (mget M L[i]).isSome)) ∧ Same w w' := by
  have hl0 : ∀ w', Same w w' → (Instr.lookup 90 (.map (some mb)) (ndv L[i]) false).run Try.prog w' = .ok (.bool (mget M L[i]).isSome) w' := by
    intro w' hs
    have hM' := hM.of_block (hs.block _ hM.lt id)
    cases hm : mget M L[i] with
    | none => exact lookup_miss keyB mapBb hM' hm (zeroBo _) false
    | some u =>
      have := hMt _ _ hm
      subst this
      exact lookup_hit keyB mapBb hM' hm false
  obtain ⟨b, off, rfl, hb, n0, n1, n2⟩ := hL.node hi
  have HL := Lib.hid hL
  obtain ⟨kn, hkn⟩ : ∃ kn, kn = (mget M L[i]).isSome := ⟨_, rfl⟩
  rw [← hkn] at hl0 ⊢
  obtain ⟨⟨v, lo, hh⟩, hxe⟩ : ∃ x, x = L[i] := ⟨_, rfl⟩
  rw [← hxe] at n0 n1 n2 hl0 ⊢
  simp only at n0 n1 n2
  have hl : ∀ o o', (Instr.lookup 90 (.map (some mb)) (.agg #[.int .i64 v, .int .i64 lo, .int .i64 hh]) false).run Try.prog ((w.alloc o).alloc o') = .ok (.bool kn) ((w.alloc o).alloc o') :=
    fun o o' => hl0 _ (by repeat (first | exact Fr.refl _ _ | apply Fr.alloc | apply Fr.drewN | apply Fr.drew))
  clear hM hL hMt hkn hxe hl0 M
  obtain ⟨R, hR⟩ : ∃ R, R = checkNodeF n L i (v, lo, hh) kn := ⟨_, rfl⟩
  rw [← hR]
  replace hR := Lib.hid hR
  go_enter Try.func56, Try.ntmps56
  go_wp2_with fail
  all_goals try (
    go_ret
    refine ⟨?_, (by repeat (first | exact Fr.refl _ _ | apply Fr.alloc | apply Fr.drewN | apply Fr.drew))⟩
    rw [hR.out]
    unfold checkNodeF
    clear hR hl HL n0 n1 n2
    simp only
    first
    | (rw [if_pos (by omega)]; rfl)
    | (cases kn <;> simp_all <;> omega)
    | (cases kn <;> simp_all))
  replace hl := Lib.hid hl
  have hb3 : b < w.heap.size + 1 + 1 + 1 := by omega
  have hb2 : b < w.heap.size + 1 + 1 := by omega
  have hb1 : b < w.heap.size + 1 := by omega
  have HF : checkNodeF n L i (v, lo, hh) kn = if (1 < lo ∧ (nodeF L lo).1 ≤ v) ∨ (1 < hh ∧ (nodeF L hh).1 ≤ v) then 5 else 0 := by
    unfold checkNodeF
    simp only
    rw [if_neg (by omega), if_neg (by simp_all)]
  replace HF := Lib.hid HF
  rename_i g7 g8 K0 a0
  clear g7 g8
  go_loopw [67] (fun i wr => (∃ k : Nat, k ≤ 2 ∧ i = .int .i64 k ∧ (0 < k → ¬ (1 < lo ∧ (nodeF L lo).1 ≤ v)) ∧ (1 < k → ¬ (1 < hh ∧ (nodeF L hh).1 ≤ v))) ∧
    ∃ j, wr = (((w.alloc (.cells #[.int .i64 n, .slice (some ⟨b, off, none⟩) L.length capL, .int .i64 r] 31)).alloc (.cells #[.int .i64 v, .int .i64 lo, .int .i64 hh] 80)).alloc (.cells #[.int .i64 lo, .int .i64 hh] 3)).drewN j) (fun i _ => 2 - (intOf i).toNat)
  case atStart => exact ⟨⟨0, by omega, rfl, by omega, by omega⟩, 0, rfl⟩
  case round =>
    obtain ⟨⟨k, hk, rfl, r1, r2⟩, j, rfl⟩ := hrel
    have hk3 : k = 0 ∨ k = 1 ∨ k = 2 := by omega
    rcases hk3 with rfl | rfl | rfl
    · clear r1 r2
      by_cases c1 : 1 < lo
      · obtain ⟨b', off', hbo, -, t0⟩ := HL.out.nodeN c1 (by omega)
        simp only [Option.some.injEq, Addr.mk.injEq, and_true] at hbo
        obtain ⟨rfl, rfl⟩ := hbo
        have w1 : IntKind.i64.wrap (lo - 2) = lo - 2 := IntWalk.i64_in _ (by omega)
        have w2 : 2 ≤ lo := by omega
        have w4 : (decide (1 < lo)) = true := by simpa using c1
        have w3 : lo - 2 < L.length := by omega
        go_wp2
        refine wp_region_sched (fun _ => True) [0, 0, 0, 0, 1, 0, 0, 0, 0, 1, 0, 1, 0, 0] [0, 1, 2, 3, 5, 6, 10, 4, 7, 8, 9, 11, 12, 13] (by kernel_rfl) (by kernel_rfl) ?_
        repeat (first | (refine sched_w rfl rfl (fun _ hK => ?_); go_simp; refine hK _ ?_; clear hK) | (refine sched_s rfl rfl (fun _ hK => ?_); go_simp; first | (refine hK _ ?_; clear hK) | (refine ⟨_, fun _ => rfl, hK _ ?_⟩; clear hK)))
        refine sched_nil (NoPanic.normal ?_)
        by_cases c2 : (nodeF L lo).1 ≤ v
        · go_wp2
          go_ret
          refine ⟨?_, (by repeat (first | exact Fr.refl _ _ | apply Fr.alloc | apply Fr.drewN | apply Fr.drew))⟩
          rw [hR.out, HF.out, if_pos (.inl ⟨c1, c2⟩)]
          rfl
        · go_wp2
          go_roundw
          case rel => exact ⟨⟨1, by omega, rfl, fun _ h => c2 h.2, by omega⟩, _, rfl⟩
          case measure => simp [intOf]
      · have w2 : lo ≤ 1 := by omega
        have w3 : (lo > 1) = False := by simp; omega
        have w4 : (1 < lo) = False := by simp; omega
        go_wp2
        refine wp_region_sched (fun _ => True) [0, 0, 0, 0, 1, 0, 0, 0, 0, 1, 0, 1, 0, 0] [0, 1, 2, 3, 5, 6, 10, 4, 7, 8, 9, 11, 12, 13] (by kernel_rfl) (by kernel_rfl) ?_
        repeat (first | (refine sched_w rfl rfl (fun _ hK => ?_); go_simp; refine hK _ ?_; clear hK) | (refine sched_s rfl rfl (fun _ hK => ?_); go_simp; first | (refine hK _ ?_; clear hK) | (refine ⟨_, fun _ => rfl, hK _ ?_⟩; clear hK)))
        refine sched_nil (NoPanic.normal ?_)
        go_wp2
        go_roundw
        case rel => exact ⟨⟨1, by omega, rfl, fun _ h => absurd h.1 (by omega), by omega⟩, _, rfl⟩
        case measure => simp [intOf]
    · replace r1 := Lib.hid (r1 (by omega))
      clear r2
      by_cases c1 : 1 < hh
      · obtain ⟨b', off', hbo, -, t0⟩ := HL.out.nodeN c1 (by omega)
        simp only [Option.some.injEq, Addr.mk.injEq, and_true] at hbo
        obtain ⟨rfl, rfl⟩ := hbo
        have w1 : IntKind.i64.wrap (hh - 2) = hh - 2 := IntWalk.i64_in _ (by omega)
        have w2 : 2 ≤ hh := by omega
        have w4 : (decide (1 < hh)) = true := by simpa using c1
        have w3 : hh - 2 < L.length := by omega
        go_wp2
        refine wp_region_sched (fun _ => True) [0, 0, 0, 0, 1, 0, 0, 0, 0, 1, 0, 1, 0, 0] [0, 1, 2, 3, 5, 6, 10, 4, 7, 8, 9, 11, 12, 13] (by kernel_rfl) (by kernel_rfl) ?_
        repeat (first | (refine sched_w rfl rfl (fun _ hK => ?_); go_simp; refine hK _ ?_; clear hK) | (refine sched_s rfl rfl (fun _ hK => ?_); go_simp; first | (refine hK _ ?_; clear hK) | (refine ⟨_, fun _ => rfl, hK _ ?_⟩; clear hK)))
        refine sched_nil (NoPanic.normal ?_)
        by_cases c2 : (nodeF L hh).1 ≤ v
        · go_wp2
          go_ret
          refine ⟨?_, (by repeat (first | exact Fr.refl _ _ | apply Fr.alloc | apply Fr.drewN | apply Fr.drew))⟩
          rw [hR.out, HF.out, if_pos (.inr ⟨c1, c2⟩)]
          rfl
        · go_wp2
          go_roundw
          case rel => exact ⟨⟨2, by omega, rfl, fun _ => r1.out, fun _ h => c2 h.2⟩, _, rfl⟩
          case measure => simp [intOf]
      · have w2 : hh ≤ 1 := by omega
        have w3 : (hh > 1) = False := by simp; omega
        have w4 : (1 < hh) = False := by simp; omega
        go_wp2
        refine wp_region_sched (fun _ => True) [0, 0, 0, 0, 1, 0, 0, 0, 0, 1, 0, 1, 0, 0] [0, 1, 2, 3, 5, 6, 10, 4, 7, 8, 9, 11, 12, 13] (by kernel_rfl) (by kernel_rfl) ?_
        repeat (first | (refine sched_w rfl rfl (fun _ hK => ?_); go_simp; refine hK _ ?_; clear hK) | (refine sched_s rfl rfl (fun _ hK => ?_); go_simp; first | (refine hK _ ?_; clear hK) | (refine ⟨_, fun _ => rfl, hK _ ?_⟩; clear hK)))
        refine sched_nil (NoPanic.normal ?_)
        go_wp2
        go_roundw
        case rel => exact ⟨⟨2, by omega, rfl, fun _ => r1.out, fun _ h => absurd h.1 (by omega)⟩, _, rfl⟩
        case measure => simp [intOf]
    · replace r1 := Lib.hid (r1 (by omega))
      replace r2 := Lib.hid (r2 (by omega))
      go_wp2
      go_ret
      refine ⟨?_, (by repeat (first | exact Fr.refl _ _ | apply Fr.alloc | apply Fr.drewN | apply Fr.drew))⟩
      rw [hR.out, HF.out, if_neg (fun h => h.elim r1.out r2.out)]
      rfl

theorem checkNode_any (n r : Int) (aL : Option Addr) (capL : Nat) (L : List Nd) (w : World) (hL : SliceAt w 80 3 (.slice aL L.length capL) L.length (ndCells L)) (hlen : L.length ≤ 100000)
    (i : Nat) (hi : i < L.length) (mb : Nat) (M : List (Nd × Bool)) (hM : MapAt ndv Value.bool w mb M) (hMt : ∀ y u, mget M y = some u → u = true) :
    Calls Try.prog 56 #[.agg #[.int .i64 n, .slice aL L.length capL, .int .i64 r], .int .i64 i, .map (some mb)] w fun e w' => e = .returned (.int .i64 (checkNodeF n L i L[i] (mget M L[i]).isSome)) ∧ Same w w' :=
  checkNode_nds n r aL capL L w hL.nds hlen i hi mb M hM hMt

theorem count_any (n : Int) (w : World) : Calls Try.prog 55 #[.int .i64 n] w fun e w' => e = .returned (.int .i64 (if n < 0 ∨ 40 < n then 2 else 0)) ∧ w = w' := by
  obtain ⟨R, hR⟩ : ∃ R : Int, R = if n < 0 ∨ 40 < n then 2 else 0 := ⟨_, rfl⟩
  rw [← hR]
  replace hR := Lib.hid hR
  go_enter Try.func55, Try.ntmps55
  go_wp2
  all_goals go_ret
  all_goals refine ⟨?_, rfl⟩
  all_goals rw [hR.out]
  all_goals first
    | (rw [if_pos (by omega)]; rfl)
    | (rw [if_neg (by omega)]; rfl)

theorem nde_eq (x y : Nd) : nde x.1 x.2.1 x.2.2 y.1 y.2.1 y.2.2 = decide (x = y) := by
  by_cases hx : x = y
  · rw [nde_true hx]; simp [hx]
  · rw [nde_false hx]; simp [hx]

set_option maxHeartbeats 400000 in
theorem slEq_nds (a a' : Option Addr) (cap cap' : Nat) (L L' : List Nd) (w : World) (h : NodesAt w a L cap) (h' : NodesAt w a' L' cap') (hl : L.length ≤ 1000000) (hl' : L'.length ≤ 1000000) :
    Calls Try.prog 70 #[.slice a L.length cap, .slice a' L'.length cap'] w fun e w' => e = .returned (.bool (decide (L = L'))) ∧ Same w w' := by
  by_cases hlen : L.length = L'.length
  · replace h := Lib.hid h
    rw [← hlen]
    replace h' := Lib.hid h'
    replace hlen := Lib.hid hlen
    obtain ⟨R, hR⟩ : ∃ R : Bool, R = decide (L = L') := ⟨_, rfl⟩
    rw [← hR]
    replace hR := Lib.hid hR
    go_enter Try.func70, Try.ntmps70
    go_wp2
    go_loopw [13] (fun i wr => (∃ k : Nat, k ≤ L.length ∧ i = .int .i64 k ∧ ∀ (j : Nat), j < k → L[j]? = L'[j]?) ∧ ∃ n, wr = w.drewN n) (fun i _ => L.length - (intOf i).toNat)
    case atStart => exact ⟨⟨0, by omega, rfl, fun _ h => by omega⟩, 0, rfl⟩
    case round =>
      obtain ⟨⟨k, hk, rfl, hf⟩, n, rfl⟩ := hrel
      replace hf := Lib.hid hf
      by_cases hlt : k < L.length
      · have hlt' : k < L'.length := by rw [← hlen.out]; exact hlt
        obtain ⟨b, off, ha, hb, h1, h2, h3⟩ := h.out.node hlt
        obtain ⟨b', off', ha', hb', h1', h2', h3'⟩ := h'.out.node hlt'
        replace hlt' := Lib.hid hlt'
        subst ha
        subst ha'
        by_cases hx : L[k] = L'[k]'(hlt'.out)
        · have hn := nde_true hx
          replace hx := Lib.hid hx
          go_wp2
          go_quiet (fail)
          go_wp2
          go_roundw
          case rel =>
            refine ⟨⟨k + 1, by omega, by go_num, fun j hj => ?_⟩, _, rfl⟩
            by_cases hjk : j < k
            · exact hf.out j hjk
            · have : j = k := by omega
              subst this
              rw [List.getElem?_eq_getElem hlt, List.getElem?_eq_getElem hlt'.out, hx.out]
          case measure => simp [intOf]; omega
        · have hn := nde_false hx
          replace hx := Lib.hid hx
          go_wp2
          go_quiet (fail)
          go_wp2
          go_ret
          refine ⟨?_, (by repeat (first | exact Fr.refl _ _ | apply Fr.alloc | apply Fr.drewN | apply Fr.drew))⟩
          rw [hR.out]
          have : ¬ L = L' := fun e => hx.out (by subst e; rfl)
          simp [this]
      · go_wp2
        go_ret
        refine ⟨?_, (by repeat (first | exact Fr.refl _ _ | apply Fr.alloc | apply Fr.drewN | apply Fr.drew))⟩
        rw [hR.out]
        have : L = L' := by
          apply List.ext_getElem?
          intro j
          by_cases hj : j < k
          · exact hf.out j hj
          · rw [List.getElem?_eq_none (by omega), List.getElem?_eq_none (by have := hlen.out; omega)]
        simp [this]
  · have hne : ¬ L = L' := fun e => hlen (by rw [e])
    rw [decide_eq_false hne]
    have hb : (L.length : Int) ≠ L'.length := by omega
    clear hne h h'
    go_enter Try.func70, Try.ntmps70
    go_wp2
    go_ret
    exact ⟨rfl, Fr.refl _ _⟩


theorem slEq_any (a a' : Option Addr) (cap cap' : Nat) (L L' : List Nd) (w : World) (h : SliceAt w 80 3 (.slice a L.length cap) L.length (ndCells L)) (h' : SliceAt w 80 3 (.slice a' L'.length cap') L'.length (ndCells L')) (hl : L.length ≤ 1000000) (hl' : L'.length ≤ 1000000) :
    Calls Try.prog 70 #[.slice a L.length cap, .slice a' L'.length cap'] w fun e w' => e = .returned (.bool (decide (L = L'))) ∧ Same w w' :=
  slEq_nds a a' cap cap' L L' w h.nds h'.nds hl hl'

set_option maxHeartbeats 400000 in
theorem equal_nds (n n' r r' : Int) (a a' : Option Addr) (cap cap' : Nat) (L L' : List Nd) (w : World) (h : NodesAt w a L cap) (h' : NodesAt w a' L' cap') (hl : L.length ≤ 1000000) (hl' : L'.length ≤ 1000000) :
    Calls Try.prog 42 #[.agg #[.int .i64 n, .slice a L.length cap, .int .i64 r], .agg #[.int .i64 n', .slice a' L'.length cap', .int .i64 r']] w fun e w' => e = .returned (.bool (decide (n = n' ∧ r = r' ∧ L = L'))) ∧ Same w w' := by
  replace h := Lib.hid h
  replace h' := Lib.hid h'
  by_cases hn : n = n'
  · subst hn
    by_cases hr : r = r'
    · subst hr
      simp only [true_and]
      go_enter Try.func42, Try.ntmps42
      go_wp2_with fail
      refine (slEq_nds a a' cap cap' L L' _ (h.out.same (by repeat (first | exact Fr.refl _ _ | apply Fr.alloc | apply Fr.drewN | apply Fr.drew))) (h'.out.same (by repeat (first | exact Fr.refl _ _ | apply Fr.alloc | apply Fr.drewN | apply Fr.drew))) hl hl').mono ?_
      rintro e w1 ⟨rfl, hs⟩
      replace hs := Lib.hid hs
      go_wp2_with fail
      go_ret
      refine ⟨rfl, (show Same w _ from (by repeat (first | exact Fr.refl _ _ | apply Fr.alloc | apply Fr.drewN | apply Fr.drew))).same hs.out⟩
    · have e1 : decide (n = n ∧ r = r' ∧ L = L') = false := by simp [hr]
      rw [e1]
      have hb : (r == r') = false := by simpa using hr
      clear e1 hr
      go_enter Try.func42, Try.ntmps42
      go_wp2_with fail
      go_ret
      exact ⟨rfl, (by repeat (first | exact Fr.refl _ _ | apply Fr.alloc | apply Fr.drewN | apply Fr.drew))⟩
  · have e1 : decide (n = n' ∧ r = r' ∧ L = L') = false := by simp [hn]
    rw [e1]
    have hb : (n == n') = false := by simpa using hn
    clear e1 hn
    go_enter Try.func42, Try.ntmps42
    go_wp2_with fail
    go_ret
    exact ⟨rfl, (by repeat (first | exact Fr.refl _ _ | apply Fr.alloc | apply Fr.drewN | apply Fr.drew))⟩


theorem equal_any (n n' r r' : Int) (a a' : Option Addr) (cap cap' : Nat) (L L' : List Nd) (w : World) (h : SliceAt w 80 3 (.slice a L.length cap) L.length (ndCells L)) (h' : SliceAt w 80 3 (.slice a' L'.length cap') L'.length (ndCells L')) (hl : L.length ≤ 1000000) (hl' : L'.length ≤ 1000000) :
    Calls Try.prog 42 #[.agg #[.int .i64 n, .slice a L.length cap, .int .i64 r], .agg #[.int .i64 n', .slice a' L'.length cap', .int .i64 r']] w fun e w' => e = .returned (.bool (decide (n = n' ∧ r = r' ∧ L = L'))) ∧ Same w w' :=
  equal_nds n n' r r' a a' cap cap' L L' w h.nds h'.nds hl hl'

theorem VNd.laid {N : List Nd} (h : VNd N) : Laid N := fun i x hx => ⟨(h i x hx).2.2.1, (h i x hx).2.2.2.1, (h i x hx).2.2.2.2.1, (h i x hx).2.2.2.2.2⟩

theorem addF_valid : ∀ (L : List Nd) (s : List Nd × List Int), VNd s.1 → (∀ x ∈ s.2, VNum s.1 x) →
    (∀ (i : Nat) (x : Nd), L[i]? = some x → (0 ≤ x.1 ∧ x.1 < 40) ∧ 0 ≤ x.2.1 ∧ x.2.1 < (i : Int) + s.2.length ∧ 0 ≤ x.2.2 ∧ x.2.2 < (i : Int) + s.2.length) →
    VNd (addF L s).1 ∧ ∀ x ∈ (addF L s).2, VNum (addF L s).1 x
  | [], s, h1, h2, _ => ⟨h1, h2⟩
  | x :: L, s, h1, h2, h3 => by
    have h0 := h3 0 x rfl
    have g1 : VNum s.1 (s.2[x.2.1.toNat]?.getD 0) := by
      have hlt : x.2.1.toNat < s.2.length := by omega
      rw [List.getElem?_eq_getElem hlt]
      exact h2 _ (List.getElem_mem _)
    have g2 : VNum s.1 (s.2[x.2.2.toNat]?.getD 0) := by
      have hlt : x.2.2.toNat < s.2.length := by omega
      rw [List.getElem?_eq_getElem hlt]
      exact h2 _ (List.getElem_mem _)
    obtain ⟨v1, v2⟩ := numF_valid h1 h0.1 g1 g2
    have hg := (numF_grows s.1 (x.1, s.2[x.2.1.toNat]?.getD 0, s.2[x.2.2.toNat]?.getD 0)).1
    unfold addF
    refine addF_valid L _ v1 (fun y hy => ?_) (fun i y hy => ?_)
    · rcases List.mem_append.1 hy with h | h
      · exact (h2 y h).mono hg
      · rw [List.mem_singleton.1 h]; exact v2
    · have := h3 (i + 1) y (by simpa using hy)
      simp only [List.length_append, List.length_singleton]
      push_cast at this ⊢
      omega

/-- The first error among m nodes from index i on. -/
def firstErr (n : Int) (L : List Nd) : Nat → Nat → Int
  | 0, _ => 0
  | m + 1, i => if checkNodeF n L i (L.getD i (0, 0, 0)) (decide (L.getD i (0, 0, 0) ∈ L.take i)) ≠ 0 then checkNodeF n L i (L.getD i (0, 0, 0)) (decide (L.getD i (0, 0, 0) ∈ L.take i)) else firstErr n L m (i + 1)

/-- What Check answers; O and q: what the nodes become when they are added to an empty builder and finished. -/
def checkF (n : Int) (L : List Nd) (r : Int) (O : List Nd) (q : Int) : Int :=
  if n < 0 ∨ 40 < n then 2 else if 16384 < L.length then 3 else if firstErr n L L.length 0 ≠ 0 then firstErr n L L.length 0
  else if r < 0 ∨ (L.length : Int) + 1 < r then 2 else if r = q ∧ L = O then 0 else 6

theorem firstErr_zero {n : Int} {L : List Nd} : ∀ (m i : Nat), i + m = L.length → firstErr n L m i = 0 → ∀ (j : Nat) (hj : j < L.length), i ≤ j → checkNodeF n L j L[j] (decide (L[j] ∈ L.take j)) = 0
  | 0, i, h, _, j, hj, hij => by omega
  | m + 1, i, h, he, j, hj, hij => by
    unfold firstErr at he
    split at he
    · rename_i h0; exact absurd he h0
    · rename_i h0
      by_cases hji : j = i
      · subst hji
        simpa [List.getD, List.getElem?_eq_getElem hj] using h0
      · exact firstErr_zero m (i + 1) (by omega) he j hj (by omega)

theorem checkNodeF_zero {n : Int} {L : List Nd} {i : Nat} {x : Nd} {kn : Bool} (h : checkNodeF n L i x kn = 0) : (0 ≤ x.1 ∧ x.1 < n) ∧ 0 ≤ x.2.1 ∧ x.2.1 < (i : Int) + 2 ∧ 0 ≤ x.2.2 ∧ x.2.2 < (i : Int) + 2 := by
  unfold checkNodeF at h
  split at h
  · cases h
  · omega

theorem firstErr_valid {n : Int} {L : List Nd} (hn : n ≤ 40) (h : firstErr n L L.length 0 = 0) : VNd L := by
  intro i x hx
  obtain ⟨hi, rfl⟩ := List.getElem?_eq_some_iff.1 hx
  have := checkNodeF_zero (firstErr_zero L.length 0 (by omega) h i hi (Nat.zero_le _))
  omega

theorem added_valid {L : List Nd} (h : VNd L) : VNd (addF L ([], [0, 1])).1 ∧ ∀ x ∈ (addF L ([], [0, 1])).2, VNum (addF L ([], [0, 1])).1 x := by
  refine addF_valid L ([], [0, 1]) (fun i x hx => by simp at hx) (fun x hx => ?_) (fun i x hx => ?_)
  · simp at hx
    rcases hx with rfl | rfl <;> simp [VNum]
  · have := h i x hx
    simp
    omega

theorem added_root {L : List Nd} (h : VNd L) {r : Int} (h0 : 0 ≤ r) (hr : r < L.length + 2) : VNum (addF L ([], [0, 1])).1 ((addF L ([], [0, 1])).2.getD r.toNat 0) := by
  have hlen := addF_length L ([], [0, 1])
  have hlt : r.toNat < (addF L ([], [0, 1])).2.length := by rw [hlen]; simp; omega
  rw [List.getD_eq_getElem?_getD, List.getElem?_eq_getElem hlt]
  exact (added_valid h).2 _ (List.getElem_mem _)
end Go.Proofs.Ytaebjalpebgliaa
