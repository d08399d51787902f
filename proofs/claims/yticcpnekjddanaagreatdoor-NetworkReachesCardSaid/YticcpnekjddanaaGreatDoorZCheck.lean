/-  -/
import Derived.Test.YticcpnekjddanaaGreatDoorZChange
import Derived.Deep.QuietTactic
import Derived.BigQuiet
import Derived.Test.YticcpnekjddanaaGreatDoorZTable
set_option maxRecDepth 100000
set_option maxHeartbeats 2000000
set_option linter.unusedVariables false
set_option linter.unusedSimpArgs false
namespace Go.Proofs.YticcpnekjddanaaGreatDoor
open Go.RowKit
def qaT (n : Int) (L : List Nd) (i : Nat) (x : Nd) (kn : Bool) : Int :=
 if x.1 < 0 ∨ n ≤ x.1 ∨ x.2.1 < 0 ∨ (i : Int) + 1 < x.2.1 ∨ x.2.2 < 0 ∨ (i : Int) + 1 < x.2.2 then 2
 else if x.2.1 = x.2.2 ∨ kn = true then 6
 else if (1 < x.2.1 ∧ (qao L x.2.1).1 ≤ x.1) ∨ (1 < x.2.2 ∧ (qao L x.2.2).1 ≤ x.1) then 5 else 0
theorem qbb.nodeN {w : World} {a : Option Addr} {cap : Nat} {L : List Nd} (hL : qbb w a L cap) {k : Int} (h2 : 1 < k) (hk : k < L.length + 2) :
 ∃ b off, a = some ⟨b, off, none⟩ ∧ b < w.heap.size ∧ w.cell? ⟨b, off + (k - 2).toNat * 3, none⟩ = some (.int .i64 (qao L k).1) := by
 have hlt : (k - 2).toNat < L.length := by omega
 have := hL.node hlt
 simp [qao, hlt]
 obtain ⟨b, off, h1, h2, h3, _⟩ := this
 exact ⟨b, off, h1, h2, h3⟩
theorem qg7 (n r : Int) (aL : Option Addr) (capL : Nat) (L : List Nd) (w : World) (hL : qbb w aL L capL) (hlen : L.length ≤ 100000)
 (i : Nat) (hi : i < L.length) (mb : Nat) (M : List (Nd × Bool)) (hM : qaR ndv Value.bool w mb M) (hMt : ∀ y u, qa0 M y = some u → u = true) :
 Calls Tryz.prog 70 #[.agg #[.int .i64 n, .slice aL L.length capL, .int .i64 r], .int .i64 i, .map (some mb)] w fun e w' => e = .returned (.int .i64 (qaT n L i L[i] (qa0 M L[i]).isSome)) ∧ qad w w' := by
 have hl0 : ∀ w', qad w w' → (Instr.lookup 129 (.map (some mb)) (ndv L[i]) false).run Tryz.prog w' = .ok (.bool (qa0 M L[i]).isSome) w' := by
  intro w' hs
  have hM' := hM.of_block (hs.block _ hM.lt id)
  cases hm : qa0 M L[i] with
  | none => exact qbo qoA mapBb hM' hm (qqb _) false
  | some u =>
   have := hMt _ _ hm
   subst this
   exact qa6 qoA mapBb hM' hm false
 obtain ⟨b, off, rfl, hb, n0, n1, n2⟩ := hL.node hi
 have HL := gi hL
 obtain ⟨kn, hkn⟩ : ∃ kn, kn = (qa0 M L[i]).isSome := ⟨_, rfl⟩
 rw [← hkn] at hl0 ⊢
 obtain ⟨⟨v, lo, hh⟩, hxe⟩ : ∃ x, x = L[i] := ⟨_, rfl⟩
 rw [← hxe] at n0 n1 n2 hl0 ⊢
 simp only at n0 n1 n2
 have hl : ∀ o o', (Instr.lookup 129 (.map (some mb)) (.agg #[.int .i64 v, .int .i64 lo, .int .i64 hh]) false).run Tryz.prog ((w.alloc o).alloc o') = .ok (.bool kn) ((w.alloc o).alloc o') :=
  fun o o' => hl0 _ fs1
 clear hM hL hMt hkn hxe hl0 M
 obtain ⟨R, hR⟩ : ∃ R, R = qaT n L i (v, lo, hh) kn := ⟨_, rfl⟩
 rw [← hR]
 replace hR := gi hR
 go_enter Tryz.func70, Tryz.ntmps70
 go_wp2_with fail
 all_goals try (
  go_ret
  refine ⟨?_, fs1⟩
  rw [hR.out]
  unfold qaT
  clear hR hl HL n0 n1 n2
  simp only
  first
  | (rw [if_pos (by omega)]; rfl)
  | (cases kn <;> simp_all <;> omega)
  | (cases kn <;> simp_all))
 replace hl := gi hl
 have hb3 : b < w.heap.size + 1 + 1 + 1 := by omega
 have hb2 : b < w.heap.size + 1 + 1 := by omega
 have hb1 : b < w.heap.size + 1 := by omega
 have HF : qaT n L i (v, lo, hh) kn = if (1 < lo ∧ (qao L lo).1 ≤ v) ∨ (1 < hh ∧ (qao L hh).1 ≤ v) then 5 else 0 := by
  unfold qaT
  simp only
  rw [if_neg (by omega), if_neg (by simp_all)]
 replace HF := gi HF
 rename_i g7 g8 K0 a0
 clear g7 g8
 go_loopw [67] (fun i wr => (∃ k : Nat, k ≤ 2 ∧ i = .int .i64 k ∧ (0 < k → ¬ (1 < lo ∧ (qao L lo).1 ≤ v)) ∧ (1 < k → ¬ (1 < hh ∧ (qao L hh).1 ≤ v))) ∧
  ∃ j, wr = (((w.alloc (.cells #[.int .i64 n, .slice (some ⟨b, off, none⟩) L.length capL, .int .i64 r] 46)).alloc (.cells #[.int .i64 v, .int .i64 lo, .int .i64 hh] 132)).alloc (.cells #[.int .i64 lo, .int .i64 hh] 3)).drewN j) (fun i _ => 2 - (intOf i).toNat)
 case atStart => exact ⟨⟨0, by omega, rfl, by omega, by omega⟩, 0, rfl⟩
 case round =>
  obtain ⟨⟨k, hk, rfl, r1, r2⟩, j, rfl⟩ := hrel
  have hk3 : k = 0 ∨ k = 1 ∨ k = 2 := by omega
  rcases hk3 with rfl | rfl | rfl
  · clear r1 r2
    by_cases c1 : 1 < lo
    · obtain ⟨b', off', hbo, -, t0⟩ := HL.out.nodeN c1 (by omega)
      simp only [Option.some.injEq, Addr.mk.injEq, and_true] at hbo
      obtain ⟨rfl, rfl⟩ := hbo
      have w1 : IntKind.i64.wrap (lo - 2) = lo - 2 := IntWalk.i64_in _ (by omega)
      have w2 : 2 ≤ lo := by omega
      have w4 : (decide (1 < lo)) = true := by simpa using c1
      have w3 : lo - 2 < L.length := by omega
      go_wp2
      refine qac (fun _ => True) [0, 0, 0, 0, 1, 0, 0, 0, 0, 1, 0, 1, 0, 0] [0, 1, 2, 3, 5, 6, 10, 4, 7, 8, 9, 11, 12, 13] (by kernel_rfl) (by kernel_rfl) ?_
      repeat ((first | refine gB rfl rfl fun _ k => ?_ | refine gC rfl rfl fun _ k => ?_); go_simp; (first | refine k _ ?_ | refine ⟨_, fun _ => rfl, k _ ?_⟩); clear k)
      refine gO (NoPanic.normal ?_)
      by_cases c2 : (qao L lo).1 ≤ v
      · go_wp2
        go_ret
        refine ⟨?_, fs1⟩
        rw [hR.out, HF.out, if_pos (.inl ⟨c1, c2⟩)]
        rfl
      · go_wp2
        go_roundw
        case rel => exact ⟨⟨1, by omega, rfl, fun _ h => c2 h.2, by omega⟩, _, rfl⟩
        case measure => simp [intOf]
    · have w2 : lo ≤ 1 := by omega
      have w3 : (lo > 1) = False := by simp; omega
      have w4 : (1 < lo) = False := by simp; omega
      go_wp2
      refine qac (fun _ => True) [0, 0, 0, 0, 1, 0, 0, 0, 0, 1, 0, 1, 0, 0] [0, 1, 2, 3, 5, 6, 10, 4, 7, 8, 9, 11, 12, 13] (by kernel_rfl) (by kernel_rfl) ?_
      repeat ((first | refine gB rfl rfl fun _ k => ?_ | refine gC rfl rfl fun _ k => ?_); go_simp; (first | refine k _ ?_ | refine ⟨_, fun _ => rfl, k _ ?_⟩); clear k)
      refine gO (NoPanic.normal ?_)
      go_wp2
      go_roundw
      case rel => exact ⟨⟨1, by omega, rfl, fun _ h => absurd h.1 (by omega), by omega⟩, _, rfl⟩
      case measure => simp [intOf]
  · replace r1 := gi (r1 (by omega))
    clear r2
    by_cases c1 : 1 < hh
    · obtain ⟨b', off', hbo, -, t0⟩ := HL.out.nodeN c1 (by omega)
      simp only [Option.some.injEq, Addr.mk.injEq, and_true] at hbo
      obtain ⟨rfl, rfl⟩ := hbo
      have w1 : IntKind.i64.wrap (hh - 2) = hh - 2 := IntWalk.i64_in _ (by omega)
      have w2 : 2 ≤ hh := by omega
      have w4 : (decide (1 < hh)) = true := by simpa using c1
      have w3 : hh - 2 < L.length := by omega
      go_wp2
      refine qac (fun _ => True) [0, 0, 0, 0, 1, 0, 0, 0, 0, 1, 0, 1, 0, 0] [0, 1, 2, 3, 5, 6, 10, 4, 7, 8, 9, 11, 12, 13] (by kernel_rfl) (by kernel_rfl) ?_
      repeat ((first | refine gB rfl rfl fun _ k => ?_ | refine gC rfl rfl fun _ k => ?_); go_simp; (first | refine k _ ?_ | refine ⟨_, fun _ => rfl, k _ ?_⟩); clear k)
      refine gO (NoPanic.normal ?_)
      by_cases c2 : (qao L hh).1 ≤ v
      · go_wp2
        go_ret
        refine ⟨?_, fs1⟩
        rw [hR.out, HF.out, if_pos (.inr ⟨c1, c2⟩)]
        rfl
      · go_wp2
        go_roundw
        case rel => exact ⟨⟨2, by omega, rfl, fun _ => r1.out, fun _ h => c2 h.2⟩, _, rfl⟩
        case measure => simp [intOf]
    · have w2 : hh ≤ 1 := by omega
      have w3 : (hh > 1) = False := by simp; omega
      have w4 : (1 < hh) = False := by simp; omega
      go_wp2
      refine qac (fun _ => True) [0, 0, 0, 0, 1, 0, 0, 0, 0, 1, 0, 1, 0, 0] [0, 1, 2, 3, 5, 6, 10, 4, 7, 8, 9, 11, 12, 13] (by kernel_rfl) (by kernel_rfl) ?_
      repeat ((first | refine gB rfl rfl fun _ k => ?_ | refine gC rfl rfl fun _ k => ?_); go_simp; (first | refine k _ ?_ | refine ⟨_, fun _ => rfl, k _ ?_⟩); clear k)
      refine gO (NoPanic.normal ?_)
      go_wp2
      go_roundw
      case rel => exact ⟨⟨2, by omega, rfl, fun _ => r1.out, fun _ h => absurd h.1 (by omega)⟩, _, rfl⟩
      case measure => simp [intOf]
  · replace r1 := gi (r1 (by omega))
    replace r2 := gi (r2 (by omega))
    go_wp2
    go_ret
    refine ⟨?_, fs1⟩
    rw [hR.out, HF.out, if_neg (fun h => h.elim r1.out r2.out)]
    rfl
theorem qia (n : Int) (w : World) : Calls Tryz.prog 122 #[.int .i64 n] w fun e w' => e = .returned (.int .i64 (if n < 0 ∨ 40 < n then 2 else 0)) ∧ w = w' := by
 obtain ⟨R, hR⟩ : ∃ R : Int, R = if n < 0 ∨ 40 < n then 2 else 0 := ⟨_, rfl⟩
 rw [← hR]
 replace hR := gi hR
 go_enter Tryz.func122, Tryz.ntmps122
 go_wp2
 all_goals go_ret
 all_goals refine ⟨?_, rfl⟩
 all_goals rw [hR.out]
 all_goals first
  | (rw [if_pos (by omega)]; rfl)
  | (rw [if_neg (by omega)]; rfl)
theorem qoK (a a' : Option Addr) (cap cap' : Nat) (L L' : List Nd) (w : World) (h : qbb w a L cap) (h' : qbb w a' L' cap') (hl : L.length ≤ 1000000) (hl' : L'.length ≤ 1000000) :
 Calls Tryz.prog 104 #[.slice a L.length cap, .slice a' L'.length cap'] w fun e w' => e = .returned (.bool (decide (L = L'))) ∧ qad w w' := by
 by_cases hlen : L.length = L'.length
 · replace h := gi h
   rw [← hlen]
   replace h' := gi h'
   replace hlen := gi hlen
   obtain ⟨R, hR⟩ : ∃ R : Bool, R = decide (L = L') := ⟨_, rfl⟩
   rw [← hR]
   replace hR := gi hR
   go_enter Tryz.func104, Tryz.ntmps104
   go_wp2
   go_loopw [13] (fun i wr => (∃ k : Nat, k ≤ L.length ∧ i = .int .i64 k ∧ ∀ (j : Nat), j < k → L[j]? = L'[j]?) ∧ ∃ n, wr = w.drewN n) (fun i _ => L.length - (intOf i).toNat)
   case atStart => exact ⟨⟨0, by omega, rfl, fun _ h => by omega⟩, 0, rfl⟩
   case round =>
    obtain ⟨⟨k, hk, rfl, hf⟩, n, rfl⟩ := hrel
    replace hf := gi hf
    by_cases hlt : k < L.length
    · have hlt' : k < L'.length := by rw [← hlen.out]; exact hlt
      obtain ⟨b, off, ha, hb, h1, h2, h3⟩ := h.out.node hlt
      obtain ⟨b', off', ha', hb', h1', h2', h3'⟩ := h'.out.node hlt'
      replace hlt' := gi hlt'
      subst ha
      subst ha'
      by_cases hx : L[k] = L'[k]'(hlt'.out)
      · have hn := qgZ hx
        replace hx := gi hx
        go_wp2
        go_quiet (fail)
        go_wp2
        go_roundw
        case rel =>
         refine ⟨⟨k + 1, by omega, by go_num, fun j hj => ?_⟩, _, rfl⟩
         by_cases hjk : j < k
         · exact hf.out j hjk
         · have : j = k := by omega
           subst this
           rw [List.getElem?_eq_getElem hlt, List.getElem?_eq_getElem hlt'.out, hx.out]
        case measure => simp [intOf]; omega
      · have hn := qfv hx
        replace hx := gi hx
        go_wp2
        go_quiet (fail)
        go_wp2
        go_ret
        refine ⟨?_, fs1⟩
        rw [hR.out]
        have : ¬ L = L' := fun e => hx.out (by subst e; rfl)
        simp [this]
    · go_wp2
      go_ret
      refine ⟨?_, fs1⟩
      rw [hR.out]
      have : L = L' := by
       apply List.ext_getElem?
       intro j
       by_cases hj : j < k
       · exact hf.out j hj
       · rw [List.getElem?_eq_none (by omega), List.getElem?_eq_none (by have := hlen.out; omega)]
      simp [this]
 · have hne : ¬ L = L' := fun e => hlen (by rw [e])
   rw [decide_eq_false hne]
   have hb : (L.length : Int) ≠ L'.length := by omega
   clear hne h h'
   go_enter Tryz.func104, Tryz.ntmps104
   go_wp2
   go_ret
   exact ⟨rfl, Fr.refl _ _⟩
theorem qd9 (n n' r r' : Int) (a a' : Option Addr) (cap cap' : Nat) (L L' : List Nd) (w : World) (h : qbb w a L cap) (h' : qbb w a' L' cap') (hl : L.length ≤ 1000000) (hl' : L'.length ≤ 1000000) :
 Calls Tryz.prog 74 #[.agg #[.int .i64 n, .slice a L.length cap, .int .i64 r], .agg #[.int .i64 n', .slice a' L'.length cap', .int .i64 r']] w fun e w' => e = .returned (.bool (decide (n = n' ∧ r = r' ∧ L = L'))) ∧ qad w w' := by
 replace h := gi h
 replace h' := gi h'
 by_cases hn : n = n'
 · subst hn
   by_cases hr : r = r'
   · subst hr
     simp only [true_and]
     go_enter Tryz.func74, Tryz.ntmps74
     go_wp2_with fail
     refine (qoK a a' cap cap' L L' _ (h.out.same fs1) (h'.out.same fs1) hl hl').mono ?_
     rintro e w1 ⟨rfl, hs⟩
     replace hs := gi hs
     go_wp2_with fail
     go_ret
     refine ⟨rfl, (show qad w _ from fs1).same hs.out⟩
   · have e1 : decide (n = n ∧ r = r' ∧ L = L') = false := by simp [hr]
     rw [e1]
     have hb : (r == r') = false := by simpa using hr
     clear e1 hr
     go_enter Tryz.func74, Tryz.ntmps74
     go_wp2_with fail
     go_ret
     exact ⟨rfl, fs1⟩
 · have e1 : decide (n = n' ∧ r = r' ∧ L = L') = false := by simp [hn]
   rw [e1]
   have hb : (n == n') = false := by simpa using hn
   clear e1 hn
   go_enter Tryz.func74, Tryz.ntmps74
   go_wp2_with fail
   go_ret
   exact ⟨rfl, fs1⟩
theorem qmw (n n' r r' : Int) (a a' : Option Addr) (cap cap' : Nat) (L L' : List Nd) (w : World) (h : qaa w 132 3 (.slice a L.length cap) L.length (qap L)) (h' : qaa w 132 3 (.slice a' L'.length cap') L'.length (qap L')) (hl : L.length ≤ 1000000) (hl' : L'.length ≤ 1000000) :
 Calls Tryz.prog 74 #[.agg #[.int .i64 n, .slice a L.length cap, .int .i64 r], .agg #[.int .i64 n', .slice a' L'.length cap', .int .i64 r']] w fun e w' => e = .returned (.bool (decide (n = n' ∧ r = r' ∧ L = L'))) ∧ qad w w' :=
 qd9 n n' r r' a a' cap cap' L L' w h.nds h'.nds hl hl'
theorem VNd.laid {N : List Nd} (h : VNd N) : Laid N := fun i x hx => ⟨(h i x hx).2.2.1, (h i x hx).2.2.2.1, (h i x hx).2.2.2.2.1, (h i x hx).2.2.2.2.2⟩
theorem qgK : ∀ (L : List Nd) (s : List Nd × List Int), VNd s.1 → (∀ x ∈ s.2, qaH s.1 x) →
 (∀ (i : Nat) (x : Nd), L[i]? = some x → (0 ≤ x.1 ∧ x.1 < 40) ∧ 0 ≤ x.2.1 ∧ x.2.1 < (i : Int) + s.2.length ∧ 0 ≤ x.2.2 ∧ x.2.2 < (i : Int) + s.2.length) →
 VNd (qa5 L s).1 ∧ ∀ x ∈ (qa5 L s).2, qaH (qa5 L s).1 x
 | [], s, h1, h2, _ => ⟨h1, h2⟩
 | x :: L, s, h1, h2, h3 => by
  have h0 := h3 0 x rfl
  have g1 : qaH s.1 (s.2[x.2.1.toNat]?.getD 0) := by
   have hlt : x.2.1.toNat < s.2.length := by omega
   rw [List.getElem?_eq_getElem hlt]
   exact h2 _ (List.getElem_mem _)
  have g2 : qaH s.1 (s.2[x.2.2.toNat]?.getD 0) := by
   have hlt : x.2.2.toNat < s.2.length := by omega
   rw [List.getElem?_eq_getElem hlt]
   exact h2 _ (List.getElem_mem _)
  obtain ⟨v1, v2⟩ := qdu h1 h0.1 g1 g2
  have hg := (qbX s.1 (x.1, s.2[x.2.1.toNat]?.getD 0, s.2[x.2.2.toNat]?.getD 0)).1
  unfold qa5
  refine qgK L _ v1 (fun y hy => ?_) (fun i y hy => ?_)
  · rcases List.mem_append.1 hy with h | h
    · exact (h2 y h).mono hg
    · rw [List.mem_singleton.1 h]; exact v2
  · have := h3 (i + 1) y (by simpa using hy)
    simp only [List.length_append, List.length_singleton]
    push_cast at this ⊢
    omega
def qba (n : Int) (L : List Nd) : Nat → Nat → Int
 | 0, _ => 0
 | m + 1, i => if qaT n L i (L.getD i (0, 0, 0)) (decide (L.getD i (0, 0, 0) ∈ L.take i)) ≠ 0 then qaT n L i (L.getD i (0, 0, 0)) (decide (L.getD i (0, 0, 0) ∈ L.take i)) else qba n L m (i + 1)
def qdd (n : Int) (L : List Nd) (r : Int) (O : List Nd) (q : Int) : Int :=
 if n < 0 ∨ 40 < n then 2 else if 16384 < L.length then 3 else if qba n L L.length 0 ≠ 0 then qba n L L.length 0
 else if r < 0 ∨ (L.length : Int) + 1 < r then 2 else if r = q ∧ L = O then 0 else 6
theorem qea {n : Int} {L : List Nd} : ∀ (m i : Nat), i + m = L.length → qba n L m i = 0 → ∀ (j : Nat) (hj : j < L.length), i ≤ j → qaT n L j L[j] (decide (L[j] ∈ L.take j)) = 0
 | 0, i, h, _, j, hj, hij => by omega
 | m + 1, i, h, he, j, hj, hij => by
  unfold qba at he
  split at he
  · rename_i h0; exact absurd he h0
  · rename_i h0
    by_cases hji : j = i
    · subst hji
      simpa [List.getD, List.getElem?_eq_getElem hj] using h0
    · exact qea m (i + 1) (by omega) he j hj (by omega)
theorem qfI {n : Int} {L : List Nd} {i : Nat} {x : Nd} {kn : Bool} (h : qaT n L i x kn = 0) : (0 ≤ x.1 ∧ x.1 < n) ∧ 0 ≤ x.2.1 ∧ x.2.1 < (i : Int) + 2 ∧ 0 ≤ x.2.2 ∧ x.2.2 < (i : Int) + 2 := by
 unfold qaT at h
 split at h
 · cases h
 · omega
theorem qgv {n : Int} {L : List Nd} (hn : n ≤ 40) (h : qba n L L.length 0 = 0) : VNd L := by
 intro i x hx
 obtain ⟨hi, rfl⟩ := List.getElem?_eq_some_iff.1 hx
 have := qfI (qea L.length 0 (by omega) h i hi (Nat.zero_le _))
 omega
theorem qfJ {L : List Nd} (h : VNd L) : VNd (qa5 L ([], [0, 1])).1 ∧ ∀ x ∈ (qa5 L ([], [0, 1])).2, qaH (qa5 L ([], [0, 1])).1 x := by
 refine qgK L ([], [0, 1]) (fun i x hx => by simp at hx) (fun x hx => ?_) (fun i x hx => ?_)
 · simp at hx
   rcases hx with rfl | rfl <;> simp [qaH]
 · have := h i x hx
   simp
   omega
theorem qlj {L : List Nd} (h : VNd L) {r : Int} (h0 : 0 ≤ r) (hr : r < L.length + 2) : qaH (qa5 L ([], [0, 1])).1 ((qa5 L ([], [0, 1])).2.getD r.toNat 0) := by
 have hlen := qi8 L ([], [0, 1])
 have hlt : r.toNat < (qa5 L ([], [0, 1])).2.length := by rw [hlen]; simp; omega
 rw [List.getD_eq_getElem?_getD, List.getElem?_eq_getElem hlt]
 exact (qfJ h).2 _ (List.getElem_mem _)
structure qcx (w : World) (n r : Int) (aL : Option Addr) (capL : Nat) (L : List Nd) (box mb : Nat) (k : Nat) (wr : World) : Prop where
 le : k ≤ L.length
 err : qba n L L.length 0 = qba n L (L.length - k) k
 map : ∃ M : List (Nd × Bool), qaR ndv Value.bool wr mb M ∧ (∀ y u, qa0 M y = some u → u = true) ∧ ∀ y, (qa0 M y).isSome = decide (y ∈ L.take k)
 bx : wr.heap[box]? = some (.cells #[.int .i64 n, .slice aL L.length capL, .int .i64 r] 46 (0, 0))
 same : qad w wr
 mbw : w.heap.size ≤ mb
theorem qcx.next {w : World} {n r : Int} {aL : Option Addr} {capL : Nat} {L : List Nd} {box mb k : Nat} {wr W : World} {ob : Obj} {M : List (Nd × Bool)} (h : qcx w n r aL capL L box mb k wr) (hk : k < L.length) (hs : qad wr W)
 (hM : qaR ndv Value.bool W mb M) (h1 : ∀ y u, qa0 M y = some u → u = true) (h2 : ∀ y, (qa0 M y).isSome = decide (y ∈ L.take k)) (h0 : qaT n L k L[k] (decide (L[k] ∈ L.take k)) = 0)
 (hM' : qaR ndv Value.bool (setObj W mb ob) mb (qbW M L[k] true)) : qcx w n r aL capL L box mb (k + 1) (setObj W mb ob) := by
 have hbx := hs.at h.bx id
 refine ⟨hk, ?_, ⟨_, hM', fun y u hy => ?_, fun y => ?_⟩, ?_, ?_, h.mbw⟩
 · rw [h.err]
   have : L.length - k = (L.length - (k + 1)) + 1 := by omega
   rw [this]
   conv => lhs; unfold qba
   rw [if_neg]
   simp only [List.getD, List.getElem?_eq_getElem hk, Option.getD_some]
   simpa using h0
 · rw [qbn] at hy
   split at hy
   · exact (Option.some.inj hy).symm
   · exact h1 y u hy
 · rw [qbn, List.take_succ_eq_append_getElem hk]
   split
   · rename_i hy; subst hy; simp only [Option.isSome_some, List.mem_append, List.mem_singleton, or_true, decide_true]
   · rename_i hy
     rw [h2 y]
     simp only [List.mem_append, List.mem_singleton, hy, or_false]
 · rw [qbi]
   · exact hbx
   · intro e
     rw [e] at hbx
     exact qat hM hbx rfl
 · exact (h.same.same hs).setObj mb ob (fun hlt => by have := h.mbw; omega)
theorem qcx.hit {w : World} {n r : Int} {aL : Option Addr} {capL : Nat} {L : List Nd} {box mb k : Nat} {wr : World} (h : qcx w n r aL capL L box mb k wr) (hk : k < L.length) (h0 : qaT n L k L[k] (decide (L[k] ∈ L.take k)) ≠ 0) :
 qba n L L.length 0 = qaT n L k L[k] (decide (L[k] ∈ L.take k)) := by
 rw [h.err]
 have : L.length - k = (L.length - (k + 1)) + 1 := by omega
 rw [this]
 unfold qba
 simp only [List.getD, List.getElem?_eq_getElem hk, Option.getD_some]
 rw [if_pos h0]
theorem qcx.done {w : World} {n r : Int} {aL : Option Addr} {capL : Nat} {L : List Nd} {box mb k : Nat} {wr : World} (h : qcx w n r aL capL L box mb k wr) (hk : ¬ k < L.length) : qba n L L.length 0 = 0 := by
 rw [h.err]
 have : L.length - k = 0 := by omega
 rw [this]
 rfl
theorem qaK.same_base {w0 w w' : World} {B p m : Nat} {a : Option Addr} {cap : Nat} {N : List Nd} {v' : Value} (hB : qah w B p m a cap N) (hg : qaK (fun i => BB p m i ∨ False) w w' (.slice a N.length cap) v') (h0 : qad w0 w) (hw : w0.heap.size ≤ B) : qad w0 w' := by
 have hg' : qaK (BB p m) w w' (.slice a N.length cap) v' := ⟨hg.1.mono (fun i _ h => h.imp id (fun h => h.resolve_right id)), hg.2⟩
 exact ⟨hg.1.os.trans h0.os, hg.1.tape.trans h0.tape, hg.1.output.trans h0.output, Nat.le_trans h0.size hg.1.size, fun k hk _ => (hg'.below hB (by omega)).trans (h0.block k hk id)⟩
theorem qeb {w : World} {T : TypeId} {sz n : Nat} {a : Option Addr} {cap : Nat} {cells : List Value} (h : qaa w T sz (.slice a n cap) n cells) (hn : 0 < n) : ∀ k, (Value.slice a n cap).ownBlock = some k → k < w.heap.size := by
 obtain ⟨b, off, rfl, hb, _⟩ := h.cell hn
 intro k hk
 simp [Value.ownBlock] at hk
 omega
theorem qde {w : World} {b : Nat} {x y z a c d : Value} {T : TypeId} (h : w.heap[b]? = some (.cells #[x, y, z] T (0, 0))) :
 (((w.setCell ⟨b, 0, none⟩ a).setCell ⟨b, 1, none⟩ c).setCell ⟨b, 2, none⟩ d).heap[b]? = some (.cells #[a, c, d] T (0, 0)) := by
 simpa using qaf (qaf (qaf h 0 a) 1 c) 2 d
theorem qaU {w : World} {b : Nat} {a c d : Value} : Fr (fun k => k = b) w (((w.setCell ⟨b, 0, none⟩ a).setCell ⟨b, 1, none⟩ c).setCell ⟨b, 2, none⟩ d) :=
 (((Fr.refl (fun k => k = b) w).setCell ⟨b, 0, none⟩ a (fun _ => rfl)).setCell ⟨b, 1, none⟩ c (fun _ => rfl)).setCell ⟨b, 2, none⟩ d (fun _ => rfl)
theorem qmx (n r : Int) (aL : Option Addr) (capL : Nat) (L : List Nd) (w : World) (hL : qbb w aL L capL) (hlen : L.length ≤ 100000) (O : List Nd) (q : Int)
 (hvis : n ≤ 40 → L.length ≤ 16384 → qba n L L.length 0 = 0 → 0 ≤ r → r < L.length + 2 → ∃ fuel s', qaW (qa5 L ([], [0, 1])).1 fuel start ((qa5 L ([], [0, 1])).2.getD r.toNat 0) = some (s', q) ∧ s'.1 = O ∧ O.length ≤ 16384) :
 Calls Tryz.prog 38 #[.agg #[.int .i64 n, .slice aL L.length capL, .int .i64 r]] w fun e w' => e = .returned (.int .i64 (qdd n L r O q)) ∧ qad w w' := by
 have hmm := @run_makeMap Tryz.prog
 replace hL := gi hL
 replace hvis := gi hvis
 by_cases h1 : n < 0 ∨ 40 < n
 · have e1 : qdd n L r O q = 2 := by unfold qdd; rw [if_pos h1]
   rw [e1]
   clear e1 hmm
   rcases h1 with h1 | h1
   · go_enter Tryz.func38, Tryz.ntmps38
     go_wp2_with fail
     go_ret
     exact ⟨rfl, fs1⟩
   · have h2 : ¬ n < 0 := by omega
     go_enter Tryz.func38, Tryz.ntmps38
     go_wp2_with fail
     go_ret
     exact ⟨rfl, fs1⟩
 have n0 : ¬ n < 0 := by omega
 have n1 : ¬ 40 < n := by omega
 by_cases h2 : 16384 < L.length
 · have e1 : qdd n L r O q = 3 := by unfold qdd; rw [if_neg h1, if_pos h2]
   rw [e1]
   have h2' : (16384 : Int) < L.length := by omega
   clear e1 hmm h1
   go_enter Tryz.func38, Tryz.ntmps38
   go_wp2_with fail
   go_ret
   exact ⟨rfl, fs1⟩
 have eF : qdd n L r O q = if qba n L L.length 0 ≠ 0 then qba n L L.length 0 else if r < 0 ∨ (L.length : Int) + 1 < r then 2 else if r = q ∧ L = O then 0 else 6 := by
  unfold qdd; rw [if_neg h1, if_neg h2]
 have h2' : ¬ (16384 : Int) < L.length := by omega
 have h2'' : L.length ≤ 16384 := by omega
 clear h1 h2
 replace h2'' := gi h2''
 obtain ⟨R, hR⟩ : ∃ R, R = qdd n L r O q := ⟨_, rfl⟩
 rw [← hR] at eF ⊢
 clear hR
 replace eF := gi eF
 go_enter Tryz.func38, Tryz.ntmps38
 go_wp2_with fail
 go_loopw [27] (fun i wr => ∃ k : Nat, i = .int .i64 k ∧ qcx w n r aL capL L w.heap.size (w.heap.size + 1) k wr) (fun i _ => L.length - (intOf i).toNat)
 case atStart =>
  refine ⟨0, rfl, Nat.zero_le _, rfl, ⟨[], qbD (by simp), fun y u h => by simp [qa0] at h, fun y => by simp [qa0]⟩, qab (gv _ _) _, fs1, by omega⟩
 case round =>
  obtain ⟨k, rfl, hrel⟩ := hrel
  have hkl := hrel.le
  obtain ⟨c0, c1, c2, cb⟩ := g3l hrel.bx
  replace hrel := gi hrel
  by_cases hlt : k < L.length
  · obtain ⟨M, hM, hM1, hM2⟩ := hrel.out.map
    replace hM := gi hM
    replace hM1 := gi hM1
    replace hM2 := gi hM2
    go_wp2_with fail
    refine (qg7 n r aL capL L _ (hL.out.same (hrel.out.same)) hlen k hlt _ M hM.out hM1.out).mono ?_
    rintro e w1 ⟨rfl, hs1⟩
    rw [hM2.out L[k]]
    obtain ⟨E, hE⟩ : ∃ E, E = qaT n L k L[k] (decide (L[k] ∈ L.take k)) := ⟨_, rfl⟩
    rw [← hE]
    replace hE := gi hE
    replace hs1 := gi hs1
    by_cases h0 : E = 0
    · subst h0
      have k1 := hs1.out.at hrel.out.bx id
      obtain ⟨c0, c1, c2, cb⟩ := g3l k1
      obtain ⟨b, off, ha, hb, x0, x1, x2⟩ := (hL.out.same (hrel.out.same.same hs1.out)).node hlt
      have hM' := hM.out.of_block (hs1.out.block _ hM.out.lt id)
      replace hM' := gi hM'
      clear k1
      subst ha
      go_upto_region 12 with fail
      refine wp_region_lit ?_
      refine wpList_step (fun K hK => ?_); go_simp; refine hK _ _ ?_; clear hK
      refine wpList_step (fun K hK => ?_); go_simp; refine hK _ _ ?_; clear hK
      refine wpList_step (fun K hK => ?_); go_simp; refine hK _ _ ?_; clear hK
      refine wpList_step (fun K hK => ?_); go_simp; refine hK _ _ ?_; clear hK
      refine wpList_step (fun K hK => ?_); go_simp; refine hK _ _ ?_; clear hK
      refine wpList_step (fun K hK => ?_); go_simp; refine hK _ _ ?_; clear hK
      refine qbp rfl (.tmp 37) (.tmp 42) (.const (.bool true)) rfl qoA mapBb (w.heap.size + 1) M rfl hM'.out L[k] rfl true rfl ?_
      intro ob hob
      have hnext := hrel.out.next hlt hs1.out hM'.out hM1.out hM2.out hE.out.symm hob
      replace hnext := gi hnext
      clear hob
      simp only [Act.put]
      go_wp2_with fail
      go_roundw
      case rel => exact ⟨k + 1, by go_num, hnext.out⟩
      case measure => simp [intOf]; omega
    · have hb : (E != 0) = true := by simpa using h0
      have hx := hrel.out.hit hlt (by rw [← hE.out]; exact h0)
      rw [← hE.out] at hx
      replace h0 := gi h0
      replace hx := gi hx
      go_wp2_with fail
      go_ret
      refine ⟨?_, hrel.out.same.same hs1.out⟩
      rw [eF.out, hx.out, if_pos h0.out]
      rfl
  · have hx := hrel.out.done hlt
    have eG := eF.out
    rw [hx, if_neg (fun h => h rfl)] at eG
    replace hx := gi hx
    by_cases hr : r < 0 ∨ (L.length : Int) + 1 < r
    · rw [if_pos hr] at eG
      subst eG
      rcases hr with hr | hr
      · go_wp2_with fail
        go_ret
        exact ⟨rfl, hrel.out.same⟩
      · have hr' : ¬ r < 0 := by omega
        go_wp2_with fail
        go_ret
        exact ⟨rfl, hrel.out.same⟩
    · rw [if_neg hr] at eG
      replace eG := gi eG
      have r0 : 0 ≤ r := by omega
      have r1 : r < L.length + 2 := by omega
      have r2 : ¬ (L.length : Int) + 1 < r := by omega
      have r3 : ¬ r < 0 := by omega
      obtain ⟨fuel, s', hv1, hv2, hv3⟩ := hvis.out (by omega) h2''.out hx.out r0 r1
      replace hv1 := gi hv1
      replace hv2 := gi hv2
      replace hv3 := gi hv3
      replace r0 := gi r0
      replace r1 := gi r1
      have hVL := qgv (by omega) hx.out
      replace hVL := gi hVL
      clear hr
      obtain ⟨kk, hkk⟩ : ∃ kk, kk = (qa5 L ([], [0, 1])).2.getD r.toNat 0 := ⟨_, rfl⟩
      rw [← hkk] at hv1
      have hN2 : VNd (qa5 L ([], [0, 1])).1 := (qfJ hVL.out).1
      have hN2l : (qa5 L ([], [0, 1])).1.length ≤ 90000000 := by have := qc6 L ([], [0, 1]); simp at this; have := h2''.out; omega
      obtain ⟨hr0, hr1⟩ := qlj hVL.out r0.out r1.out
      rw [← hkk] at hr0 hr1
      have FIN : ∀ B p m a2 cap2 W, qah W B p m a2 cap2 (qa5 L ([], [0, 1])).1 → Calls Tryz.prog 72 #[.pointer (some ⟨p, 0, none⟩), .int .i64 n, .int .i64 kk] W (qe0 W n O q) := by
       intro B p m a2 cap2 W hB
       refine (qeG B p m a2 cap2 _ n kk fuel s' q W hB hN2.laid hN2l hr0 hr1 hv1.out (by rw [hv2.out]; have := hv3.out; omega)).mono ?_
       intro e w3 hD
       unfold qeF at hD
       rw [if_pos (by rw [hv2.out]; exact hv3.out), hv2.out] at hD
       exact hD
      replace FIN := gi FIN
      replace hN2 := gi hN2
      replace hkk := gi hkk
      go_wp2_with fail
      refine (qfz wr).mono ?_
      rintro e wb ⟨p, m, rfl, hBb, hsb⟩
      have kb := hsb.at hrel.out.bx id
      obtain ⟨c0, c1, c2, cb⟩ := g3l kb
      replace hBb := gi hBb
      replace hsb := gi hsb
      clear kb
      go_wp2_with fail
      refine qb5 (Lk w.heap.size) [0, 0, 1, 0, 1, 2, 3, 0, 0, 0, 2, 3, 0] (.fork [0, 1, 3, 2, 4] 5 (.fork [] 6 (.run [7, 8, 9, 10, 11, 12]) 10 (.run [6, 7, 8, 9, 11, 12])) 10 (.run [5, 6, 7, 8, 9, 11, 12])) (by kernel_rfl) (by kernel_rfl) ?_
      refine qc4 ?_
      repeat ((first | refine gB rfl rfl fun _ k => ?_ | refine gC rfl rfl fun _ k => ?_); go_simp; (first | refine k _ ?_ | refine ⟨_, fun _ => rfl, k _ ?_⟩); clear k)
      refine gO ⟨?_, ?_⟩
      · refine qd2 rfl rfl (fun _ hK => ?_)
        go_simp
        refine (qi9 wr.heap.size p m none 0 [] n r aL capL L _ (hBb.out.same fs1) ((hL.out.same (hrel.out.same.same hsb.out)).same fs1) (fun h0 k hk => qbb.below (hL.out.same hrel.out.same) h0 k hk) hVL.out.laid r0.out r1.out (by simp; omega)).mono ?_
        rintro e w2 ⟨rfl, a2, cap2, hB2, hG2⟩
        rw [← hkk.out]
        have s2 : qad wr w2 := hG2.same_base (hBb.out.same fs1) (hsb.out.same fs1) (Nat.le_refl _)
        have k2 : w2.heap[w.heap.size]? = some (.cells #[.int .i64 n, .slice aL L.length capL, .int .i64 r] 46 (0, 0)) := s2.at hrel.out.bx id
        have hKp : Kp (Lk w.heap.size) wb.drew w2 := ⟨hG2.1.size, fun k hk _ => by rw [show k = w.heap.size from hk, k2]; exact (hsb.out.at hrel.out.bx id).symm⟩
        refine hK _ _ hKp ?_
        clear hK hKp hG2
        try simp only [Act.put, gj]
        replace hB2 := gi hB2
        replace s2 := gi s2
        replace k2 := gi k2
        clear c0 c1 c2
        refine qc4 ?_
        refine gO ⟨?_, ?_⟩
        · refine fork_l rfl (by decide) (fun _ hK => ?_)
          go_simp
          refine (FIN.out _ p m a2 cap2 w2 hB2.out).mono ?_
          rintro e w3 ⟨ao, co, rfl, hO, hs3⟩
          replace hO := gi hO
          replace hs3 := gi hs3
          refine hK _ _ ?_; clear hK; try simp only [Act.put, gj]
          refine qcv ?_
          repeat ((first | refine gB rfl rfl fun _ k => ?_ | refine gC rfl rfl fun _ k => ?_); go_simp; (first | refine k _ ?_ | refine ⟨_, fun _ => rfl, k _ ?_⟩); clear k)
          refine gF rfl rfl (fun _ hK => ?_); go_simp; refine hK _ _ (Kp.of_same fs1) ?_; clear hK
          refine gD rfl (by decide) (fun _ hK => ?_); go_simp
          refine hK _ _ ?_
          clear hK
          try simp only [Act.put, gj]
          repeat ((first | refine gB rfl rfl fun _ k => ?_ | refine gC rfl rfl fun _ k => ?_); go_simp; (first | refine k _ ?_ | refine ⟨_, fun _ => rfl, k _ ?_⟩); clear k)
          refine gO (NoPanic.normal ?_)
          have k3 := hs3.out.at k2.out id
          obtain ⟨c0, c1, c2, cb⟩ := g3l k3
          clear k3
          have hF : qad w _ := (hrel.out.same.same s2.out).same (hs3.out.alloc (.cells #[.int .i64 n, .slice ao O.length co, .int .i64 q] 46))
          have hOF := hO.out.same ((Fr.refl _ w3).alloc (.cells #[.int .i64 n, .slice ao O.length co, .int .i64 q] 46))
          replace hOF := gi hOF
          replace hF := gi hF
          go_wp2_with fail
          refine (qd9 n n r q aL ao capL co L O _ (hL.out.same hF.out) (qaa.nds hOF.out) (by omega) (by have := hv3.out; omega)).mono ?_
          rintro e w4 ⟨rfl, hs4⟩
          replace hs4 := gi hs4
          by_cases he : r = q ∧ L = O
          · have hb : decide (n = n ∧ r = q ∧ L = O) = true := by simp [he.1, he.2]
            have eR := eG.out
            rw [if_pos he] at eR
            rw [hb]
            clear he hb
            go_wp2_with fail
            go_ret
            exact ⟨by rw [eR]; rfl, hF.out.same hs4.out⟩
          · have hb : decide (n = n ∧ r = q ∧ L = O) = false := by simp only [true_and]; exact decide_eq_false he
            have eR := eG.out
            rw [if_neg he] at eR
            rw [hb]
            clear he hb
            go_wp2_with fail
            go_ret
            exact ⟨by rw [eR]; rfl, hF.out.same hs4.out⟩
        · refine qd2 rfl rfl (fun _ hK => ?_)
          go_simp
          refine hK _ _ (Kp.of_same fs1) ?_
          clear hK
          try simp only [Act.put, gj]
          refine qcv ?_
          refine gD rfl (by decide) (fun _ hK => ?_)
          go_simp
          refine (FIN.out _ p m a2 cap2 _ (hB2.out.same fs1)).mono ?_
          rintro e w3 ⟨ao, co, rfl, hO, hs3⟩
          have kt := hs3.at (gv w2 _) id
          replace hO := gi hO
          have s3 : qad w w3 := (hrel.out.same.same s2.out).same ((Fr.alloc (Fr.refl _ w2) _).same hs3)
          have hlt2 : w.heap.size < w2.heap.size := gu k2.out
          have k2' := qab k2.out (.cells #[.int .i64 0, .slice none 0 0, .int .i64 0] 46)
          replace hs3 := gi hs3
          replace s3 := gi s3
          replace k2' := gi k2'
          obtain ⟨t0, t1, t2⟩ := g3 kt
          have f0 := qak kt 0
          have f1 := qak kt 1
          have f2 := qak kt 2
          have tb := gu kt
          replace kt := gi kt
          refine hK _ _ ?_; clear hK; try simp only [Act.put, gj]
          repeat ((first | refine gB rfl rfl fun _ k => ?_ | refine gC rfl rfl fun _ k => ?_); go_simp; (first | refine k _ ?_ | refine ⟨_, fun _ => rfl, k _ ?_⟩); clear k)
          refine gD rfl (by decide) (fun _ hK => ?_); go_simp
          refine hK _ _ ?_
          clear hK t0 t1 t2 f0 f1 f2 tb
          try simp only [Act.put, gj]
          repeat ((first | refine gB rfl rfl fun _ k => ?_ | refine gC rfl rfl fun _ k => ?_); go_simp; (first | refine k _ ?_ | refine ⟨_, fun _ => rfl, k _ ?_⟩); clear k)
          refine gO (NoPanic.normal ?_)
          have kF := qde (a := .int .i64 n) (c := .slice ao O.length co) (d := .int .i64 q) kt.out
          have k3 := qaU (w := w3) (b := w2.heap.size) (a := .int .i64 n) (c := .slice ao O.length co) (d := .int .i64 q) |>.at (hs3.out.at k2'.out id) (by omega)
          obtain ⟨c0, c1, c2, cb⟩ := g3l k3
          obtain ⟨d0, d1, d2, db⟩ := g3l kF
          have hF := s3.out.trans (qaU (w := w3) (b := w2.heap.size) (a := .int .i64 n) (c := .slice ao O.length co) (d := .int .i64 q)) (fun i hi h => by omega)
          have hOF := hO.out.fr (qaU (w := w3) (b := w2.heap.size) (a := .int .i64 n) (c := .slice ao O.length co) (d := .int .i64 q)) (fun k cur hk h => by rw [h, kt.out] at hk; simp at hk)
          replace hOF := gi hOF
          clear kF k3
          replace hF := gi hF
          go_wp2_with fail
          refine (qd9 n n r q aL ao capL co L O _ (hL.out.same hF.out) (qaa.nds hOF.out) (by omega) (by have := hv3.out; omega)).mono ?_
          rintro e w4 ⟨rfl, hs4⟩
          replace hs4 := gi hs4
          by_cases he : r = q ∧ L = O
          · have hb : decide (n = n ∧ r = q ∧ L = O) = true := by simp [he.1, he.2]
            have eR := eG.out
            rw [if_pos he] at eR
            rw [hb]
            clear he hb
            go_wp2_with fail
            go_ret
            exact ⟨by rw [eR]; rfl, hF.out.same hs4.out⟩
          · have hb : decide (n = n ∧ r = q ∧ L = O) = false := by simp only [true_and]; exact decide_eq_false he
            have eR := eG.out
            rw [if_neg he] at eR
            rw [hb]
            clear he hb
            go_wp2_with fail
            go_ret
            exact ⟨by rw [eR]; rfl, hF.out.same hs4.out⟩
      · refine qd2 rfl rfl (fun _ hK => ?_)
        go_simp
        refine hK _ _ (Kp.of_same ((Fr.refl _ wb.drew).alloc _)) ?_
        clear hK
        try simp only [Act.put, gj]
        refine qcv ?_
        refine gF rfl rfl (fun _ hK => ?_)
        go_simp
        refine (qi9 wr.heap.size p m none 0 [] n r aL capL L _ (hBb.out.same fs1) ((hL.out.same (hrel.out.same.same hsb.out)).same fs1) (fun h0 k hk => qbb.below (hL.out.same hrel.out.same) h0 k hk) hVL.out.laid r0.out r1.out (by simp; omega)).mono ?_
        rintro e w2 ⟨rfl, a2, cap2, hB2, hG2⟩
        rw [← hkk.out]
        have s2 : qad wr w2 := hG2.same_base (hBb.out.same fs1) (hsb.out.same fs1) (Nat.le_refl _)
        have k2' : w2.heap[w.heap.size]? = some (.cells #[.int .i64 n, .slice aL L.length capL, .int .i64 r] 46 (0, 0)) := s2.at hrel.out.bx id
        have ktt := qbz (hBb.out.same fs1) hG2 (gv wb (.cells #[.int .i64 0, .slice none 0 0, .int .i64 0] 46)) (by decide) (by decide)
        have hKp : Kp (Lk w.heap.size) (wb.alloc (.cells #[.int .i64 0, .slice none 0 0, .int .i64 0] 46)).drew w2 := ⟨hG2.1.size, fun k hk _ => by rw [show k = w.heap.size from hk, k2']; exact (qab (hsb.out.at hrel.out.bx id) _).symm⟩
        refine hK _ _ hKp ?_
        clear hK hKp hG2
        try simp only [Act.put, gj]
        replace hB2 := gi hB2
        replace s2 := gi s2
        replace k2' := gi k2'
        replace ktt := gi ktt
        clear c0 c1 c2
        refine gD rfl (by decide) (fun _ hK => ?_)
        go_simp
        refine (FIN.out _ p m a2 cap2 _ hB2.out).mono ?_
        rintro e w3 ⟨ao, co, rfl, hO, hs3⟩
        have kt := hs3.at ktt.out id
        replace hO := gi hO
        have s3 : qad w w3 := (hrel.out.same.same s2.out).same hs3
        have hlt2 : w.heap.size < wb.heap.size := gu (hsb.out.at hrel.out.bx id)
        replace hs3 := gi hs3
        replace s3 := gi s3
        obtain ⟨t0, t1, t2⟩ := g3 kt
        have f0 := qak kt 0
        have f1 := qak kt 1
        have f2 := qak kt 2
        have tb := gu kt
        replace kt := gi kt
        refine hK _ _ ?_; clear hK; try simp only [Act.put, gj]
        repeat ((first | refine gB rfl rfl fun _ k => ?_ | refine gC rfl rfl fun _ k => ?_); go_simp; (first | refine k _ ?_ | refine ⟨_, fun _ => rfl, k _ ?_⟩); clear k)
        refine gD rfl (by decide) (fun _ hK => ?_); go_simp
        refine hK _ _ ?_
        clear hK t0 t1 t2 f0 f1 f2 tb
        try simp only [Act.put, gj]
        repeat ((first | refine gB rfl rfl fun _ k => ?_ | refine gC rfl rfl fun _ k => ?_); go_simp; (first | refine k _ ?_ | refine ⟨_, fun _ => rfl, k _ ?_⟩); clear k)
        refine gO (NoPanic.normal ?_)
        have kF := qde (a := .int .i64 n) (c := .slice ao O.length co) (d := .int .i64 q) kt.out
        have k3 := qaU (w := w3) (b := wb.heap.size) (a := .int .i64 n) (c := .slice ao O.length co) (d := .int .i64 q) |>.at (hs3.out.at k2'.out id) (by omega)
        obtain ⟨c0, c1, c2, cb⟩ := g3l k3
        obtain ⟨d0, d1, d2, db⟩ := g3l kF
        have hF := s3.out.trans (qaU (w := w3) (b := wb.heap.size) (a := .int .i64 n) (c := .slice ao O.length co) (d := .int .i64 q)) (fun i hi h => by omega)
        have hOF := hO.out.fr (qaU (w := w3) (b := wb.heap.size) (a := .int .i64 n) (c := .slice ao O.length co) (d := .int .i64 q)) (fun k cur hk h => by rw [h, kt.out] at hk; simp at hk)
        replace hOF := gi hOF
        clear kF k3
        replace hF := gi hF
        go_wp2_with fail
        refine (qd9 n n r q aL ao capL co L O _ (hL.out.same hF.out) (qaa.nds hOF.out) (by omega) (by have := hv3.out; omega)).mono ?_
        rintro e w4 ⟨rfl, hs4⟩
        replace hs4 := gi hs4
        by_cases he : r = q ∧ L = O
        · have hb : decide (n = n ∧ r = q ∧ L = O) = true := by simp [he.1, he.2]
          have eR := eG.out
          rw [if_pos he] at eR
          rw [hb]
          clear he hb
          go_wp2_with fail
          go_ret
          exact ⟨by rw [eR]; rfl, hF.out.same hs4.out⟩
        · have hb : decide (n = n ∧ r = q ∧ L = O) = false := by simp only [true_and]; exact decide_eq_false he
          have eR := eG.out
          rw [if_neg he] at eR
          rw [hb]
          clear he hb
          go_wp2_with fail
          go_ret
          exact ⟨by rw [eR]; rfl, hF.out.same hs4.out⟩
theorem qmy (n r : Int) (aL : Option Addr) (capL : Nat) (L : List Nd) (w : World) (hL : qaa w 132 3 (.slice aL L.length capL) L.length (qap L)) (hlen : L.length ≤ 100000) (O : List Nd) (q : Int)
 (hvis : n ≤ 40 → L.length ≤ 16384 → qba n L L.length 0 = 0 → 0 ≤ r → r < L.length + 2 → ∃ fuel s', qaW (qa5 L ([], [0, 1])).1 fuel start ((qa5 L ([], [0, 1])).2.getD r.toNat 0) = some (s', q) ∧ s'.1 = O ∧ O.length ≤ 16384) :
 Calls Tryz.prog 38 #[.agg #[.int .i64 n, .slice aL L.length capL, .int .i64 r]] w fun e w' => e = .returned (.int .i64 (qdd n L r O q)) ∧ qad w w' :=
 qmx n r aL capL L w hL.nds hlen O q hvis
structure Dg where
 n : Int
 a : Option Addr
 cap : Nat
 L : List Nd
 r : Int
def Dg.v (d : Dg) : Value := .agg #[.int .i64 d.n, .slice d.a d.L.length d.cap, .int .i64 d.r]
def Dg.at (w : World) (d : Dg) : Prop := qaa w 132 3 (.slice d.a d.L.length d.cap) d.L.length (qap d.L)
def qbg : List Dg → List Value
 | [] => []
 | d :: l => .int .i64 d.n :: .slice d.a d.L.length d.cap :: .int .i64 d.r :: qbg l
theorem qgw (l : List Dg) : (qbg l).length = l.length * 3 := by
 induction l with
 | nil => rfl
 | cons x l ih => simp [qbg, ih]; omega
theorem qjk (l : List Dg) (i : Nat) (h : i < l.length) :
 (qbg l)[i * 3]? = some (.int .i64 l[i].n) ∧ (qbg l)[i * 3 + 1]? = some (.slice l[i].a l[i].L.length l[i].cap) ∧ (qbg l)[i * 3 + 2]? = some (.int .i64 l[i].r) := by
 induction l generalizing i with
 | nil => simp at h
 | cons x l ih =>
  cases i with
  | zero => simp [qbg]
  | succ i =>
   have := ih i (by simpa using h)
   have e : (i + 1) * 3 = i * 3 + 1 + 1 + 1 := by omega
   rw [e]
   simpa [qbg] using this
def qdf (w : World) (a : Option Addr) (cap : Nat) (l : List Dg) : Prop := qaa w 46 3 (.slice a l.length cap) l.length (qbg l)
theorem qdf.cells {w : World} {a : Option Addr} {cap : Nat} {l : List Dg} (h : qdf w a cap l) {k : Nat} (hk : k < l.length) :
 ∃ b off, a = some ⟨b, off, none⟩ ∧ b < w.heap.size ∧ w.cell? ⟨b, off + k * 3, none⟩ = some (.int .i64 l[k].n) ∧ w.cell? ⟨b, off + k * 3 + 1, none⟩ = some (.slice l[k].a l[k].L.length l[k].cap) ∧ w.cell? ⟨b, off + k * 3 + 2, none⟩ = some (.int .i64 l[k].r) := by
 obtain ⟨b, off, ha, hbl, hc⟩ := qaa.cell h (by omega)
 have c3 := qjk l k hk
 exact ⟨b, off, ha, hbl, hc _ _ c3.1, hc _ _ c3.2.1, hc _ _ c3.2.2⟩
def qcZ (c : Dg → Int) : List Dg → Int
 | [] => 0
 | d :: l => if c d ≠ 0 then c d else qcZ c l
theorem qfK (c : Dg → Int) (l : List Dg) (k : Nat) (hk : k < l.length) : qcZ c (l.drop k) = if c l[k] ≠ 0 then c l[k] else qcZ c (l.drop (k + 1)) := by
 rw [List.drop_eq_getElem_cons hk, qcZ]
def qeI (c : Dg → Int) (l : List Dg) : Int := if qcZ c l ≠ 0 then qcZ c l else if ∃ d ∈ l, d.n ≠ (l.head?.map Dg.n).getD 0 then 4 else 0
theorem qlk (a : Option Addr) (cap : Nat) (l : List Dg) (c : Dg → Int) (w : World) (h : qdf w a cap l) (hl : l.length ≤ 1000)
 (hc : ∀ d ∈ l, ∀ W, qad w W → Calls Tryz.prog 38 #[d.v] W fun e w' => e = .returned (.int .i64 (c d)) ∧ qad W w') :
 Calls Tryz.prog 99 #[.slice a l.length cap] w fun e w' => e = .returned (.int .i64 (qeI c l)) ∧ qad w w' := by
 replace h := gi h
 replace hc := gi hc
 obtain ⟨R, hR⟩ : ∃ R, R = qeI c l := ⟨_, rfl⟩
 rw [← hR]
 replace hR := gi hR
 go_enter Tryz.func99, Tryz.ntmps99
 go_wp2_with fail
 go_loopw [10] (fun i wr => ∃ k : Nat, k ≤ l.length ∧ i = .int .i64 k ∧ qcZ c l = qcZ c (l.drop k) ∧ qad w wr) (fun i _ => l.length - (intOf i).toNat)
 case atStart => exact ⟨0, by omega, rfl, rfl, Fr.refl _ _⟩
 case round =>
  obtain ⟨k, hk, rfl, hf, hs⟩ := hrel
  replace hf := gi hf
  by_cases hlt : k < l.length
  · obtain ⟨b, off, ha, hb, x0, x1, x2⟩ := qdf.cells (qaa.same h.out hs) hlt
    replace hs := gi hs
    subst ha
    go_wp2_with fail
    refine (hc.out l[k] (List.getElem_mem hlt) _ (hs.out.alloc _)).mono ?_
    rintro e w1 ⟨rfl, hs1⟩
    replace hs1 := gi hs1
    obtain ⟨E, hE⟩ : ∃ E, E = c l[k] := ⟨_, rfl⟩
    rw [← hE]
    replace hE := gi hE
    by_cases h0 : E = 0
    · subst h0
      go_wp2_with fail
      go_roundw
      case rel => exact ⟨k + 1, by omega, by go_num, by rw [hf.out, qfK c l k hlt, if_neg (by rw [← hE.out]; simp)], (hs.out.alloc _).same hs1.out⟩
      case measure => simp [intOf]; omega
    · have hb : (E != 0) = true := by simpa using h0
      replace h0 := gi h0
      go_wp2_with fail
      go_ret
      refine ⟨?_, (hs.out.alloc _).same hs1.out⟩
      have : qcZ c l = E := by rw [hf.out, qfK c l k hlt, if_pos (by rw [← hE.out]; exact h0.out), ← hE.out]
      rw [hR.out, qeI, this, if_pos h0.out]
      rfl
  · have hz : qcZ c l = 0 := by rw [hf.out, List.drop_eq_nil_of_le (by omega)]; rfl
    replace hz := gi hz
    replace hs := gi hs
    go_wp2_with fail
    go_loopw [22] (fun i wr => ∃ k : Nat, k ≤ l.length ∧ i = .int .i64 k ∧ (∀ (j : Nat) (hj : j < l.length), j < k → l[j].n = (l.head?.map Dg.n).getD 0) ∧ qad w wr) (fun i _ => l.length - (intOf i).toNat)
    case atStart => exact ⟨0, by omega, rfl, fun _ _ h => by omega, hs.out⟩
    case round =>
     clear hs hk hlt
     obtain ⟨k, hk, rfl, hf, hs⟩ := hrel
     replace hf := gi hf
     by_cases hlt : k < l.length
     · obtain ⟨b, off, ha, hb, x0, x1, x2⟩ := qdf.cells (qaa.same h.out hs) hlt
       obtain ⟨b', off', ha', _, y0, y1, y2⟩ := qdf.cells (qaa.same h.out hs) (k := 0) (by omega)
       rw [ha] at ha'
       simp only [Option.some.injEq, Addr.mk.injEq, and_true] at ha'
       obtain ⟨rfl, rfl⟩ := ha'
       simp only [Nat.zero_mul, Nat.add_zero] at y0
       have h0l : (l.head?.map Dg.n).getD 0 = l[0].n := by
        cases l with
        | nil => exact absurd hlt (by simp)
        | cons d l => rfl
       replace h0l := gi h0l
       replace hs := gi hs
       have hb1 : b < wr.heap.size + 1 := by omega
       clear y1 y2
       subst ha
       by_cases he : l[k].n = l[0].n
       · have hb2 : (l[k].n != l[0].n) = false := by simpa using he
         replace he := gi he
         go_wp2_with fail
         go_quiet (fail)
         go_wp2_with fail
         go_roundw
         case rel =>
          refine ⟨k + 1, by omega, by go_num, fun j hj hjk => ?_, hs.out.same (show qad wr _ from fs1)⟩
          by_cases hj' : j < k
          · exact hf.out j hj hj'
          · have : j = k := by omega
            subst this
            rw [he.out, h0l.out]
         case measure => simp [intOf]; omega
       · have hb2 : (l[k].n != l[0].n) = true := by simpa using he
         replace he := gi he
         go_wp2_with fail
         go_quiet (fail)
         go_wp2_with fail
         go_ret
         refine ⟨?_, hs.out.same (show qad wr _ from fs1)⟩
         rw [hR.out, qeI, hz.out, if_neg (by simp), if_pos ⟨l[k], List.getElem_mem hlt, by rw [h0l.out]; exact he.out⟩]
         rfl
     · replace hs := gi hs
       go_wp2_with fail
       go_ret
       refine ⟨?_, hs.out⟩
       rw [hR.out, qeI, hz.out, if_neg (by simp), if_neg]
       · rfl
       · rintro ⟨d, hd, hne⟩
         obtain ⟨j, hj, rfl⟩ := List.mem_iff_getElem.1 hd
         exact hne (hf.out j hj (by omega))
end Go.Proofs.YticcpnekjddanaaGreatDoor
