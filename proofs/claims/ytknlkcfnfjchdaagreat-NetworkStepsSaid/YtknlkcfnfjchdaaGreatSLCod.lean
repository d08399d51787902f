/- The law of package network: code walked. -/
import Derived.Test.YtknlkcfnfjchdaaGreatSLStpP
namespace Go.Proofs.YtknlkcfnfjchdaaGreat
open Go.RowKit
set_option linter.unusedVariables false
set_option linter.unusedSimpArgs false

theorem codeL_take (bs : Nat → Nat) (o x : List Nat) {k : Nat} (hk : k < o.length) : codeL bs (o.take (k + 1)) x = codeL bs (o.take k) x ++ encL (bs (o.getD k 0)) (x.getD (o.getD k 0) 0) := by
  have e : o.getD k 0 = o[k] := by simp [List.getD, hk]
  rw [List.take_succ_eq_append_getElem hk, codeL_snoc, e]
theorem encL_col (b s : Nat) : encL b s = colF (bitF b s) b := rfl

set_option maxRecDepth 100000 in
set_option maxHeartbeats 8000000 in
theorem lcode13 (N : Nw) (OK : NwOk N) (x : List Nat) (aX : Option Addr) (cX : Nat) (w : World) (hat : N.at w) (hxl : x.length = N.As.length) (hX : RowAt w (.slice aX N.As.length cX) N.As.length (intCells (natI x))) :
    Calls Tryz.prog 29 #[.agg #[.slice N.aA N.As.length N.cA, .slice N.aO N.o.length N.cO], .slice aX N.As.length cX] w fun e w' =>
      ∃ a c, e = .returned (.slice a N.all c) ∧ w'.ownsRow w.heap.size 4 1 (.slice a N.all c) N.all (boolCells (codeL N.bs N.on x)) ∧ Same w w' := by
  obtain ⟨i3, hi3, hi3z, hi3s, hi3b⟩ := info_parts info4
  have LB := fun (n : Nat) (h : n ≤ 4096) W => lbits13 n W h
  have hm12 := OK.m12
  have hlen := OK.len
  have hol : N.o.length = N.As.length := by have := hlen; unfold Nw.on at this; rw [List.length_map] at this; exact this
  have hO : RowAt w (.slice N.aO N.As.length N.cO) N.As.length (intCells (natI N.on)) := by
    have h := hat.o
    rw [OK.o, natI_len, hlen] at h
    exact h
  obtain ⟨m, hmm⟩ : ∃ m, m = N.As.length := ⟨_, rfl⟩
  have hlt : ∀ k, k < m → k < N.As.length := fun k h => hmm ▸ h
  have hrow := fun (k : Nat) (hk : k < m) W (hW : Same w W) => (hat.au.same hW).row (hlt k hk)
  have hord := fun (k : Nat) (hk : k < N.As.length) W (hW : Same w W) => (hO.same hW).nat hk
  have hxr := fun (k : Nat) (hk : k < N.As.length) W (hW : Same w W) => (hX.same hW).nat hk
  have hnk : ∀ k (hk : k < N.As.length), ∃ n : Nat, N.As[k].n = n ∧ n ≤ 4096 ∧ N.bs k = bitsF n := fun k hk => by
    obtain ⟨h1, h2⟩ := OK.n4 hk
    exact ⟨_, h2, h1, rfl⟩
  have hb12 := fun i => OK.bs12 i
  have hJ : ∀ k, k < N.As.length → N.on.getD k 0 < N.As.length := fun k hk => by
    have hk' : k < N.on.length := by rw [hlen]; exact hk
    have e : N.on.getD k 0 = N.on[k] := by simp [List.getD, hk']
    rw [e]
    exact (OK.pm.mem _).1 (List.getElem_mem hk')
  obtain ⟨P, hP⟩ : ∃ P : Nat → List Bool, P = fun k => codeL N.bs (N.on.take k) x := ⟨_, rfl⟩
  have hP0 : P 0 = [] := by rw [hP]; rfl
  have hPs : ∀ k, k < N.As.length → P (k + 1) = P k ++ encL (N.bs (N.on.getD k 0)) (x.getD (N.on.getD k 0) 0) := fun k hk => by rw [hP]; exact codeL_take _ _ _ (by rw [hlen]; exact hk)
  have hPl : ∀ k, (P k).length ≤ 144 := fun k => by rw [hP]; simp only; rw [codeL_len]; exact OK.sum k
  have hPe : codeL N.bs N.on x = P N.As.length := by rw [hP]; simp only; rw [List.take_of_length_le (by rw [hlen]; exact Nat.le_refl _)]
  have hall : N.all = (P N.As.length).length := by rw [← hPe, codeL_len]; rfl
  rw [hall, hPe, hol]
  clear hall hPe hP hat hX hO OK hlen hol
  generalize N.bs = bs at *
  obtain ⟨J, hJd⟩ : ∃ J : Nat → Nat, J = fun k => N.on.getD k 0 := ⟨_, rfl⟩
  have hJe : ∀ k, N.on.getD k 0 = J k := fun k => by rw [hJd]
  simp only [hJe] at hord hJ hPs
  clear hJd hJe
  obtain ⟨X, hXd⟩ : ∃ X : Nat → Nat, X = fun k => x.getD k 0 := ⟨_, rfl⟩
  have hXe : ∀ k, x.getD k 0 = X k := fun k => by rw [hXd]
  simp only [hXe] at hxr hPs
  clear hXd hXe hxl
  simp only [← hmm] at hrow hord hxr hJ hPs hm12 ⊢
  generalize N.aA = aA at *
  generalize N.cA = cA at *
  generalize N.aO = aO at *
  generalize N.cO = cO at *
  generalize N.As = As at *
  clear hmm
  replace LB := Lib.hid LB; replace hrow := Lib.hid hrow; replace hord := Lib.hid hord; replace hxr := Lib.hid hxr; replace hnk := Lib.hid hnk; replace hb12 := Lib.hid hb12; replace hJ := Lib.hid hJ; replace hP0 := Lib.hid hP0; replace hPs := Lib.hid hPs; replace hPl := Lib.hid hPl; replace hlt := Lib.hid hlt
  go_enter Tryz.func29, Tryz.ntmps29
  go_upto_region 1 with fail
  have kn := heap_new w (.cells #[.slice aA m cA, .slice aO m cO] 36)
  have s0 : Same w (w.alloc (.cells #[.slice aA m cA, .slice aO m cO] 36)) := fs2
  generalize w.alloc (.cells #[.slice aA m cA, .slice aO m cO] 36) = W0 at *
  obtain ⟨bn, hbn⟩ : ∃ b, b = w.heap.size := ⟨_, rfl⟩
  rw [← hbn] at kn ⊢
  have hz0 : bn ≤ W0.heap.size := by have := s0.size; omega
  replace kn := Lib.hid kn; replace s0 := Lib.hid s0; replace hbn := Lib.hid hbn
  have x0 := cell_at kn.out 0
  have x1 := cell_at kn.out 1
  have xl := lt_of_heap kn.out
  go_wp2_with fail
  clear x0 x1 xl
  go_loopw [5, 7, 8, 12] (fun v _ _ i wr => ∃ (k c : Nat) (a : Option Addr), i = .int .i64 k ∧ k ≤ m ∧ v = .slice a (P k).length c ∧ wr.ownsRow W0.heap.size 4 1 (.slice a (P k).length c) (P k).length (boolCells (P k)) ∧ Same W0 wr) (fun _ _ _ i _ => m - (intOf i).toNat)
  case atStart => exact ⟨0, 0, none, rfl, by omega, by rw [hP0.out]; rfl, by rw [hP0.out]; exact World.ownsRow_nil _ _ _ _, Fr.refl _ _⟩
  case round =>
    obtain ⟨k, c, a, rfl, hk, rfl, ho, hs⟩ := hrel
    have hsw := s0.out.same hs
    have hzr := hs.size
    by_cases hkm : k < m
    · obtain ⟨wo, rfl⟩ : ∃ wo, wo = wr := ⟨_, rfl⟩
      obtain ⟨b2, off2, rfl, hb2, y0⟩ := hord.out k hkm _ hsw
      have hjm := hJ.out k hkm
      have hps := hPs.out k hkm
      have hp2 := hPl.out (k + 1)
      have hp1 := hPl.out k
      generalize J k = j at *
      obtain ⟨b1, off1, rfl, hb1, x0, x1, x2, x3⟩ := hrow.out j hjm _ hsw
      obtain ⟨n, hn1, hn2, hn3⟩ := hnk.out j (hlt.out j hjm)
      rw [hn1] at x1
      have LBk := LB.out n hn2
      rw [← hn3] at LBk
      have hxj := hxr.out j hjm
      have hbj := hb12.out j
      rw [encL_col] at hps
      generalize bs j = b at *
      generalize X j = s at *
      obtain ⟨p, hp⟩ : ∃ p, p = (P k).length := ⟨_, rfl⟩
      have hpl : (P (k + 1)).length = p + b := by rw [hps, List.length_append, ← hp, colF_length]
      rw [← hp] at hp1 ho ⊢
      rw [hpl] at hp2
      clear hn1 hn3
      have kn2 := hs.at kn.out id
      replace LBk := Lib.hid LBk; replace hxj := Lib.hid hxj; replace hps := Lib.hid hps; replace ho := Lib.hid ho; replace hs := Lib.hid hs; replace hsw := Lib.hid hsw; replace kn2 := Lib.hid kn2; replace hp := Lib.hid hp; replace hpl := Lib.hid hpl
      have z0 := cell_at kn2.out 0
      have z1 := cell_at kn2.out 1
      have zl := lt_of_heap kn2.out
      go_wp2_with fail
      refine (LBk.out _).mono ?_
      rintro e w1 ⟨rfl, s1⟩
      replace ho := Lib.hid (owns_same ho.out s1)
      have hs1 := hs.out.same s1
      have hsw1 := hsw.out.same s1
      have hwr : IntKind.i64.wrap ((b : Int) - 1) = (b : Int) - 1 := IntWalk.i64_in _ (by omega)
      clear s1 x0 x1 x2 x3 y0
      clear z0 z1 zl
      replace hs1 := Lib.hid hs1; replace hsw1 := Lib.hid hsw1
      go_wp2_with fail
      go_loopw [5, 8] (fun v x wr => ∃ (t c : Nat) (a : Option Addr), x = .int .i64 ((b : Int) - 1 - t) ∧ t ≤ b ∧ v = .slice a (p + t) c ∧ wr.ownsRow W0.heap.size 4 1 (.slice a (p + t) c) (p + t) (boolCells (P k ++ colF (bitF b s) t)) ∧ Same W0 wr) (fun _ x _ => (intOf x + 1).toNat)
      case atStart => exact ⟨0, c, a, by simp, by omega, rfl, by simp only [Nat.add_zero, colF, List.range_zero, List.map_nil, List.append_nil]; exact ho.out, hs1.out⟩
      case round =>
        obtain ⟨t, c2, a2, rfl, ht, rfl, ho2, hs2⟩ := hrel
        have hcs := colF_succ (bitF b s) t
        have hz2 := hs2.size
        by_cases htb : t < b
        · obtain ⟨b3, off3, rfl, hb3, c0⟩ := hxj.out _ (s0.out.same hs2)
          obtain ⟨q, hq⟩ : ∃ q, q = b - 1 - t := ⟨_, rfl⟩
          have hmi : (b : Int) - 1 - t = q := by omega
          rw [hmi]
          have hm0 : (0 : Int) ≤ q := by omega
          have hwr2 : IntKind.i64.wrap ((q : Int) - 1) = (q : Int) - 1 := IntWalk.i64_in _ (by omega)
          have hbit := and1b s q
          have hmin : min q 64 = q := by omega
          have hbe : decide (s / 2 ^ q % 2 = 1) = bitF b s t := by unfold bitF; rw [hq]
          rw [hbe] at hbit
          replace ho2 := Lib.hid ho2; replace hs2 := Lib.hid hs2; replace hcs := Lib.hid hcs; replace hq := Lib.hid hq; replace hmi := Lib.hid hmi; replace hwr := Lib.hid hwr; replace hbe := Lib.hid hbe
          go_wp2_with (at_builtin; refine wpList_append1 rfl (.tmp 28) (.tmp 37) 65 rfl W0.heap.size 4 i3 (.bool false) 1 1 Tryz.underlying65 hi3 hi3z hi3s hi3b rfl (by decide) (by decide) a2 (p + t) c2 (boolCells (P k ++ colF (bitF b s) t)) rfl (owns_same ho2.out fs2) (by omega) wr.heap.size [.bool (bitF b s t)] rfl rfl (heap_new _ _) (by simp [Value.oneCell']) (by simp; omega) ?_; intro a5 c5 w5 ho5 hG5)
          have hs5 : Same W0 w5 := grew_fresh (hs2.out.same fs2) hG5 (fun i hi => (ho2.out.lt i hi).1)
          have ho5' : w5.ownsRow W0.heap.size 4 1 (.slice a5 (p + (t + 1)) c5) (p + (t + 1)) (boolCells (P k ++ colF (bitF b s) (t + 1))) := by
            rw [hcs.out, ← List.append_assoc]; have := ho5; simpa [boolCells, Nat.add_assoc] using this
          clear ho5 hG5
          go_roundw
          case rel => exact ⟨t + 1, c5, a5, by have := hmi.out; congr 1; omega, by omega, rfl, ho5', hs5⟩
          case measure => simp [intOf] <;> omega
        · obtain rfl : t = b := by omega
          have hneg : ¬ (0 : Int) ≤ (t : Int) - 1 - t := by omega
          have ho3 : wr.ownsRow W0.heap.size 4 1 (.slice a2 (P (k + 1)).length c2) (P (k + 1)).length (boolCells (P (k + 1))) := by rw [hpl.out, hps.out]; exact ho2
          have hpl2 := hpl.out
          replace ho2 := Lib.hid ho2; replace hs2 := Lib.hid hs2; replace hcs := Lib.hid hcs; replace ho3 := Lib.hid ho3; replace hpl2 := Lib.hid hpl2
          go_wp2_with fail
          go_roundw
          case rel => exact ⟨k + 1, c2, a2, by go_num, by omega, by rw [hpl2.out], ho3.out, hs2.out⟩
          case measure => simp [intOf]; omega
    · obtain rfl : k = m := by omega
      replace ho := Lib.hid ho; replace hs := Lib.hid hs; replace hsw := Lib.hid hsw
      go_wp2_with fail
      go_ret
      exact ⟨a, c, rfl, own_base ho.out s0.out.size, hsw.out⟩
end Go.Proofs.YtknlkcfnfjchdaaGreat
