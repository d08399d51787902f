/-  -/
import Derived.Test.YtcipnkemnepbaaaGreatCSrt
import Derived.Test.YtcipnkemnepbaaaGreatCChgP
import Derived.Test.YtcipnkemnepbaaaGreatCAny
import Derived.Test.YtcipnkemnepbaaaGreatCFrom
import Derived.Test.YtcipnkemnepbaaaGreatCRowAt
import Derived.Test.YtcipnkemnepbaaaGreatCOpsR
set_option maxRecDepth 100000
set_option maxHeartbeats 8000000
set_option linter.unusedVariables false
set_option linter.unusedSimpArgs false
namespace Go.Proofs.YtcipnkemnepbaaaGreat
open Go.RowKit
theorem lbits13 (n : Nat) (w : World) (hn : n ≤ 4096) : Calls Tryz.prog 16 #[.int .i64 n] w fun e w' => e = .returned (.int .i64 (bitsF n)) ∧ Same w w' := by
 obtain ⟨b, hb⟩ : ∃ b, b = bitsF n := ⟨_, rfl⟩
 have hB := bitsF_is hn
 have h12 := bitsF_12 hn
 rw [← hb] at hB h12 ⊢
 replace hb := gi hb; replace hB := gi hB
 go_enter Tryz.func16, Tryz.ntmps16
 go_wp2_with fail
 go_loopw [3] (fun v wr => ∃ j : Nat, v = .int .i64 j ∧ j ≤ b ∧ Same w wr) (fun j _ => b - (intOf j).toNat)
 case atStart => exact ⟨0, rfl, by omega, Fr.refl _ _⟩
 case round =>
  obtain ⟨j, rfl, hj, hs⟩ := hrel
  have hw := wrap_pow j (by omega)
  have hw2 : IntKind.i64.wrap ((2 : Int) ^ j) = ((2 ^ j : Nat) : Int) := by
   have e : ((2 : Int) ^ j) = ((2 ^ j : Nat) : Int) := by simp
   have hj2 : 2 ^ j ≤ 2 ^ 12 := Nat.pow_le_pow_right (by omega) (by omega)
   rw [e]
   exact wrap_sm _ (Nat.le_trans hj2 (by decide))
  by_cases hlt : j < b
  · have h2 := hB.out.least j hlt
    generalize hp : 2 ^ j = p at *
    have h2i : (p : Int) < n := by omega
    replace hs := gi hs; replace hp := gi hp
    go_wp2_with fail
    go_roundw
    case rel => exact ⟨j + 1, by go_num, by omega, hs.out⟩
    case measure => simp [intOf]; omega
  · obtain rfl : j = b := by omega
    have h2 := hB.out.le
    generalize hp : 2 ^ j = p at *
    have h2i : ¬ (p : Int) < n := by omega
    replace hs := gi hs; replace hp := gi hp
    go_wp2_with fail
    go_ret
    exact ⟨rfl, hs.out⟩
theorem lnumber13 (l : List Bool) (a : Option Addr) (cap q : Nat) (w : World) (hq : l.length = q) (hl : RowAt w (.slice a q cap) q (gz l)) (h12 : q ≤ 20) :
 Calls Tryz.prog 20 #[.slice a q cap] w fun e w' => e = .returned (.int .i64 (numB l)) ∧ Same w w' := by
 replace hq := gi hq; replace hl := gi hl
 go_enter Tryz.func20, Tryz.ntmps20
 go_wp2_with fail
 go_loopw [3, 8] (fun s i wr => ∃ k : Nat, i = .int .i64 k ∧ k ≤ q ∧ s = .int .i64 (numB (l.take k)) ∧ Same w wr) (fun _ i _ => q - (intOf i).toNat)
 case atStart => exact ⟨0, rfl, by omega, rfl, Fr.refl _ _⟩
 case round =>
  obtain ⟨k, rfl, hk, rfl, hs⟩ := hrel
  by_cases hlt : k < q
  · have hkl : k < l.length := by rw [hq.out]; exact hlt
    obtain ⟨b, off, rfl, hb, hc⟩ := (hl.out.same hs).cell (by omega)
    have c0 := hc k (.bool l[k]) (boolCells_get l k hkl)
    have hst := List.take_succ_eq_append_getElem hkl
    have hbd := numB_lt l k (by omega)
    have hbd2 : 2 ^ k ≤ 2 ^ 20 := Nat.pow_le_pow_right (by omega) (by omega)
    have hns := numB_snoc (l.take k) l[k]
    rw [← hst] at hns
    generalize l[k] = x at *
    generalize numB (l.take k) = S at *
    have hS : S ≤ 1048576 := by omega
    clear hbd hbd2 hc
    replace hs := gi hs; replace hst := gi hst; replace hns := gi hns
    cases x
    · go_wp2_with fail
      go_roundw
      case rel => exact ⟨k + 1, by go_num, by omega, by rw [hns.out]; simp; omega, hs.out⟩
      case measure => simp [intOf]; omega
    · go_wp2_with fail
      go_roundw
      case rel => exact ⟨k + 1, by go_num, by omega, by rw [hns.out]; simp; omega, hs.out⟩
      case measure => simp [intOf]; omega
  · obtain rfl : k = q := by omega
    rw [List.take_of_length_le (by rw [hq.out]; exact Nat.le_refl _)]
    replace hs := gi hs
    go_wp2_with fail
    go_ret
    exact ⟨rfl, hs.out⟩
theorem sumB_perm {bs : Nat → Nat} {l k : List Nat} (h : l.Perm k) : sumB bs l = sumB bs k := by
 induction h with
 | nil => rfl
 | cons x _ ih => simp only [sumB, ih]
 | swap x y l => simp only [sumB]; omega
 | trans _ _ a b => exact a.trans b
theorem NwOk.all_range {N : Nw} (h : NwOk N) : N.all = sumB N.bs (List.range N.As.length) :=
 sumB_perm ((List.perm_ext_iff_of_nodup h.pm.nodup List.nodup_range).2 (fun i => by rw [h.pm.mem, List.mem_range]))
theorem sumB_rng (bs : Nat → Nat) (k : Nat) : sumB bs (List.range (k + 1)) = sumB bs (List.range k) + bs k := by
 rw [List.range_succ, sumB_append]; rfl
theorem sumB_rng12 {bs : Nat → Nat} (h : ∀ i, bs i ≤ 12) : ∀ k, sumB bs (List.range k) ≤ k * 12
 | 0 => Nat.zero_le _
 | k + 1 => by
  have := sumB_rng12 h k
  have := h k
  rw [sumB_rng]
  omega
theorem lall13 (N : Nw) (w : World) (hat : N.at w) (hn : ∀ A ∈ N.As, 0 ≤ A.n ∧ A.n ≤ 4096) (hm : N.As.length ≤ 1000) :
 Calls Tryz.prog 9 #[.agg #[.slice N.aA N.As.length N.cA, .slice N.aO N.o.length N.cO]] w fun e w' => e = .returned (.int .i64 (sumB N.bs (List.range N.As.length))) ∧ Same w w' := by
 have LB := fun (n : Nat) (h : n ≤ 4096) W => lbits13 n W h
 obtain ⟨m, hmm⟩ : ∃ m, m = N.As.length := ⟨_, rfl⟩
 have hlt : ∀ k, k < m → k < N.As.length := fun k h => hmm ▸ h
 have hrow := fun (k : Nat) (hk : k < m) W (hW : Same w W) => (hat.au.same hW).row (hlt k hk)
 have hnk : ∀ k (hk : k < N.As.length), ∃ n : Nat, N.As[k].n = n ∧ n ≤ 4096 ∧ N.bs k = bitsF n := fun k hk => by
  have h := hn _ (List.getElem_mem hk)
  refine ⟨N.As[k].n.toNat, by omega, by omega, ?_⟩
  unfold Nw.bs
  rw [N.ns_get hk]
 have h12 : ∀ i, N.bs i ≤ 12 := fun i => by
  by_cases hi : i < N.As.length
  · obtain ⟨n, _, h2, h3⟩ := hnk i hi
    rw [h3]; exact bitsF_12 h2
  · rw [N.bs_out (by omega)]; omega
 obtain ⟨sf, hsf⟩ : ∃ f : Nat → Nat, f = fun k => sumB N.bs (List.range k) := ⟨_, rfl⟩
 have hs0 : sf 0 = 0 := by rw [hsf]; rfl
 have hss : ∀ k, sf (k + 1) = sf k + N.bs k := fun k => by rw [hsf]; exact sumB_rng _ _
 have hsb : ∀ k, sf k ≤ k * 12 := fun k => by rw [hsf]; exact sumB_rng12 h12 k
 have e : sumB N.bs (List.range N.As.length) = sf N.As.length := by rw [hsf]
 rw [e]
 generalize N.bs = bs at *
 clear hat hn e hsf
 simp only [← hmm] at hrow hm ⊢
 generalize N.aA = aA at *
 generalize N.cA = cA at *
 generalize N.aO = aO at *
 generalize N.cO = cO at *
 generalize N.o.length = qo at *
 generalize N.As = As at *
 clear hmm
 replace LB := gi LB; replace hrow := gi hrow; replace hnk := gi hnk; replace h12 := gi h12; replace hs0 := gi hs0; replace hss := gi hss; replace hsb := gi hsb; replace hlt := gi hlt
 go_enter Tryz.func9, Tryz.ntmps9
 go_upto_region 1 with fail
 have kn := gv w (.cells #[.slice aA m cA, .slice aO qo cO] 36)
 have s0 : Same w (w.alloc (.cells #[.slice aA m cA, .slice aO qo cO] 36)) := fs2
 generalize w.alloc (.cells #[.slice aA m cA, .slice aO qo cO] 36) = W0 at *
 replace kn := gi kn; replace s0 := gi s0
 obtain ⟨x0, x1, xl⟩ := g2l kn.out
 go_wp2_with fail
 clear x0 x1 xl
 go_loopw [3, 9] (fun v i wr => ∃ k : Nat, i = .int .i64 k ∧ k ≤ m ∧ v = .int .i64 (sf k) ∧ Same w wr) (fun _ i _ => m - (intOf i).toNat)
 case atStart => exact ⟨0, rfl, by omega, by rw [hs0.out]; rfl, s0.out⟩
 case round =>
  obtain ⟨k, rfl, hk, rfl, hs⟩ := hrel
  by_cases hkm : k < m
  · obtain ⟨b, off, ha, hb, x0, x1, x2, x3⟩ := hrow.out k hkm _ hs
    obtain ⟨n, hn1, hn2, hn3⟩ := hnk.out k (hlt.out k hkm)
    have LBk := LB.out n hn2
    have hst := hss.out k
    rw [hn3] at hst
    have hb1 := hsb.out k
    have hb2 := hsb.out (k + 1)
    generalize As[k]'(hlt.out k hkm) = A at *
    rw [hn1] at x1
    subst ha
    rw [← hn3] at hst LBk
    generalize bs k = c at *
    obtain ⟨S, hS⟩ : ∃ S, S = sf k := ⟨_, rfl⟩
    rw [← hS] at hst hb1 ⊢
    rw [hst] at hb2
    have hS1 : S ≤ 12000 := by omega
    have hS2 : S + c ≤ 12012 := by omega
    clear hn1 hn3 hb1 hb2
    replace hS := gi hS; replace hst := gi hst
    replace hs := gi hs; replace LBk := gi LBk
    go_wp2_with fail
    refine (LBk.out _).mono ?_
    rintro e w1 ⟨rfl, s1⟩
    have hs1 := (show Same w _ from hs.out.same fs2).same s1
    clear s1 x0 x1 x2 x3
    replace hs1 := gi hs1
    go_wp2_with fail
    go_roundw
    case rel => exact ⟨k + 1, by go_num, by omega, by rw [hst.out]; simp, hs1.out⟩
    case measure => simp [intOf]; omega
  · obtain rfl : k = m := by omega
    replace hs := gi hs
    go_wp2_with fail
    go_ret
    exact ⟨rfl, hs.out⟩
theorem codeL_take (bs : Nat → Nat) (o x : List Nat) {k : Nat} (hk : k < o.length) : codeL bs (o.take (k + 1)) x = codeL bs (o.take k) x ++ encL (bs (o.getD k 0)) (x.getD (o.getD k 0) 0) := by
 have e : o.getD k 0 = o[k] := by simp [List.getD, hk]
 rw [List.take_succ_eq_append_getElem hk, codeL_snoc, e]
theorem encL_col (b s : Nat) : encL b s = colF (bitF b s) b := rfl
theorem lcode13 (N : Nw) (OK : NwOk N) (x : List Nat) (aX : Option Addr) (cX : Nat) (w : World) (hat : N.at w) (hxl : x.length = N.As.length) (hX : RowAt w (.slice aX N.As.length cX) N.As.length (gw (natI x))) :
 Calls Tryz.prog 21 #[.agg #[.slice N.aA N.As.length N.cA, .slice N.aO N.o.length N.cO], .slice aX N.As.length cX] w fun e w' =>
  ∃ a c, e = .returned (.slice a N.all c) ∧ w'.ownsRow w.heap.size 4 1 (.slice a N.all c) N.all (gz (codeL N.bs N.on x)) ∧ Same w w' := by
 obtain ⟨i3, hi3, hi3z, hi3s, hi3b⟩ := info_parts info4
 have LB := fun (n : Nat) (h : n ≤ 4096) W => lbits13 n W h
 have hm12 := OK.m12
 have hlen := OK.len
 have hol : N.o.length = N.As.length := by have := hlen; unfold Nw.on at this; rw [List.length_map] at this; exact this
 have hO : RowAt w (.slice N.aO N.As.length N.cO) N.As.length (gw (natI N.on)) := by
  have h := hat.o
  rw [OK.o, natI_len, hlen] at h
  exact h
 obtain ⟨m, hmm⟩ : ∃ m, m = N.As.length := ⟨_, rfl⟩
 have hlt : ∀ k, k < m → k < N.As.length := fun k h => hmm ▸ h
 have hrow := fun (k : Nat) (hk : k < m) W (hW : Same w W) => (hat.au.same hW).row (hlt k hk)
 have hord := fun (k : Nat) (hk : k < N.As.length) W (hW : Same w W) => (hO.same hW).nat hk
 have hxr := fun (k : Nat) (hk : k < N.As.length) W (hW : Same w W) => (hX.same hW).nat hk
 have hnk : ∀ k (hk : k < N.As.length), ∃ n : Nat, N.As[k].n = n ∧ n ≤ 4096 ∧ N.bs k = bitsF n := fun k hk => by
  obtain ⟨h1, h2⟩ := OK.n4 hk
  exact ⟨_, h2, h1, rfl⟩
 have hb12 := fun i => OK.bs12 i
 have hJ : ∀ k, k < N.As.length → N.on.getD k 0 < N.As.length := fun k hk => by
  have hk' : k < N.on.length := by rw [hlen]; exact hk
  have e : N.on.getD k 0 = N.on[k] := by simp [List.getD, hk']
  rw [e]
  exact (OK.pm.mem _).1 (List.getElem_mem hk')
 obtain ⟨P, hP⟩ : ∃ P : Nat → List Bool, P = fun k => codeL N.bs (N.on.take k) x := ⟨_, rfl⟩
 have hP0 : P 0 = [] := by rw [hP]; rfl
 have hPs : ∀ k, k < N.As.length → P (k + 1) = P k ++ encL (N.bs (N.on.getD k 0)) (x.getD (N.on.getD k 0) 0) := fun k hk => by rw [hP]; exact codeL_take _ _ _ (by rw [hlen]; exact hk)
 have hPl : ∀ k, (P k).length ≤ 144 := fun k => by rw [hP]; simp only; rw [codeL_len]; exact OK.sum k
 have hPe : codeL N.bs N.on x = P N.As.length := by rw [hP]; simp only; rw [List.take_of_length_le (by rw [hlen]; exact Nat.le_refl _)]
 have hall : N.all = (P N.As.length).length := by rw [← hPe, codeL_len]; rfl
 rw [hall, hPe, hol]
 clear hall hPe hP hat hX hO OK hlen hol
 generalize N.bs = bs at *
 obtain ⟨J, hJd⟩ : ∃ J : Nat → Nat, J = fun k => N.on.getD k 0 := ⟨_, rfl⟩
 have hJe : ∀ k, N.on.getD k 0 = J k := fun k => by rw [hJd]
 simp only [hJe] at hord hJ hPs
 clear hJd hJe
 obtain ⟨X, hXd⟩ : ∃ X : Nat → Nat, X = fun k => x.getD k 0 := ⟨_, rfl⟩
 have hXe : ∀ k, x.getD k 0 = X k := fun k => by rw [hXd]
 simp only [hXe] at hxr hPs
 clear hXd hXe hxl
 simp only [← hmm] at hrow hord hxr hJ hPs hm12 ⊢
 generalize N.aA = aA at *
 generalize N.cA = cA at *
 generalize N.aO = aO at *
 generalize N.cO = cO at *
 generalize N.As = As at *
 clear hmm
 replace LB := gi LB; replace hrow := gi hrow; replace hord := gi hord; replace hxr := gi hxr; replace hnk := gi hnk; replace hb12 := gi hb12; replace hJ := gi hJ; replace hP0 := gi hP0; replace hPs := gi hPs; replace hPl := gi hPl; replace hlt := gi hlt
 go_enter Tryz.func21, Tryz.ntmps21
 go_upto_region 1 with fail
 have kn := gv w (.cells #[.slice aA m cA, .slice aO m cO] 36)
 have s0 : Same w (w.alloc (.cells #[.slice aA m cA, .slice aO m cO] 36)) := fs2
 generalize w.alloc (.cells #[.slice aA m cA, .slice aO m cO] 36) = W0 at *
 obtain ⟨bn, hbn⟩ : ∃ b, b = w.heap.size := ⟨_, rfl⟩
 rw [← hbn] at kn ⊢
 have hz0 : bn ≤ W0.heap.size := by have := s0.size; omega
 replace kn := gi kn; replace s0 := gi s0; replace hbn := gi hbn
 obtain ⟨x0, x1, xl⟩ := g2l kn.out
 go_wp2_with fail
 clear x0 x1 xl
 go_loopw [5, 7, 8, 12] (fun v _ _ i wr => ∃ (k c : Nat) (a : Option Addr), i = .int .i64 k ∧ k ≤ m ∧ v = .slice a (P k).length c ∧ wr.ownsRow W0.heap.size 4 1 (.slice a (P k).length c) (P k).length (gz (P k)) ∧ Same W0 wr) (fun _ _ _ i _ => m - (intOf i).toNat)
 case atStart => exact ⟨0, 0, none, rfl, by omega, by rw [hP0.out]; rfl, by rw [hP0.out]; exact World.ownsRow_nil _ _ _ _, Fr.refl _ _⟩
 case round =>
  obtain ⟨k, c, a, rfl, hk, rfl, ho, hs⟩ := hrel
  have hsw := s0.out.same hs
  have hzr := hs.size
  by_cases hkm : k < m
  · obtain ⟨wo, rfl⟩ : ∃ wo, wo = wr := ⟨_, rfl⟩
    obtain ⟨b2, off2, rfl, hb2, y0⟩ := hord.out k hkm _ hsw
    have hjm := hJ.out k hkm
    have hps := hPs.out k hkm
    have hp2 := hPl.out (k + 1)
    have hp1 := hPl.out k
    generalize J k = j at *
    obtain ⟨b1, off1, rfl, hb1, x0, x1, x2, x3⟩ := hrow.out j hjm _ hsw
    obtain ⟨n, hn1, hn2, hn3⟩ := hnk.out j (hlt.out j hjm)
    rw [hn1] at x1
    have LBk := LB.out n hn2
    rw [← hn3] at LBk
    have hxj := hxr.out j hjm
    have hbj := hb12.out j
    rw [encL_col] at hps
    generalize bs j = b at *
    generalize X j = s at *
    obtain ⟨p, hp⟩ : ∃ p, p = (P k).length := ⟨_, rfl⟩
    have hpl : (P (k + 1)).length = p + b := by rw [hps, List.length_append, ← hp, colF_length]
    rw [← hp] at hp1 ho ⊢
    rw [hpl] at hp2
    clear hn1 hn3
    have kn2 := hs.at kn.out id
    replace LBk := gi LBk; replace hxj := gi hxj; replace hps := gi hps; replace ho := gi ho; replace hs := gi hs; replace hsw := gi hsw; replace kn2 := gi kn2; replace hp := gi hp; replace hpl := gi hpl
    obtain ⟨z0, z1, zl⟩ := g2l kn2.out
    go_wp2_with fail
    refine (LBk.out _).mono ?_
    rintro e w1 ⟨rfl, s1⟩
    replace ho := gi (owns_same ho.out s1)
    have hs1 := hs.out.same s1
    have hsw1 := hsw.out.same s1
    have hwr : IntKind.i64.wrap ((b : Int) - 1) = (b : Int) - 1 := IntWalk.i64_in _ (by omega)
    clear s1 x0 x1 x2 x3 y0
    clear z0 z1 zl
    replace hs1 := gi hs1; replace hsw1 := gi hsw1
    go_wp2_with fail
    go_loopw [5, 8] (fun v x wr => ∃ (t c : Nat) (a : Option Addr), x = .int .i64 ((b : Int) - 1 - t) ∧ t ≤ b ∧ v = .slice a (p + t) c ∧ wr.ownsRow W0.heap.size 4 1 (.slice a (p + t) c) (p + t) (gz (P k ++ colF (bitF b s) t)) ∧ Same W0 wr) (fun _ x _ => (intOf x + 1).toNat)
    case atStart => exact ⟨0, c, a, by simp, by omega, rfl, by simp only [Nat.add_zero, colF, List.range_zero, List.map_nil, List.append_nil]; exact ho.out, hs1.out⟩
    case round =>
     obtain ⟨t, c2, a2, rfl, ht, rfl, ho2, hs2⟩ := hrel
     have hcs := colF_succ (bitF b s) t
     have hz2 := hs2.size
     by_cases htb : t < b
     · obtain ⟨b3, off3, rfl, hb3, c0⟩ := hxj.out _ (s0.out.same hs2)
       obtain ⟨q, hq⟩ : ∃ q, q = b - 1 - t := ⟨_, rfl⟩
       have hmi : (b : Int) - 1 - t = q := by omega
       rw [hmi]
       have hm0 : (0 : Int) ≤ q := by omega
       have hwr2 : IntKind.i64.wrap ((q : Int) - 1) = (q : Int) - 1 := IntWalk.i64_in _ (by omega)
       have hbit := and1b s q
       have hmin : min q 64 = q := by omega
       have hbe : decide (s / 2 ^ q % 2 = 1) = bitF b s t := by unfold bitF; rw [hq]
       rw [hbe] at hbit
       replace ho2 := gi ho2; replace hs2 := gi hs2; replace hcs := gi hcs; replace hq := gi hq; replace hmi := gi hmi; replace hwr := gi hwr; replace hbe := gi hbe
       go_wp2_with (at_builtin; refine wpList_append1 rfl (.tmp 28) (.tmp 37) 52 rfl W0.heap.size 4 i3 (.bool false) 1 1 Tryz.underlying52 hi3 hi3z hi3s hi3b rfl (by decide) (by decide) a2 (p + t) c2 (gz (P k ++ colF (bitF b s) t)) rfl (owns_same ho2.out fs2) (by omega) wr.heap.size [.bool (bitF b s t)] rfl rfl (gv _ _) (by simp [Value.oneCell']) (by simp; omega) ?_; intro a5 c5 w5 ho5 hG5)
       have hs5 : Same W0 w5 := grew_fresh (hs2.out.same fs2) hG5 (fun i hi => (ho2.out.lt i hi).1)
       have ho5' : w5.ownsRow W0.heap.size 4 1 (.slice a5 (p + (t + 1)) c5) (p + (t + 1)) (gz (P k ++ colF (bitF b s) (t + 1))) := by
        rw [hcs.out, ← List.append_assoc]; have := ho5; simpa [gz, Nat.add_assoc] using this
       clear ho5 hG5
       go_roundw
       case rel => exact ⟨t + 1, c5, a5, by have := hmi.out; congr 1; omega, by omega, rfl, ho5', hs5⟩
       case measure => simp [intOf] <;> omega
     · obtain rfl : t = b := by omega
       have hneg : ¬ (0 : Int) ≤ (t : Int) - 1 - t := by omega
       have ho3 : wr.ownsRow W0.heap.size 4 1 (.slice a2 (P (k + 1)).length c2) (P (k + 1)).length (gz (P (k + 1))) := by rw [hpl.out, hps.out]; exact ho2
       have hpl2 := hpl.out
       replace ho2 := gi ho2; replace hs2 := gi hs2; replace hcs := gi hcs; replace ho3 := gi ho3; replace hpl2 := gi hpl2
       go_wp2_with fail
       go_roundw
       case rel => exact ⟨k + 1, c2, a2, by go_num, by omega, by rw [hpl2.out], ho3.out, hs2.out⟩
       case measure => simp [intOf]; omega
  · obtain rfl : k = m := by omega
    replace ho := gi ho; replace hs := gi hs; replace hsw := gi hsw
    go_wp2_with fail
    go_ret
    exact ⟨a, c, rfl, own_base ho.out s0.out.size, hsw.out⟩
def IsM (M : List (Int × Bool)) (L : List Int) : Prop := ∀ k : Int, mget M k = if k ∈ L then some true else none
theorem IsM.nil : IsM [] [] := fun k => by simp [mget]
theorem IsM.put {M : List (Int × Bool)} {L : List Int} (h : IsM M L) (x : Int) : IsM (mput M x true) (L ++ [x]) := fun k => by
 by_cases e : k = x
 · subst e; rw [mget_put_same]; simp
 · rw [mget_put_other _ _ _ _ e, h k]; simp [e]
def numsL (N : Nw) (p : List Nat → Bool) (l : List (List Nat)) : List Int := (l.filter p).map fun x => ((numB (codeL N.bs N.on x) : Nat) : Int)
theorem nums_yes (N : Nw) {p : List Nat → Bool} {l : List (List Nat)} {k : Nat} (hk : k < l.length) (hp : p l[k] = true) : numsL N p (l.take (k + 1)) = numsL N p (l.take k) ++ [((numB (codeL N.bs N.on l[k]) : Nat) : Int)] := by
 unfold numsL
 rw [List.take_succ_eq_append_getElem hk, List.filter_append, List.map_append]
 simp [List.filter_cons, hp]
theorem nums_set {N : Nw} (h : NwOk N) {F p : List Nat → Bool} (hF : Sup N.ns F) (hp : ∀ x ∈ tupsF N.ns, F x = p x) {k : Nat} (hk : k < 2 ^ N.all) : decide (((k : Nat) : Int) ∈ numsL N p (tupsF N.ns)) = (N.set F).getD k false := by
 rw [N.set_eq, tbF_get _ _ hk]
 refine Bool.eq_iff_iff.2 ⟨fun hh => ?_, fun hh => decide_eq_true ?_⟩
 · obtain ⟨x, hx, e⟩ := List.mem_map.1 (of_decide_eq_true hh)
   obtain ⟨h1, h2⟩ := List.mem_filter.1 hx
   have := (h.code hk p).1 ⟨x, h1, h2, by omega⟩
   rw [hp _ (N.T_mem this.1)]
   exact this.2
 · have hok := hF _ hh
   have hm := N.T_mem hok
   have := (h.code hk p).2 ⟨hok, by rw [← hp _ hm]; exact hh⟩
   obtain ⟨x, h1, h2, h3⟩ := this
   exact List.mem_map.2 ⟨x, List.mem_filter.2 ⟨h1, h2⟩, by rw [h3]⟩
theorem mapIB : Tryz.prog.underlying 62 = some (.map 3 4) := Tryz.underlying62
end Go.Proofs.YtcipnkemnepbaaaGreat
