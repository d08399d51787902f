/-  -/
import Derived.Test.YticcpnekjddanaaGreatDoorZMchW
import Derived.Test.YticcpnekjddanaaGreatDoorZIdxG
import Derived.Test.YticcpnekjddanaaGreatDoorZValue
set_option maxRecDepth 100000
set_option maxHeartbeats 8000000
set_option linter.unusedVariables false
set_option linter.unusedSimpArgs false
namespace Go.Proofs.YticcpnekjddanaaGreatDoor
open Go.RowKit
theorem qlX (bs : Nat → Nat) (o x : List Nat) {k : Nat} (hk : k < o.length) : qbl bs (o.take (k + 1)) x = qbl bs (o.take k) x ++ qhh (bs (o.getD k 0)) (x.getD (o.getD k 0) 0) := by
 have e : o.getD k 0 = o[k] := by simp [List.getD, hk]
 rw [List.take_succ_eq_append_getElem hk, qlx, e]
theorem qpP (b s : Nat) : qhh b s = qck (qaY b s) b := rfl
theorem lcode13 (N : Nw) (OK : qbs N) (x : List Nat) (aX : Option Addr) (cX : Nat) (w : World) (hat : N.at w) (hxl : x.length = N.As.length) (hX : qan w (.slice aX N.As.length cX) N.As.length (gw (qaz x))) :
 Calls Tryz.prog 41 #[.agg #[.slice N.aA N.As.length N.cA, .slice N.aO N.o.length N.cO], .slice aX N.As.length cX] w fun e w' =>
  ∃ a c, e = .returned (.slice a N.all c) ∧ w'.ownsRow w.heap.size 4 1 (.slice a N.all c) N.all (gz (qbl N.bs N.on x)) ∧ qad w w' := by
 obtain ⟨i3, hi3, hi3z, hi3s, hi3b⟩ := info_parts qmF
 have LB := fun (n : Nat) (h : n ≤ 4096) W => qn0 n W h
 have hm12 := OK.m12
 have hlen := OK.len
 have hol : N.o.length = N.As.length := by have := hlen; unfold Nw.on at this; rw [List.length_map] at this; exact this
 have hO : qan w (.slice N.aO N.As.length N.cO) N.As.length (gw (qaz N.on)) := by
  have h := hat.o
  rw [OK.o, qaG, hlen] at h
  exact h
 obtain ⟨m, hmm⟩ : ∃ m, m = N.As.length := ⟨_, rfl⟩
 have hlt : ∀ k, k < m → k < N.As.length := fun k h => hmm ▸ h
 have hrow := fun (k : Nat) (hk : k < m) W (hW : qad w W) => (hat.au.same hW).row (hlt k hk)
 have hord := fun (k : Nat) (hk : k < N.As.length) W (hW : qad w W) => (hO.same hW).nat hk
 have hxr := fun (k : Nat) (hk : k < N.As.length) W (hW : qad w W) => (hX.same hW).nat hk
 have hnk : ∀ k (hk : k < N.As.length), ∃ n : Nat, N.As[k].n = n ∧ n ≤ 4096 ∧ N.bs k = qa1 n := fun k hk => by
  obtain ⟨h1, h2⟩ := OK.n4 hk
  exact ⟨_, h2, h1, rfl⟩
 have hb12 := fun i => OK.bs12 i
 have hJ : ∀ k, k < N.As.length → N.on.getD k 0 < N.As.length := fun k hk => by
  have hk' : k < N.on.length := by rw [hlen]; exact hk
  have e : N.on.getD k 0 = N.on[k] := by simp [List.getD, hk']
  rw [e]
  exact (OK.pm.mem _).1 (List.getElem_mem hk')
 obtain ⟨P, hP⟩ : ∃ P : Nat → List Bool, P = fun k => qbl N.bs (N.on.take k) x := ⟨_, rfl⟩
 have hP0 : P 0 = [] := by rw [hP]; rfl
 have hPs : ∀ k, k < N.As.length → P (k + 1) = P k ++ qhh (N.bs (N.on.getD k 0)) (x.getD (N.on.getD k 0) 0) := fun k hk => by rw [hP]; exact qlX _ _ _ (by rw [hlen]; exact hk)
 have hPl : ∀ k, (P k).length ≤ 144 := fun k => by rw [hP]; simp only; rw [qcb]; exact OK.sum k
 have hPe : qbl N.bs N.on x = P N.As.length := by rw [hP]; simp only; rw [List.take_of_length_le (by rw [hlen]; exact Nat.le_refl _)]
 have hall : N.all = (P N.As.length).length := by rw [← hPe, qcb]; rfl
 rw [hall, hPe, hol]
 clear hall hPe hP hat hX hO OK hlen hol
 generalize N.bs = bs at *
 obtain ⟨J, hJd⟩ : ∃ J : Nat → Nat, J = fun k => N.on.getD k 0 := ⟨_, rfl⟩
 have hJe : ∀ k, N.on.getD k 0 = J k := fun k => by rw [hJd]
 simp only [hJe] at hord hJ hPs
 clear hJd hJe
 obtain ⟨X, hXd⟩ : ∃ X : Nat → Nat, X = fun k => x.getD k 0 := ⟨_, rfl⟩
 have hXe : ∀ k, x.getD k 0 = X k := fun k => by rw [hXd]
 simp only [hXe] at hxr hPs
 clear hXd hXe hxl
 simp only [← hmm] at hrow hord hxr hJ hPs hm12 ⊢
 generalize N.aA = aA at *
 generalize N.cA = cA at *
 generalize N.aO = aO at *
 generalize N.cO = cO at *
 generalize N.As = As at *
 clear hmm
 replace LB := gi LB; replace hrow := gi hrow; replace hord := gi hord; replace hxr := gi hxr; replace hnk := gi hnk; replace hb12 := gi hb12; replace hJ := gi hJ; replace hP0 := gi hP0; replace hPs := gi hPs; replace hPl := gi hPl; replace hlt := gi hlt
 go_enter Tryz.func41, Tryz.ntmps41
 go_upto_region 1 with fail
 have kn := gv w (.cells #[.slice aA m cA, .slice aO m cO] 35)
 have s0 : qad w (w.alloc (.cells #[.slice aA m cA, .slice aO m cO] 35)) := fs2
 generalize w.alloc (.cells #[.slice aA m cA, .slice aO m cO] 35) = W0 at *
 obtain ⟨bn, hbn⟩ : ∃ b, b = w.heap.size := ⟨_, rfl⟩
 rw [← hbn] at kn ⊢
 have hz0 : bn ≤ W0.heap.size := by have := s0.size; omega
 replace kn := gi kn; replace s0 := gi s0; replace hbn := gi hbn
 obtain ⟨x0, x1, xl⟩ := g2l kn.out
 go_wp2_with fail
 clear x0 x1 xl
 go_loopw [5, 7, 8, 12] (fun v _ _ i wr => ∃ (k c : Nat) (a : Option Addr), i = .int .i64 k ∧ k ≤ m ∧ v = .slice a (P k).length c ∧ wr.ownsRow W0.heap.size 4 1 (.slice a (P k).length c) (P k).length (gz (P k)) ∧ qad W0 wr) (fun _ _ _ i _ => m - (intOf i).toNat)
 case atStart => exact ⟨0, 0, none, rfl, by omega, by rw [hP0.out]; rfl, by rw [hP0.out]; exact World.ownsRow_nil _ _ _ _, Fr.refl _ _⟩
 case round =>
  obtain ⟨k, c, a, rfl, hk, rfl, ho, hs⟩ := hrel
  have hsw := s0.out.same hs
  have hzr := hs.size
  by_cases hkm : k < m
  · obtain ⟨wo, rfl⟩ : ∃ wo, wo = wr := ⟨_, rfl⟩
    obtain ⟨b2, off2, rfl, hb2, y0⟩ := hord.out k hkm _ hsw
    have hjm := hJ.out k hkm
    have hps := hPs.out k hkm
    have hp2 := hPl.out (k + 1)
    have hp1 := hPl.out k
    generalize J k = j at *
    obtain ⟨b1, off1, rfl, hb1, x0, x1, x2, x3⟩ := hrow.out j hjm _ hsw
    obtain ⟨n, hn1, hn2, hn3⟩ := hnk.out j (hlt.out j hjm)
    rw [hn1] at x1
    have LBk := LB.out n hn2
    rw [← hn3] at LBk
    have hxj := hxr.out j hjm
    have hbj := hb12.out j
    rw [qpP] at hps
    generalize bs j = b at *
    generalize X j = s at *
    obtain ⟨p, hp⟩ : ∃ p, p = (P k).length := ⟨_, rfl⟩
    have hpl : (P (k + 1)).length = p + b := by rw [hps, List.length_append, ← hp, qbq]
    rw [← hp] at hp1 ho ⊢
    rw [hpl] at hp2
    clear hn1 hn3
    have kn2 := hs.at kn.out id
    replace LBk := gi LBk; replace hxj := gi hxj; replace hps := gi hps; replace ho := gi ho; replace hs := gi hs; replace hsw := gi hsw; replace kn2 := gi kn2; replace hp := gi hp; replace hpl := gi hpl
    obtain ⟨z0, z1, zl⟩ := g2l kn2.out
    go_wp2_with fail
    refine (LBk.out _).mono ?_
    rintro e w1 ⟨rfl, s1⟩
    replace ho := gi (qag ho.out s1)
    have hs1 := hs.out.same s1
    have hsw1 := hsw.out.same s1
    have hwr : IntKind.i64.wrap ((b : Int) - 1) = (b : Int) - 1 := IntWalk.i64_in _ (by omega)
    clear s1 x0 x1 x2 x3 y0
    clear z0 z1 zl
    replace hs1 := gi hs1; replace hsw1 := gi hsw1
    go_wp2_with fail
    go_loopw [5, 8] (fun v x wr => ∃ (t c : Nat) (a : Option Addr), x = .int .i64 ((b : Int) - 1 - t) ∧ t ≤ b ∧ v = .slice a (p + t) c ∧ wr.ownsRow W0.heap.size 4 1 (.slice a (p + t) c) (p + t) (gz (P k ++ qck (qaY b s) t)) ∧ qad W0 wr) (fun _ x _ => (intOf x + 1).toNat)
    case atStart => exact ⟨0, c, a, by simp, by omega, rfl, by simp only [Nat.add_zero, qck, List.range_zero, List.map_nil, List.append_nil]; exact ho.out, hs1.out⟩
    case round =>
     obtain ⟨t, c2, a2, rfl, ht, rfl, ho2, hs2⟩ := hrel
     have hcs := qcp (qaY b s) t
     have hz2 := hs2.size
     by_cases htb : t < b
     · obtain ⟨b3, off3, rfl, hb3, c0⟩ := hxj.out _ (s0.out.same hs2)
       obtain ⟨q, hq⟩ : ∃ q, q = b - 1 - t := ⟨_, rfl⟩
       have hmi : (b : Int) - 1 - t = q := by omega
       rw [hmi]
       have hm0 : (0 : Int) ≤ q := by omega
       have hwr2 : IntKind.i64.wrap ((q : Int) - 1) = (q : Int) - 1 := IntWalk.i64_in _ (by omega)
       have hbit := qoX s q
       have hmin : min q 64 = q := by omega
       have hbe : decide (s / 2 ^ q % 2 = 1) = qaY b s t := by unfold qaY; rw [hq]
       rw [hbe] at hbit
       replace ho2 := gi ho2; replace hs2 := gi hs2; replace hcs := gi hcs; replace hq := gi hq; replace hmi := gi hmi; replace hwr := gi hwr; replace hbe := gi hbe
       go_wp2_with (at_builtin; refine qai rfl (.tmp 28) (.tmp 37) 55 rfl W0.heap.size 4 i3 (.bool false) 1 1 Tryz.underlying55 hi3 hi3z hi3s hi3b rfl (by decide) (by decide) a2 (p + t) c2 (gz (P k ++ qck (qaY b s) t)) rfl (qag ho2.out fs2) (by omega) wr.heap.size [.bool (qaY b s t)] rfl rfl (gv _ _) (by simp [Value.oneCell']) (by simp; omega) ?_; intro a5 c5 w5 ho5 hG5)
       have hs5 : qad W0 w5 := qas (hs2.out.same fs2) hG5 (fun i hi => (ho2.out.lt i hi).1)
       have ho5' : w5.ownsRow W0.heap.size 4 1 (.slice a5 (p + (t + 1)) c5) (p + (t + 1)) (gz (P k ++ qck (qaY b s) (t + 1))) := by
        rw [hcs.out, ← List.append_assoc]; have := ho5; simpa [gz, Nat.add_assoc] using this
       clear ho5 hG5
       go_roundw
       case rel => exact ⟨t + 1, c5, a5, by have := hmi.out; congr 1; omega, by omega, rfl, ho5', hs5⟩
       case measure => simp [intOf] <;> omega
     · obtain rfl : t = b := by omega
       have hneg : ¬ (0 : Int) ≤ (t : Int) - 1 - t := by omega
       have ho3 : wr.ownsRow W0.heap.size 4 1 (.slice a2 (P (k + 1)).length c2) (P (k + 1)).length (gz (P (k + 1))) := by rw [hpl.out, hps.out]; exact ho2
       have hpl2 := hpl.out
       replace ho2 := gi ho2; replace hs2 := gi hs2; replace hcs := gi hcs; replace ho3 := gi ho3; replace hpl2 := gi hpl2
       go_wp2_with fail
       go_roundw
       case rel => exact ⟨k + 1, c2, a2, by go_num, by omega, by rw [hpl2.out], ho3.out, hs2.out⟩
       case measure => simp [intOf]; omega
  · obtain rfl : k = m := by omega
    replace ho := gi ho; replace hs := gi hs; replace hsw := gi hsw
    go_wp2_with fail
    go_ret
    exact ⟨a, c, rfl, qej ho.out s0.out.size, hsw.out⟩
def IsM (M : List (Int × Bool)) (L : List Int) : Prop := ∀ k : Int, qa0 M k = if k ∈ L then some true else none
theorem IsM.nil : IsM [] [] := fun k => by simp [qa0]
theorem IsM.put {M : List (Int × Bool)} {L : List Int} (h : IsM M L) (x : Int) : IsM (qbW M x true) (L ++ [x]) := fun k => by
 by_cases e : k = x
 · subst e; rw [qa3]; simp
 · rw [qbK _ _ _ _ e, h k]; simp [e]
def qiN (N : Nw) (p : List Nat → Bool) (l : List (List Nat)) : List Int := (l.filter p).map fun x => ((qe3 (qbl N.bs N.on x) : Nat) : Int)
theorem qpQ (N : Nw) {p : List Nat → Bool} {l : List (List Nat)} {k : Nat} (hk : k < l.length) (hp : p l[k] = true) : qiN N p (l.take (k + 1)) = qiN N p (l.take k) ++ [((qe3 (qbl N.bs N.on l[k]) : Nat) : Int)] := by
 unfold qiN
 rw [List.take_succ_eq_append_getElem hk, List.filter_append, List.map_append]
 simp [List.filter_cons, hp]
theorem nums_no (N : Nw) {p : List Nat → Bool} {l : List (List Nat)} {k : Nat} (hk : k < l.length) (hp : p l[k] = false) : qiN N p (l.take (k + 1)) = qiN N p (l.take k) := by
 unfold qiN
 rw [List.take_succ_eq_append_getElem hk, List.filter_append, List.map_append]
 simp [List.filter_cons, hp]
theorem qpR {N : Nw} (h : qbs N) {F p : List Nat → Bool} (hF : Sup N.ns F) (hp : ∀ x ∈ qaA N.ns, F x = p x) {k : Nat} (hk : k < 2 ^ N.all) : decide (((k : Nat) : Int) ∈ qiN N p (qaA N.ns)) = (N.set F).getD k false := by
 rw [N.set_eq, qbO _ _ hk]
 refine Bool.eq_iff_iff.2 ⟨fun hh => ?_, fun hh => decide_eq_true ?_⟩
 · obtain ⟨x, hx, e⟩ := List.mem_map.1 (of_decide_eq_true hh)
   obtain ⟨h1, h2⟩ := List.mem_filter.1 hx
   have := (h.code hk p).1 ⟨x, h1, h2, by omega⟩
   rw [hp _ (N.T_mem this.1)]
   exact this.2
 · have hok := hF _ hh
   have hm := N.T_mem hok
   have := (h.code hk p).2 ⟨hok, by rw [← hp _ hm]; exact hh⟩
   obtain ⟨x, h1, h2, h3⟩ := this
   exact List.mem_map.2 ⟨x, List.mem_filter.2 ⟨h1, h2⟩, by rw [h3]⟩
theorem qog {n k : Nat} (hk : k < 2 ^ n) : qam (fun u => (qck (qaY n k) n).getD u false) n 0 = k := by
 have : qam (fun u => (qck (qaY n k) n).getD u false) n 0 = qam (qaY n k) n 0 := qaZ n (fun v hv => by simp [qck, List.getD, hv])
 rw [this, qb9 hk]
theorem qlY (d : Dg) {n : Nat} {t : List Bool} {k : Nat} (hk : k < 2 ^ n) (ab : Option Addr) (cb : Nat) (w : World) (hat : d.at w) (T : d.tab n t) (hB : qan w (.slice ab n cb) n (gz (qck (qaY n k) n))) :
 Calls Tryz.prog 42 #[d.v, .slice ab n cb] w fun e w' => e = .returned (.tuple #[.bool (t.getD k false), .int .i64 0]) ∧ qad w w' := by
 obtain ⟨ho, hr, ht⟩ := T.2.ord
 have he : ev d.L d.r (fun u => (qck (qaY n k) n).getD u false) = t.getD k false := by
  have e2 := qog hk
  rw [← ht]
  conv => rhs; rw [← e2]
  exact (qmm ho (fun u => (qck (qaY n k) n).getD u false) n 0 d.r (by omega) hr (qaE ho.val hr).1).symm
 refine (qmK d n t ab cb _ w hat T (qbq _ _) hB).mono ?_
 rintro e w' ⟨rfl, hs⟩
 exact ⟨by rw [he], hs⟩
theorem mapIB : Tryz.prog.underlying 85 = some (.map 3 4) := Tryz.underlying85
end Go.Proofs.YticcpnekjddanaaGreatDoor
