/-  -/
import Derived.Test.YticcpnekjddanaaGreatDoorZBigT
set_option maxRecDepth 100000
set_option maxHeartbeats 4000000
set_option linter.unusedVariables false
set_option linter.unusedSimpArgs false
namespace Go.Proofs.YticcpnekjddanaaGreatDoor
open Go.RowKit
def prI : List (Int × Int) → List Value
 | [] => []
 | p :: l => .int .i64 p.1 :: .int .i64 p.2 :: prI l
def ipr (p : Nat × Nat) : Int × Int := (p.1, p.2)
theorem qnc : ∀ l : List (Nat × Nat), prI (l.map ipr) = prC l
 | [] => rfl
 | p :: l => by simp [prI, prC, ipr, qnc l]
theorem qnd : ∀ (l : List (Int × Int)) (k : Nat) (h : k < l.length), (prI l)[k * 2]? = some (.int .i64 l[k].1) ∧ (prI l)[k * 2 + 1]? = some (.int .i64 l[k].2)
 | [], k, h => by simp at h
 | p :: l, 0, h => by simp [prI]
 | p :: l, k + 1, h => by
  have ih := qnd l k (by simpa using h)
  rw [show (k + 1) * 2 = k * 2 + 1 + 1 by omega]
  simpa [prI] using ih
theorem qaa.pair {w : World} {T : TypeId} {a : Option Addr} {cap m : Nat} {l : List (Int × Int)} (h : qaa w T 2 (.slice a m cap) m (prI l)) {k : Nat} (hk : k < l.length) (hm : l.length = m) :
 ∃ b off, a = some ⟨b, off, none⟩ ∧ b < w.heap.size ∧ w.cell? ⟨b, off + k * 2, none⟩ = some (.int .i64 l[k].1) ∧ w.cell? ⟨b, off + k * 2 + 1, none⟩ = some (.int .i64 l[k].2) := by
 obtain ⟨b, off, ha, hbl, hc⟩ := h.cell (by omega)
 have c2 := qnd l k hk
 exact ⟨b, off, ha, hbl, hc _ _ c2.1, hc _ _ c2.2⟩
def cdL (b : Nat) (l : List (Nat × Nat)) : List Int := l.map fun p => ((wv b p.1 p.2 : Nat) : Int)
theorem qo6 {b : Nat} {l : List (Nat × Nat)} {k : Nat} (h : k < l.length) : cdL b (l.take (k + 1)) = cdL b (l.take k) ++ [((wv b l[k].1 l[k].2 : Nat) : Int)] := by
 unfold cdL
 rw [List.take_add_one, List.getElem?_eq_getElem h, List.map_append]
 rfl
theorem qne (b : Nat) (l : List (Nat × Nat)) : (cdL b l).length = l.length := by simp [cdL]
def qiX (b : Nat) (l : List (Nat × Nat)) : List Bool := qcH (2 * b) 0 ((cdL b l).map Int.toNat)
theorem qo7 {b : Nat} {l : List (Nat × Nat)} {x y : Nat} (hl : ∀ p ∈ l, p.1 < 2 ^ b ∧ p.2 < 2 ^ b) (hx : x < 2 ^ b) (hy : y < 2 ^ b) : (qiX b l).getD (wv b x y) false = decide ((x, y) ∈ l) := by
 unfold qiX
 rw [qcS _ _ _ (qo4 b x y), decide_eq_decide, Nat.zero_add]
 simp only [cdL, List.map_map, List.mem_map, Function.comp, Int.toNat_natCast]
 constructor
 · rintro ⟨⟨x', y'⟩, hm, e⟩
   obtain ⟨h1, h2⟩ := hl _ hm
   simp only at h1 h2 e
   have e1 := congrArg (ux b) e
   have e2 := congrArg (uy b) e
   rw [ux_wv _ _ _ h1, ux_wv _ _ _ hx] at e1
   rw [uy_wv _ _ _ h2, uy_wv _ _ _ hy] at e2
   rw [← e1, ← e2]
   exact hm
 · intro hm
   exact ⟨_, hm, rfl⟩
theorem wv_up (d x y : Nat) : 4 * wv d (x / 2) (y / 2) + 2 * (x % 2) + y % 2 = wv (d + 1) x y := rfl
theorem qkx (x j : Nat) : x / 2 ^ j / 2 = x / 2 ^ (j + 1) := by rw [Nat.div_div_eq_div_mul, Nat.pow_succ]
theorem qen {n : Nat} (hn : n ≤ 64) (l : List (Nat × Nat)) (a : Option Addr) (q cap : Nat) (w : World) (hq : l.length = q) (hq9 : q ≤ 100000) (hl : ∀ p ∈ l, p.1 < n ∧ p.2 < n) (hat : qaa w 103 2 (.slice a q cap) q (prC l)) :
 Calls Tryz.prog 134 #[.int .i64 n, .slice a q cap] w (DgN (2 * qa1 n) (qiX (qa1 n) l) w) := by
 have hn4 : n ≤ 4096 := by omega
 have BI := fun W => qfe n W hn4
 have hb6 : qa1 n ≤ 6 := (qcz hn4).bd hn
 have hnb := (qcz hn4).le
 have MD := fun base aC cC W (ho : W.ownsRow base 3 1 (.slice aC q cC) q (gw (cdL (qa1 n) l))) => qkp (2 * qa1 n) (cdL (qa1 n) l) aC cC q base W (by omega) (by rw [qne, hq]) (by omega) (fun x hx => by
  obtain ⟨p, hp, rfl⟩ := List.mem_map.1 hx
  have := qo4 (qa1 n) p.1 p.2
  exact ⟨by omega, by omega⟩) ho
 rw [show qcH (2 * qa1 n) 0 ((cdL (qa1 n) l).map Int.toNat) = qiX (qa1 n) l from rfl] at MD
 have hpr := fun (k : Nat) (h : k < l.length) W (hW : qad w W) => qaa.pair (l := l.map ipr) (by rw [qnc]; exact hat.same hW) (k := k) (by simpa using h) (by simpa using hq)
 have hlk := fun (k : Nat) (h : k < l.length) => hl _ (List.getElem_mem h)
 have hct := fun (k : Nat) (h : k < l.length) => qo6 (b := qa1 n) h
 have hcl := fun (k : Nat) (h : k ≤ q) => show (cdL (qa1 n) (l.take k)).length = k by rw [qne, List.length_take]; omega
 have hfull : cdL (qa1 n) (l.take q) = cdL (qa1 n) l := by rw [← hq, List.take_length]
 have hwb : ∀ k x y, wv k x y < 2 ^ (2 * k) := qo4
 obtain ⟨m, hm⟩ : ∃ m, m = 2 * qa1 n := ⟨_, rfl⟩
 rw [← hm] at MD ⊢
 have hw : IntKind.i64.wrap (2 * ((qa1 n : Nat) : Int)) = (m : Int) := by rw [IntWalk.i64_in _ (by omega)]; omega
 have hw1 : IntKind.i64.wrap (((qa1 n : Nat) : Int) - 1) = ((qa1 n : Nat) : Int) - 1 := IntWalk.i64_in _ (by omega)
 generalize qa1 n = b at *
 obtain ⟨i3, hi3, hi3z, hi3s, hi3b⟩ := info_parts qc0
 have hL : l.length = q := hq
 replace BI := gi BI; replace MD := gi MD; replace hpr := gi hpr; replace hlk := gi hlk; replace hct := gi hct; replace hcl := gi hcl; replace hfull := gi hfull; replace hl := gi hl; replace hat := gi hat; replace hwb := gi hwb; replace hm := gi hm; replace hL := gi hL; replace hnb := gi hnb
 clear hq
 go_enter Tryz.func134, Tryz.ntmps134
 go_upto_region 1 with fail
 have kr := gv w (.cells #[.int .i64 0, .slice none 0 0, .int .i64 0] 46)
 have hs : qad w (w.alloc (.cells #[.int .i64 0, .slice none 0 0, .int .i64 0] 46)) := fs2
 have hlt := gu kr
 generalize w.alloc (.cells #[.int .i64 0, .slice none 0 0, .int .i64 0] 46) = W0 at *
 replace kr := gi kr; replace hs := gi hs
 go_wp2_with fail
 refine (BI.out _).mono ?_
 rintro e w1 ⟨rfl, hs1⟩
 replace kr := gi (hs1.at kr.out id)
 have hs1 := hs.out.same hs1
 have hw01 := hs1.size
 have hlt1 := gu kr.out
 replace hs1 := gi hs1
 go_wp2_with fail
 go_loopw [7, 16] (fun v i wr => ∃ (k c : Nat) (a : Option Addr), i = .int .i64 k ∧ k ≤ q ∧ v = .slice a k c ∧ wr.ownsRow w1.heap.size 3 1 (.slice a k c) k (gw (cdL b (l.take k))) ∧ qad w1 wr) (fun _ i _ => q - (intOf i).toNat)
 case atStart => exact ⟨0, 0, none, rfl, by omega, rfl, World.ownsRow_nil _ _ _ _, Fr.refl _ _⟩
 case round =>
  obtain ⟨k, c, ak, rfl, hk, rfl, ho, hs2⟩ := hrel
  by_cases hkn : k < q
  · have hkl : k < l.length := by rw [hL.out]; exact hkn
    obtain ⟨bb, off, rfl, hbl, z0, z1⟩ := hpr.out k hkl wr (hs1.out.same hs2)
    have hxy := hlk.out k hkl
    have hstp := hct.out k hkl
    have hln := hcl.out k hk
    simp only [List.getElem_map, ipr] at z0 z1
    generalize l[k] = p at *
    obtain ⟨x, y⟩ := p
    simp only at z0 z1 hxy hstp
    generalize cdL b (l.take k) = C at *
    have hwr := hs2.size
    have hx64 : x < 64 := by omega
    have hy64 : y < 64 := by omega
    obtain ⟨wo, rfl⟩ : ∃ wo, wo = wr := ⟨_, rfl⟩
    replace ho := gi ho; replace hs2 := gi hs2; replace hstp := gi hstp; replace hxy := gi hxy; replace hln := gi hln
    go_upto_region 6 with fail
    have kx := gv wo (.cells #[.int .i64 x, .int .i64 y] 103)
    have s2 : qad wo (wo.alloc (.cells #[.int .i64 x, .int .i64 y] 103)) := fs2
    have ho := qag ho.out s2
    have hs3 := hs2.out.same s2
    have hxo : ∀ i, (Value.slice ak k c).ownBlock = some i → i ≠ wo.heap.size := fun i hi => by have := (ho.lt _ hi).2; simp at this; intro e; subst e; obtain ⟨cur, hc⟩ := qaj ho hi; rw [kx] at hc; simp at hc
    have hwz : (wo.alloc (.cells #[.int .i64 x, .int .i64 y] 103)).heap.size = wo.heap.size + 1 := by simp
    generalize wo.alloc (.cells #[.int .i64 x, .int .i64 y] 103) = W2 at *
    generalize wo.heap.size = bx at *
    clear s2 z0 z1 hs2 hbl
    obtain ⟨c0, c1, cl⟩ := g2l kx
    replace kx := gi kx; replace ho := gi ho; replace hs3 := gi hs3; replace hxo := gi hxo
    go_wp2_with fail
    go_loopw [10, 11] (fun v i wr => ∃ (j : Nat) (iv : Int), i = .int .i64 iv ∧ iv = (j : Int) - 1 ∧ j ≤ b ∧ v = .int .i64 (wv (b - j) (x / 2 ^ j) (y / 2 ^ j) : Nat) ∧ qad W2 wr) (fun _ i _ => (intOf i + 1).toNat)
    case atStart => exact ⟨b, _, rfl, rfl, by omega, by simp [wv], Fr.refl _ _⟩
    case round =>
     obtain ⟨j, iv, rfl, hiv, hj, rfl, hsr⟩ := hrel
     by_cases hj0 : 0 < j
     · obtain ⟨i, rfl⟩ : ∃ i, j = i + 1 := ⟨j - 1, by omega⟩
       obtain rfl : iv = (i : Int) := by omega
       clear hiv
       have hi0 : (0 : Int) ≤ i := by omega
       have hmin : min i 64 = i := by omega
       have hbx : bits .and .i64 ((x : Int) / 2 ^ i) 1 = ((x / 2 ^ i % 2 : Nat) : Int) := by
        rw [show ((x : Int) / 2 ^ i) = ((x / 2 ^ i : Nat) : Int) by simp, and1g]
       have hby : bits .and .i64 ((y : Int) / 2 ^ i) 1 = ((y / 2 ^ i % 2 : Nat) : Int) := by
        rw [show ((y : Int) / 2 ^ i) = ((y / 2 ^ i : Nat) : Int) by simp, and1g]
       have hup := wv_up (b - (i + 1)) (x / 2 ^ i) (y / 2 ^ i)
       rw [qkx, qkx, show b - (i + 1) + 1 = b - i by omega] at hup
       have hb1 := hwb.out (b - (i + 1)) (x / 2 ^ (i + 1)) (y / 2 ^ (i + 1))
       have hb2 : 2 ^ (2 * (b - (i + 1))) ≤ 2 ^ 12 := Nat.pow_le_pow_right (by omega) (by omega)
       have hu2 : x / 2 ^ i % 2 < 2 := Nat.mod_lt _ (by omega)
       have hv2 : y / 2 ^ i % 2 < 2 := Nat.mod_lt _ (by omega)
       obtain ⟨V, hV⟩ : ∃ V, V = wv (b - i) (x / 2 ^ i) (y / 2 ^ i) := ⟨_, rfl⟩
       rw [← hV] at hup
       generalize wv (b - (i + 1)) (x / 2 ^ (i + 1)) (y / 2 ^ (i + 1)) = U at *
       generalize x / 2 ^ i % 2 = u at *
       generalize y / 2 ^ i % 2 = v at *
       have e1 : IntKind.i64.wrap (4 * (U : Int)) = 4 * (U : Int) := IntWalk.i64_in _ (by omega)
       have e2 : IntKind.i64.wrap (2 * (u : Int)) = 2 * (u : Int) := IntWalk.i64_in _ (by omega)
       have e3 : IntKind.i64.wrap (4 * (U : Int) + 2 * (u : Int)) = 4 * (U : Int) + 2 * (u : Int) := IntWalk.i64_in _ (by omega)
       have e4 : IntKind.i64.wrap (4 * (U : Int) + 2 * (u : Int) + (v : Int)) = (V : Int) := by rw [IntWalk.i64_in _ (by omega)]; omega
       have e5 : IntKind.i64.wrap ((i : Int) - 1) = (i : Int) - 1 := IntWalk.i64_in _ (by omega)
       have c0 : wr.cell? ⟨bx, 0, none⟩ = some (.int .i64 x) := gn (hsr.at kx.out id) 0
       have c1 : wr.cell? ⟨bx, 1, none⟩ = some (.int .i64 y) := gn (hsr.at kx.out id) 1
       have cl := gu (hsr.at kx.out id)
       have kx' := hsr.at kx.out id
       replace hsr := gi hsr; replace hup := gi hup; replace kx' := gi kx'; replace hV := gi hV
       go_upto_region 10 with fail
       refine qac (fun k => k = bx) [0, 0, 0, 1, 0, 0, 0, 0, 0, 0, 1, 0, 0, 0, 0, 0] [0, 1, 2, 4, 9, 11, 3, 5, 6, 7, 8, 10, 12, 13, 14, 15] (by kernel_rfl) (by kernel_rfl) ?_
       repeat ((first | refine gB rfl rfl fun _ k => ?_ | refine gC rfl rfl fun _ k => ?_); go_simp; (first | refine k _ ?_ | refine ⟨_, fun _ => rfl, k _ ?_⟩); clear k)
       refine gO (NoPanic.normal ?_)
       go_wp2_with fail
       go_roundw
       case rel => exact ⟨i, _, rfl, by first | rfl | omega, by omega, by rw [hV.out], hsr.out.same fs2⟩
       case measure => simp [intOf]
     · obtain rfl : j = 0 := by omega
       have hge : ((0 : Int) ≤ iv) = False := by simp; omega
       simp only [Nat.sub_zero, Nat.pow_zero, Nat.div_one]
       have ho3 := qag ho.out hsr
       have hs4 := hs3.out.same hsr
       have hwr4 := hs4.size
       replace ho3 := gi ho3; replace hs4 := gi hs4; replace hsr := gi hsr
       go_wp2_with (at_builtin; go_loud (refine qai rfl (.tmp 41) (.tmp 43) 33 rfl w1.heap.size 3 i3 (.int .i64 0) 1 8 Tryz.underlying33 hi3 hi3z hi3s hi3b rfl (by decide) (by decide) ak k c (gw C) rfl (qag ho3.out fs2) (by omega) wr.heap.size [.int .i64 (wv b x y : Nat)] rfl rfl (gv _ _) (by simp [Value.oneCell']) (by simp; omega) ?_; intro a5 c5 w5 ho5 hG5))
       have hs5 : qad w1 w5 := qas (hs4.out.same fs2) hG5 (fun k hk => (ho3.out.lt k hk).1)
       have ho5' : w5.ownsRow w1.heap.size 3 1 (.slice a5 (k + 1) c5) (k + 1) (gw (cdL b (l.take (k + 1)))) := by
        rw [hstp.out]; have := ho5; simpa [gw] using this
       clear ho5 hG5
       go_roundw
       case rel => exact ⟨k + 1, c5, a5, by go_num, by omega, rfl, ho5', hs5⟩
       case measure => simp [intOf]; omega
  · obtain rfl : k = q := by omega
    rw [hfull.out] at ho
    replace kr := gi (hs2.at kr.out id)
    have hs3 := hs1.out.same hs2
    replace ho := gi ho; replace hs3 := gi hs3
    go_wp2_with fail
    refine (MD.out _ _ _ _ ho.out).mono ?_
    intro e w5 hM
    obtain ⟨d, rfl, hd, ht, hF⟩ := hM
    have kr5 := hF.at kr.out (fun hk => by have := (ho.out.lt _ hk).1; omega)
    have hs5 : qad w w5 := hs3.out.trans hF (fun i hi hk => by have := (ho.out.lt _ hk).1; omega)
    replace hd := gi hd; replace ht := gi ht; replace kr5 := gi kr5; replace hs5 := gi hs5
    clear hF
    obtain ⟨x0, x1, x2, z0, z1, z2, xl⟩ := qar kr5.out
    go_wp2_with fail
    obtain ⟨d0, d1, d2, hdF, hsF⟩ := qaI hs5.out (Nat.le_refl _) hd.out kr5.out
    refine bodyPost_ret (v := .tuple #[.agg #[.int .i64 d.n, .slice d.a d.L.length d.cap, .int .i64 d.r], .int .i64 0]) (by simp [results, Tryz.results134, go_sem, d0, d1, d2]) rfl ?_
    exact ⟨d, rfl, hdF, ht.out, hsF⟩
end Go.Proofs.YticcpnekjddanaaGreatDoor
