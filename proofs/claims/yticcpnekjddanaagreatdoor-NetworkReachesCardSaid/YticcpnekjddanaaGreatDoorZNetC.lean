/-  -/
import Derived.Test.YticcpnekjddanaaGreatDoorZBigT
import Derived.Test.YticcpnekjddanaaGreatDoorZRelF
set_option maxRecDepth 100000
set_option maxHeartbeats 4000000
set_option linter.unusedVariables false
set_option linter.unusedSimpArgs false
namespace Go.Proofs.YticcpnekjddanaaGreatDoor
open Go.RowKit
theorem qnf {n : Nat} {t u : List Bool} (ht : t.length = 2 ^ n) (hu : u.length = 2 ^ n) (ρ : Nat → Bool) : evT n (qbE t u (fls n)) ρ = (evT n t ρ && evT n u ρ) := by
 unfold evT
 rw [qee ht hu (qbZ n) (qbk ρ n 0), flsG]
 cases t.getD (qam ρ n 0) false <;> simp
def imT (b s : Nat) (r f : List Bool) : List Bool := tbF b (fun y => (List.range (2 ^ b)).any fun x => r.getD (if s = 0 then wv b x y else wv b y x) false && f.getD x false)
def qng (b s : Nat) : List Nat := (List.range b).map fun i => 2 * i + s
theorem qfV {b s v : Nat} (hs : s < 2) : v ∈ qng b s ↔ v % 2 = s ∧ v / 2 < b := by
 unfold qng
 simp only [List.mem_map, List.mem_range]
 constructor
 · rintro ⟨i, hi, rfl⟩
   omega
 · rintro ⟨h1, h2⟩
   exact ⟨v / 2, h2, by omega⟩
theorem qo8 {b s : Nat} (hs : s < 2) {r f : List Bool} (hr : r.length = 2 ^ (2 * b)) (hf : f.length = 2 ^ b) :
 qcw (qOp false) (2 * b) (qng b s) (qbE r (qhc (fun i => ((2 * i + s : Nat) : Int)) b (2 * b) f) (fls (2 * b))) = qhc (fun i => ((2 * i + (1 - s) : Nat) : Int)) b (2 * b) (imT b s r f) := by
 refine qjz (qd7 _ _ _ _ (qbG hr (qbB _ _ _ _) (qbZ _))) (qbB _ _ _ _) (fun ρ => ?_)
 rw [Bool.eq_iff_iff, qqh _ _ _ (fun u hu => by have := (qfV hs).1 hu; omega), qfT (fun v hv => by simp only [Int.toNat_natCast]; omega)]
 simp only [Int.toNat_natCast]
 rw [show imT b s r f = tbF b _ from rfl, qkt]
 simp only [List.any_eq_true, List.mem_range, Bool.and_eq_true]
 constructor
 · rintro ⟨σ, h1, h2⟩
   rw [qnf hr (qbB _ _ _ _), qfT (fun v hv => by simp only [Int.toNat_natCast]; omega), Bool.and_eq_true] at h2
   simp only [Int.toNat_natCast] at h2
   refine ⟨qam (fun k => σ (2 * k + s)) b 0, qbk _ _ _, ?_, h2.2⟩
   have h3 := h2.1
   unfold evT at h3
   rw [qem] at h3
   have e : qam (fun v => ρ (2 * v + (1 - s))) b 0 = qam (fun v => σ (2 * v + (1 - s))) b 0 :=
    qaZ b (fun v hv => (h1 _ (fun hm => by have := (qfV hs).1 hm; omega)).symm)
   rw [e]
   rcases (show s = 0 ∨ s = 1 by omega) with rfl | rfl
   · rw [if_pos rfl]; exact h3
   · rw [if_neg (by omega)]; exact h3
 · rintro ⟨x, hx, h1, h2⟩
   refine ⟨fun v => if v % 2 = s ∧ v / 2 < b then qaY b x (v / 2) else ρ v, fun v hv => if_neg (fun h => hv ((qfV hs).2 h)), ?_⟩
   rw [qnf hr (qbB _ _ _ _), qfT (fun v hv => by simp only [Int.toNat_natCast]; omega), Bool.and_eq_true]
   simp only [Int.toNat_natCast]
   have e1 : qam (fun k => if (2 * k + s) % 2 = s ∧ (2 * k + s) / 2 < b then qaY b x ((2 * k + s) / 2) else ρ (2 * k + s)) b 0 = x := by
    conv => rhs; rw [← qb9 hx]
    refine qaZ b (fun v hv => ?_)
    rw [if_pos (by omega), show (2 * v + s) / 2 = v by omega]
   have e2 : qam (fun k => if (2 * k + (1 - s)) % 2 = s ∧ (2 * k + (1 - s)) / 2 < b then qaY b x ((2 * k + (1 - s)) / 2) else ρ (2 * k + (1 - s))) b 0 = qam (fun v => ρ (2 * v + (1 - s))) b 0 :=
    qaZ b (fun v hv => if_neg (by omega))
   refine ⟨?_, ?_⟩
   · unfold evT
     rw [qem]
     rcases (show s = 0 ∨ s = 1 by omega) with rfl | rfl
     · rw [if_pos rfl] at h1
       simp only [Nat.add_zero, Nat.sub_zero] at e1 e2 h1
       rw [e1, e2]; exact h1
     · rw [if_neg (by omega)] at h1
       simp only [Nat.sub_self, Nat.add_zero] at e1 e2 h1
       rw [e1, e2]; exact h1
   · unfold evT
     rw [e1]; exact h2
theorem qlv {f : Nat → Int} {n m : Nat} {t L' : _} {r : Int} (hu : Up f n m) (hm : m ≤ 40) (hn : n ≤ 12) (ht : t.length = 2 ^ n) (hT : qbN m (qhc f n m t) L' r) {g : Int → Int} (hg : ∀ v : Nat, v < n → g (f v) = v) :
 qbN n t (L'.map fun x => (g x.1, x.2.1, x.2.2)) r := by
 have T0 := qbN.of hn ht
 have T1 := qjp T0 hu hm
 have e := hT.eq.symm.trans T1.eq
 obtain ⟨e1, e2⟩ := Prod.mk.inj e
 subst e1 e2
 have hO := T0.ord.1
 have : (qdE f (qal n [] 0 t).1).map (fun x => (g x.1, x.2.1, x.2.2)) = (qal n [] 0 t).1 := by
  unfold qdE
  rw [List.map_map]
  conv => rhs; rw [← List.map_id (qal n [] 0 t).1]
  refine List.map_congr_left (fun x hx => ?_)
  have hv := hO.var x hx
  have hp : 0 ≤ x.1 := by
   obtain ⟨i, hi, rfl⟩ := List.mem_iff_getElem.1 hx
   exact (hO.val i _ (List.getElem?_eq_getElem hi)).1
  have := hg x.1.toNat (by omega)
  simp only [Function.comp, id]
  rw [this]
  obtain ⟨a, b, c⟩ := x
  simp only at hp ⊢
  rw [show ((a.toNat : Nat) : Int) = a by omega]
 rw [this]
 exact T0
theorem qnh (v : Nat) (W : World) (hv : v < 100) : Calls Tryz.prog 127 #[.int .i64 v] W fun e W' => e = .returned (.int .i64 ((v : Int) / 2)) ∧ qad W W' := by
 have h1 : ((v : Nat) : Int).tdiv 2 = (v : Int) / 2 := Int.tdiv_eq_ediv_of_nonneg (by omega)
 have h2 : IntKind.i64.wrap ((v : Int) / 2) = (v : Int) / 2 := IntWalk.i64_in _ (by omega)
 go_enter Tryz.func127, Tryz.ntmps127
 go_wp2_with fail
 go_ret
 exact ⟨by first | rfl | rw [h1], fs2⟩
theorem qjC (args : Array Value) (W : World) : (callFunc 127 args).run Tryz.prog W = .ok (.enter 127 args) W := by kernel_rfl
def gaL (g : Int → Int) (L : List Nd) : List Nd := L.map fun x => (g x.1, x.2.1, x.2.2)
theorem qo9 (g : Int → Int) {L : List Nd} {k : Nat} (h : k < L.length) : gaL g (L.take (k + 1)) = gaL g (L.take k) ++ [(g L[k].1, L[k].2.1, L[k].2.2)] := by
 unfold gaL
 rw [List.take_succ_eq_append_getElem h, List.map_append]; rfl
theorem gaL_len (g : Int → Int) (L : List Nd) (k : Nat) (h : k ≤ L.length) : (gaL g (L.take k)).length = k := by simp [gaL]; omega
structure qni (w : World) (m r : Int) (base br bg k : Nat) (a : Option Addr) (c : Nat) (N : List Nd) (W : World) : Prop where
 bx : W.heap[bg]? = some (.cells #[.int .i64 m, .slice a k c, .int .i64 r] 46 (0, 0))
 own : W.ownsRow base 132 3 (.slice a k c) k (qap N)
 same : qad w W
 res : W.heap[br]? = some (.cells #[.int .i64 0, .slice none 0 0, .int .i64 0] 46 (0, 0))
theorem qni.sm {w : World} {m r : Int} {base br bg k : Nat} {a : Option Addr} {c : Nat} {N : List Nd} {W W' : World} (h : qni w m r base br bg k a c N W) (hs : qad W W') : qni w m r base br bg k a c N W' := ⟨hs.at h.bx id, qag h.own hs, h.same.same hs, hs.at h.res id⟩
theorem qni.fresh {w : World} {m r : Int} {base br bg k : Nat} {a : Option Addr} {c : Nat} {N : List Nd} {W W' : World} {b : Nat} (h : qni w m r base br bg k a c N W) (hf : Fr (fun i => i = b) W W') (h1 : bg ≠ b) (h0 : br ≠ b) (h2 : w.heap.size ≤ b) (h3 : ∀ i, (Value.slice a k c).ownBlock = some i → i ≠ b) : qni w m r base br bg k a c N W' :=
 ⟨hf.at h.bx h1, qaN h.own hf h3, h.same.trans hf (fun i hi e => by have : i = b := e; omega), hf.at h.res h0⟩
theorem qni.push {w : World} {m r : Int} {base br bg k : Nat} {a a5 : Option Addr} {c c5 : Nat} {N : List Nd} {W W1 w5 : World} {x : Nd} (h : qni w m r base br bg k a c N W) (hW : qad W W1) (hbg : bg < base) (hbr : br < base) (hne : br ≠ bg) (hwg : w.heap.size ≤ bg)
 (ho5 : w5.ownsRow base 132 3 (.slice a5 (k + 1) c5) (k + 1) (qap N ++ [.int .i64 x.1, .int .i64 x.2.1, .int .i64 x.2.2])) (hG : qaK (fun _ => False) W1 w5 (.slice a k c) (.slice a5 (k + 1) c5)) :
 w5.heap[bg]? = some (.cells #[.int .i64 m, .slice a k c, .int .i64 r] 46 (0, 0)) ∧ qni w m r base br bg (k + 1) a5 c5 (N ++ [x]) (w5.setCell ⟨bg, 1, none⟩ (.slice a5 (k + 1) c5)) := by
 have h1 := h.sm hW
 have b5 := hG.1.at h1.bx (by
  rintro (hh | hh)
  · have := (h1.own.lt _ hh).1; omega
  · exact hh)
 have r5 := hG.1.at h1.res (by
  rintro (hh | hh)
  · have := (h1.own.lt _ hh).1; omega
  · exact hh)
 have hS : Fr (fun i => i = bg) w5 (w5.setCell ⟨bg, 1, none⟩ (.slice a5 (k + 1) c5)) := (Fr.refl _ _).setCell _ _ (fun _ => rfl)
 refine ⟨b5, ⟨by rw [qaf b5]; rfl, ?_, ?_, hS.at r5 hne⟩⟩
 · rw [qbu]
   exact qaN ho5 hS (fun i hi e => by have := (ho5.lt _ hi).1; have : i = bg := e; omega)
 · have h5 : qad w w5 := qas h1.same hG (fun i hi => by have := (h1.own.lt _ hi).1; omega)
   exact h5.trans hS (fun i hi e => by have : i = bg := e; omega)
theorem qil (d : Dg) (m : Int) (F : FuncId) (cs : Array Value) (g : Int → Int) (w : World) (hd : d.at w) (hlen : d.L.length ≤ 100000) (hv : ∀ x ∈ d.L, 0 ≤ x.1 ∧ x.1 < 100)
 (ent : ∀ (args : Array Value) (W : World), (callFunc F args).run Tryz.prog W = .ok (.enter F args) W) (HC : ∀ (v : Nat) (W : World), v < 100 → Calls Tryz.prog F (#[.int .i64 v] ++ cs) W fun e W' => e = .returned (.int .i64 (g v)) ∧ qad W W') :
 Calls Tryz.prog 126 #[.agg #[.int .i64 d.n, .slice d.a d.L.length d.cap, .int .i64 d.r], .int .i64 m, .func (.func F) #[] cs] w fun e w' =>
  ∃ a c, e = .returned (.agg #[.int .i64 m, .slice a d.L.length c, .int .i64 d.r]) ∧ qaa w' 132 3 (.slice a d.L.length c) d.L.length (qap (gaL g d.L)) ∧ qad w w' := by
 unfold Dg.at at hd
 generalize d.n = dn at *
 generalize d.L = L at *
 generalize d.r = r at *
 generalize d.a = a at *
 generalize d.cap = cap at *
 obtain ⟨i0, hy, hy0, hy1, hy2⟩ := info_parts qfx
 obtain ⟨q, hq⟩ : ∃ q, q = L.length := ⟨_, rfl⟩
 have hgl := gaL_len g L
 have hgt := fun (k : Nat) (h : k < L.length) => qo9 g h
 have hnd := fun (k : Nat) (h : k < L.length) (W : World) (hW : qad w W) => (hd.same hW).node h
 have hvk := fun (k : Nat) (h : k < L.length) => hv _ (List.getElem_mem h)
 have hfull : gaL g (L.take q) = gaL g L := by rw [hq, List.take_length]
 rw [← hq] at hlen hgl ⊢
 rw [← hq] at hd
 replace hd := gi hd; replace hgl := gi hgl; replace hgt := gi hgt; replace hnd := gi hnd; replace hv := gi hv; replace hvk := gi hvk; replace HC := gi HC; replace hfull := gi hfull; replace hq := gi hq
 go_enter Tryz.func126, Tryz.ntmps126
 go_upto_region 1 with fail
 have kf := qab (gv w (.cells #[.int .i64 dn, .slice a q cap, .int .i64 r] 46)) (.cells #[.int .i64 0, .slice none 0 0, .int .i64 0] 46)
 have kr := gv (w.alloc (.cells #[.int .i64 dn, .slice a q cap, .int .i64 r] 46)) (.cells #[.int .i64 0, .slice none 0 0, .int .i64 0] 46)
 have hs : qad w ((w.alloc (.cells #[.int .i64 dn, .slice a q cap, .int .i64 r] 46)).alloc (.cells #[.int .i64 0, .slice none 0 0, .int .i64 0] 46)) := fs2
 have hz : (w.alloc (.cells #[.int .i64 dn, .slice a q cap, .int .i64 r] 46)).heap.size = w.heap.size + 1 := by simp
 rw [hz] at kr
 generalize (w.alloc (.cells #[.int .i64 dn, .slice a q cap, .int .i64 r] 46)).alloc (.cells #[.int .i64 0, .slice none 0 0, .int .i64 0] 46) = W0 at *
 have hrl := gu kr
 replace kf := gi kf; replace kr := gi kr; replace hs := gi hs
 obtain ⟨x0, x1, x2, xl⟩ := g3l kf.out
 go_upto_region 2 with fail
 have kg := gv W0 (.cells #[.int .i64 m, .slice none 0 0, .int .i64 r] 46)
 have s1 : qad W0 (W0.alloc (.cells #[.int .i64 m, .slice none 0 0, .int .i64 r] 46)) := fs2
 replace kf := gi (s1.at kf.out id); replace kr := gi (s1.at kr.out id)
 have hs1 := hs.out.same s1
 clear x0 x1 x2 xl
 have hz1 : (W0.alloc (.cells #[.int .i64 m, .slice none 0 0, .int .i64 r] 46)).heap.size = W0.heap.size + 1 := by simp
 generalize W0.alloc (.cells #[.int .i64 m, .slice none 0 0, .int .i64 r] 46) = W1 at *
 generalize W0.heap.size = bg at *
 clear s1
 have hws := hs1.size
 have hG0 : qni w m r W1.heap.size (w.heap.size + 1) bg 0 none 0 [] W1 := ⟨kg, World.ownsRow_nil _ _ _ _, hs1, kr.out⟩
 replace kg := gi kg; replace hs1 := gi hs1; replace hG0 := gi hG0
 obtain ⟨x0, x1, x2, xl⟩ := g3l kf.out
 go_wp2_with fail
 go_loopw [17] (fun i wr => ∃ (k c : Nat) (ag : Option Addr), i = .int .i64 k ∧ k ≤ q ∧ qni w m r W1.heap.size (w.heap.size + 1) bg k ag c (gaL g (L.take k)) wr) (fun i _ => q - (intOf i).toNat)
 case atStart => exact ⟨0, 0, none, rfl, by omega, hG0.out⟩
 case round =>
  obtain ⟨k, c, ag, rfl, hkq, hG⟩ := hrel
  by_cases hlt : k < q
  · have hkL : k < L.length := by rw [← hq.out]; exact hlt
    obtain ⟨b, off, ha, hbl, z0, z1, z2⟩ := hnd.out k hkL wr hG.same
    have hv1 := hvk.out k hkL
    have hst := hgt.out k hkL
    have hln := hgl.out k hkq
    generalize L[k] = x at *
    obtain ⟨xv, xl, xh⟩ := x
    simp only at z0 z1 z2 hv1 hst
    subst ha
    obtain ⟨v, rfl⟩ : ∃ v : Nat, xv = v := ⟨xv.toNat, by omega⟩
    have hv100 : v < 100 := by omega
    generalize gaL g (L.take k) = N at *
    clear hv1
    have hwr := hG.same.size
    replace hG := gi hG; replace hst := gi hst; replace hln := gi hln
    go_upto_region 5 with fail
    have kx := gv wr (.cells #[.int .i64 v, .int .i64 xl, .int .i64 xh] 132)
    have s2 : qad wr (wr.alloc (.cells #[.int .i64 v, .int .i64 xl, .int .i64 xh] 132)) := fs2
    have hG2 := hG.out.sm s2
    have hxo : ∀ i, (Value.slice ag k c).ownBlock = some i → i ≠ wr.heap.size := fun i hi => by have := (hG.out.own.lt _ hi).2; omega
    have hxg : bg ≠ wr.heap.size := by have := gu hG.out.bx; omega
    have hxr : w.heap.size + 1 ≠ wr.heap.size := by have := gu hG.out.res; omega
    generalize wr.alloc (.cells #[.int .i64 v, .int .i64 xl, .int .i64 xh] 132) = W2 at *
    generalize wr.heap.size = bx at *
    clear s2 z0 z1 z2 hG
    replace kx := gi kx; replace hG2 := gi hG2; replace hxo := gi hxo
    obtain ⟨u0, u1, u2, ul⟩ := g3l kx.out
    go_wp2_with fail
    refine (HC.out v _ hv100).mono ?_
    rintro e w3 ⟨rfl, s3⟩
    clear u0 u1 u2 ul
    replace kx := gi (s3.at kx.out id)
    have hG3 := hG2.out.sm s3
    clear hG2 s3
    replace hG3 := gi hG3
    obtain ⟨u0, u1, u2, ul⟩ := g3l kx.out
    have xf := qak kx.out 0
    go_upto_region 6 with fail
    have k6 : (w3.setCell ⟨bx, 0, none⟩ (.int .i64 (g v))).heap[bx]? = some (.cells #[.int .i64 (g v), .int .i64 xl, .int .i64 xh] 132 (0, 0)) := by have := qaf (u := .int .i64 (g v)) kx.out 0; simpa using this
    have hG6 := hG3.out.fresh (W' := w3.setCell ⟨bx, 0, none⟩ (.int .i64 (g v))) ((Fr.refl _ _).setCell _ _ (fun _ => rfl)) hxg hxr (by omega) hxo.out
    clear u0 u1 u2 ul
    clear xf kx hG3 hxo hxg hxr
    generalize w3.setCell ⟨bx, 0, none⟩ (.int .i64 (g v)) = W4 at *
    have kg6 := gi hG6.bx
    have hg1 : W1.heap.size ≤ W4.heap.size ∨ True := .inr trivial
    clear hg1
    have gf := qak kg6.out 1
    replace k6 := gi k6; replace hG6 := gi hG6
    obtain ⟨u0, u1, u2, ul⟩ := g3l k6.out
    obtain ⟨y0, y1, y2, yl⟩ := g3l kg6.out
    go_upto_region 7 with (at_builtin; go_loud (refine qai rfl (.tmp 27) (.tmp 29) 44 rfl W1.heap.size 132 i0 (.agg #[.int .i64 0, .int .i64 0, .int .i64 0]) 3 24 Tryz.underlying44 hy hy0 hy1 hy2 rfl (by decide) (by decide) ag k c (qap N) rfl (qag hG6.out.own fs2) (by omega) W4.heap.size [.int .i64 (g v), .int .i64 xl, .int .i64 xh] rfl rfl (gv _ _) (by simp [Value.oneCell']) (by simp; omega) ?_; intro a5 c5 w5 ho5 hG5; have P := hG6.out.push (x := (g v, xl, xh)) fs2 (by omega) (by omega) (by omega) (by omega) ho5 hG5; have q0 := gn P.1 1; have q1 := qak P.1 1; have P := P.2; replace P := gi P; clear ho5 hG5))
    all_goals
     generalize w5.setCell ⟨bg, 1, none⟩ (.slice a5 (k + 1) c5) = W6 at *
     clear q0 q1 gf
     clear u0 u1 u2 ul
     clear y0 y1 y2 yl
     go_wp2_with fail
     go_roundw
     case rel => exact ⟨k + 1, c5, a5, by go_num, by omega, by rw [hst.out]; exact P.out⟩
     case measure => simp [intOf]; omega
  · obtain rfl : k = q := by omega
    rw [hfull.out] at hG
    have kg := gi hG.bx
    have kr := gi hG.res
    replace hG := gi hG
    obtain ⟨y0, y1, y2, yl⟩ := g3l kg.out
    obtain ⟨x0, x1, x2, z0, z1, z2, xl⟩ := qar kr.out
    go_wp2_with fail
    obtain ⟨k9, f9⟩ := qcA (u0 := .int .i64 m) (u1 := .slice ag k c) (u2 := .int .i64 r) kr.out
    obtain ⟨d0, d1, d2⟩ := g3 k9
    have hS := qaa.fr (qaa.of_owns hG.out.own) f9 (fun i cur hk' e => by
     rw [show i = w.heap.size + 1 from e, kr.out] at hk'
     simp at hk')
    have hF := hG.out.same.trans f9 (fun i hi e => by have : i = w.heap.size + 1 := e; omega)
    refine bodyPost_ret (v := .agg #[.int .i64 m, .slice ag k c, .int .i64 r]) (by simp [results, Tryz.results126, go_sem, d0, d1, d2]) rfl ?_
    exact ⟨ag, c, rfl, hS, hF⟩
theorem qnj {n m : Nat} (hn : n ≤ 12) (hm : m ≤ 40) {d : Dg} {t : List Bool} {w : World} {f : Nat → Int} (hu : Up f n m) (ht : t.length = 2 ^ n) (hd : d.at w) (T : d.tab m (qhc f n m t)) (F : FuncId) (cs : Array Value) (g : Int → Int) (hg : ∀ v : Nat, v < n → g (f v) = v)
 (ent : ∀ (args : Array Value) (W : World), (callFunc F args).run Tryz.prog W = .ok (.enter F args) W) (HC : ∀ (v : Nat) (W : World), v < 100 → Calls Tryz.prog F (#[.int .i64 v] ++ cs) W fun e W' => e = .returned (.int .i64 (g v)) ∧ qad W W') :
 Calls Tryz.prog 126 #[d.v, .int .i64 n, .func (.func F) #[] cs] w fun e w' => ∃ d' : Dg, e = .returned d'.v ∧ d'.at w' ∧ d'.tab n t ∧ qad w w' := by
 have hO := T.2.ord.1
 refine (qil d n F cs g w hd (by have := T.2.short; omega) (fun x hx => ?_) ent HC).mono ?_
 · obtain ⟨i, hi, rfl⟩ := List.mem_iff_getElem.1 hx
   have h1 := hO.val i _ (List.getElem?_eq_getElem hi)
   have h2 := hO.var _ (List.getElem_mem hi)
   exact ⟨h1.1, by omega⟩
 · rintro e w' ⟨a, c, rfl, h1, h2⟩
   have hl : (gaL g d.L).length = d.L.length := by simp [gaL]
   refine ⟨⟨n, a, c, gaL g d.L, d.r⟩, ?_, ?_, ⟨rfl, qlv hu hm hn ht T.2 hg⟩, h2⟩
   · simp [Dg.v, hl]
   · show qaa w' _ 3 (.slice a (gaL g d.L).length c) (gaL g d.L).length _
     rw [hl]; exact h1
theorem up2 {b s : Nat} (hs : s < 2) : Up (fun i => ((2 * i + s : Nat) : Int)) b ((2 * b : Nat) : Int) := by
 refine ⟨fun i hi => ?_, fun i j hij hj => ?_⟩ <;> (try simp only) <;> omega
theorem qpa {m b : Nat} (dr df : Dg) (t u : List Bool) (w : World) (hr : dr.at w) (hf : df.at w) (T : dr.tab m t) (U : df.tab b u) :
 Calls Tryz.prog 97 #[.agg #[.int .i64 dr.n, .slice dr.a dr.L.length dr.cap, .int .i64 dr.r], .agg #[.int .i64 df.n, .slice df.a df.L.length df.cap, .int .i64 df.r]] w
  fun e w' => e = .returned (.int .i64 (if m = 2 * b then 0 else 4)) ∧ qad w w' := by
 have C1 := fun W (hW : qad w W) => qbR dr m t W (qaa.same hr hW) T
 have C2 := fun W (hW : qad w W) => qbR df b u W (qaa.same hf hW) U
 simp only [Dg.v] at C1 C2
 have hb40 : b ≤ 40 := U.2.n40
 have hrn := T.1
 have hfn := U.1
 rw [hrn] at C1 ⊢
 rw [hfn] at C2 ⊢
 generalize dr.a = ra at *
 generalize dr.cap = rc at *
 generalize dr.r = rr at *
 generalize dr.L.length = rq at *
 generalize df.a = fa at *
 generalize df.cap = fc at *
 generalize df.r = fr at *
 generalize df.L.length = fq at *
 have hw : IntKind.i64.wrap (2 * (b : Int)) = 2 * (b : Int) := IntWalk.i64_in _ (by omega)
 obtain ⟨E, hE⟩ : ∃ E : Int, E = if m = 2 * b then 0 else 4 := ⟨_, rfl⟩
 rw [← hE]
 clear T U hr hf hrn hfn
 replace C1 := gi C1; replace C2 := gi C2; replace hE := gi hE
 go_enter Tryz.func97, Tryz.ntmps97
 go_upto_region 1 with fail
 have ka := qab (gv w (.cells #[.int .i64 m, .slice ra rq rc, .int .i64 rr] 46)) (.cells #[.int .i64 b, .slice fa fq fc, .int .i64 fr] 46)
 have kb := gv (w.alloc (.cells #[.int .i64 m, .slice ra rq rc, .int .i64 rr] 46)) (.cells #[.int .i64 b, .slice fa fq fc, .int .i64 fr] 46)
 have hs : qad w ((w.alloc (.cells #[.int .i64 m, .slice ra rq rc, .int .i64 rr] 46)).alloc (.cells #[.int .i64 b, .slice fa fq fc, .int .i64 fr] 46)) := fs2
 have hz1 : (w.alloc (.cells #[.int .i64 m, .slice ra rq rc, .int .i64 rr] 46)).heap.size = w.heap.size + 1 := by simp
 rw [hz1] at kb
 generalize (w.alloc (.cells #[.int .i64 m, .slice ra rq rc, .int .i64 rr] 46)).alloc (.cells #[.int .i64 b, .slice fa fq fc, .int .i64 fr] 46) = W0 at *
 clear hz1
 replace ka := gi ka; replace kb := gi kb; replace hs := gi hs
 obtain ⟨x0, x1, x2, xl⟩ := g3l ka.out
 go_wp2_with fail
 refine (C1.out _ hs.out).mono ?_
 rintro e w1 ⟨rfl, s1⟩
 clear x0 x1 x2 xl
 replace ka := gi (s1.at ka.out id); replace kb := gi (s1.at kb.out id)
 have hs1 := hs.out.same s1
 replace hs1 := gi hs1
 obtain ⟨y0, y1, y2, yl⟩ := g3l kb.out
 go_wp2_with fail
 refine (C2.out _ hs1.out).mono ?_
 rintro e w2 ⟨rfl, s2⟩
 clear y0 y1 y2 yl
 replace ka := gi (s2.at ka.out id); replace kb := gi (s2.at kb.out id)
 have hs2 := hs1.out.same s2
 replace hs2 := gi hs2
 obtain ⟨x0, x1, x2, xl⟩ := g3l ka.out
 obtain ⟨y0, y1, y2, yl⟩ := g3l kb.out
 by_cases hmb : m = 2 * b
 · obtain rfl : E = 0 := by rw [hE.out, if_pos hmb]
   have e1 : ((m : Int) == 2 * (b : Int)) = true := by simp; omega
   replace hmb := gi hmb
   go_wp2_with fail
   go_ret
   exact ⟨rfl, hs2.out.same fs2⟩
 · obtain rfl : E = 4 := by rw [hE.out, if_neg hmb]
   have e1 : ((m : Int) == 2 * (b : Int)) = false := by simp; omega
   replace hmb := gi hmb
   go_wp2_with fail
   go_ret
   exact ⟨rfl, hs2.out.same fs2⟩
def DgE (E : Int) (n : Nat) (t : List Bool) (w : World) (e : Ending) (w' : World) : Prop := (E ≠ 0 ∧ DErr w E e w') ∨ (E = 0 ∧ DgN n t w e w')
def inR (n : Nat) (p : Int × Int) : Prop := (0 ≤ p.1 ∧ p.1 < n) ∧ 0 ≤ p.2 ∧ p.2 < n
instance inRdec (n : Nat) (p : Int × Int) : Decidable (inR n p) := by unfold inR; exact inferInstance
def idL (n : Nat) : List (Nat × Nat) := (List.range n).map fun i => (i, i)
theorem qpb (n : Nat) : idL (n + 1) = idL n ++ [(n, n)] := by simp [idL, List.range_succ]
theorem idL_len (n : Nat) : (idL n).length = n := by simp [idL]
theorem qim {n : Nat} (hn : n ≤ 64) (w : World) : Calls Tryz.prog 118 #[.int .i64 n] w (DgN (2 * qa1 n) (qiX (qa1 n) (idL n)) w) := by
 have hn4 : n ≤ 4096 := by omega
 have CC := fun W => qoY hn4 W
 have FP := fun a cap W (h : qaa W 103 2 (.slice a n cap) n (prC (idL n))) => qen hn (idL n) a n cap W (idL_len n) (by omega) (fun p hp => by
  obtain ⟨i, hi, rfl⟩ := List.mem_map.1 hp
  have := List.mem_range.1 hi
  exact ⟨this, this⟩) h
 generalize qiX (qa1 n) (idL n) = R at *
 generalize 2 * qa1 n = m at *
 obtain ⟨i3, hi3, hi3z, hi3s, hi3b⟩ := info_parts infoP
 replace CC := gi CC; replace FP := gi FP
 go_enter Tryz.func118, Tryz.ntmps118
 go_upto_region 1 with fail
 have kr := gv w (.cells #[.int .i64 0, .slice none 0 0, .int .i64 0] 46)
 have hs : qad w (w.alloc (.cells #[.int .i64 0, .slice none 0 0, .int .i64 0] 46)) := fs2
 have hlt := gu kr
 generalize w.alloc (.cells #[.int .i64 0, .slice none 0 0, .int .i64 0] 46) = W0 at *
 replace kr := gi kr; replace hs := gi hs
 go_wp2_with fail
 refine (CC.out _).mono ?_
 rintro e w1 ⟨rfl, rfl⟩
 go_wp2_with fail
 go_loopw [5, 14] (fun v i wr => ∃ (k c : Nat) (a : Option Addr), i = .int .i64 k ∧ k ≤ n ∧ v = .slice a k c ∧ wr.ownsRow w1.heap.size 103 2 (.slice a k c) k (prC (idL k)) ∧ qad w1 wr) (fun _ i _ => n - (intOf i).toNat)
 case atStart => exact ⟨0, 0, none, rfl, by omega, rfl, World.ownsRow_nil _ _ _ _, Fr.refl _ _⟩
 case round =>
  obtain ⟨k, c, a, rfl, hk, rfl, ho, hs1⟩ := hrel
  have hws := hs1.size
  have hst : prC (idL (k + 1)) = prC (idL k) ++ [.int .i64 (k : Nat), .int .i64 (k : Nat)] := by rw [qpb, qeM]; rfl
  by_cases hkn : k < n
  · replace ho := gi ho; replace hs1 := gi hs1; replace hst := gi hst
    go_wp2_with (at_builtin; refine qai rfl (.tmp 17) (.tmp 21) 188 rfl w1.heap.size 103 i3 (.agg #[.int .i64 0, .int .i64 0]) 2 16 Tryz.underlying188 hi3 hi3z hi3s hi3b rfl (by decide) (by decide) a k c (prC (idL k)) rfl (qag ho.out fs2) (by omega) wr.heap.size [.int .i64 (k : Nat), .int .i64 (k : Nat)] rfl rfl (gv _ _) (by simp [Value.oneCell']) (by simp; omega) ?_; intro a5 c5 w5 ho5 hG5)
    have hs5 : qad w1 w5 := qas (hs1.out.same fs2) hG5 (fun k hk => (ho.out.lt k hk).1)
    have ho5' : w5.ownsRow w1.heap.size 103 2 (.slice a5 (k + 1) c5) (k + 1) (prC (idL (k + 1))) := by
     rw [hst.out]; exact ho5
    clear ho5 hG5
    go_roundw
    case rel => exact ⟨k + 1, c5, a5, by go_num, by omega, rfl, ho5', hs5⟩
    case measure => simp [intOf]; omega
  · obtain rfl : k = n := by omega
    replace kr := gi (hs1.at kr.out id)
    have hR := qaa.of_owns ho
    have hs3 := hs.out.same hs1
    replace ho := gi ho; replace hs1 := gi hs1; replace hst := gi hst; replace hR := gi hR; replace hs3 := gi hs3
    go_wp2_with fail
    refine (FP.out _ _ _ hR.out).mono ?_
    rintro e w5 ⟨d, rfl, hd, ht, hF⟩
    have kr5 := hF.at kr.out id
    have hs5 := hs3.out.same hF
    replace hd := gi hd; replace ht := gi ht; replace kr5 := gi kr5; replace hs5 := gi hs5
    clear hF
    obtain ⟨x0, x1, x2, z0, z1, z2, xl⟩ := qar kr5.out
    go_wp2_with fail
    obtain ⟨d0, d1, d2, hdF, hsF⟩ := qaI hs5.out (Nat.le_refl _) hd.out kr5.out
    refine bodyPost_ret (v := .tuple #[.agg #[.int .i64 d.n, .slice d.a d.L.length d.cap, .int .i64 d.r], .int .i64 0]) (by simp [results, Tryz.results118, go_sem, d0, d1, d2]) rfl ?_
    exact ⟨d, rfl, hdF, ht.out, hsF⟩
def qcd (bs : Nat → Nat) : List Nat → Nat
 | [] => 0
 | j :: l => bs j + qcd bs l
def atB (bs : Nat → Nat) : List Nat → Nat → Nat
 | [], _ => 0
 | j :: l, i => if i = j then 0 else bs j + atB bs l i
theorem qdR (bs : Nat → Nat) : ∀ (l k : List Nat), qcd bs (l ++ k) = qcd bs l + qcd bs k
 | [], k => by simp [qcd]
 | j :: l, k => by rw [List.cons_append, qcd, qcd, qdR bs l k]; omega
theorem qnk (bs : Nat → Nat) (l : List Nat) {k : Nat} (h : k < l.length) : qcd bs (l.take (k + 1)) = qcd bs (l.take k) + bs l[k] := by
 rw [List.take_add_one, List.getElem?_eq_getElem h, qdR]
 simp [qcd]
theorem qky (bs : Nat → Nat) : ∀ (o : List Nat), o.Nodup → ∀ (k : Nat) (hk : k < o.length), atB bs o o[k] = qcd bs (o.take k)
 | [], _, k, hk => by simp at hk
 | j :: l, hn, 0, hk => by simp [atB, qcd]
 | j :: l, hn, k + 1, hk => by
  have hne : l[k]'(by simpa using hk) ≠ j := fun e => (List.nodup_cons.1 hn).1 (e ▸ List.getElem_mem _)
  rw [List.getElem_cons_succ, atB, if_neg hne, qky bs l (List.nodup_cons.1 hn).2 k (by simpa using hk), List.take_succ_cons, qcd]
theorem qqi (bs : Nat → Nat) : ∀ {o : List Nat} {i : Nat}, i ∈ o → atB bs o i + bs i ≤ qcd bs o
 | j :: l, i, h => by
  rw [atB, qcd]
  by_cases e : i = j
  · subst e; simp
  · rw [if_neg e]
    have := qqi bs (o := l) (i := i) (by rcases List.mem_cons.1 h with h | h; exact absurd h e; exact h)
    omega
theorem qqj (bs : Nat → Nat) : ∀ {o : List Nat} {i j : Nat}, i ∈ o → j ∈ o → i ≠ j → atB bs o i + bs i ≤ atB bs o j ∨ atB bs o j + bs j ≤ atB bs o i
 | x :: l, i, j, hi, hj, h => by
  rw [atB, atB]
  by_cases e : i = x
  · subst e
    rw [if_pos rfl, if_neg (fun e => h e.symm)]
    left; omega
  · by_cases e2 : j = x
    · subst e2
      rw [if_pos rfl, if_neg e]
      right; omega
    · rw [if_neg e, if_neg e2]
      have := qqj bs (o := l) (i := i) (j := j) (by rcases List.mem_cons.1 hi with hi | hi; exact absurd hi e; exact hi) (by rcases List.mem_cons.1 hj with hj | hj; exact absurd hj e2; exact hj) h
      omega
theorem qin (bs : Nat → Nat) : ∀ {o : List Nat}, o.Nodup → ∀ {v : Nat}, v < qcd bs o → ∃ i, i ∈ o ∧ atB bs o i ≤ v ∧ v < atB bs o i + bs i
 | [], _, v, h => by simp [qcd] at h
 | j :: l, hn, v, h => by
  rw [qcd] at h
  by_cases hv : v < bs j
  · exact ⟨j, List.mem_cons_self, by simp [atB], by simpa [atB] using hv⟩
  · obtain ⟨i, hi, h1, h2⟩ := qin bs (List.nodup_cons.1 hn).2 (v := v - bs j) (by omega)
    have hne : i ≠ j := fun e => (List.nodup_cons.1 hn).1 (e ▸ hi)
    exact ⟨i, List.mem_cons_of_mem _ hi, by rw [atB, if_neg hne]; omega, by rw [atB, if_neg hne]; omega⟩
def qb1 (bs at' : Nat → Nat) (m : Nat) (ρ : Nat → Bool) : List Nat := (List.range m).map fun i => qam ρ (bs i) (at' i)
theorem qcB (bs at' : Nat → Nat) (m : Nat) (ρ : Nat → Bool) : (qb1 bs at' m ρ).length = m := by simp [qb1]
theorem qch (bs at' : Nat → Nat) {m i : Nat} (ρ : Nat → Bool) (h : i < m) : (qb1 bs at' m ρ).getD i 0 = qam ρ (bs i) (at' i) := by simp [qb1, List.getD, h]
theorem qpc {ρ σ : Nat → Bool} {d v n : Nat} (h : ∀ u, u < n → ρ u = σ u) (hn : v + d ≤ n) : qam ρ d v = qam σ d v := qe1 (fun u hu => h u (by omega))
theorem qb2 (ρ : Nat → Bool) (a : Nat) : ∀ (d v : Nat), qam (fun u => ρ (a + u)) d v = qam ρ d (a + v)
 | 0, _ => rfl
 | d + 1, v => by rw [qam, qam, qb2 ρ a d (v + 1), Nat.add_assoc]
theorem qdl {bs at' : Nat → Nat} {m n : Nat} (hf : ∀ i, i < m → at' i + bs i ≤ n) {ρ σ : Nat → Bool} (h : ∀ u, u < n → ρ u = σ u) : qb1 bs at' m ρ = qb1 bs at' m σ :=
 List.map_congr_left (fun i hi => qpc h (hf i (List.mem_range.1 hi)))
def qfa (bs at' : Nat → Nat) (m n : Nat) (F : List Nat → Bool) : List Bool := tbF n fun k => F (qb1 bs at' m (qaY n k))
def qgq (bs at' : Nat → Nat) (m n : Nat) (F : List Nat → List Nat → Bool) : List Bool := tbF (2 * n) fun k => F (qb1 bs at' m (fun v => qaY (2 * n) k (2 * v))) (qb1 bs at' m fun v => qaY (2 * n) k (2 * v + 1))
theorem qfi (bs at' : Nat → Nat) (m n : Nat) (F : List Nat → Bool) : (qfa bs at' m n F).length = 2 ^ n := qbr _ _
theorem qdz (bs at' : Nat → Nat) (m n : Nat) (F : List Nat → List Nat → Bool) : (qgq bs at' m n F).length = 2 ^ (2 * n) := qbr _ _
theorem evT_tup {bs at' : Nat → Nat} {m n : Nat} (hf : ∀ i, i < m → at' i + bs i ≤ n) (F : List Nat → Bool) (ρ : Nat → Bool) : evT n (qfa bs at' m n F) ρ = F (qb1 bs at' m ρ) := by
 unfold qfa
 rw [qkt, qdl hf (fun u hu => qel hu)]
theorem qhk {bs at' : Nat → Nat} {m n : Nat} (hf : ∀ i, i < m → at' i + bs i ≤ n) (F : List Nat → List Nat → Bool) (ρ : Nat → Bool) : evT (2 * n) (qgq bs at' m n F) ρ = F (qb1 bs at' m fun v => ρ (2 * v)) (qb1 bs at' m fun v => ρ (2 * v + 1)) := by
 unfold qgq
 rw [qkt, qdl hf (ρ := fun v => qaY (2 * n) (qam ρ (2 * n) 0) (2 * v)) (σ := fun v => ρ (2 * v)) (fun u hu => qel (by omega)), qdl hf (ρ := fun v => qaY (2 * n) (qam ρ (2 * n) 0) (2 * v + 1)) (σ := fun v => ρ (2 * v + 1)) (fun u hu => qel (by omega))]
theorem qqk (n : Nat) (p q : Nat → Bool) : qbE (tbF n p) (tru n) (tbF n q) = tbF n (fun i => p i || q i) := by
 refine qb6 (qbG (qbr _ _) (qcq n) (qbr _ _)) (qbr _ _) (fun i hi => ?_)
 rw [qee (qbr _ _) (qcq n) (qbr _ _) hi, qbO _ _ hi, qbO _ _ hi, qbO _ _ hi, truG hi]
 cases p i <;> simp
theorem tbF_not (n : Nat) (p : Nat → Bool) : qbE (tbF n p) (fls n) (tru n) = tbF n (fun i => !p i) := by
 refine qb6 (qbG (qbr _ _) (qbZ n) (qcq _)) (qbr _ _) (fun i hi => ?_)
 rw [qee (qbr _ _) (qbZ n) (qcq _) hi, qbO _ _ hi, qbO _ _ hi, truG hi, flsG]
 cases p i <;> simp
theorem qhl (n : Nat) : fls n = tbF n (fun _ => false) := qb6 (qbZ n) (qbr _ _) (fun i hi => by rw [flsG, qbO _ _ hi])
theorem qnl (n : Nat) : tru n = tbF n (fun _ => true) := qb6 (qcq n) (qbr _ _) (fun i hi => by rw [truG hi, qbO _ _ hi])
theorem qnm (bs at' : Nat → Nat) (m n : Nat) (F G : List Nat → Bool) : qbE (qfa bs at' m n F) (qfa bs at' m n G) (fls n) = qfa bs at' m n (fun x => F x && G x) := qm6 _ _ _
theorem tup_or (bs at' : Nat → Nat) (m n : Nat) (F G : List Nat → Bool) : qbE (qfa bs at' m n F) (tru n) (qfa bs at' m n G) = qfa bs at' m n (fun x => F x || G x) := qqk _ _ _
theorem rel_and (bs at' : Nat → Nat) (m n : Nat) (F G : List Nat → List Nat → Bool) : qbE (qgq bs at' m n F) (qgq bs at' m n G) (fls (2 * n)) = qgq bs at' m n (fun x y => F x y && G x y) := qm6 _ _ _
theorem rel_or (bs at' : Nat → Nat) (m n : Nat) (F G : List Nat → List Nat → Bool) : qbE (qgq bs at' m n F) (tru (2 * n)) (qgq bs at' m n G) = qgq bs at' m n (fun x y => F x y || G x y) := qqk _ _ _
theorem qpd {b : Nat} (S : List Nat) (σ : Nat → Bool) : evT b (qcH b 0 S) σ = decide (qam σ b 0 ∈ S) := by
 unfold evT
 rw [qcS _ _ _ (qbk σ b 0), Nat.zero_add]
theorem qnn {bs at' : Nat → Nat} {m n i : Nat} (hf : ∀ i, i < m → at' i + bs i ≤ n) (hi : i < m) (S : List Nat) :
 qhc (fun k => ((at' i + k : Nat) : Int)) (bs i) n (qcH (bs i) 0 S) = qfa bs at' m n (fun x => decide (x.getD i 0 ∈ S)) := by
 have h1 := hf i hi
 refine qjz (qbB _ _ _ _) (qfi _ _ _ _ _) (fun ρ => ?_)
 rw [qfT (fun v hv => by simp only [Int.toNat_natCast]; omega), evT_tup hf, qpd, qch _ _ _ hi]
 simp only [Int.toNat_natCast]
 have e := qb2 ρ (at' i) (bs i) 0
 rw [Nat.add_zero] at e
 refine decide_eq_decide.2 ?_
 rw [e]
theorem relT_ev {b : Nat} {P : List (Nat × Nat)} (hP : ∀ p ∈ P, p.1 < 2 ^ b ∧ p.2 < 2 ^ b) (σ : Nat → Bool) : evT (2 * b) (qiX b P) σ = decide ((qam (fun k => σ (2 * k)) b 0, qam (fun k => σ (2 * k + 1)) b 0) ∈ P) := by
 unfold evT
 rw [qem, qo7 hP (qbk _ _ _) (qbk _ _ _)]
theorem qpe {bs at' : Nat → Nat} {m n i : Nat} (hf : ∀ i, i < m → at' i + bs i ≤ n) (hi : i < m) {P : List (Nat × Nat)} (hP : ∀ p ∈ P, p.1 < 2 ^ bs i ∧ p.2 < 2 ^ bs i) :
 qhc (fun k => ((2 * at' i + k : Nat) : Int)) (2 * bs i) (2 * n) (qiX (bs i) P) = qgq bs at' m n (fun x y => decide ((x.getD i 0, y.getD i 0) ∈ P)) := by
 have h1 := hf i hi
 refine qjz (qbB _ _ _ _) (qdz _ _ _ _ _) (fun ρ => ?_)
 rw [qfT (fun v hv => by simp only [Int.toNat_natCast]; omega), qhk hf, relT_ev hP, qch _ _ _ hi, qch _ _ _ hi]
 simp only [Int.toNat_natCast]
 have e1 := qb2 (fun v => ρ (2 * v)) (at' i) (bs i) 0
 have e2 := qb2 (fun v => ρ (2 * v + 1)) (at' i) (bs i) 0
 rw [Nat.add_zero] at e1 e2
 rw [← e1, ← e2]
 have f1 : (fun k => ρ (2 * at' i + 2 * k)) = (fun u => ρ (2 * (at' i + u))) := by funext u; congr 1; omega
 have f2 : (fun k => ρ (2 * at' i + (2 * k + 1))) = (fun u => ρ (2 * (at' i + u) + 1)) := by funext u; congr 1; omega
 refine decide_eq_decide.2 ?_
 rw [f1, f2]
theorem qjD {α : Type} {p q : α → Bool} : ∀ {l : List α}, (∀ x, x ∈ l → p x = q x) → l.any p = l.any q
 | [], _ => rfl
 | x :: l, h => by rw [List.any_cons, List.any_cons, h x List.mem_cons_self, qjD (fun y hy => h y (List.mem_cons_of_mem _ hy))]
theorem qno {bs at' : Nat → Nat} {m n : Nat} (hf : ∀ i, i < m → at' i + bs i ≤ n) (F : List Nat → List Nat → Bool) (G : List Nat → Bool) :
 imT n 0 (qgq bs at' m n F) (qfa bs at' m n G) = tbF n (fun k => (List.range (2 ^ n)).any fun j => F (qb1 bs at' m (qaY n j)) (qb1 bs at' m (qaY n k)) && G (qb1 bs at' m (qaY n j))) ∧
 imT n 1 (qgq bs at' m n F) (qfa bs at' m n G) = tbF n (fun k => (List.range (2 ^ n)).any fun j => F (qb1 bs at' m (qaY n k)) (qb1 bs at' m (qaY n j)) && G (qb1 bs at' m (qaY n j))) := by
 have key : ∀ x y, x < 2 ^ n → y < 2 ^ n → (qgq bs at' m n F).getD (wv n x y) false = F (qb1 bs at' m (qaY n x)) (qb1 bs at' m (qaY n y)) := by
  intro x y hx hy
  have e : wv n x y = qam (fun v => if v % 2 = 0 then qaY n x (v / 2) else qaY n y (v / 2)) (2 * n) 0 := by
   rw [qem]
   have e1 : qam (fun k => if 2 * k % 2 = 0 then qaY n x (2 * k / 2) else qaY n y (2 * k / 2)) n 0 = x := by
    conv => rhs; rw [← qb9 hx]
    exact qaZ n (fun v _ => by rw [if_pos (by omega), show 2 * v / 2 = v by omega])
   have e2 : qam (fun k => if (2 * k + 1) % 2 = 0 then qaY n x ((2 * k + 1) / 2) else qaY n y ((2 * k + 1) / 2)) n 0 = y := by
    conv => rhs; rw [← qb9 hy]
    exact qaZ n (fun v _ => by rw [if_neg (by omega), show (2 * v + 1) / 2 = v by omega])
   rw [e1, e2]
  have := qhk hf F (fun v => if v % 2 = 0 then qaY n x (v / 2) else qaY n y (v / 2))
  unfold evT at this
  rw [← e] at this
  rw [this]
  congr 1
  · exact qdl hf (fun u _ => by rw [if_pos (by omega), show 2 * u / 2 = u by omega])
  · exact qdl hf (fun u _ => by rw [if_neg (by omega), show (2 * u + 1) / 2 = u by omega])
 have keyG : ∀ x, x < 2 ^ n → (qfa bs at' m n G).getD x false = G (qb1 bs at' m (qaY n x)) := fun x hx => qbO _ _ hx
 constructor
 · refine qdj (fun y hy => ?_)
   refine qjD (fun x hx => ?_)
   rw [if_pos rfl, key x y (List.mem_range.1 hx) hy, keyG x (List.mem_range.1 hx)]
 · refine qdj (fun y hy => ?_)
   refine qjD (fun x hx => ?_)
   rw [if_neg (by omega), key y x hy (List.mem_range.1 hx), keyG x (List.mem_range.1 hx)]
def qgr (n : Nat) (t : List Bool) : Prop := ∃ m, m ≤ n ∧ 2 ^ m + (n - m) * t.count true ≤ 16385
theorem qgr.of14 {n : Nat} (h : n ≤ 14) (t : List Bool) : qgr n t := ⟨n, Nat.le_refl _, by
 have : 2 ^ n ≤ 2 ^ 14 := Nat.pow_le_pow_right (by omega) h
 simp only [Nat.sub_self, Nat.zero_mul]; omega⟩
theorem qgr.short {n : Nat} {t : List Bool} (h : qgr n t) (h40 : n ≤ 40) (ht : t.length = 2 ^ n) : (qal n [] 0 t).1.length ≤ 16384 := by
 obtain ⟨m, h1, h2⟩ := h
 exact qna h40 ht h1 (Nat.le_refl _) h2
theorem qgr.le {n : Nat} {t u : List Bool} (h : qgr n t) (hc : u.count true ≤ t.count true) : qgr n u := by
 obtain ⟨m, h1, h2⟩ := h
 have : (n - m) * u.count true ≤ (n - m) * t.count true := Nat.mul_le_mul_left _ hc
 exact ⟨m, h1, by omega⟩
theorem qql {p q : Nat → Bool} (h : ∀ i, p i = true → q i = true) : ∀ l : List Nat, (l.map p).count true ≤ (l.map q).count true
 | [] => Nat.le_refl _
 | x :: l => by
  have ih := qql h l
  simp only [List.map_cons, List.count_cons]
  cases hp : p x
  · simp; omega
  · rw [h x hp]; simp; omega
theorem qgr.rel {bs at' : Nat → Nat} {m n : Nat} {F G : List Nat → List Nat → Bool} (h : qgr (2 * n) (qgq bs at' m n G)) (hFG : ∀ x y, F x y = true → G x y = true) : qgr (2 * n) (qgq bs at' m n F) :=
 h.le (qql (fun i => hFG _ _) _)
theorem qkz (f : Nat → Bool) (a : Nat) : ∀ b, qck f (a + b) = qck f a ++ qck (fun u => f (a + u)) b
 | 0 => by simp [qck]
 | b + 1 => by rw [← Nat.add_assoc, qcp, qkz f a b, qcp, List.append_assoc]
theorem qhm (ρ : Nat → Bool) : ∀ n, qe3 (qck ρ n) = qam ρ n 0
 | 0 => rfl
 | n + 1 => by rw [qcp, qef, qhm ρ n, qbA, Nat.zero_add]
theorem qkA {n k : Nat} (h : k < 2 ^ n) : qe3 (qck (qaY n k) n) = k := by rw [qhm, qb9 h]
theorem qlw (ρ : Nat → Bool) (b base : Nat) : qhh b (qam ρ b base) = qck (fun u => ρ (base + u)) b := by
 unfold qhh
 refine qdy (fun u hu => ?_)
 have := qel (ρ := fun u => ρ (base + u)) (n := b) (v := u) hu
 rw [qb2 ρ base b 0, Nat.add_zero] at this
 exact this
def qbl (bs : Nat → Nat) (o : List Nat) (x : List Nat) : List Bool := o.flatMap fun i => qhh (bs i) (x.getD i 0)
theorem qdA (bs : Nat → Nat) (i : Nat) (o x : List Nat) : qbl bs (i :: o) x = qhh (bs i) (x.getD i 0) ++ qbl bs o x := by simp [qbl]
theorem qlx (bs : Nat → Nat) (i : Nat) (o x : List Nat) : qbl bs (o ++ [i]) x = qbl bs o x ++ qhh (bs i) (x.getD i 0) := by simp [qbl]
theorem qcb (bs : Nat → Nat) (x : List Nat) : ∀ o, (qbl bs o x).length = qcd bs o
 | [] => rfl
 | i :: o => by rw [qdA, List.length_append, qbM, qcb bs x o, qcd]
theorem codeG (bs : Nat → Nat) (ρ : Nat → Bool) : ∀ (o : List Nat), o.Nodup → ∀ (base : Nat) (g : Nat → Nat), (∀ i ∈ o, g i = qam ρ (bs i) (base + atB bs o i)) → (o.flatMap fun i => qhh (bs i) (g i)) = qck (fun u => ρ (base + u)) (qcd bs o)
 | [], _, base, g, h => rfl
 | j :: l, hn, base, g, h => by
  have hnd := List.nodup_cons.1 hn
  have h0 := h j List.mem_cons_self
  rw [atB, if_pos rfl, Nat.add_zero] at h0
  have ih := codeG bs ρ l hnd.2 (base + bs j) g (fun i hi => by
   have := h i (List.mem_cons_of_mem _ hi)
   rw [atB, if_neg (fun e => hnd.1 (by rw [← e]; exact hi))] at this
   rw [this, Nat.add_assoc])
  rw [List.flatMap_cons, ih, h0, qlw, qcd, qkz]
  congr 1
  refine qdy (fun u _ => by rw [Nat.add_assoc])
structure IsPm (o : List Nat) (m : Nat) : Prop where
 nodup : o.Nodup
 mem : ∀ i, i ∈ o ↔ i < m
theorem qfW {bs : Nat → Nat} {o : List Nat} {m : Nat} (h : IsPm o m) (ρ : Nat → Bool) : qbl bs o (qb1 bs (atB bs o) m ρ) = qck ρ (qcd bs o) := by
 have := codeG bs ρ o h.nodup 0 (fun i => (qb1 bs (atB bs o) m ρ).getD i 0) (fun i hi => by rw [qch _ _ _ ((h.mem i).1 hi), Nat.zero_add])
 unfold qbl
 rw [this]
 exact qdy (fun u _ => by rw [Nat.zero_add])
theorem qio {bs : Nat → Nat} {x y : List Nat} : ∀ {o : List Nat}, (∀ i ∈ o, x.getD i 0 < 2 ^ bs i ∧ y.getD i 0 < 2 ^ bs i) → qbl bs o x = qbl bs o y → ∀ i ∈ o, x.getD i 0 = y.getD i 0
 | [], _, _, i, hi => by simp at hi
 | j :: l, h, he, i, hi => by
  rw [qdA, qdA] at he
  obtain ⟨e1, e2⟩ := List.append_inj he (by rw [qbM, qbM])
  rcases List.mem_cons.1 hi with rfl | hi
  · have h1 := h i List.mem_cons_self
    have := congrArg qe3 e1
    rwa [qko _ _ h1.1, qko _ _ h1.2] at this
  · exact qio (fun k hk => h k (List.mem_cons_of_mem _ hk)) e2 i hi
theorem qpf {l k : List Bool} (hl : l.length = k.length) (h : qe3 l = qe3 k) : l = k := by
 have key : ∀ (n : Nat) (l : List Bool), l.length = n → l = qck (qaY n (qe3 l)) n := by
  intro n l hn
  have e : qck (fun i => l.getD i false) n = l := by
   refine List.ext_getElem (by rw [qbq, hn]) (fun i h1 h2 => ?_)
   simp [qck, List.getD, h2]
  have e2 : qe3 l = qam (fun i => l.getD i false) n 0 := by rw [← qhm, e]
  conv => lhs; rw [← e]
  refine qdy (fun u hu => ?_)
  rw [e2, qel hu]
 have e1 := key _ l hl
 have e2 := key _ k rfl
 rw [h] at e1
 exact e1.trans e2.symm
theorem qbQ {x y : List Nat} {m : Nat} (hx : x.length = m) (hy : y.length = m) (h : ∀ i, i < m → x.getD i 0 = y.getD i 0) : x = y := by
 refine List.ext_getElem (by omega) (fun i h1 h2 => ?_)
 have := h i (by omega)
 simpa [List.getD, h1, h2] using this
def qaA (ns : List Nat) : List (List Nat) := ns.foldl (fun out n => out.flatMap fun t => (List.range n).map fun s => t ++ [s]) [[]]
theorem qfX (ns : List Nat) (n : Nat) : qaA (ns ++ [n]) = (qaA ns).flatMap fun t => (List.range n).map fun s => t ++ [s] := by simp [qaA]
theorem qfj : ∀ (k : Nat) (ns : List Nat), ns.length = k → ∀ t, t ∈ qaA ns ↔ t.length = k ∧ ∀ i, i < k → t.getD i 0 < ns.getD i 0
 | 0, ns, h, t => by
  obtain rfl := List.length_eq_zero_iff.1 h
  simp [qaA]
 | k + 1, ns, h, t => by
  obtain ⟨ms, n, rfl⟩ : ∃ ms n, ns = ms ++ [n] := by
   rcases List.eq_nil_or_concat ns with rfl | ⟨ms, n, e⟩
   · simp at h
   · exact ⟨ms, n, by rw [e, List.concat_eq_append]⟩
  have hm : ms.length = k := by simpa using h
  rw [qfX, List.mem_flatMap]
  constructor
  · rintro ⟨u, hu, ht⟩
    obtain ⟨s, hs, rfl⟩ := List.mem_map.1 ht
    obtain ⟨h1, h2⟩ := (qfj k ms hm u).1 hu
    refine ⟨by simp [h1], fun i hi => ?_⟩
    by_cases e : i = k
    · subst e
      simp only [List.getD_eq_getElem?_getD]
      rw [List.getElem?_append_right (by omega), List.getElem?_append_right (by omega)]
      simp [h1, hm]
      exact List.mem_range.1 hs
    · have := h2 i (by omega)
      simp only [List.getD_eq_getElem?_getD] at this ⊢
      rw [List.getElem?_append_left (by omega), List.getElem?_append_left (by omega)]
      exact this
  · rintro ⟨h1, h2⟩
    obtain ⟨u, s, rfl⟩ : ∃ u s, t = u ++ [s] := by
     rcases List.eq_nil_or_concat t with rfl | ⟨u, s, e⟩
     · simp at h1
     · exact ⟨u, s, by rw [e, List.concat_eq_append]⟩
    have hu : u.length = k := by simpa using h1
    refine ⟨u, (qfj k ms hm u).2 ⟨hu, fun i hi => ?_⟩, List.mem_map.2 ⟨s, List.mem_range.2 ?_, rfl⟩⟩
    · have := h2 i (by omega)
      simp only [List.getD_eq_getElem?_getD] at this ⊢
      rw [List.getElem?_append_left (by omega), List.getElem?_append_left (by omega)] at this
      exact this
    · have := h2 k (by omega)
      simp only [List.getD_eq_getElem?_getD] at this
      rw [List.getElem?_append_right (by omega), List.getElem?_append_right (by omega)] at this
      simpa [hu, hm] using this
def okT (ns : List Nat) (x : List Nat) : Bool := (List.range ns.length).all fun i => decide (x.getD i 0 < ns.getD i 0)
theorem qcr {ns x : List Nat} : okT ns x = true ↔ ∀ i, i < ns.length → x.getD i 0 < ns.getD i 0 := by
 unfold okT
 rw [List.all_eq_true]
 constructor
 · intro h i hi; exact of_decide_eq_true (h i (List.mem_range.2 hi))
 · intro h i hi; exact decide_eq_true (h i (List.mem_range.1 hi))
theorem qbH {ns t : List Nat} : t ∈ qaA ns ↔ t.length = ns.length ∧ okT ns t = true := by rw [qfj _ ns rfl, qcr]
theorem qpg {bs : Nat → Nat} {o ns : List Nat} {n : Nat} (h : IsPm o ns.length) (hn : n = qcd bs o) (hb : ∀ i, i < ns.length → ns.getD i 0 ≤ 2 ^ bs i) {k : Nat} (hk : k < 2 ^ n) (p : List Nat → Bool) :
 (∃ x ∈ qaA ns, p x = true ∧ qe3 (qbl bs o x) = k) ↔ okT ns (qb1 bs (atB bs o) ns.length (qaY n k)) = true ∧ p (qb1 bs (atB bs o) ns.length (qaY n k)) = true := by
 have hc := qfW (bs := bs) h (qaY n k)
 have htl := qcB bs (atB bs o) ns.length (qaY n k)
 have hlt : ∀ i, i < ns.length → (qb1 bs (atB bs o) ns.length (qaY n k)).getD i 0 < 2 ^ bs i := fun i hi => by
  rw [qch _ _ _ hi]; exact qbk _ _ _
 rw [← hn] at hc
 generalize qb1 bs (atB bs o) ns.length (qaY n k) = T at *
 constructor
 · rintro ⟨x, hx, hp, hk'⟩
   obtain ⟨x1, x2⟩ := qbH.1 hx
   have e : qbl bs o x = qbl bs o T := qpf (by rw [qcb, qcb]) (by rw [hk', hc, qkA hk])
   have e2 : x = T := qbQ x1 htl (fun i hi => qio (fun j hj => by
    have hj' := (h.mem j).1 hj
    have := qcr.1 x2 j hj'
    have := hb j hj'
    exact ⟨by omega, hlt j hj'⟩) e i ((h.mem i).2 hi))
   rw [← e2]
   exact ⟨x2, hp⟩
 · rintro ⟨h1, h2⟩
   exact ⟨T, qbH.2 ⟨htl, h1⟩, h2, by rw [hc, qkA hk]⟩
end Go.Proofs.YticcpnekjddanaaGreatDoor
