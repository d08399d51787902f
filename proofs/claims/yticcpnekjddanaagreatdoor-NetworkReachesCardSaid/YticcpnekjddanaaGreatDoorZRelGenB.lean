/-  -/
import Derived.Shelf.SlSortCmp.NoneTotal
import Derived.Shelf.SlicesG.Cmp
import Derived.Shelf.Lay
import Derived.Ground.SlsfProg
import Derived.Ground.SlgcProg
import Derived.Test.YticcpnekjddanaaGreatDoorZBigT
import Derived.Sort.OwnSortedInts
import Derived.Test.YticcpnekjddanaaGreatDoorZNetC
set_option linter.unusedVariables false
set_option linter.unusedSimpArgs false
set_option maxRecDepth 100000
set_option maxHeartbeats 8000000
namespace Go.Proofs.YticcpnekjddanaaGreatDoor
open Go.Shelf Go.RowKit Go.Lib Go.Sort
end Go.Proofs.YticcpnekjddanaaGreatDoor
namespace Go.Proofs
open Go.Shelf
end Go.Proofs
namespace Go.Proofs.YticcpnekjddanaaGreatDoor
open Go.Shelf Go.RowKit Go.Lib Go.Sort
instance lexDec (x y : Nat × Nat) : Decidable (lexB x y) := by unfold lexB; exact inferInstance
end Go.Proofs.YticcpnekjddanaaGreatDoor
namespace Go.Proofs.YticcpnekjddanaaGreatDoor
open Go.RowKit
theorem qkF {d d' : Dg} {m : Nat} {t t' : List Bool} {w : World} (hd : d.at w) (hd' : d'.at w) (T : d.tab m t) (T' : d'.tab m t') :
 Calls Tryz.prog 74 #[d.v, d'.v] w fun e w' => e = .returned (.bool (decide (t = t'))) ∧ qad w w' := by
 have h1 := T.2.short
 have h2 := T'.2.short
 have e1 := T.1
 have e2 := T'.1
 refine (qmw d.n d'.n d.r d'.r d.a d'.a d.cap d'.cap d.L d'.L w hd hd' (by omega) (by omega)).mono ?_
 rintro e w' ⟨rfl, hs⟩
 refine ⟨?_, hs⟩
 congr 2
 rw [decide_eq_decide]
 constructor
 · rintro ⟨_, hr, hL⟩
   have h1 := T.2.ord.2.2
   have h2 := T'.2.ord.2.2
   rw [← h1, ← h2, hr, hL]
 · rintro rfl
   have h1 := T.2.eq
   have h2 := T'.2.eq
   rw [h1] at h2
   simp only [Prod.mk.injEq] at h2
   exact ⟨by rw [e1, e2], h2.2, h2.1⟩
def clS (b s : Nat) (r u : List Bool) : List Bool := qbE u (tru b) (imT b s r u)
def clI (b s : Nat) (r u : List Bool) : Nat → List Bool
 | 0 => u
 | k + 1 => clS b s r (clI b s r u k)
theorem qjF (b s : Nat) (r u : List Bool) : (imT b s r u).length = 2 ^ b := qbr _ _
theorem qnt {b s : Nat} {r u : List Bool} (h : u.length = 2 ^ b) : (clS b s r u).length = 2 ^ b := qbG h (qcq b) (qjF _ _ _ _)
theorem qf1 {b s : Nat} {r u : List Bool} (h : u.length = 2 ^ b) : ∀ k, (clI b s r u k).length = 2 ^ b
 | 0 => h
 | k + 1 => qnt (qf1 h k)
theorem clS_get {b s : Nat} {r u : List Bool} (h : u.length = 2 ^ b) {i : Nat} (hi : i < 2 ^ b) : (clS b s r u).getD i false = (u.getD i false || (imT b s r u).getD i false) := by
 unfold clS
 rw [qee h (qcq b) (qjF _ _ _ _) hi, truG hi]
 cases u.getD i false <;> simp
theorem qnu : ∀ (s t : List Bool), s.length = t.length → (∀ i, s.getD i false = true → t.getD i false = true) → s.count true ≤ t.count true ∧ (s.count true = t.count true → s = t)
 | [], [], _, _ => by simp
 | [], y :: t, h, _ => by simp at h
 | x :: s, [], h, _ => by simp at h
 | x :: s, y :: t, h, hi => by
  have ih := qnu s t (by simpa using h) (fun i hx => by have := hi (i + 1); simpa using this (by simpa using hx))
  have h0 := hi 0
  simp only [List.getD_cons_zero] at h0
  cases x <;> cases y
  · simp only [List.count_cons] at *
    exact ⟨by simpa using ih.1, fun e => by rw [ih.2 (by simpa using e)]⟩
  · simp only [List.count_cons] at *
    refine ⟨by simp; omega, fun e => ?_⟩
    simp at e; omega
  · simp at h0
  · simp only [List.count_cons] at *
    exact ⟨by simpa using ih.1, fun e => by rw [ih.2 (by simpa using e)]⟩
theorem qnv {b s : Nat} {r u : List Bool} (h : u.length = 2 ^ b) : ∀ k, (∀ j, j < k → clI b s r u j ≠ clI b s r u (j + 1)) → k ≤ (clI b s r u k).count true
 | 0, _ => Nat.zero_le _
 | k + 1, hne => by
  have ih := qnv h k (fun j hj => hne j (by omega))
  have hl := qf1 (s := s) (r := r) h k
  have hc := qnu (clI b s r u k) (clI b s r u (k + 1)) (by rw [hl, qf1 h]) (fun i hi => by
   rcases Nat.lt_or_ge i (2 ^ b) with hb | hb
   · show (clS b s r (clI b s r u k)).getD i false = true
     rw [clS_get hl hb, hi, Bool.true_or]
   · rw [List.getD_eq_getElem?_getD, List.getElem?_eq_none (by omega)] at hi
     simp at hi)
  rcases Nat.lt_or_ge ((clI b s r u k).count true) ((clI b s r u (k + 1)).count true) with hlt | hge
  · omega
  · exact absurd (hc.2 (by omega)) (hne k (by omega))
theorem qnw {b s : Nat} {r u : List Bool} (h : u.length = 2 ^ b) {k : Nat} (hne : ∀ j, j < k → clI b s r u j ≠ clI b s r u (j + 1)) : k ≤ 2 ^ b := by
 have h1 := qnv h k hne
 have h2 := List.count_le_length (a := true) (l := clI b s r u k)
 rw [qf1 h] at h2
 omega
structure qpj (w : World) (m b : Int) (ba bb bc : Nat) (ra : Option Addr) (rq rc : Nat) (rr : Int) (d : Dg) (W : World) : Prop where
 ka : W.heap[ba]? = some (.cells #[.int .i64 m, .slice ra rq rc, .int .i64 rr] 46 (0, 0))
 kb : W.heap[bb]? = some (.cells #[.int .i64 b, .slice d.a d.L.length d.cap, .int .i64 d.r] 46 (0, 0))
 kc : W.heap[bc]? = some (.cells #[.int .i64 0, .slice none 0 0, .int .i64 0] 46 (0, 0))
 same : qad w W
 at_ : d.at W
theorem qpj.sm {w : World} {m b : Int} {ba bb bc : Nat} {ra : Option Addr} {rq rc : Nat} {rr : Int} {d : Dg} {W W' : World} (h : qpj w m b ba bb bc ra rq rc rr d W) (hs : qad W W') : qpj w m b ba bb bc ra rq rc rr d W' :=
 ⟨hs.at h.ka id, hs.at h.kb id, hs.at h.kc id, h.same.same hs, qaa.same h.at_ hs⟩
theorem qpj.next {w : World} {m b : Int} {ba bb bc : Nat} {ra : Option Addr} {rq rc : Nat} {rr : Int} {d d' : Dg} {W : World} (h : qpj w m b ba bb bc ra rq rc rr d W) (hab : ba ≠ bb) (hcb : bc ≠ bb) (hw : w.heap.size ≤ bb) (hd : d'.at W) :
 qpj w m b ba bb bc ra rq rc rr d' (((W.setCell ⟨bb, 0, none⟩ (.int .i64 b)).setCell ⟨bb, 1, none⟩ (.slice d'.a d'.L.length d'.cap)).setCell ⟨bb, 2, none⟩ (.int .i64 d'.r)) := by
 obtain ⟨k9, f9⟩ := qcA (u0 := .int .i64 b) (u1 := .slice d'.a d'.L.length d'.cap) (u2 := .int .i64 d'.r) h.kb
 exact ⟨f9.at h.ka hab, k9, f9.at h.kc hcb, h.same.trans f9 (fun i hi e => by have : i = bb := e; omega), qaa.fr hd f9 (fun i cur hk' e => by rw [show i = bb from e, h.kb] at hk'; simp at hk')⟩
def ClR (b s : Nat) (r u : List Bool) (w : World) (e : Ending) (w' : World) : Prop :=
 ∃ (d : Dg) (k : Nat), e = .returned (.tuple #[.agg #[.int .i64 d.n, .slice d.a d.L.length d.cap, .int .i64 d.r], .int .i64 k, .int .i64 0]) ∧ d.at w' ∧ d.tab b (clI b s r u k) ∧ clI b s r u (k + 1) = clI b s r u k ∧ (∀ j, j < k → clI b s r u j ≠ clI b s r u (j + 1)) ∧ qad w w'
def ClE (E : Int) (b s : Nat) (r u : List Bool) (w : World) (e : Ending) (w' : World) : Prop :=
 (E ≠ 0 ∧ e = .returned (.tuple #[.agg #[.int .i64 0, .slice none 0 0, .int .i64 0], .int .i64 0, .int .i64 E]) ∧ qad w w') ∨ (E = 0 ∧ ClR b s r u w e w')
theorem qpk {b s : Nat} (hb20 : b ≤ 20) (hs2 : s < 2) (dr df : Dg) (w : World) (t1 t2 t3 R : List Bool) (hrn : dr.n = ((2 * b : Nat) : Int)) (hfn : df.n = (b : Int))
 (SP : ∀ W, qad w W → Calls Tryz.prog 124 #[.agg #[.int .i64 df.n, .slice df.a df.L.length df.cap, .int .i64 df.r], .int .i64 2, .int .i64 s, .int .i64 ((2 * b : Nat) : Int)] W (DgN (2 * b) t1 W))
 (AN : ∀ (d' : Dg) W, qad w W → d'.at W → d'.tab (2 * b) t1 → Calls Tryz.prog 36 #[dr.v, d'.v] W (DgN (2 * b) t2 W))
 (EX : ∀ (d' : Dg) W aQ cQ, d'.at W → d'.tab (2 * b) t2 → qan W (.slice aQ b cQ) b (gw (gL (fun i => 2 * i + s) b)) → Calls Tryz.prog 125 #[d'.v, .slice aQ b cQ] W (DgN (2 * b) t3 W))
 (GA : ∀ (d' : Dg) W, d'.at W → d'.tab (2 * b) t3 → Calls Tryz.prog 126 #[d'.v, .int .i64 b, .func (.func 127) #[] #[]] W fun e w' => ∃ d : Dg, e = .returned d.v ∧ d.at w' ∧ d.tab b R ∧ qad W w') :
 Calls Tryz.prog 98 #[.agg #[.int .i64 dr.n, .slice dr.a dr.L.length dr.cap, .int .i64 dr.r], .agg #[.int .i64 df.n, .slice df.a df.L.length df.cap, .int .i64 df.r], .int .i64 s] w (DgN b R w) := by
 obtain ⟨m, hm⟩ : ∃ m, m = 2 * b := ⟨_, rfl⟩
 simp only [← hm] at hrn SP AN EX GA
 simp only [Dg.v] at AN EX GA
 rw [hrn] at AN ⊢
 rw [hfn] at SP ⊢
 generalize dr.a = ra at *
 generalize dr.cap = rc at *
 generalize dr.r = rr at *
 generalize dr.L.length = rq at *
 generalize df.a = fa at *
 generalize df.cap = fc at *
 generalize df.r = fr at *
 generalize df.L.length = fq at *
 obtain ⟨i3, hi3, hi3z, hi3s, hi3b⟩ := info_parts qc0
 clear hrn hfn
 replace SP := gi SP; replace AN := gi AN; replace EX := gi EX; replace GA := gi GA; replace hm := gi hm
 go_enter Tryz.func98, Tryz.ntmps98
 go_upto_region 1 with fail
 have ka := qab (qab (gv w (.cells #[.int .i64 m, .slice ra rq rc, .int .i64 rr] 46)) (.cells #[.int .i64 b, .slice fa fq fc, .int .i64 fr] 46)) (.cells #[.int .i64 0, .slice none 0 0, .int .i64 0] 46)
 have kb := qab (gv (w.alloc (.cells #[.int .i64 m, .slice ra rq rc, .int .i64 rr] 46)) (.cells #[.int .i64 b, .slice fa fq fc, .int .i64 fr] 46)) (.cells #[.int .i64 0, .slice none 0 0, .int .i64 0] 46)
 have kc := gv ((w.alloc (.cells #[.int .i64 m, .slice ra rq rc, .int .i64 rr] 46)).alloc (.cells #[.int .i64 b, .slice fa fq fc, .int .i64 fr] 46)) (.cells #[.int .i64 0, .slice none 0 0, .int .i64 0] 46)
 have hs : qad w (((w.alloc (.cells #[.int .i64 m, .slice ra rq rc, .int .i64 rr] 46)).alloc (.cells #[.int .i64 b, .slice fa fq fc, .int .i64 fr] 46)).alloc (.cells #[.int .i64 0, .slice none 0 0, .int .i64 0] 46)) := fs2
 have hz1 : (w.alloc (.cells #[.int .i64 m, .slice ra rq rc, .int .i64 rr] 46)).heap.size = w.heap.size + 1 := by simp
 have hz2 : ((w.alloc (.cells #[.int .i64 m, .slice ra rq rc, .int .i64 rr] 46)).alloc (.cells #[.int .i64 b, .slice fa fq fc, .int .i64 fr] 46)).heap.size = w.heap.size + 1 + 1 := by simp
 rw [hz1] at kb
 rw [hz2] at kc
 generalize ((w.alloc (.cells #[.int .i64 m, .slice ra rq rc, .int .i64 rr] 46)).alloc (.cells #[.int .i64 b, .slice fa fq fc, .int .i64 fr] 46)).alloc (.cells #[.int .i64 0, .slice none 0 0, .int .i64 0] 46) = W0 at *
 clear hz1 hz2
 replace ka := gi ka; replace kb := gi kb; replace kc := gi kc; replace hs := gi hs
 obtain ⟨x0, x1, x2, xl⟩ := g3l ka.out
 obtain ⟨y0, y1, y2, yl⟩ := g3l kb.out
 go_wp2_with fail
 refine (SP.out _ hs.out).mono ?_
 intro e w1 hM
 obtain ⟨a1, c1, L1, r1, rfl, d1, tt1, s1⟩ := hM.open
 clear x0 x1 x2 xl
 clear y0 y1 y2 yl
 replace ka := gi (s1.at ka.out id); replace kb := gi (s1.at kb.out id); replace kc := gi (s1.at kc.out id)
 have hs1 := hs.out.same s1
 replace d1 := gi d1; replace tt1 := gi tt1; replace hs1 := gi hs1
 clear hM s1
 go_upto_region 2 with fail
 have kg := gv w1 (.cells #[.int .i64 m, .slice a1 L1.length c1, .int .i64 r1] 46)
 have s2 : qad w1 (w1.alloc (.cells #[.int .i64 m, .slice a1 L1.length c1, .int .i64 r1] 46)) := fs2
 generalize w1.alloc (.cells #[.int .i64 m, .slice a1 L1.length c1, .int .i64 r1] 46) = W1 at *
 have hbg : w.heap.size + 3 ≤ w1.heap.size := by have := gu kc.out; simp only [Hid] at *; omega
 replace d1 := gi (d1.out.same s2); replace ka := gi (s2.at ka.out id); replace kb := gi (s2.at kb.out id); replace kc := gi (s2.at kc.out id)
 have hs2 := hs1.out.same s2
 generalize w1.heap.size = bg at *
 replace kg := gi kg; replace hs2 := gi hs2
 obtain ⟨x0, x1, x2, xl⟩ := g3l ka.out
 obtain ⟨y0, y1, y2, yl⟩ := g3l kg.out
 go_upto_region 4 with fail
 go_wp2_with fail
 refine (AN.out ⟨m, a1, c1, L1, r1⟩ _ hs2.out d1.out ⟨rfl, tt1.out⟩).mono ?_
 intro e w3 hM
 obtain ⟨a2, c2, L2, r2, rfl, d2, tt2, s3⟩ := hM.open
 clear x0 x1 x2 xl
 clear y0 y1 y2 yl
 replace ka := gi (s3.at ka.out id); replace kb := gi (s3.at kb.out id); replace kc := gi (s3.at kc.out id); replace kg := gi (s3.at kg.out id)
 have hs3 := hs2.out.same s3
 replace d2 := gi d2; replace tt2 := gi tt2; replace hs3 := gi hs3
 clear hM s3 d1
 obtain ⟨y0, y1, y2, yf0, yf1, yf2, yl⟩ := qar kg.out
 go_upto_region 5 with fail
 obtain ⟨k4, f4⟩ := qcA (u0 := .int .i64 m) (u1 := .slice a2 L2.length c2) (u2 := .int .i64 r2) kg.out
 have ka := f4.at ka.out (by omega)
 have kb := f4.at kb.out (by omega)
 have kc := f4.at kc.out (by omega)
 have d2 := qaa.fr d2.out f4 (fun i cur hk' e => by rw [show i = bg from e, kg.out] at hk'; simp at hk')
 have hs4 := hs3.out.trans f4 (fun i hi e => by have : i = bg := e; omega)
 clear kg y0 y1 y2 yf0 yf1 yf2 yl
 generalize ((w3.setCell ⟨bg, 0, none⟩ (.int .i64 m)).setCell ⟨bg, 1, none⟩ (.slice a2 L2.length c2)).setCell ⟨bg, 2, none⟩ (.int .i64 r2) = W4 at *
 clear f4 ka
 replace kb := gi kb; replace kc := gi kc; replace k4 := gi k4; replace d2 := gi d2; replace hs4 := gi hs4
 have hw4 := hs4.out.size
 obtain ⟨y0, y1, y2, yl⟩ := g3l kb.out
 go_upto_region 8 with fail
 go_wp2_with fail
 go_loopw [10, 36] (fun v i wr => ∃ (k c : Nat) (a : Option Addr), i = .int .i64 k ∧ k ≤ b ∧ v = .slice a k c ∧ wr.ownsRow W4.heap.size 3 1 (.slice a k c) k (gw (gL (fun i => 2 * i + s) k)) ∧ qad W4 wr) (fun _ i _ => b - (intOf i).toNat)
 case atStart => exact ⟨0, 0, none, rfl, by omega, rfl, World.ownsRow_nil _ _ _ _, Fr.refl _ _⟩
 case round =>
  obtain ⟨k, c, a, rfl, hk, rfl, ho, hs1⟩ := hrel
  have hws := hs1.size
  have hgs := qjy (fun i => 2 * i + s) k
  by_cases hkn : k < b
  · have e1 : IntKind.i64.wrap (2 * (k : Int)) = 2 * (k : Int) := IntWalk.i64_in _ (by omega)
    have e2 : IntKind.i64.wrap (2 * (k : Int) + s) = ((2 * k + s : Nat) : Int) := by rw [IntWalk.i64_in _ (by omega)]; omega
    replace ho := gi ho; replace hs1 := gi hs1; replace hgs := gi hgs
    go_wp2_with (at_builtin; refine qai rfl (.tmp 39) (.tmp 44) 33 rfl W4.heap.size 3 i3 (.int .i64 0) 1 8 Tryz.underlying33 hi3 hi3z hi3s hi3b rfl (by decide) (by decide) a k c (gw (gL (fun i => 2 * i + s) k)) rfl (qag ho.out fs2) (by omega) wr.heap.size [.int .i64 ((2 * k + s : Nat) : Int)] rfl rfl (gv _ _) (by simp [Value.oneCell']) (by simp; omega) ?_; intro a5 c5 w5 ho5 hG5)
    have hs5 : qad W4 w5 := qas (hs1.out.same fs2) hG5 (fun k hk => (ho.out.lt k hk).1)
    have ho5' : w5.ownsRow W4.heap.size 3 1 (.slice a5 (k + 1) c5) (k + 1) (gw (gL (fun i => 2 * i + s) (k + 1))) := by
     rw [hgs.out]; have := ho5; simpa [gw] using this
    clear ho5 hG5
    go_roundw
    case rel => exact ⟨k + 1, c5, a5, by go_num, by omega, rfl, ho5', hs5⟩
    case measure => simp [intOf]; omega
  · obtain rfl : k = b := by omega
    have hQ := (qaa.of_owns ho).row
    clear y0 y1 y2 yl
    replace d2 := gi (d2.out.same hs1); replace kb := gi (hs1.at kb.out id); replace kc := gi (hs1.at kc.out id); replace k4 := gi (hs1.at k4.out id)
    have hs5 := hs4.out.same hs1
    replace ho := gi ho; replace hQ := gi hQ; replace hs5 := gi hs5
    obtain ⟨y0, y1, y2, yf0, yf1, yf2, yl⟩ := qar k4.out
    obtain ⟨x0, x1, x2, xl⟩ := g3l kb.out
    go_upto_region 13 with fail
    go_wp2_with fail
    refine (EX.out ⟨m, a2, c2, L2, r2⟩ _ _ _ d2.out ⟨rfl, tt2.out⟩ hQ.out).mono ?_
    intro e w6 hM
    obtain ⟨a3, c3, L3, r3, rfl, d3, tt3, s6⟩ := hM.open
    clear y0 y1 y2 yf0 yf1 yf2 yl
    clear x0 x1 x2 xl
    replace kb := gi (s6.at kb.out id); replace kc := gi (s6.at kc.out id); replace k4 := gi (s6.at k4.out id)
    have hs6 := hs5.out.same s6
    replace d3 := gi d3; replace tt3 := gi tt3; replace hs6 := gi hs6
    clear hM s6 hQ ho
    obtain ⟨y0, y1, y2, yf0, yf1, yf2, yl⟩ := qar k4.out
    go_upto_region 14 with fail
    obtain ⟨k7, f7⟩ := qcA (u0 := .int .i64 m) (u1 := .slice a3 L3.length c3) (u2 := .int .i64 r3) k4.out
    have kb := f7.at kb.out (by omega)
    have kc := f7.at kc.out (by omega)
    have d3 := qaa.fr d3.out f7 (fun i cur hk' e => by rw [show i = bg from e, k4.out] at hk'; simp at hk')
    have hs7 := hs6.out.trans f7 (fun i hi e => by have : i = bg := e; omega)
    clear k4 y0 y1 y2 yf0 yf1 yf2 yl
    generalize ((w6.setCell ⟨bg, 0, none⟩ (.int .i64 m)).setCell ⟨bg, 1, none⟩ (.slice a3 L3.length c3)).setCell ⟨bg, 2, none⟩ (.int .i64 r3) = W7 at *
    clear f7
    replace kb := gi kb; replace kc := gi kc; replace k7 := gi k7; replace d3 := gi d3; replace hs7 := gi hs7
    obtain ⟨x0, x1, x2, xl⟩ := g3l kb.out
    obtain ⟨y0, y1, y2, yl⟩ := g3l k7.out
    go_upto_region 16 with fail
    go_wp2_with fail
    refine (GA.out ⟨m, a3, c3, L3, r3⟩ _ d3.out ⟨rfl, tt3.out⟩).mono ?_
    rintro e w8 ⟨d8, rfl, hd8, t8, s8⟩
    clear x0 x1 x2 xl
    clear y0 y1 y2 yl
    replace kc := gi (s8.at kc.out id)
    have hs8 := hs7.out.same s8
    replace hd8 := gi hd8; replace t8 := gi t8; replace hs8 := gi hs8
    obtain ⟨x0, x1, x2, z0, z1, z2, xl⟩ := qar kc.out
    go_wp2_with fail
    obtain ⟨d0, d1, d2, hdF, hsF⟩ := qaI hs8.out (by omega) hd8.out kc.out
    refine bodyPost_ret (v := .tuple #[.agg #[.int .i64 d8.n, .slice d8.a d8.L.length d8.cap, .int .i64 d8.r], .int .i64 0]) (by simp [results, Tryz.results98, go_sem, d0, d1, d2]) rfl ?_
    exact ⟨d8, rfl, hdF, t8.out, hsF⟩
theorem qjG {m b s : Nat} {t u : List Bool} (hs2 : s < 2) (hb20 : b ≤ 40) (Pv : List Bool → Prop) (hPs : ∀ v, Pv v → Pv (clS b s t v)) (hbl : m = 2 * b → ∀ k, (∀ j, j < k → clI b s t u j ≠ clI b s t u (j + 1)) → k ≤ 100000) (dr df : Dg) (w : World) (hPu : Pv u) (hr : dr.at w) (hf : df.at w) (T : dr.tab m t) (U : df.tab b u)
 (ST : m = 2 * b → ∀ (d : Dg) (v : List Bool) W, Pv v → qad w W → d.at W → d.tab b v → Calls Tryz.prog 98 #[.agg #[.int .i64 dr.n, .slice dr.a dr.L.length dr.cap, .int .i64 dr.r], .agg #[.int .i64 d.n, .slice d.a d.L.length d.cap, .int .i64 d.r], .int .i64 s] W (DgN b (imT b s t v) W))
 (OR : m = 2 * b → ∀ (d d' : Dg) (v : List Bool) W, Pv v → d.at W → d'.at W → d.tab b v → d'.tab b (imT b s t v) → Calls Tryz.prog 94 #[d.v, d'.v] W (DgN b (qbE v (tru b) (imT b s t v)) W)) :
 Calls Tryz.prog 63 #[.agg #[.int .i64 dr.n, .slice dr.a dr.L.length dr.cap, .int .i64 dr.r], .agg #[.int .i64 df.n, .slice df.a df.L.length df.cap, .int .i64 df.r], .int .i64 s] w (ClE (if m = 2 * b then 0 else 4) b s t u w) := by
 have hul := U.2.len
 have CB := fun W (hW : qad w W) => qpa dr df t u W (qaa.same hr hW) (qaa.same hf hW) T U
 have EQ := fun (d d' : Dg) (v v' : List Bool) W (hd : d.at W) (hd' : d'.at W) (hT : d.tab b v) (hT' : d'.tab b v') => qkF hd hd' hT hT'
 have e1 : ∀ v, qbE v (tru b) (imT b s t v) = clS b s t v := fun _ => rfl
 simp only [e1] at OR
 clear e1
 have hrn := T.1
 have hfn := U.1
 rw [hrn] at CB ST ⊢
 rw [hfn] at CB ⊢
 simp only [Dg.v] at OR EQ
 obtain ⟨df0, hdf⟩ : ∃ d : Dg, d = df := ⟨_, rfl⟩
 have hU0 : df0.tab b u := hdf ▸ U
 have hF0 : ∀ W, qad w W → df0.at W := fun W hW => hdf ▸ qaa.same hf hW
 rw [← hdf] at CB ⊢
 generalize dr.a = ra at *
 generalize dr.cap = rc at *
 generalize dr.r = rr at *
 generalize dr.L.length = rq at *
 obtain ⟨fa, hfa⟩ : ∃ x, x = df0.a := ⟨_, rfl⟩
 obtain ⟨fc, hfc⟩ : ∃ x, x = df0.cap := ⟨_, rfl⟩
 obtain ⟨fr, hfr⟩ : ∃ x, x = df0.r := ⟨_, rfl⟩
 obtain ⟨fq, hfq⟩ : ∃ x, x = df0.L.length := ⟨_, rfl⟩
 rw [← hfa, ← hfc, ← hfr, ← hfq] at CB ⊢
 obtain ⟨E, hE⟩ : ∃ E : Int, E = if m = 2 * b then 0 else 4 := ⟨_, rfl⟩
 rw [← hE] at CB ⊢
 clear T U hr hf hrn hfn hdf
 replace CB := gi CB; replace ST := gi ST; replace OR := gi OR; replace EQ := gi EQ; replace hbl := gi hbl; replace hE := gi hE; replace hul := gi hul; replace hF0 := gi hF0; replace hU0 := gi hU0; replace hfa := gi hfa; replace hfc := gi hfc; replace hfr := gi hfr; replace hfq := gi hfq; replace hPs := gi hPs; replace hPu := gi hPu
 go_enter Tryz.func63, Tryz.ntmps63
 go_upto_region 1 with fail
 have ka := qab (qab (gv w (.cells #[.int .i64 m, .slice ra rq rc, .int .i64 rr] 46)) (.cells #[.int .i64 b, .slice fa fq fc, .int .i64 fr] 46)) (.cells #[.int .i64 0, .slice none 0 0, .int .i64 0] 46)
 have kb := qab (gv (w.alloc (.cells #[.int .i64 m, .slice ra rq rc, .int .i64 rr] 46)) (.cells #[.int .i64 b, .slice fa fq fc, .int .i64 fr] 46)) (.cells #[.int .i64 0, .slice none 0 0, .int .i64 0] 46)
 have kc := gv ((w.alloc (.cells #[.int .i64 m, .slice ra rq rc, .int .i64 rr] 46)).alloc (.cells #[.int .i64 b, .slice fa fq fc, .int .i64 fr] 46)) (.cells #[.int .i64 0, .slice none 0 0, .int .i64 0] 46)
 have hs : qad w (((w.alloc (.cells #[.int .i64 m, .slice ra rq rc, .int .i64 rr] 46)).alloc (.cells #[.int .i64 b, .slice fa fq fc, .int .i64 fr] 46)).alloc (.cells #[.int .i64 0, .slice none 0 0, .int .i64 0] 46)) := fs2
 have hz1 : (w.alloc (.cells #[.int .i64 m, .slice ra rq rc, .int .i64 rr] 46)).heap.size = w.heap.size + 1 := by simp
 have hz2 : ((w.alloc (.cells #[.int .i64 m, .slice ra rq rc, .int .i64 rr] 46)).alloc (.cells #[.int .i64 b, .slice fa fq fc, .int .i64 fr] 46)).heap.size = w.heap.size + 1 + 1 := by simp
 rw [hz1] at kb
 rw [hz2] at kc
 generalize ((w.alloc (.cells #[.int .i64 m, .slice ra rq rc, .int .i64 rr] 46)).alloc (.cells #[.int .i64 b, .slice fa fq fc, .int .i64 fr] 46)).alloc (.cells #[.int .i64 0, .slice none 0 0, .int .i64 0] 46) = W0 at *
 clear hz1 hz2
 replace ka := gi ka; replace kb := gi kb; replace kc := gi kc; replace hs := gi hs
 obtain ⟨x0, x1, x2, xl⟩ := g3l ka.out
 obtain ⟨y0, y1, y2, yl⟩ := g3l kb.out
 go_wp2_with fail
 refine (CB.out _ hs.out).mono ?_
 rintro e w1 ⟨rfl, s1⟩
 clear x0 x1 x2 xl
 clear y0 y1 y2 yl
 replace ka := gi (s1.at ka.out id); replace kb := gi (s1.at kb.out id); replace kc := gi (s1.at kc.out id)
 have hs1 := hs.out.same s1
 replace hs1 := gi hs1
 by_cases hmb : m = 2 * b
 · obtain rfl : E = 0 := by rw [hE.out, if_pos hmb]
   have hST := ST.out hmb
   have hOR := OR.out hmb
   replace hbl := hbl.out hmb
   have hlen := fun k => qf1 (s := s) (r := t) hul.out k
   have hA0 : qpj w m b w.heap.size (w.heap.size + 1) (w.heap.size + 1 + 1) ra rq rc rr df0 w1 := ⟨ka.out, by rw [← hfa.out, ← hfc.out, ← hfr.out, ← hfq.out]; exact kb.out, kc.out, hs1.out, hF0.out _ hs1.out⟩
   have hU := hU0.out
   replace hmb := gi hmb; replace hST := gi hST; replace hOR := gi hOR; replace hbl := gi hbl; replace hlen := gi hlen; replace hA0 := gi hA0; replace hU := gi hU
   clear ka kb kc hs1 hs
   go_upto_region 5 with fail
   go_loopw [10] (fun i wr => ∃ (k : Nat) (d : Dg), i = .int .i64 k ∧ qpj w m b w.heap.size (w.heap.size + 1) (w.heap.size + 1 + 1) ra rq rc rr d wr ∧ d.tab b (clI b s t u k) ∧ Pv (clI b s t u k) ∧ (∀ j, j < k → clI b s t u j ≠ clI b s t u (j + 1))) (fun i _ => 100001 - (intOf i).toNat)
   case atStart => exact ⟨0, df0, rfl, hA0.out, hU.out, hPu.out, fun j hj => by omega⟩
   case round =>
    obtain ⟨k, d, rfl, hA, hT, hPk, hne⟩ := hrel
    have hkb := hbl.out k hne
    obtain ⟨dn, da, dc, dL, dr'⟩ := d
    obtain rfl : dn = (b : Int) := hT.1
    have ka := hA.ka
    have kb := hA.kb
    simp only at kb
    have hstep : clI b s t u (k + 1) = clS b s t (clI b s t u k) := rfl
    have hsz := hA.kc
    replace hsz := gu hsz
    obtain ⟨V, hVd⟩ : ∃ V, V = clI b s t u k := ⟨_, rfl⟩
    rw [← hVd] at hT hstep hPk
    have hPk2 := hPs.out _ hPk
    replace hA := gi hA; replace hT := gi hT; replace hne := gi hne; replace ka := gi ka; replace kb := gi kb; replace hstep := gi hstep; replace hVd := gi hVd; replace hPk := gi hPk; replace hPk2 := gi hPk2
    obtain ⟨x0, x1, x2, xl⟩ := g3l ka.out
    obtain ⟨y0, y1, y2, yl⟩ := g3l kb.out
    go_upto_region 6 with fail
    go_wp2_with fail
    refine (hST.out ⟨b, da, dc, dL, dr'⟩ _ _ hPk.out hA.out.same hA.out.at_ hT.out).mono ?_
    intro e w2 hM
    obtain ⟨a1, c1, L1, r1, rfl, d1, t1, s2⟩ := hM.open
    clear x0 x1 x2 xl
    clear y0 y1 y2 yl
    have hA2 := hA.out.sm s2
    have hz2 := s2.size
    clear hA hM ka kb s2
    replace hA2 := gi hA2; replace d1 := gi d1; replace t1 := gi t1
    go_upto_region 7 with fail
    have kg := gv w2 (.cells #[.int .i64 b, .slice a1 L1.length c1, .int .i64 r1] 46)
    have s3 : qad w2 (w2.alloc (.cells #[.int .i64 b, .slice a1 L1.length c1, .int .i64 r1] 46)) := fs2
    generalize w2.alloc (.cells #[.int .i64 b, .slice a1 L1.length c1, .int .i64 r1] 46) = W3 at *
    have hA3 := hA2.out.sm s3
    replace d1 := gi (d1.out.same s3)
    have hbg : w.heap.size + 1 + 1 < w2.heap.size := by omega
    clear hA2 s3
    generalize w2.heap.size = bg at *
    have kb := hA3.kb
    simp only at kb
    replace kg := gi kg; replace hA3 := gi hA3; replace kb := gi kb
    obtain ⟨y0, y1, y2, yl⟩ := g3l kb.out
    obtain ⟨x0, x1, x2, xl⟩ := g3l kg.out
    go_upto_region 9 with fail
    go_wp2_with fail
    refine (hOR.out ⟨b, da, dc, dL, dr'⟩ ⟨b, a1, c1, L1, r1⟩ _ _ hPk.out hA3.out.at_ d1.out hT.out ⟨rfl, t1.out⟩).mono ?_
    intro e w4 hM
    obtain ⟨a2, c2, L2, r2, rfl, d2, t2, s4⟩ := hM.open
    clear x0 x1 x2 xl
    clear y0 y1 y2 yl
    have hA4 := hA3.out.sm s4
    replace kg := gi (s4.at kg.out id)
    clear hM s4 hA3 d1 t1 kb
    replace hA4 := gi hA4; replace d2 := gi d2; replace t2 := gi t2
    obtain ⟨y0, y1, y2, yf0, yf1, yf2, yl⟩ := qar kg.out
    go_upto_region 10 with fail
    obtain ⟨k5, f5⟩ := qcA (u0 := .int .i64 b) (u1 := .slice a2 L2.length c2) (u2 := .int .i64 r2) kg.out
    have d5 := qaa.fr d2.out f5 (fun i cur hk' e => by rw [show i = bg from e, kg.out] at hk'; simp at hk')
    have dv5 := qaa.fr hA4.out.at_ f5 (fun i cur hk' e => by rw [show i = bg from e, kg.out] at hk'; simp at hk')
    have hA5 : qpj w m b w.heap.size (w.heap.size + 1) (w.heap.size + 1 + 1) ra rq rc rr ⟨b, da, dc, dL, dr'⟩ _ := ⟨f5.at hA4.out.ka (by omega), f5.at hA4.out.kb (by omega), f5.at hA4.out.kc (by omega), hA4.out.same.trans f5 (fun i hi e => by have : i = bg := e; omega), dv5⟩
    clear kg y0 y1 y2 yf0 yf1 yf2 yl hA4 dv5
    generalize ((w4.setCell ⟨bg, 0, none⟩ (.int .i64 b)).setCell ⟨bg, 1, none⟩ (.slice a2 L2.length c2)).setCell ⟨bg, 2, none⟩ (.int .i64 r2) = W5 at *
    clear f5 d2
    have kb := hA5.kb
    simp only at kb
    replace k5 := gi k5; replace d5 := gi d5; replace hA5 := gi hA5; replace kb := gi kb
    obtain ⟨y0, y1, y2, yl⟩ := g3l kb.out
    obtain ⟨x0, x1, x2, xl⟩ := g3l k5.out
    go_upto_region 12 with fail
    go_wp2_with fail
    refine (EQ.out ⟨b, da, dc, dL, dr'⟩ ⟨b, a2, c2, L2, r2⟩ _ _ _ hA5.out.at_ d5.out hT.out ⟨rfl, t2.out⟩).mono ?_
    rintro e w6 ⟨rfl, s6⟩
    clear x0 x1 x2 xl
    clear y0 y1 y2 yl
    have hA6 := hA5.out.sm s6
    replace d5 := gi (d5.out.same s6); replace k5 := gi (s6.at k5.out id)
    clear hA5 kb s6
    have kb := hA6.kb
    have kc := hA6.kc
    simp only at kb
    replace hA6 := gi hA6; replace kb := gi kb; replace kc := gi kc
    by_cases hV : V = clS b s t V
    · have hb1 : decide (V = clS b s t V) = true := decide_eq_true hV
      rw [hb1]
      replace hV := gi hV
      obtain ⟨x0, x1, x2, z0, z1, z2, xl⟩ := qar kc.out
      obtain ⟨x90, x91, x92, x9l⟩ := g3l k5.out
      go_wp2_with fail
      obtain ⟨q0, q1, q2, hdF, hsF⟩ := qaI hA6.out.same (by omega) (d := ⟨b, a2, c2, L2, r2⟩) d5.out kc.out
      refine bodyPost_ret (v := .tuple #[.agg #[.int .i64 b, .slice a2 L2.length c2, .int .i64 r2], .int .i64 k, .int .i64 0]) (by simp [results, Tryz.results63, go_sem, q0, q1, q2]) rfl ?_
      have ht2 := t2.out
      rw [← hV.out, hVd.out] at ht2
      exact .inr ⟨rfl, ⟨b, a2, c2, L2, r2⟩, k, rfl, hdF, ⟨rfl, ht2⟩, by rw [hstep.out, ← hV.out]; exact hVd.out, hne.out, hsF⟩
    · have hb1 : decide (V = clS b s t V) = false := decide_eq_false hV
      rw [hb1]
      have hne' : ∀ j, j < k + 1 → clI b s t u j ≠ clI b s t u (j + 1) := fun j hj => by
       rcases Nat.lt_or_ge j k with h | h
       · exact hne.out j h
       · obtain rfl : j = k := by omega
         rw [hstep.out, ← hVd.out]; exact hV
      have hkb' := hbl.out (k + 1) hne'
      have hw1 : IntKind.i64.wrap ((k : Int) + 1) = ((k + 1 : Nat) : Int) := by rw [IntWalk.i64_in _ (by omega)]; omega
      have hA7 := hA6.out.next (d' := ⟨b, a2, c2, L2, r2⟩) (by omega) (by omega) (by omega) d5.out
      simp only at hA7
      replace hV := gi hV; replace hne' := gi hne'; replace hA7 := gi hA7
      obtain ⟨x0, x1, x2, z0, z1, z2, xl⟩ := qar kb.out
      obtain ⟨x90, x91, x92, x9l⟩ := g3l k5.out
      go_wp2_with fail
      go_roundw
      case rel => exact ⟨k + 1, _, rfl, hA7.out.sm fs2, ⟨rfl, by rw [hstep.out]; exact t2.out⟩, by rw [hstep.out]; exact hPk2.out, hne'.out⟩
      case measure => simp [intOf]; omega
 · obtain rfl : E = 4 := by rw [hE.out, if_neg hmb]
   replace hmb := gi hmb
   obtain ⟨x0, x1, x2, z0, z1, z2, xl⟩ := qar kc.out
   go_wp2_with fail
   obtain ⟨d0, d1, d2, hsF⟩ := qdi hs1.out (by omega) kc.out
   refine bodyPost_ret (v := .tuple #[.agg #[.int .i64 0, .slice none 0 0, .int .i64 0], .int .i64 0, .int .i64 4]) (by simp [results, Tryz.results63, go_sem, d0, d1, d2]) rfl ?_
   exact .inl ⟨by decide, rfl, hsF⟩
theorem qjH {m b : Nat} (dr df : Dg) (t u : List Bool) (w : World) (hr : dr.at w) (hf : df.at w) (T : dr.tab m t) (U : df.tab b u)
 (CL : ∀ W, qad w W → Calls Tryz.prog 63 #[.agg #[.int .i64 dr.n, .slice dr.a dr.L.length dr.cap, .int .i64 dr.r], .agg #[.int .i64 df.n, .slice df.a df.L.length df.cap, .int .i64 df.r], .int .i64 0] W (ClE (if m = 2 * b then 0 else 4) b 0 t u W)) :
 Calls Tryz.prog 32 #[.agg #[.int .i64 dr.n, .slice dr.a dr.L.length dr.cap, .int .i64 dr.r], .agg #[.int .i64 df.n, .slice df.a df.L.length df.cap, .int .i64 df.r]] w (ClE (if m = 2 * b then 0 else 4) b 0 t u w) := by
 obtain ⟨E, hE⟩ : ∃ E : Int, E = if m = 2 * b then 0 else 4 := ⟨_, rfl⟩
 rw [← hE] at CL ⊢
 obtain ⟨rn, ra, rc, rL, rr⟩ := dr
 obtain ⟨fn, fa, fc, fL, fr⟩ := df
 simp only at CL ⊢
 generalize rL.length = rq at *
 generalize fL.length = fq at *
 clear hr hf T U
 replace CL := gi CL; replace hE := gi hE
 go_enter Tryz.func32, Tryz.ntmps32
 go_upto_region 1 with fail
 have kc := gv ((w.alloc (.cells #[.int .i64 rn, .slice ra rq rc, .int .i64 rr] 46)).alloc (.cells #[.int .i64 fn, .slice fa fq fc, .int .i64 fr] 46)) (.cells #[.int .i64 0, .slice none 0 0, .int .i64 0] 46)
 have ka := qab (qab (gv w (.cells #[.int .i64 rn, .slice ra rq rc, .int .i64 rr] 46)) (.cells #[.int .i64 fn, .slice fa fq fc, .int .i64 fr] 46)) (.cells #[.int .i64 0, .slice none 0 0, .int .i64 0] 46)
 have kb := qab (gv (w.alloc (.cells #[.int .i64 rn, .slice ra rq rc, .int .i64 rr] 46)) (.cells #[.int .i64 fn, .slice fa fq fc, .int .i64 fr] 46)) (.cells #[.int .i64 0, .slice none 0 0, .int .i64 0] 46)
 have hs : qad w (((w.alloc (.cells #[.int .i64 rn, .slice ra rq rc, .int .i64 rr] 46)).alloc (.cells #[.int .i64 fn, .slice fa fq fc, .int .i64 fr] 46)).alloc (.cells #[.int .i64 0, .slice none 0 0, .int .i64 0] 46)) := fs2
 have hz1 : (w.alloc (.cells #[.int .i64 rn, .slice ra rq rc, .int .i64 rr] 46)).heap.size = w.heap.size + 1 := by simp
 have hz2 : ((w.alloc (.cells #[.int .i64 rn, .slice ra rq rc, .int .i64 rr] 46)).alloc (.cells #[.int .i64 fn, .slice fa fq fc, .int .i64 fr] 46)).heap.size = w.heap.size + 1 + 1 := by simp
 rw [hz1] at kb
 rw [hz2] at kc
 generalize ((w.alloc (.cells #[.int .i64 rn, .slice ra rq rc, .int .i64 rr] 46)).alloc (.cells #[.int .i64 fn, .slice fa fq fc, .int .i64 fr] 46)).alloc (.cells #[.int .i64 0, .slice none 0 0, .int .i64 0] 46) = W0 at *
 clear hz1 hz2
 replace ka := gi ka; replace kb := gi kb; replace kc := gi kc; replace hs := gi hs
 obtain ⟨x0, x1, x2, xl⟩ := g3l ka.out
 obtain ⟨y0, y1, y2, yl⟩ := g3l kb.out
 go_wp2_with fail
 refine (CL.out _ hs.out).mono ?_
 intro e w1 hM
 clear x0 x1 x2 xl
 clear y0 y1 y2 yl
 rcases hM with ⟨h0, rfl, s1⟩ | ⟨h0, d, k, rfl, hd, ht, h1, h2, s1⟩
 · replace kc := gi (s1.at kc.out id)
   have hs1 := hs.out.same s1
   clear s1
   replace hs1 := gi hs1; replace h0 := gi h0
   obtain ⟨x0, x1, x2, z0, z1, z2, xl⟩ := qar kc.out
   go_wp2_with fail
   obtain ⟨d0, d1, d2, hsF⟩ := qdi hs1.out (by omega) kc.out
   refine bodyPost_ret (v := .tuple #[.agg #[.int .i64 0, .slice none 0 0, .int .i64 0], .int .i64 0, .int .i64 E]) (by simp [results, Tryz.results32, go_sem, d0, d1, d2]) rfl ?_
   exact .inl ⟨h0.out, rfl, hsF⟩
 · replace kc := gi (s1.at kc.out id)
   have hs1 := hs.out.same s1
   clear s1
   replace hs1 := gi hs1; replace h0 := gi h0; replace h1 := gi h1; replace h2 := gi h2; replace hd := gi hd; replace ht := gi ht
   obtain ⟨x0, x1, x2, z0, z1, z2, xl⟩ := qar kc.out
   go_wp2_with fail
   obtain ⟨d0, d1, d2, hdF, hsF⟩ := qaI hs1.out (by omega) hd.out kc.out
   refine bodyPost_ret (v := .tuple #[.agg #[.int .i64 d.n, .slice d.a d.L.length d.cap, .int .i64 d.r], .int .i64 k, .int .i64 0]) (by simp [results, Tryz.results32, go_sem, d0, d1, d2]) rfl ?_
   exact .inr ⟨h0.out, d, k, rfl, hdF, ht.out, h1.out, h2.out, hsF⟩
theorem qiq {m b : Nat} (dr df : Dg) (t u : List Bool) (w : World) (hr : dr.at w) (hf : df.at w) (T : dr.tab m t) (U : df.tab b u)
 (CL : ∀ W, qad w W → Calls Tryz.prog 63 #[.agg #[.int .i64 dr.n, .slice dr.a dr.L.length dr.cap, .int .i64 dr.r], .agg #[.int .i64 df.n, .slice df.a df.L.length df.cap, .int .i64 df.r], .int .i64 1] W (ClE (if m = 2 * b then 0 else 4) b 1 t u W)) :
 Calls Tryz.prog 34 #[.agg #[.int .i64 dr.n, .slice dr.a dr.L.length dr.cap, .int .i64 dr.r], .agg #[.int .i64 df.n, .slice df.a df.L.length df.cap, .int .i64 df.r]] w (ClE (if m = 2 * b then 0 else 4) b 1 t u w) := by
 obtain ⟨E, hE⟩ : ∃ E : Int, E = if m = 2 * b then 0 else 4 := ⟨_, rfl⟩
 rw [← hE] at CL ⊢
 obtain ⟨rn, ra, rc, rL, rr⟩ := dr
 obtain ⟨fn, fa, fc, fL, fr⟩ := df
 simp only at CL ⊢
 generalize rL.length = rq at *
 generalize fL.length = fq at *
 clear hr hf T U
 replace CL := gi CL; replace hE := gi hE
 go_enter Tryz.func34, Tryz.ntmps34
 go_upto_region 1 with fail
 have kc := gv ((w.alloc (.cells #[.int .i64 rn, .slice ra rq rc, .int .i64 rr] 46)).alloc (.cells #[.int .i64 fn, .slice fa fq fc, .int .i64 fr] 46)) (.cells #[.int .i64 0, .slice none 0 0, .int .i64 0] 46)
 have ka := qab (qab (gv w (.cells #[.int .i64 rn, .slice ra rq rc, .int .i64 rr] 46)) (.cells #[.int .i64 fn, .slice fa fq fc, .int .i64 fr] 46)) (.cells #[.int .i64 0, .slice none 0 0, .int .i64 0] 46)
 have kb := qab (gv (w.alloc (.cells #[.int .i64 rn, .slice ra rq rc, .int .i64 rr] 46)) (.cells #[.int .i64 fn, .slice fa fq fc, .int .i64 fr] 46)) (.cells #[.int .i64 0, .slice none 0 0, .int .i64 0] 46)
 have hs : qad w (((w.alloc (.cells #[.int .i64 rn, .slice ra rq rc, .int .i64 rr] 46)).alloc (.cells #[.int .i64 fn, .slice fa fq fc, .int .i64 fr] 46)).alloc (.cells #[.int .i64 0, .slice none 0 0, .int .i64 0] 46)) := fs2
 have hz1 : (w.alloc (.cells #[.int .i64 rn, .slice ra rq rc, .int .i64 rr] 46)).heap.size = w.heap.size + 1 := by simp
 have hz2 : ((w.alloc (.cells #[.int .i64 rn, .slice ra rq rc, .int .i64 rr] 46)).alloc (.cells #[.int .i64 fn, .slice fa fq fc, .int .i64 fr] 46)).heap.size = w.heap.size + 1 + 1 := by simp
 rw [hz1] at kb
 rw [hz2] at kc
 generalize ((w.alloc (.cells #[.int .i64 rn, .slice ra rq rc, .int .i64 rr] 46)).alloc (.cells #[.int .i64 fn, .slice fa fq fc, .int .i64 fr] 46)).alloc (.cells #[.int .i64 0, .slice none 0 0, .int .i64 0] 46) = W0 at *
 clear hz1 hz2
 replace ka := gi ka; replace kb := gi kb; replace kc := gi kc; replace hs := gi hs
 obtain ⟨x0, x1, x2, xl⟩ := g3l ka.out
 obtain ⟨y0, y1, y2, yl⟩ := g3l kb.out
 go_wp2_with fail
 refine (CL.out _ hs.out).mono ?_
 intro e w1 hM
 clear x0 x1 x2 xl
 clear y0 y1 y2 yl
 rcases hM with ⟨h0, rfl, s1⟩ | ⟨h0, d, k, rfl, hd, ht, h1, h2, s1⟩
 · replace kc := gi (s1.at kc.out id)
   have hs1 := hs.out.same s1
   clear s1
   replace hs1 := gi hs1; replace h0 := gi h0
   obtain ⟨x0, x1, x2, z0, z1, z2, xl⟩ := qar kc.out
   go_wp2_with fail
   obtain ⟨d0, d1, d2, hsF⟩ := qdi hs1.out (by omega) kc.out
   refine bodyPost_ret (v := .tuple #[.agg #[.int .i64 0, .slice none 0 0, .int .i64 0], .int .i64 0, .int .i64 E]) (by simp [results, Tryz.results34, go_sem, d0, d1, d2]) rfl ?_
   exact .inl ⟨h0.out, rfl, hsF⟩
 · replace kc := gi (s1.at kc.out id)
   have hs1 := hs.out.same s1
   clear s1
   replace hs1 := gi hs1; replace h0 := gi h0; replace h1 := gi h1; replace h2 := gi h2; replace hd := gi hd; replace ht := gi ht
   obtain ⟨x0, x1, x2, z0, z1, z2, xl⟩ := qar kc.out
   go_wp2_with fail
   obtain ⟨d0, d1, d2, hdF, hsF⟩ := qaI hs1.out (by omega) hd.out kc.out
   refine bodyPost_ret (v := .tuple #[.agg #[.int .i64 d.n, .slice d.a d.L.length d.cap, .int .i64 d.r], .int .i64 k, .int .i64 0]) (by simp [results, Tryz.results34, go_sem, d0, d1, d2]) rfl ?_
   exact .inr ⟨h0.out, d, k, rfl, hdF, ht.out, h1.out, h2.out, hsF⟩
end Go.Proofs.YticcpnekjddanaaGreatDoor
