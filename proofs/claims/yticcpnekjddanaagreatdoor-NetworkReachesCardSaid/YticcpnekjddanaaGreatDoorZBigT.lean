/-  -/
import Derived.Test.YticcpnekjddanaaGreatDoorZRelS
import Derived.Test.YticcpnekjddanaaGreatDoorZRename
import Derived.Test.YticcpnekjddanaaGreatDoorZOpsR
import Derived.Test.YticcpnekjddanaaGreatDoorZRelP
import Derived.Test.YticcpnekjddanaaGreatDoorZValue
set_option maxRecDepth 100000
set_option maxHeartbeats 1000000
set_option linter.unusedVariables false
set_option linter.unusedSimpArgs false
namespace Go.Proofs.YticcpnekjddanaaGreatDoor
open Go.RowKit
def gL (g : Nat → Nat) (n : Nat) : List Int := (List.range n).map fun (i : Nat) => (g i : Int)
theorem qek (g : Nat → Nat) (n : Nat) : (gL g n).length = n := by simp [gL]
theorem qjy (g : Nat → Nat) (n : Nat) : gL g (n + 1) = gL g n ++ [(g n : Int)] := by simp [gL, List.range_succ]
theorem qm4 (g : Nat → Nat) {n i : Nat} (h : i < n) : toF (gL g n) i = g i := by simp [toF, gL, List.getD, h]
theorem qm5 {g : Nat → Nat} {n m : Nat} (hm : ∀ i, i < n → g i < m) (hs : ∀ i, i + 1 < n → g i < g (i + 1)) : qaw m (gL g n) (gL g n).length 0 = 0 := by
 rw [qek]
 have key : ∀ k i, i + k = n → qaw m (gL g n) k i = 0 := by
  intro k
  induction k with
  | zero => intro i _; rfl
  | succ k ih =>
   intro i hi
   have h1 := hm i (by omega)
   rw [qaw, qm4 g (show i < n by omega), if_neg (by omega), if_neg ?_]
   · exact ih (i + 1) (by omega)
   · rintro ⟨h0, h2⟩
     have h3 := hs (i - 1) (by omega)
     rw [qm4 g (show i - 1 < n by omega)] at h2
     rw [show i - 1 + 1 = i by omega] at h3
     omega
 exact key n 0 (by omega)
theorem qlt {f f' : Nat → Int} {n m : Nat} (h : ∀ i, i < n → f i = f' i) (t : List Bool) : qhc f n m t = qhc f' n m t := by
 unfold qhc
 congr 1
 funext i
 congr 1
 unfold qmO
 exact qe1 (fun u hu => by rw [h u (by omega)])
theorem qe0.dgN {n : Nat} {t : List Bool} {O : List Nd} {r : Int} {w w' : World} {e : Ending} (h : qe0 w n O r e w') (T : qbN n t O r) : DgN n t w e w' := by
 obtain ⟨ao, co, rfl, h1, h2⟩ := h
 exact ⟨⟨n, ao, co, O, r⟩, rfl, h1, ⟨rfl, T⟩, h2⟩
theorem qfS (d : Dg) (n m : Nat) (t : List Bool) (g : Nat → Nat) (aQ : Option Addr) (cQ : Nat) (w : World) (hn : n ≤ 1000) (hm : m ≤ 40) (hg : ∀ i, i < n → g i < m) (hs : ∀ i, i + 1 < n → g i < g (i + 1)) (hat : d.at w) (T : d.tab n t) (hQ : qan w (.slice aQ n cQ) n (gw (gL g n))) :
 Calls Tryz.prog 120 #[.agg #[.int .i64 d.n, .slice d.a d.L.length d.cap, .int .i64 d.r], .int .i64 m, .slice aQ n cQ] w (DgN m (qhc (fun i => (g i : Int)) n m t) w) := by
 have h0 := qm5 (m := m) hg hs
 have := qls d n t m (gL g n) aQ cQ w hat T (by rw [qek]; exact hn) (by rw [qek]; exact hQ)
 rw [qek] at this
 refine this.mono fun e w' h => ?_
 have hw : qmP n m (gL g n) = 0 := by
  unfold qmP
  rw [if_neg (by omega), if_neg (by rw [qek]; simp)]
  exact h0
 rcases h with ⟨h1, _⟩ | ⟨_, h2⟩
 · exact absurd hw h1
 · have hr := qjp T.2 (up_of h0 (qek g n)) hm
   rw [qlt (f' := fun i => (g i : Int)) (fun i hi => qm4 g hi)] at hr
   exact qe0.dgN h2 hr
theorem qlu (d : Dg) (n m k c : Nat) (t : List Bool) (w : World) (hn : n ≤ 40) (hm : m ≤ 40) (hk : 1 ≤ k ∧ k ≤ 10) (hc : c ≤ 10) (hg : ∀ i, i < n → k * i + c < m) (hat : d.at w) (T : d.tab n t) :
 Calls Tryz.prog 124 #[.agg #[.int .i64 d.n, .slice d.a d.L.length d.cap, .int .i64 d.r], .int .i64 k, .int .i64 c, .int .i64 m] w (DgN m (qhc (fun i => ((k * i + c : Nat) : Int)) n m t) w) := by
 have RN := fun aQ cQ W (hW : qad w W) (hQ : qan W (.slice aQ n cQ) n (gw (gL (fun i => k * i + c) n))) => qfS d n m t (fun i => k * i + c) aQ cQ W (by omega) hm hg (fun i hi => by
  have : k * (i + 1) = k * i + k := by rw [Nat.mul_succ]
  simp only [this]; omega) (qaa.same hat hW) T hQ
 obtain ⟨i3, hi3, hi3z, hi3s, hi3b⟩ := info_parts qc0
 have e := T.1
 rw [e] at RN ⊢
 obtain ⟨hk1, hk2⟩ := hk
 replace RN := gi RN; replace hat := gi hat; replace T := gi T; replace e := gi e; replace hg := gi hg
 go_enter Tryz.func124, Tryz.ntmps124
 go_wp2_with fail
 have kf := qab (gv w (.cells #[.int .i64 n, .slice d.a d.L.length d.cap, .int .i64 d.r] 46)) (.cells #[.int .i64 0, .slice none 0 0, .int .i64 0] 46)
 have kb := qae (w := w.alloc (.cells #[.int .i64 n, .slice d.a d.L.length d.cap, .int .i64 d.r] 46)) (k := w.heap.size + 1) (by simp) (.cells #[.int .i64 0, .slice none 0 0, .int .i64 0] 46)
 have hs : qad w ((w.alloc (.cells #[.int .i64 n, .slice d.a d.L.length d.cap, .int .i64 d.r] 46)).alloc (.cells #[.int .i64 0, .slice none 0 0, .int .i64 0] 46)) := fs2
 have hlt := gu kb
 generalize (w.alloc (.cells #[.int .i64 n, .slice d.a d.L.length d.cap, .int .i64 d.r] 46)).alloc (.cells #[.int .i64 0, .slice none 0 0, .int .i64 0] 46) = W0 at *
 replace kb := gi kb; replace kf := gi kf; replace hs := gi hs
 go_loopw [10, 14] (fun v i wr => ∃ (j cc : Nat) (a : Option Addr), i = .int .i64 j ∧ j ≤ n ∧ v = .slice a j cc ∧ wr.ownsRow W0.heap.size 3 1 (.slice a j cc) j (gw (gL (fun i => k * i + c) j)) ∧ qad W0 wr) (fun _ i _ => n - (intOf i).toNat)
 case atStart => exact ⟨0, 0, none, rfl, by omega, rfl, World.ownsRow_nil _ _ _ _, Fr.refl _ _⟩
 case round =>
  obtain ⟨j, cc, a, rfl, hj, rfl, ho, hs1⟩ := hrel
  have hws := hs1.size
  have hgs := qjy (fun i => k * i + c) j
  by_cases hjn : j < n
  · have hb := hg.out j hjn
    have hkj : (k : Int) * j = ((k * j : Nat) : Int) := by simp
    have hw1 : IntKind.i64.wrap ((k : Int) * j) = (k : Int) * j := IntWalk.i64_in _ (by rw [hkj]; omega)
    have hw2 : IntKind.i64.wrap ((k : Int) * j + c) = (k : Int) * j + c := IntWalk.i64_in _ (by rw [hkj]; omega)
    clear hkj
    replace ho := gi ho; replace hs1 := gi hs1; replace hgs := gi hgs; replace hb := gi hb
    go_wp2_with (at_builtin; refine qai rfl (.tmp 17) (.tmp 23) 33 rfl W0.heap.size 3 i3 (.int .i64 0) 1 8 Tryz.underlying33 hi3 hi3z hi3s hi3b rfl (by decide) (by decide) a j cc (gw (gL (fun i => k * i + c) j)) rfl (qag ho.out fs2) (by omega) wr.heap.size [.int .i64 ((k : Int) * j + c)] rfl rfl (gv _ _) (by simp [Value.oneCell']) (by simp; omega) ?_; intro a5 c5 w5 ho5 hG5)
    have hs5 : qad W0 w5 := qas (hs1.out.same fs2) hG5 (fun k hk => (ho.out.lt k hk).1)
    have ho5' : w5.ownsRow W0.heap.size 3 1 (.slice a5 (j + 1) c5) (j + 1) (gw (gL (fun i => k * i + c) (j + 1))) := by
     rw [hgs.out]; have := ho5; simpa [gw] using this
    clear ho5 hG5
    go_roundw
    case rel => exact ⟨j + 1, c5, a5, by go_num, by omega, rfl, ho5', hs5⟩
    case measure => simp [intOf]; omega
  · obtain rfl : j = n := by omega
    replace kb := gi (hs1.at kb.out id)
    replace kf := gi (hs1.at kf.out id)
    have hR := (qaa.of_owns ho).row
    have hs3 := hs.out.same hs1
    replace ho := gi ho; replace hs1 := gi hs1; replace hgs := gi hgs; replace hR := gi hR; replace hs3 := gi hs3
    obtain ⟨k0, k1, k2, kl⟩ := g3l kf.out
    go_wp2_with fail
    refine (RN.out _ _ _ hs3.out hR.out).mono ?_
    rintro e w5 ⟨u, rfl, hu, hut, hs4⟩
    replace kb := gi (hs4.at kb.out id)
    have hs5 := hs3.out.same hs4
    replace hu := gi hu; replace hut := gi hut; replace hs5 := gi hs5
    clear k0 k1 k2 kl
    obtain ⟨x0, x1, x2, z0, z1, z2, xl⟩ := qar kb.out
    go_wp2_with fail
    obtain ⟨d0, d1, d2, hdF, hsF⟩ := qaI hs5.out (by omega) hu.out kb.out
    refine bodyPost_ret (v := .tuple #[.agg #[.int .i64 u.n, .slice u.a u.L.length u.cap, .int .i64 u.r], .int .i64 0]) (by simp [results, Tryz.results124, go_sem, d0, d1, d2]) rfl ?_
    exact ⟨u, rfl, hdF, hut.out, hsF⟩
def tbF (n : Nat) (p : Nat → Bool) : List Bool := (List.range (2 ^ n)).map p
theorem qbr (n : Nat) (p : Nat → Bool) : (tbF n p).length = 2 ^ n := by simp [tbF]
theorem qbO (n : Nat) (p : Nat → Bool) {i : Nat} (h : i < 2 ^ n) : (tbF n p).getD i false = p i := by simp [tbF, List.getD, h]
theorem qdj {n : Nat} {p q : Nat → Bool} (h : ∀ i, i < 2 ^ n → p i = q i) : tbF n p = tbF n q := List.map_congr_left (fun i hi => h i (List.mem_range.1 hi))
theorem tbF_inj {n : Nat} {p q : Nat → Bool} (h : tbF n p = tbF n q) {i : Nat} (hi : i < 2 ^ n) : p i = q i := by rw [← qbO n p hi, h, qbO n q hi]
theorem qm6 (n : Nat) (p q : Nat → Bool) : qbE (tbF n p) (tbF n q) (fls n) = tbF n (fun i => p i && q i) := by
 refine qb6 (qbG (qbr _ _) (qbr _ _) (qbZ n)) (qbr _ _) (fun i hi => ?_)
 rw [qee (qbr _ _) (qbr _ _) (qbZ n) hi, qbO _ _ hi, qbO _ _ hi, qbO _ _ hi, flsG]
 cases p i <;> simp
def wv : Nat → Nat → Nat → Nat
 | 0, _, _ => 0
 | d + 1, x, y => 4 * wv d (x / 2) (y / 2) + 2 * (x % 2) + y % 2
def ux : Nat → Nat → Nat
 | 0, _ => 0
 | d + 1, i => 2 * ux d (i / 4) + i / 2 % 2
def uy : Nat → Nat → Nat
 | 0, _ => 0
 | d + 1, i => 2 * uy d (i / 4) + i % 2
theorem pow22 (d : Nat) : 2 ^ (2 * (d + 1)) = 4 * 2 ^ (2 * d) := by rw [show 2 * (d + 1) = 2 * d + 2 by omega, Nat.pow_add]; omega
theorem qo4 : ∀ (d x y : Nat), wv d x y < 2 ^ (2 * d)
 | 0, _, _ => by simp [wv]
 | d + 1, x, y => by
  have := qo4 d (x / 2) (y / 2)
  rw [wv, pow22]; omega
theorem ux_wv : ∀ (d x y : Nat), x < 2 ^ d → ux d (wv d x y) = x
 | 0, x, y, h => by simp at h; simp [ux, h]
 | d + 1, x, y, h => by
  have ih := ux_wv d (x / 2) (y / 2) (by rw [Nat.pow_succ] at h; omega)
  rw [ux, wv, show (4 * wv d (x / 2) (y / 2) + 2 * (x % 2) + y % 2) / 4 = wv d (x / 2) (y / 2) by omega, ih]
  omega
theorem uy_wv : ∀ (d x y : Nat), y < 2 ^ d → uy d (wv d x y) = y
 | 0, x, y, h => by simp at h; simp [uy, h]
 | d + 1, x, y, h => by
  have ih := uy_wv d (x / 2) (y / 2) (by rw [Nat.pow_succ] at h; omega)
  rw [uy, wv, show (4 * wv d (x / 2) (y / 2) + 2 * (x % 2) + y % 2) / 4 = wv d (x / 2) (y / 2) by omega, ih]
  omega
theorem qm7 {w : World} {base base' : Nat} {e : TypeId} {size : Nat} {v : Value} {n : Nat} {xs : List Value} (h : w.ownsRow base e size v n xs) (hb : base' ≤ base) : w.ownsRow base' e size v n xs :=
 ⟨h.1, h.2.imp id fun ⟨g, cap, cur, h1, h2, h3⟩ => ⟨g, cap, cur, h1, Nat.le_trans hb h2, h3⟩⟩
theorem DgN.open {n : Nat} {t : List Bool} {w w' : World} {e : Ending} (h : DgN n t w e w') : ∃ a c L r, e = .returned (.tuple #[.agg #[.int .i64 n, .slice a L.length c, .int .i64 r], .int .i64 0]) ∧ Dg.at w' ⟨n, a, c, L, r⟩ ∧ qbN n t L r ∧ qad w w' := by
 obtain ⟨⟨dn, a, c, L, r⟩, rfl, h1, h2, h3⟩ := h
 obtain rfl : dn = (n : Int) := h2.1
 exact ⟨a, c, L, r, rfl, h1, h2.2, h3⟩
def prC : List (Nat × Nat) → List Value
 | [] => []
 | p :: l => .int .i64 p.1 :: .int .i64 p.2 :: prC l
theorem infoP : (Tryz.prog.info? 103).map (fun i => (i.zero, i.size, i.bytes)) = some (some (.agg #[.int .i64 0, .int .i64 0]), 2, 16) := by kernel_rfl
theorem qeM : ∀ (l m : List (Nat × Nat)), prC (l ++ m) = prC l ++ prC m
 | [], m => rfl
 | p :: l, m => by simp [prC, qeM l m]
def lexB (x y : Nat × Nat) : Prop := x.1 < y.1 ∨ x.1 = y.1 ∧ x.2 < y.2
def evT (n : Nat) (t : List Bool) (ρ : Nat → Bool) : Bool := t.getD (qam ρ n 0) false
theorem qaZ {ρ σ : Nat → Bool} : ∀ n, (∀ v, v < n → ρ v = σ v) → qam ρ n 0 = qam σ n 0
 | 0, _ => rfl
 | n + 1, h => by
  rw [qbA, qbA, qaZ n (fun v hv => h v (by omega)), Nat.zero_add, h n (by omega)]
theorem qks {n : Nat} {t : List Bool} {ρ σ : Nat → Bool} (h : ∀ v, v < n → ρ v = σ v) : evT n t ρ = evT n t σ := by unfold evT; rw [qaZ n h]
theorem qb9 {n i : Nat} (hi : i < 2 ^ n) : qam (qaY n i) n 0 = i := by rw [qd5 n 0 n i (by omega), Nat.mod_eq_of_lt hi]
theorem qel {ρ : Nat → Bool} : ∀ {n v : Nat}, v < n → qaY n (qam ρ n 0) v = ρ v
 | 0, v, h => by omega
 | n + 1, v, h => by
  rw [qbA, Nat.zero_add]
  unfold qaY
  by_cases hv : v = n
  · subst hv
    simp only [Nat.add_sub_cancel, Nat.sub_self, Nat.pow_zero, Nat.div_one]
    by_cases hr : ρ v = true <;> simp [hr] <;> omega
  · have ih := qel (ρ := ρ) (n := n) (v := v) (by omega)
    unfold qaY at ih
    rw [← ih]
    have e : n + 1 - 1 - v = (n - 1 - v) + 1 := by omega
    have e2 : (2 * qam ρ n 0 + if ρ n = true then 1 else 0) / 2 = qam ρ n 0 := by split <;> omega
    rw [e, Nat.pow_succ, Nat.mul_comm (2 ^ (n - 1 - v)) 2, ← Nat.div_div_eq_div_mul, e2]
theorem qm8 {n : Nat} {t : List Bool} {i : Nat} (hi : i < 2 ^ n) : t.getD i false = evT n t (qaY n i) := by unfold evT; rw [qb9 hi]
theorem qjz {n : Nat} {t u : List Bool} (ht : t.length = 2 ^ n) (hu : u.length = 2 ^ n) (h : ∀ ρ, evT n t ρ = evT n u ρ) : t = u :=
 qb6 ht hu (fun i hi => by rw [qm8 hi, qm8 hi]; exact h _)
theorem qkt (n : Nat) (p : Nat → Bool) (ρ : Nat → Bool) : evT n (tbF n p) ρ = p (qam ρ n 0) := qbO n p (qbk ρ n 0)
theorem qfT {f : Nat → Int} {n m : Nat} {t : List Bool} (hf : ∀ v, v < n → (f v).toNat < m) (ρ : Nat → Bool) : evT m (qhc f n m t) ρ = evT n t (fun v => ρ (f v).toNat) := by
 have e : qhc f n m t = tbF m (fun i => t.getD (qmO f m i n) false) := rfl
 rw [e, qkt]
 unfold evT qmO
 rw [qaZ n (fun v hv => qel (hf v hv))]
theorem qm9 {o : Bool → Bool → Bool} {n u : Nat} {t : List Bool} (hu : u < n) (ρ : Nat → Bool) : evT n (qli o n u t) ρ = o (evT n t (qbI ρ u false)) (evT n t (qbI ρ u true)) := by
 have hl := qbk ρ n 0
 show (qli o n u t).getD _ false = _
 rw [one_get o n u t hl, qdx n _ u false hl hu, qdx n _ u true hl hu]
 unfold evT
 rw [qaZ n (ρ := qbI (qaY n (qam ρ n 0)) u false) (σ := qbI ρ u false) (fun v hv => by unfold qbI; by_cases h : v = u <;> simp [h, qel hv]),
  qaZ n (ρ := qbI (qaY n (qam ρ n 0)) u true) (σ := qbI ρ u true) (fun v hv => by unfold qbI; by_cases h : v = u <;> simp [h, qel hv])]
theorem qqh {n : Nat} : ∀ (set : List Nat) (t : List Bool) (ρ : Nat → Bool), (∀ u ∈ set, u < n) → (evT n (qcw (qOp false) n set t) ρ = true ↔ ∃ σ : Nat → Bool, (∀ v, v ∉ set → σ v = ρ v) ∧ evT n t σ = true)
 | [], t, ρ, _ => by
  constructor
  · intro h; exact ⟨ρ, fun _ _ => rfl, h⟩
  · rintro ⟨σ, h1, h2⟩
    rw [show qcw (qOp false) n [] t = t from rfl, ← qks (fun v _ => h1 v (by simp))]
    exact h2
 | u :: set, t, ρ, h => by
  have ih := qqh set (qli (qOp false) n u t) ρ (fun x hx => h x (List.mem_cons_of_mem _ hx))
  have hu := h u List.mem_cons_self
  rw [show qcw (qOp false) n (u :: set) t = qcw (qOp false) n set (qli (qOp false) n u t) from rfl, ih]
  constructor
  · rintro ⟨σ, h1, h2⟩
    rw [qm9 hu] at h2
    have h3 : evT n t (qbI σ u false) = true ∨ evT n t (qbI σ u true) = true := by
     revert h2
     generalize evT n t (qbI σ u false) = x
     generalize evT n t (qbI σ u true) = y
     cases x <;> cases y <;> simp [qOp]
    rcases h3 with h3 | h3
    · exact ⟨_, fun v hv => by unfold qbI; rw [if_neg (fun e => hv (by simp [e]))]; exact h1 v (fun hm => hv (List.mem_cons_of_mem _ hm)), h3⟩
    · exact ⟨_, fun v hv => by unfold qbI; rw [if_neg (fun e => hv (by simp [e]))]; exact h1 v (fun hm => hv (List.mem_cons_of_mem _ hm)), h3⟩
  · rintro ⟨σ, h1, h2⟩
    refine ⟨fun v => if v ∈ set then σ v else ρ v, fun v hv => if_neg hv, ?_⟩
    rw [qm9 hu]
    have e : evT n t (qbI (fun v => if v ∈ set then σ v else ρ v) u (σ u)) = true := by
     rw [← h2]
     refine qks (fun v hv => ?_)
     unfold qbI
     split
     · rename_i h; rw [h]
     · rename_i h4
       by_cases h5 : v ∈ set
       · simp [h5]
       · simp only [if_neg h5]
         exact (h1 v (by simp [h4, h5])).symm
    cases hsu : σ u <;> rw [hsu] at e <;> simp [qOp, e]
theorem qem (ρ : Nat → Bool) : ∀ b, qam ρ (2 * b) 0 = wv b (qam (fun k => ρ (2 * k)) b 0) (qam (fun k => ρ (2 * k + 1)) b 0)
 | 0 => rfl
 | d + 1 => by
  have ih := qem ρ d
  rw [show 2 * (d + 1) = (2 * d + 1) + 1 by omega, qbA, qbA, ih, qbA, qbA, wv]
  simp only [Nat.zero_add]
  have e1 : (2 * qam (fun k => ρ (2 * k)) d 0 + if ρ (2 * d) then 1 else 0) / 2 = qam (fun k => ρ (2 * k)) d 0 := by split <;> omega
  have e2 : (2 * qam (fun k => ρ (2 * k + 1)) d 0 + if ρ (2 * d + 1) then 1 else 0) / 2 = qam (fun k => ρ (2 * k + 1)) d 0 := by split <;> omega
  rw [e1, e2]
  split <;> split <;> omega
def csT : Nat → List Bool → Nat
 | 0, _ => 0
 | d + 1, t => if t.take (2 ^ d) = t.drop (2 ^ d) then csT d (t.take (2 ^ d)) else csT d (t.take (2 ^ d)) + csT d (t.drop (2 ^ d)) + 1
theorem qo5 (N : List Nd) (x : Nd) : (qa2 N x).1.length ≤ N.length + 1 := by
 unfold qa2
 split
 · simp
 · split <;> simp
theorem qcT {d : Nat} {t : List Bool} (h : t.length = 2 ^ (d + 1)) : (t.take (2 ^ d)).length = 2 ^ d ∧ (t.drop (2 ^ d)).length = 2 ^ d := by
 rw [Nat.pow_succ] at h
 rw [List.length_take, List.length_drop]
 omega
theorem qff {n : Int} : ∀ (d : Nat) (N : List Nd) (v : Int) (t : List Bool), Ord N n → v + d = n → 0 ≤ v → t.length = 2 ^ d → (qal d N v t).1.length ≤ N.length + csT d t
 | 0, N, v, t, _, _, _, _ => by simp [qal]
 | d + 1, N, v, t, hN, hv, h0, ht => by
  obtain ⟨hl1, hl2⟩ := qcT ht
  obtain ⟨a1, a2, a3, a4, a5⟩ := qhY d N (v + 1) (t.take (2 ^ d)) hN (by omega) (by omega)
  have i1 := qff d N (v + 1) (t.take (2 ^ d)) hN (by omega) (by omega) hl1
  rw [qe2 d N v ht, csT]
  split
  · rename_i he
    have h2 := qcm a1 d (v + 1) _ (by omega) (by omega) a3 a4
    rw [a5 hl1, he] at h2
    rw [← he] at h2
    rw [← he, h2]
    simp only [qa2, if_true]
    exact i1
  · have i2 := qff d (qal d N (v + 1) (t.take (2 ^ d))).1 (v + 1) (t.drop (2 ^ d)) a1 (by omega) (by omega) hl2
    refine Nat.le_trans (qo5 _ _) ?_
    omega
def kV (V : Nat → Bool) : Nat → Nat → Nat
 | 0, _ => 0
 | d + 1, v => kV V d (v + 1) + if V v then 1 else 0
def qku (V : Nat → Bool) : Nat → Nat → List Bool → Nat
 | 0, _, t => if t.headD false then 1 else 0
 | d + 1, v, t => if V v then qku V d (v + 1) (t.take (2 ^ d)) + qku V d (v + 1) (t.drop (2 ^ d)) else qku V d (v + 1) (t.take (2 ^ d))
def qoy (V : Nat → Bool) : Nat → Nat → List Bool → Prop
 | 0, _, _ => True
 | d + 1, v, t => (V v = false → t.take (2 ^ d) = t.drop (2 ^ d)) ∧ qoy V d (v + 1) (t.take (2 ^ d)) ∧ qoy V d (v + 1) (t.drop (2 ^ d))
theorem qdk (V : Nat → Bool) : ∀ (d v : Nat) (t : List Bool), t.length = 2 ^ d → qoy V d v t → qku V d v t = 0 → t = List.replicate (2 ^ d) false
 | 0, v, t, ht, _, h => by
  match t, ht with
  | [b], _ => cases b <;> simp [qku] at h ⊢
 | d + 1, v, t, ht, hi, h => by
  obtain ⟨hl1, hl2⟩ := qcT ht
  obtain ⟨i0, i1, i2⟩ := hi
  rw [qku] at h
  have e : t = t.take (2 ^ d) ++ t.drop (2 ^ d) := (List.take_append_drop _ _).symm
  have hp : (2 : Nat) ^ (d + 1) = 2 ^ d + 2 ^ d := by rw [Nat.pow_succ]; omega
  rw [e, hp, ← List.replicate_append_replicate]
  by_cases hV : V v = true
  · rw [if_pos hV] at h
    rw [qdk V d (v + 1) _ hl1 i1 (by omega), qdk V d (v + 1) _ hl2 i2 (by omega)]
  · rw [if_neg hV] at h
    have h1 := qdk V d (v + 1) _ hl1 i1 h
    rw [← i0 (by simpa using hV), h1]
theorem qfg (V : Nat → Bool) : ∀ (d v : Nat) (t : List Bool), t.length = 2 ^ d → qoy V d v t → ∀ m, m ≤ kV V d v → csT d t + 1 ≤ 2 ^ m + (kV V d v - m) * qku V d v t
 | 0, v, t, _, _, m, hm => by
  have : m = 0 := by simp [kV] at hm; exact hm
  subst this
  simp [csT]
 | d + 1, v, t, ht, hi, m, hm => by
  obtain ⟨hl1, hl2⟩ := qcT ht
  obtain ⟨i0, i1, i2⟩ := hi
  have hc0 := qdk V d (v + 1) _ hl1 i1
  have hc1 := qdk V d (v + 1) _ hl2 i2
  have ih1 := qfg V d (v + 1) _ hl1 i1
  have ih2 := qfg V d (v + 1) _ hl2 i2
  rw [csT, qku, kV] at *
  generalize t.take (2 ^ d) = lo at *
  generalize t.drop (2 ^ d) = hi at *
  generalize kV V d (v + 1) = k at *
  generalize qku V d (v + 1) lo = c1 at *
  generalize qku V d (v + 1) hi = c2 at *
  generalize csT d lo = s1 at *
  generalize csT d hi = s2 at *
  by_cases hV : V v = true
  · rw [if_pos hV] at hm ⊢
    rw [if_pos hV]
    by_cases he : lo = hi
    · rw [if_pos he]
      cases m with
      | zero =>
       have h1 := ih1 0 (Nat.zero_le _)
       have h2 : (k - 0) * c1 ≤ (k + 1 - 0) * (c1 + c2) := Nat.mul_le_mul (by omega) (by omega)
       omega
      | succ m =>
       have h1 := ih1 m (by omega)
       have h2 : (k - m) * c1 ≤ (k + 1 - (m + 1)) * (c1 + c2) := Nat.mul_le_mul (by omega) (by omega)
       have h3 : 2 ^ m ≤ 2 ^ (m + 1) := Nat.pow_le_pow_right (by omega) (by omega)
       omega
    · rw [if_neg he]
      cases m with
      | zero =>
       have h1 := ih1 0 (Nat.zero_le _)
       have h2 := ih2 0 (Nat.zero_le _)
       have hne : 1 ≤ c1 + c2 := by
        rcases Nat.eq_zero_or_pos c1 with z1 | z1
        · rcases Nat.eq_zero_or_pos c2 with z2 | z2
          · exact absurd ((hc0 z1).trans (hc1 z2).symm) he
          · omega
        · omega
       have e1 : (k + 1 - 0) * (c1 + c2) = (k - 0) * c1 + (k - 0) * c2 + (c1 + c2) := by
        simp only [Nat.sub_zero, Nat.add_mul, Nat.mul_add, Nat.one_mul]
        omega
       simp only [Nat.pow_zero] at h1 h2 ⊢
       omega
      | succ m =>
       have h1 := ih1 m (by omega)
       have h2 := ih2 m (by omega)
       have e1 : (k + 1 - (m + 1)) * (c1 + c2) = (k - m) * c1 + (k - m) * c2 := by
        rw [Nat.add_sub_add_right, Nat.mul_add]
       rw [Nat.pow_succ]
       omega
  · rw [if_neg hV] at hm ⊢
    rw [if_neg hV, if_pos (i0 (by simpa using hV))]
    exact ih1 m (by omega)
theorem qkv : ∀ d v, kV (fun _ => true) d v = d
 | 0, _ => rfl
 | d + 1, v => by rw [kV, qkv d]; rfl
theorem qfh : ∀ d v t, qoy (fun _ => true) d v t
 | 0, _, _ => trivial
 | d + 1, v, t => ⟨fun h => by simp at h, qfh d _ _, qfh d _ _⟩
theorem qhj : ∀ (d v : Nat) (t : List Bool), t.length = 2 ^ d → qku (fun _ => true) d v t = t.count true
 | 0, v, t, h => by
  match t, h with
  | [b], _ => cases b <;> rfl
 | d + 1, v, t, h => by
  obtain ⟨hl1, hl2⟩ := qcT h
  rw [qku, if_pos rfl, qhj d _ _ hl1, qhj d _ _ hl2, ← List.count_append, List.take_append_drop]
theorem qna {n m c : Nat} {t : List Bool} (h40 : n ≤ 40) (ht : t.length = 2 ^ n) (hm : m ≤ n) (hc : t.count true ≤ c) (hb : 2 ^ m + (n - m) * c ≤ 16385) : (qal n [] 0 t).1.length ≤ 16384 := by
 have h1 := qff (n := n) n [] 0 t (Ord.nil (by omega)) (by omega) (by omega) ht
 have h2 := qfg (fun _ => true) n 0 t ht (qfh _ _ _) m (by rw [qkv]; exact hm)
 rw [qkv, qhj n 0 t ht] at h2
 have h3 : (n - m) * t.count true ≤ (n - m) * c := Nat.mul_le_mul_left _ hc
 simp only [List.length_nil] at h1
 omega
theorem qnb {n c m : Nat} {t : List Bool} (V : Nat → Bool) (h40 : n ≤ 40) (ht : t.length = 2 ^ n) (hi : qoy V n 0 t) (hm : m ≤ kV V n 0) (hc : qku V n 0 t ≤ c) (hb : 2 ^ m + (kV V n 0 - m) * c ≤ 16385) : (qal n [] 0 t).1.length ≤ 16384 := by
 have h1 := qff (n := n) n [] 0 t (Ord.nil (by omega)) (by omega) (by omega) ht
 have h2 := qfg V n 0 t ht hi m hm
 have h3 : (kV V n 0 - m) * qku V n 0 t ≤ (kV V n 0 - m) * c := Nat.mul_le_mul_left _ hc
 simp only [List.length_nil] at h1
 omega
theorem qij {n : Nat} {t : List Bool} (V : Nat → Bool) (h40 : n ≤ 40) (ht : t.length = 2 ^ n) (hi : qoy V n 0 t) (hb : kV V n 0 ≤ 14) : (qal n [] 0 t).1.length ≤ 16384 := by
 refine qnb V (m := kV V n 0) h40 ht hi (Nat.le_refl _) (Nat.le_refl _) ?_
 have : 2 ^ kV V n 0 ≤ 2 ^ 14 := Nat.pow_le_pow_right (by omega) hb
 simp only [Nat.sub_self, Nat.zero_mul]
 omega
theorem qfU {n : Nat} {t : List Bool} (h : n ≤ 14) (ht : t.length = 2 ^ n) : (qal n [] 0 t).1.length ≤ 16384 :=
 qij (fun _ => true) (by omega) ht (qfh _ _ _) (by rw [qkv]; exact h)
theorem qbw {d v : Nat} (ρ : Nat → Bool) (t : List Bool) (ht : t.length = 2 ^ (d + 1)) : t.getD (qam ρ (d + 1) v) false = if ρ v then (t.drop (2 ^ d)).getD (qam ρ d (v + 1)) false else (t.take (2 ^ d)).getD (qam ρ d (v + 1)) false := by
 have h1 := qbk ρ d (v + 1)
 rw [qam]
 simp only [List.getD_eq_getElem?_getD]
 split
 · rw [List.getElem?_drop]
 · rw [Nat.zero_add, List.getElem?_take, if_pos h1]
theorem qeN (ρ : Nat → Bool) (u : Nat) (b : Bool) : qbI ρ u b u = b := by simp [qbI]
theorem qik (ρ : Nat → Bool) {u v : Nat} (b : Bool) (h : v ≠ u) : qbI ρ u b v = ρ v := by simp [qbI, h]
theorem qca (ρ : Nat → Bool) (b : Bool) {u : Nat} : ∀ (d v : Nat), u < v → qam (qbI ρ u b) d v = qam ρ d v
 | 0, _, _ => rfl
 | d + 1, v, h => by rw [qam, qam, qca ρ b d (v + 1) (by omega), qik ρ b (by omega)]
theorem qjA : ∀ (d v : Nat) (t u : List Bool), t.length = 2 ^ d → u.length = 2 ^ d → (∀ ρ, t.getD (qam ρ d v) false = u.getD (qam ρ d v) false) → t = u
 | 0, v, t, u, ht, hu, h => by
  match t, u, ht, hu with
  | [a], [b], _, _ => simpa [qam] using h (fun _ => false)
 | d + 1, v, t, u, ht, hu, h => by
  obtain ⟨hl1, hl2⟩ := qcT ht
  obtain ⟨hu1, hu2⟩ := qcT hu
  have key : ∀ (b : Bool) (ρ : Nat → Bool), qam (qbI ρ v b) d (v + 1) = qam ρ d (v + 1) := fun b ρ => qca ρ b d (v + 1) (by omega)
  have e1 : t.take (2 ^ d) = u.take (2 ^ d) := qjA d (v + 1) _ _ hl1 hu1 (fun ρ => by
   have := h (qbI ρ v false)
   rw [qbw _ _ ht, qbw _ _ hu] at this
   rw [qeN, key] at this
   simpa using this)
  have e2 : t.drop (2 ^ d) = u.drop (2 ^ d) := qjA d (v + 1) _ _ hl2 hu2 (fun ρ => by
   have := h (qbI ρ v true)
   rw [qbw _ _ ht, qbw _ _ hu] at this
   rw [qeN, key] at this
   simpa using this)
  rw [← List.take_append_drop (2 ^ d) t, e1, e2, List.take_append_drop]
theorem qkw (ρ : Nat → Bool) {u v : Nat} (a b : Bool) (h : u ≠ v) : qbI (qbI ρ u a) v b = qbI (qbI ρ v b) u a := by
 funext x
 unfold qbI
 by_cases h1 : x = v
 · rw [if_pos h1, if_neg (fun e => h (e.symm.trans h1)), if_pos h1]
 · rw [if_neg h1]
   by_cases h2 : x = u
   · rw [if_pos h2, if_pos h2]
   · rw [if_neg h2, if_neg h2, if_neg h1]
theorem qjB (V : Nat → Bool) : ∀ (d v : Nat) (t : List Bool), t.length = 2 ^ d → (∀ (ρ : Nat → Bool) (u : Nat) (b : Bool), v ≤ u → u < v + d → V u = false → t.getD (qam (qbI ρ u b) d v) false = t.getD (qam ρ d v) false) → qoy V d v t
 | 0, _, _, _, _ => trivial
 | d + 1, v, t, ht, h => by
  obtain ⟨hl1, hl2⟩ := qcT ht
  refine ⟨fun hV => ?_, ?_, ?_⟩
  · refine qjA d (v + 1) _ _ hl1 hl2 (fun ρ => ?_)
    have h1 := h (qbI ρ v true) v false (Nat.le_refl _) (by omega) hV
    rw [qbw _ _ ht, qbw _ _ ht, qeN, qeN] at h1
    simp only [Bool.false_eq_true, if_false, if_true] at h1
    rw [qca (u := v) _ _ _ _ (Nat.lt_succ_self v), qca (u := v) _ _ _ _ (Nat.lt_succ_self v)] at h1
    exact h1
  · refine qjB V d (v + 1) _ hl1 (fun ρ u b h1 h2 hV => ?_)
    have h3 := h (qbI ρ v false) u b (by omega) (by omega) hV
    rw [qbw _ _ ht, qbw _ _ ht, qik _ _ (by omega), qeN, qkw _ _ _ (by omega)] at h3
    simp only [Bool.false_eq_true, if_false] at h3
    rw [qca (u := v) _ _ _ _ (Nat.lt_succ_self v), qca (u := v) _ _ _ _ (Nat.lt_succ_self v)] at h3
    exact h3
  · refine qjB V d (v + 1) _ hl2 (fun ρ u b h1 h2 hV => ?_)
    have h3 := h (qbI ρ v true) u b (by omega) (by omega) hV
    rw [qbw _ _ ht, qbw _ _ ht, qik _ _ (by omega), qeN, qkw _ _ _ (by omega)] at h3
    simp only [if_true] at h3
    rw [qca (u := v) _ _ _ _ (Nat.lt_succ_self v), qca (u := v) _ _ _ _ (Nat.lt_succ_self v)] at h3
    exact h3
theorem indV_ev {n : Nat} {t : List Bool} (V : Nat → Bool) (ht : t.length = 2 ^ n) (h : ∀ (ρ : Nat → Bool) (u : Nat) (b : Bool), u < n → V u = false → evT n t (qbI ρ u b) = evT n t ρ) : qoy V n 0 t :=
 qjB V n 0 t ht (fun ρ u b _ h2 hV => h ρ u b (by omega) hV)
end Go.Proofs.YticcpnekjddanaaGreatDoor
