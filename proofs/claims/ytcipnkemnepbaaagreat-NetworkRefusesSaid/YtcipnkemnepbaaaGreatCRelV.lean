/-  -/
import Derived.Test.YtcipnkemnepbaaaGreatCRelS
import Derived.Test.YtcipnkemnepbaaaGreatCRename
import Derived.Test.YtcipnkemnepbaaaGreatCOpsR
import Derived.Test.YtcipnkemnepbaaaGreatCRelP
set_option maxRecDepth 100000
set_option maxHeartbeats 1000000
set_option linter.unusedVariables false
set_option linter.unusedSimpArgs false
namespace Go.Proofs.YtcipnkemnepbaaaGreat
open Go.RowKit
def gL (g : Nat → Nat) (n : Nat) : List Int := (List.range n).map fun (i : Nat) => (g i : Int)
theorem gL_len (g : Nat → Nat) (n : Nat) : (gL g n).length = n := by simp [gL]
theorem gL_succ (g : Nat → Nat) (n : Nat) : gL g (n + 1) = gL g n ++ [(g n : Int)] := by simp [gL, List.range_succ]
theorem gL_toF (g : Nat → Nat) {n i : Nat} (h : i < n) : toF (gL g n) i = g i := by simp [toF, gL, List.getD, h]
theorem gL_err {g : Nat → Nat} {n m : Nat} (hm : ∀ i, i < n → g i < m) (hs : ∀ i, i + 1 < n → g i < g (i + 1)) : renErr m (gL g n) (gL g n).length 0 = 0 := by
 rw [gL_len]
 have key : ∀ k i, i + k = n → renErr m (gL g n) k i = 0 := by
  intro k
  induction k with
  | zero => intro i _; rfl
  | succ k ih =>
   intro i hi
   have h1 := hm i (by omega)
   rw [renErr, gL_toF g (show i < n by omega), if_neg (by omega), if_neg ?_]
   · exact ih (i + 1) (by omega)
   · rintro ⟨h0, h2⟩
     have h3 := hs (i - 1) (by omega)
     rw [gL_toF g (show i - 1 < n by omega)] at h2
     rw [show i - 1 + 1 = i by omega] at h3
     omega
 exact key n 0 (by omega)
theorem renT_congr {f f' : Nat → Int} {n m : Nat} (h : ∀ i, i < n → f i = f' i) (t : List Bool) : renT f n m t = renT f' n m t := by
 unfold renT
 congr 1
 funext i
 congr 1
 unfold fromF
 exact placeF_congr (fun u hu => by rw [h u (by omega)])
theorem DRet.dgN {n : Nat} {t : List Bool} {O : List Nd} {r : Int} {w w' : World} {e : Ending} (h : DRet w n O r e w') (T : IsTab n t O r) : DgN n t w e w' := by
 obtain ⟨ao, co, rfl, h1, h2⟩ := h
 exact ⟨⟨n, ao, co, O, r⟩, rfl, h1, ⟨rfl, T⟩, h2⟩
theorem rename_gL (d : Dg) (n m : Nat) (t : List Bool) (g : Nat → Nat) (aQ : Option Addr) (cQ : Nat) (w : World) (hn : n ≤ 1000) (hm : m ≤ 40) (hg : ∀ i, i < n → g i < m) (hs : ∀ i, i + 1 < n → g i < g (i + 1)) (hat : d.at w) (T : d.tab n t) (hQ : RowAt w (.slice aQ n cQ) n (gw (gL g n))) :
 Calls Tryz.prog 144 #[.agg #[.int .i64 d.n, .slice d.a d.L.length d.cap, .int .i64 d.r], .int .i64 m, .slice aQ n cQ] w (DgN m (renT (fun i => (g i : Int)) n m t) w) := by
 have h0 := gL_err (m := m) hg hs
 have := rename_any d n t m (gL g n) aQ cQ w hat T (by rw [gL_len]; exact hn) (by rw [gL_len]; exact hQ)
 rw [gL_len] at this
 refine this.mono fun e w' h => ?_
 have hw : renW n m (gL g n) = 0 := by
  unfold renW
  rw [if_neg (by omega), if_neg (by rw [gL_len]; simp)]
  exact h0
 rcases h with ⟨h1, _⟩ | ⟨_, h2⟩
 · exact absurd hw h1
 · have hr := ren_tab T.2 (up_of h0 (gL_len g n)) hm
   rw [renT_congr (f' := fun i => (g i : Int)) (fun i hi => gL_toF g hi)] at hr
   exact DRet.dgN h2 hr
theorem spread_any (d : Dg) (n m k c : Nat) (t : List Bool) (w : World) (hn : n ≤ 40) (hm : m ≤ 40) (hk : 1 ≤ k ∧ k ≤ 10) (hc : c ≤ 10) (hg : ∀ i, i < n → k * i + c < m) (hat : d.at w) (T : d.tab n t) :
 Calls Tryz.prog 146 #[.agg #[.int .i64 d.n, .slice d.a d.L.length d.cap, .int .i64 d.r], .int .i64 k, .int .i64 c, .int .i64 m] w (DgN m (renT (fun i => ((k * i + c : Nat) : Int)) n m t) w) := by
 have RN := fun aQ cQ W (hW : Same w W) (hQ : RowAt W (.slice aQ n cQ) n (gw (gL (fun i => k * i + c) n))) => rename_gL d n m t (fun i => k * i + c) aQ cQ W (by omega) hm hg (fun i hi => by
  have : k * (i + 1) = k * i + k := by rw [Nat.mul_succ]
  simp only [this]; omega) (SliceAt.same hat hW) T hQ
 obtain ⟨i3, hi3, hi3z, hi3s, hi3b⟩ := info_parts info3
 have e := T.1
 rw [e] at RN ⊢
 obtain ⟨hk1, hk2⟩ := hk
 replace RN := gi RN; replace hat := gi hat; replace T := gi T; replace e := gi e; replace hg := gi hg
 go_enter Tryz.func146, Tryz.ntmps146
 go_wp2_with fail
 have kf := heap_old (gv w (.cells #[.int .i64 n, .slice d.a d.L.length d.cap, .int .i64 d.r] 56)) (.cells #[.int .i64 0, .slice none 0 0, .int .i64 0] 56)
 have kb := heap_new_at (w := w.alloc (.cells #[.int .i64 n, .slice d.a d.L.length d.cap, .int .i64 d.r] 56)) (k := w.heap.size + 1) (by simp) (.cells #[.int .i64 0, .slice none 0 0, .int .i64 0] 56)
 have hs : Same w ((w.alloc (.cells #[.int .i64 n, .slice d.a d.L.length d.cap, .int .i64 d.r] 56)).alloc (.cells #[.int .i64 0, .slice none 0 0, .int .i64 0] 56)) := fs2
 have hlt := gu kb
 generalize (w.alloc (.cells #[.int .i64 n, .slice d.a d.L.length d.cap, .int .i64 d.r] 56)).alloc (.cells #[.int .i64 0, .slice none 0 0, .int .i64 0] 56) = W0 at *
 replace kb := gi kb; replace kf := gi kf; replace hs := gi hs
 go_loopw [10, 14] (fun v i wr => ∃ (j cc : Nat) (a : Option Addr), i = .int .i64 j ∧ j ≤ n ∧ v = .slice a j cc ∧ wr.ownsRow W0.heap.size 3 1 (.slice a j cc) j (gw (gL (fun i => k * i + c) j)) ∧ Same W0 wr) (fun _ i _ => n - (intOf i).toNat)
 case atStart => exact ⟨0, 0, none, rfl, by omega, rfl, World.ownsRow_nil _ _ _ _, Fr.refl _ _⟩
 case round =>
  obtain ⟨j, cc, a, rfl, hj, rfl, ho, hs1⟩ := hrel
  have hws := hs1.size
  have hgs := gL_succ (fun i => k * i + c) j
  by_cases hjn : j < n
  · have hb := hg.out j hjn
    have hkj : (k : Int) * j = ((k * j : Nat) : Int) := by simp
    have hw1 : IntKind.i64.wrap ((k : Int) * j) = (k : Int) * j := IntWalk.i64_in _ (by rw [hkj]; omega)
    have hw2 : IntKind.i64.wrap ((k : Int) * j + c) = (k : Int) * j + c := IntWalk.i64_in _ (by rw [hkj]; omega)
    clear hkj
    replace ho := gi ho; replace hs1 := gi hs1; replace hgs := gi hgs; replace hb := gi hb
    go_wp2_with (at_builtin; refine wpList_append1 rfl (.tmp 17) (.tmp 23) 31 rfl W0.heap.size 3 i3 (.int .i64 0) 1 8 Tryz.underlying31 hi3 hi3z hi3s hi3b rfl (by decide) (by decide) a j cc (gw (gL (fun i => k * i + c) j)) rfl (owns_same ho.out fs2) (by omega) wr.heap.size [.int .i64 ((k : Int) * j + c)] rfl rfl (gv _ _) (by simp [Value.oneCell']) (by simp; omega) ?_; intro a5 c5 w5 ho5 hG5)
    have hs5 : Same W0 w5 := grew_fresh (hs1.out.same fs2) hG5 (fun k hk => (ho.out.lt k hk).1)
    have ho5' : w5.ownsRow W0.heap.size 3 1 (.slice a5 (j + 1) c5) (j + 1) (gw (gL (fun i => k * i + c) (j + 1))) := by
     rw [hgs.out]; have := ho5; simpa [gw] using this
    clear ho5 hG5
    go_roundw
    case rel => exact ⟨j + 1, c5, a5, by go_num, by omega, rfl, ho5', hs5⟩
    case measure => simp [intOf]; omega
  · obtain rfl : j = n := by omega
    replace kb := gi (hs1.at kb.out id)
    replace kf := gi (hs1.at kf.out id)
    have hR := (SliceAt.of_owns ho).row
    have hs3 := hs.out.same hs1
    replace ho := gi ho; replace hs1 := gi hs1; replace hgs := gi hgs; replace hR := gi hR; replace hs3 := gi hs3
    obtain ⟨k0, k1, k2, kl⟩ := g3l kf.out
    go_wp2_with fail
    refine (RN.out _ _ _ hs3.out hR.out).mono ?_
    rintro e w5 ⟨u, rfl, hu, hut, hs4⟩
    replace kb := gi (hs4.at kb.out id)
    have hs5 := hs3.out.same hs4
    replace hu := gi hu; replace hut := gi hut; replace hs5 := gi hs5
    clear k0 k1 k2 kl
    obtain ⟨x0, x1, x2, z0, z1, z2, xl⟩ := box_facts kb.out
    go_wp2_with fail
    obtain ⟨d0, d1, d2, hdF, hsF⟩ := dg_stored hs5.out (by omega) hu.out kb.out
    refine bodyPost_ret (v := .tuple #[.agg #[.int .i64 u.n, .slice u.a u.L.length u.cap, .int .i64 u.r], .int .i64 0]) (by simp [results, Tryz.results146, go_sem, d0, d1, d2]) rfl ?_
    exact ⟨u, rfl, hdF, hut.out, hsF⟩
def tbF (n : Nat) (p : Nat → Bool) : List Bool := (List.range (2 ^ n)).map p
theorem tbF_len (n : Nat) (p : Nat → Bool) : (tbF n p).length = 2 ^ n := by simp [tbF]
theorem tbF_get (n : Nat) (p : Nat → Bool) {i : Nat} (h : i < 2 ^ n) : (tbF n p).getD i false = p i := by simp [tbF, List.getD, h]
theorem tbF_congr {n : Nat} {p q : Nat → Bool} (h : ∀ i, i < 2 ^ n → p i = q i) : tbF n p = tbF n q := List.map_congr_left (fun i hi => h i (List.mem_range.1 hi))
theorem tbF_and (n : Nat) (p q : Nat → Bool) : ite3 (tbF n p) (tbF n q) (fls n) = tbF n (fun i => p i && q i) := by
 refine ext_getD (ite3_len (tbF_len _ _) (tbF_len _ _) (fls_len n)) (tbF_len _ _) (fun i hi => ?_)
 rw [ite3_get (tbF_len _ _) (tbF_len _ _) (fls_len n) hi, tbF_get _ _ hi, tbF_get _ _ hi, tbF_get _ _ hi, flsG]
 cases p i <;> simp
def wv : Nat → Nat → Nat → Nat
 | 0, _, _ => 0
 | d + 1, x, y => 4 * wv d (x / 2) (y / 2) + 2 * (x % 2) + y % 2
def ux : Nat → Nat → Nat
 | 0, _ => 0
 | d + 1, i => 2 * ux d (i / 4) + i / 2 % 2
def uy : Nat → Nat → Nat
 | 0, _ => 0
 | d + 1, i => 2 * uy d (i / 4) + i % 2
theorem pow22 (d : Nat) : 2 ^ (2 * (d + 1)) = 4 * 2 ^ (2 * d) := by rw [show 2 * (d + 1) = 2 * d + 2 by omega, Nat.pow_add]; omega
theorem wv_lt : ∀ (d x y : Nat), wv d x y < 2 ^ (2 * d)
 | 0, _, _ => by simp [wv]
 | d + 1, x, y => by
  have := wv_lt d (x / 2) (y / 2)
  rw [wv, pow22]; omega
theorem ux_wv : ∀ (d x y : Nat), x < 2 ^ d → ux d (wv d x y) = x
 | 0, x, y, h => by simp at h; simp [ux, h]
 | d + 1, x, y, h => by
  have ih := ux_wv d (x / 2) (y / 2) (by rw [Nat.pow_succ] at h; omega)
  rw [ux, wv, show (4 * wv d (x / 2) (y / 2) + 2 * (x % 2) + y % 2) / 4 = wv d (x / 2) (y / 2) by omega, ih]
  omega
theorem uy_wv : ∀ (d x y : Nat), y < 2 ^ d → uy d (wv d x y) = y
 | 0, x, y, h => by simp at h; simp [uy, h]
 | d + 1, x, y, h => by
  have ih := uy_wv d (x / 2) (y / 2) (by rw [Nat.pow_succ] at h; omega)
  rw [uy, wv, show (4 * wv d (x / 2) (y / 2) + 2 * (x % 2) + y % 2) / 4 = wv d (x / 2) (y / 2) by omega, ih]
  omega
end Go.Proofs.YtcipnkemnepbaaaGreat
