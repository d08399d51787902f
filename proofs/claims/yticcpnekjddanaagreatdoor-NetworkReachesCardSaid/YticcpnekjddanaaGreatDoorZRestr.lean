/-  -/
import Derived.Test.YticcpnekjddanaaGreatDoorZValue
import Derived.Test.YticcpnekjddanaaGreatDoorZRowAt
import Derived.Test.YticcpnekjddanaaGreatDoorZGrpP
import Derived.Test.YticcpnekjddanaaGreatDoorZChange
import Derived.Test.YticcpnekjddanaaGreatDoorZChgP
import Derived.Test.YticcpnekjddanaaGreatDoorZFrom
import Derived.Test.YticcpnekjddanaaGreatDoorZOpsR
set_option maxRecDepth 100000
set_option maxHeartbeats 4000000
set_option linter.unusedVariables false
set_option linter.unusedSimpArgs false
namespace Go.Proofs.YticcpnekjddanaaGreatDoor
open Go.RowKit
theorem qed {w : World} {a : Option Addr} {cap : Nat} {l : List Int} (h : qan w (.slice a l.length cap) l.length (gw l)) (hn : 0 < l.length) :
 ∃ b off, a = some ⟨b, off, none⟩ ∧ b < w.heap.size ∧ ∀ j, j < l.length → w.cell? ⟨b, off + j, none⟩ = some (.int .i64 (toF l j)) := by
 obtain ⟨b, off, ha, hb, hc⟩ := h.cell hn
 refine ⟨b, off, ha, hb, fun j hj => hc j _ ?_⟩
 rw [qbf l j hj]
 rfl
theorem qie (m : Int) (qs : List Int) (k : Nat) (h : k < qs.length) : qaw m qs (qs.length - k) k = if toF qs k < 0 ∨ m ≤ toF qs k then 2 else if 0 < k ∧ toF qs k ≤ toF qs (k - 1) then 5 else qaw m qs (qs.length - (k + 1)) (k + 1) := by
 have e : qs.length - k = (qs.length - (k + 1)) + 1 := by omega
 rw [e, qaw]
theorem qdh (n : Int) (qs : List Int) (aQ : Option Addr) (capQ : Nat) (w : World) (hl7 : qs.length ≤ 1000) (hQ : qan w (.slice aQ qs.length capQ) qs.length (gw qs)) :
 Calls Tryz.prog 135 #[.slice aQ qs.length capQ, .int .i64 n] w fun e w' => e = .returned (.int .i64 (qaw n qs qs.length 0)) ∧ w = w' := by
 obtain ⟨E, hE⟩ : ∃ E, E = qaw n qs qs.length 0 := ⟨_, rfl⟩
 rw [← hE]
 obtain ⟨q, hq⟩ : ∃ q, q = qs.length := ⟨_, rfl⟩
 have hql : q ≤ 1000 := by omega
 rw [← hq] at hQ hE ⊢
 replace hQ := gi hQ; replace hE := gi hE; replace hq := gi hq
 go_enter Tryz.func135, Tryz.ntmps135
 go_wp2_with fail
 go_loopw [9] (fun i wr => ∃ k : Nat, i = .int .i64 k ∧ k ≤ q ∧ qaw n qs (q - k) k = E ∧ w = wr) (fun i _ => q - (intOf i).toNat)
 case atStart => exact ⟨0, rfl, by omega, hE.out.symm, rfl⟩
 case round =>
  obtain ⟨k, rfl, hk, hrE, rfl⟩ := hrel
  by_cases hlt : k < q
  · rw [hq.out, qie n qs k (by rw [← hq.out]; exact hlt), ← hq.out] at hrE
    obtain ⟨bq, oq, rfl, hbq, hcq⟩ := qed (l := qs) (by rw [← hq.out]; exact hQ.out) (by rw [← hq.out]; omega)
    have ck := hcq k (by rw [← hq.out]; exact hlt)
    have cp : 0 < k → w.cell? ⟨bq, oq + (k - 1), none⟩ = some (.int .i64 (toF qs (k - 1))) := fun h => hcq (k - 1) (by rw [← hq.out]; omega)
    clear hcq
    obtain ⟨v, hv'⟩ : ∃ v, v = toF qs k := ⟨_, rfl⟩
    rw [← hv'] at hrE ck
    replace hv' := gi hv'
    by_cases c1 : v < 0 ∨ n ≤ v
    · rw [if_pos c1] at hrE
      subst hrE
      clear cp
      by_cases c2 : v < 0
      · clear c1
        go_wp2_with fail
        go_ret
        exact ⟨rfl, rfl⟩
      · have c3 : n ≤ v := by omega
        clear c1
        go_wp2_with fail
        go_ret
        exact ⟨rfl, rfl⟩
    · rw [if_neg c1] at hrE
      have c2 : 0 ≤ v := by omega
      have c3 : v < n := by omega
      clear c1
      by_cases c4 : 0 < k
      · have cp' := cp c4
        obtain ⟨k', rfl⟩ : ∃ k', k = k' + 1 := ⟨k - 1, by omega⟩
        rw [Nat.add_sub_cancel] at cp'
        obtain ⟨u, hu⟩ : ∃ u, u = toF qs k' := ⟨_, rfl⟩
        simp only [Nat.add_sub_cancel] at hrE
        rw [← hu] at hrE cp'
        have hkk : 0 < k' + 1 := c4
        have hkk2 : ((k' : Int) + 1 - 1) = (k' : Int) := by omega
        clear cp
        replace hu := gi hu
        by_cases c5 : v ≤ u
        · rw [if_pos ⟨c4, c5⟩] at hrE
          subst hrE
          go_wp2_with fail
          go_ret
          exact ⟨rfl, rfl⟩
        · rw [if_neg (fun h => c5 h.2)] at hrE
          have c6 : u < v := by omega
          clear c5
          replace hrE := gi hrE
          go_wp2_with fail
          go_roundw
          case rel => exact ⟨k' + 1 + 1, by go_num, by omega, hrE.out, (by first | rfl | trivial)⟩
          case measure => simp [intOf]; omega
      · rw [if_neg (fun h => c4 h.1)] at hrE
        have c7 : k = 0 := by omega
        replace c7 := gi c7
        clear cp
        replace hrE := gi hrE
        go_wp2_with fail
        go_roundw
        case rel => exact ⟨k + 1, by go_num, by omega, hrE.out, (by first | rfl | trivial)⟩
        case measure => simp [intOf]; omega
  · have hkq : k = q := by omega
    subst hkq
    rw [Nat.sub_self, qaw] at hrE
    subst hrE
    go_wp2_with fail
    go_ret
    exact ⟨rfl, rfl⟩
theorem nan_c (x : Int) (w : World) : Calls Tryz.prog 133 #[.int .i64 x] w fun e w' => e = .returned (.bool false) ∧ w = w' := by
 go_enter Tryz.func133, Tryz.ntmps133
 go_wp2
 go_ret
 exact ⟨by simp, rfl⟩
theorem nan_s (x : Int) (w : World) : Calls Tryz.prog 117 #[.int .i64 x] w fun e w' => e = .returned (.bool false) ∧ w = w' := by
 go_enter Tryz.func117, Tryz.ntmps117
 go_wp2
 go_ret
 exact ⟨by simp, rfl⟩
theorem qqg (x y : Int) (w : World) : Calls Tryz.prog 116 #[.int .i64 x, .int .i64 y] w fun e w' => e = .returned (.bool (decide (x < y))) ∧ w = w' := by
 go_enter Tryz.func116, Tryz.ntmps116
 go_wp2_with (go_at_call 133; refine (nan_c _ _).mono ?_; rintro e w' ⟨rfl, rfl⟩)
 go_ret
 exact ⟨rfl, rfl⟩
theorem qhd (qs : List Int) (x : Int) : x ∈ qs ↔ ∃ t, t < qs.length ∧ toF qs t = x := by
 constructor
 · intro h
   obtain ⟨i, hi, he⟩ := List.mem_iff_getElem.1 h
   exact ⟨i, hi, by simp [toF, List.getD, hi, he]⟩
 · rintro ⟨t, ht, rfl⟩
   have : toF qs t = qs[t] := by simp [toF, List.getD, ht]
   rw [this]
   exact List.getElem_mem ht
theorem qjq (qs : List Int) (x : Int) (aQ : Option Addr) (capQ : Nat) (w : World) (hl7 : qs.length ≤ 1000) (hQ : qan w (.slice aQ qs.length capQ) qs.length (gw qs)) (hs : ∀ i j, i ≤ j → j < qs.length → toF qs i ≤ toF qs j) :
 Calls Tryz.prog 91 #[.slice aQ qs.length capQ, .int .i64 x] w fun e w' => ∃ k : Int, e = .returned (.tuple #[.int .i64 k, .bool (decide (x ∈ qs))]) ∧ qad w w' := by
 have hend : ∀ lo, lo ≤ qs.length → (∀ t, t < lo → toF qs t < x) → (∀ t, lo ≤ t → t < qs.length → x ≤ toF qs t) → decide (x ∈ qs) = decide (lo < qs.length ∧ toF qs lo = x) := by
  intro lo hlo h1 h2
  refine decide_eq_decide.2 ?_
  rw [qhd]
  constructor
  · rintro ⟨t, ht, rfl⟩
    have hlt : lo ≤ t := by
     rcases Nat.lt_or_ge t lo with h | h
     · have := h1 t h; omega
     · exact h
    exact ⟨by omega, by have g1 := h2 lo (Nat.le_refl _) (by omega); have g2 := hs lo t hlt ht; omega⟩
  · rintro ⟨h, rfl⟩
    exact ⟨lo, h, rfl⟩
 obtain ⟨R, hR⟩ : ∃ R, R = decide (x ∈ qs) := ⟨_, rfl⟩
 rw [← hR] at hend ⊢
 obtain ⟨n, hn⟩ : ∃ n, n = qs.length := ⟨_, rfl⟩
 have hnl : n ≤ 1000 := by omega
 rw [← hn] at hQ hs hend ⊢
 have hcell : 0 < n → ∃ b off, aQ = some ⟨b, off, none⟩ ∧ b < w.heap.size ∧ ∀ j, j < n → w.cell? ⟨b, off + j, none⟩ = some (.int .i64 (toF qs j)) := fun h => by
  obtain ⟨b, off, h1, h2, h3⟩ := qed (l := qs) (by rw [← hn]; exact hQ) (by omega)
  exact ⟨b, off, h1, h2, fun j hj => h3 j (by omega)⟩
 replace hQ := gi hQ; replace hs := gi hs; replace hend := gi hend; replace hR := gi hR; replace hn := gi hn; replace hcell := gi hcell
 go_enter Tryz.func91, Tryz.ntmps91
 go_wp2_with fail
 go_loopw [7, 8] (fun s7 s8 wr => ∃ lo hi q : Nat, s7 = .int .i64 lo ∧ s8 = .int .i64 hi ∧ lo ≤ hi ∧ hi ≤ n ∧ wr = w.drewN q ∧ (∀ t, t < lo → toF qs t < x) ∧ (∀ t, hi ≤ t → t < n → x ≤ toF qs t)) (fun s7 s8 _ => (intOf s8).toNat - (intOf s7).toNat)
 case atStart => exact ⟨0, n, 0, rfl, rfl, Nat.zero_le _, Nat.le_refl _, rfl, fun t ht => absurd ht (Nat.not_lt_zero _), fun t h1 h2 => by omega⟩
 case round =>
  obtain ⟨lo, hi, q, rfl, rfl, hlh, hin, rfl, h1, h2⟩ := hrel
  replace h1 := gi h1
  replace h2 := gi h2
  by_cases hlt : lo < hi
  · obtain ⟨b, off, rfl, hb, hc⟩ := hcell.out (by omega)
    have cm := hc ((lo + hi) / 2) (by omega)
    clear hc
    obtain ⟨y, hy⟩ : ∃ y, y = toF qs ((lo + hi) / 2) := ⟨_, rfl⟩
    rw [← hy] at cm
    replace hy := gi hy
    by_cases hyx : y < x
    · go_wp2_with (go_at_call 116; refine (qqg _ _ _).mono ?_; rintro e w' ⟨rfl, rfl⟩)
      go_roundw
      case rel =>
       refine ⟨(lo + hi) / 2 + 1, hi, q, by simp, rfl, by omega, hin, rfl, fun t ht => ?_, h2.out⟩
       have := hs.out t ((lo + hi) / 2) (by omega) (by omega)
       rw [← hy.out] at this
       omega
      case measure => simp [intOf]; omega
    · go_wp2_with (go_at_call 116; refine (qqg _ _ _).mono ?_; rintro e w' ⟨rfl, rfl⟩)
      go_roundw
      case rel =>
       refine ⟨lo, (lo + hi) / 2, q, rfl, by simp, by omega, by omega, rfl, h1.out, fun t ht htn => ?_⟩
       have := hs.out ((lo + hi) / 2) t ht htn
       rw [← hy.out] at this
       omega
      case measure => simp [intOf]; omega
  · have hll : lo = hi := by omega
    subst hll
    have he := hend.out lo hin h1.out h2.out
    by_cases hn2 : lo < n
    · obtain ⟨b, off, rfl, hb, hc⟩ := hcell.out (by omega)
      have cm := hc lo hn2
      clear hc
      obtain ⟨y, hy⟩ : ∃ y, y = toF qs lo := ⟨_, rfl⟩
      rw [← hy] at cm he
      replace hy := gi hy
      by_cases hyx : y = x
      · rw [decide_eq_true (show lo < n ∧ y = x from ⟨hn2, hyx⟩)] at he
        have hb1 : (y == x) = true := by simpa using hyx
        subst he
        clear hyx
        go_wp2_with (go_at_call 117; refine (nan_s _ _).mono ?_; rintro e w' ⟨rfl, rfl⟩)
        go_ret2
        exact ⟨_, rfl, fs2⟩
      · rw [decide_eq_false (show ¬ (lo < n ∧ y = x) from fun h => hyx h.2)] at he
        have hb1 : (y == x) = false := by simpa using hyx
        subst he
        clear hyx
        go_wp2_with (go_at_call 117; refine (nan_s _ _).mono ?_; rintro e w' ⟨rfl, rfl⟩)
        go_ret2
        exact ⟨_, rfl, fs2⟩
    · rw [decide_eq_false (show ¬ (lo < n ∧ toF qs lo = x) from fun h => hn2 h.1)] at he
      subst he
      go_wp2_with (go_at_call 117; refine (nan_s _ _).mono ?_; rintro e w' ⟨rfl, rfl⟩)
      go_ret2
      exact ⟨_, rfl, fs2⟩
theorem qcy (qs : List Int) (x : Int) (aQ : Option Addr) (capQ : Nat) (w : World) (hl7 : qs.length ≤ 1000) (hQ : qan w (.slice aQ qs.length capQ) qs.length (gw qs)) (hs : ∀ i j, i ≤ j → j < qs.length → toF qs i ≤ toF qs j) :
 Calls Tryz.prog 57 #[.slice aQ qs.length capQ, .int .i64 x] w fun e w' => e = .returned (.bool (decide (x ∈ qs))) ∧ qad w w' := by
 have B := qjq qs x aQ capQ w hl7 hQ hs
 obtain ⟨R, hR⟩ : ∃ R, R = decide (x ∈ qs) := ⟨_, rfl⟩
 rw [← hR] at B ⊢
 replace B := gi B; replace hQ := gi hQ; replace hs := gi hs; replace hR := gi hR
 go_enter Tryz.func57, Tryz.ntmps57
 go_wp2_with fail
 refine B.out.mono ?_
 rintro e w1 ⟨k, rfl, hs1⟩
 replace hs1 := gi hs1
 go_wp2_with fail
 go_ret
 exact ⟨rfl, hs1.out⟩
theorem VM.nil {K : Type} [DecidableEq K] (N : List Nd) : VM N ([] : List (K × Int)) := fun _ _ h => by simp [qa0] at h
theorem qhe {S : Nat → Prop} {W w' : World} {B p m mc : Nat} {a : Option Addr} {cap : Nat} {N : List Nd} {v' : Value} (hB : qah W B p m a cap N) (hmc : B ≤ mc) (hS : ∀ i, S i → B ≤ i)
 (hG : qaK (fun i => BB p m i ∨ S i ∨ i = mc) W w' (.slice a N.length cap) v') {k : Nat} (hk : k < W.heap.size) (hkB : k < B) : w'.heap[k]? = W.heap[k]? := by
 refine hG.1.block k hk ?_
 rintro (h | h | h | h)
 · have := (hB.own.lt k h).1; omega
 · rcases h with h | h
   · have := hB.pb; omega
   · have := hB.mb; omega
 · have := hS _ h; omega
 · omega
theorem qkl {S : Nat → Prop} {w0 W w' : World} {B p m mc : Nat} {a : Option Addr} {cap : Nat} {N : List Nd} {v' : Value} (hB : qah W B p m a cap N) (hmc : B ≤ mc) (hS : ∀ i, S i → B ≤ i)
 (hG : qaK (fun i => BB p m i ∨ S i ∨ i = mc) W w' (.slice a N.length cap) v') (h0 : qad w0 W) (hw : w0.heap.size ≤ B) : qad w0 w' := by
 refine h0.trans hG.1 (fun i hi h => ?_)
 have hi' : i < W.heap.size := Nat.lt_of_lt_of_le hi h0.size
 rcases h with h | h | h | h
 · have := (hB.own.lt i h).1; omega
 · rcases h with h | h
   · have := hB.pb; omega
   · have := hB.mb; omega
 · have := hS _ h; omega
 · omega
def DoC (F : FuncId) (dof : Is → Int → Int → Option (Is × Int)) : Prop :=
 ∀ (B p m mm : Nat) (a : Option Addr) (cap : Nat) (s : Is) (l h : Int) (s' : Is) (r : Int) (W : World), qah W B p m a cap s.1 → qaR ndv (Value.int .i64) W mm s.2 → mm ≠ m → VNd s.1 → VM s.1 s.2 → qaH s.1 l → qaH s.1 h → dof s l h = some (s', r) → s'.1.length ≤ 90000000 →
  Calls Tryz.prog F #[.pointer (some ⟨p, 0, none⟩), .int .i64 l, .int .i64 h, .map (some mm)] W (qqd W B p m mm a cap s.1 s' r)
def doE (f : Nat) : Is → Int → Int → Option (Is × Int) := fun s l h => qdY f s l 1 h
theorem qmQ : ∀ (a b : List Bool) (n : Nat), a.length = n → b.length = n → qbE a (List.replicate n true) b = List.zipWith (fun x y => x || y) a b
 | [], [], 0, _, _ => rfl
 | x :: a, y :: b, n + 1, h1, h2 => by
  rw [List.replicate_succ, qbE, qmQ a b n (by simpa using h1) (by simpa using h2), List.zipWith_cons_cons]
  cases x <;> rfl
theorem or_idem : qmn (fun x y => x || y) := fun x => by cases x <;> rfl
theorem qoQ : qjh (fun x y => x || y) := fun a b c d => by cases a <;> cases b <;> cases c <;> cases d <;> rfl
theorem doE_ok (n : Nat) (hn : n ≤ 40) : DoOk n (fun x y => x || y) (doE (n + 1)) := by
 intro d v l h s hN hM hl hh tl th hv h0
 obtain ⟨s', k, a1, a2, a3, a4, a5, a6, a7, a8⟩ := qh2 d v l 1 h s (n + 1) hN hM hl (qmE _) hh tl (by rw [qaM (by omega)]; omega) th hv h0 (by omega)
 refine ⟨s', k, a1, a2, a3, a4, a5, a6, ?_, a8⟩
 rw [a7, qdb _ _ _ (by omega), qmQ _ _ (2 ^ d) (qax _ _ _ _) (qax _ _ _ _)]
theorem doE_val (f : Nat) : qms (doE f) := fun s l h s' r e hN hM hl hh => qeA f s s' l 1 h r e hN hM hl (qmE _) hh
theorem enter_E (args : Array Value) (W : World) : (callFunc 138 args).run Tryz.prog W = .ok (.enter 138 args) W := by kernel_rfl
theorem qoR (args : Array Value) (W : World) : (callFunc 148 args).run Tryz.prog W = .ok (.enter 148 args) W := by kernel_rfl
theorem qoS (args : Array Value) (W : World) : (callFunc 149 args).run Tryz.prog W = .ok (.enter 149 args) W := by kernel_rfl
theorem doE_c (f : Nat) : DoC 138 (doE f) := by
 intro B p m mm a cap s l h s' r W hB hM hne hN hV hl hh e hlen
 have I := qg2 f B p m mm a cap s l 1 h s' r W hB hM hne hN hV hl (qmE _) hh e hlen
 replace hB := gi hB; replace hM := gi hM; replace hN := gi hN; replace hV := gi hV; replace hl := gi hl; replace hh := gi hh; replace e := gi e; replace hlen := gi hlen; replace I := gi I
 go_enter Tryz.func138, Tryz.ntmps138
 go_wp2_with fail
 refine I.out.mono ?_
 rintro e w1 ⟨rfl, h1⟩
 replace h1 := gi h1
 go_wp2_with fail
 go_ret
 exact ⟨rfl, h1.out⟩
theorem qan.low {w w' : World} {B : Nat} {a : Option Addr} {n cap : Nat} {cells : List Value} (h : qan w (.slice a n cap) n cells) (hs : w.heap.size ≤ w'.heap.size)
 (hk : ∀ k, k < B → k < w.heap.size → w'.heap[k]? = w.heap[k]?) (hlow : 0 < n → ∀ k, (Value.slice a n cap).ownBlock = some k → k < B) : qan w' (.slice a n cap) n cells := by
 by_cases hn : 0 < n
 · exact h.keep hs (fun k hk' hlt => hk k (hlow hn k hk') hlt)
 · obtain ⟨hl, a', cap', he, h1, h2, h3, hb⟩ := h
   exact ⟨hl, a', cap', he, h1, h2, h3, fun h => absurd h hn⟩
structure QPre (F : FuncId) (p mm ks kd kb km : Nat) (qs : List Int) (aQ : Option Addr) (capQ : Nat) (W : World) (M : List (Nd × Int)) : Prop where
 set : W.heap[ks]? = some (.cells #[.slice aQ qs.length capQ] 33 (0, 0))
 fn : W.heap[kd]? = some (.cells #[.func (.func F) #[] #[]] 191 (0, 0))
 bld : W.heap[kb]? = some (.cells #[.pointer (some ⟨p, 0, none⟩)] 124 (0, 0))
 mem : W.heap[km]? = some (.cells #[.map (some mm)] 125 (0, 0))
 map : qaR ndv (Value.int .i64) W mm M
 row : qan W (.slice aQ qs.length capQ) qs.length (gw qs)
theorem quant1 (v : Int) (ks : Nat) (qs : List Int) (aQ : Option Addr) (capQ : Nat) (W : World) (hl7 : qs.length ≤ 1000) (h : W.heap[ks]? = some (.cells #[.slice aQ qs.length capQ] 33 (0, 0))) (hQ : qan W (.slice aQ qs.length capQ) qs.length (gw qs)) (hs : ∀ i j, i ≤ j → j < qs.length → toF qs i ≤ toF qs j) :
 Calls Tryz.prog 148 #[.int .i64 v, .pointer (some ⟨ks, 0, none⟩)] W fun e W' => e = .returned (.bool (decide (v ∈ qs))) ∧ qad W W' := by
 have CO := qcy qs v aQ capQ W hl7 hQ hs
 have c := gn h 0
 have hb := gu h
 obtain ⟨R, hR⟩ : ∃ R, R = decide (v ∈ qs) := ⟨_, rfl⟩
 rw [← hR] at CO ⊢
 replace h := gi h; replace hQ := gi hQ; replace hs := gi hs; replace CO := gi CO; replace hR := gi hR
 go_enter Tryz.func148, Tryz.ntmps148
 go_wp2_with fail
 refine CO.out.mono ?_
 rintro e w1 ⟨rfl, hs1⟩
 replace hs1 := gi hs1
 go_wp2_with fail
 go_ret
 exact ⟨rfl, hs1.out⟩
theorem quant2 (F : FuncId) (eF : ∀ (args : Array Value) (W : World), (callFunc F args).run Tryz.prog W = .ok (.enter F args) W) (l h : Int) (p mm kd kb km : Nat) (W : World) (R : Ending → World → Prop)
 (h1 : W.heap[kd]? = some (.cells #[.func (.func F) #[] #[]] 191 (0, 0))) (h2 : W.heap[kb]? = some (.cells #[.pointer (some ⟨p, 0, none⟩)] 124 (0, 0))) (h3 : W.heap[km]? = some (.cells #[.map (some mm)] 125 (0, 0)))
 (r : Int) (hR : Calls Tryz.prog F #[.pointer (some ⟨p, 0, none⟩), .int .i64 l, .int .i64 h, .map (some mm)] W fun e W' => e = .returned (.int .i64 r) ∧ R (.returned (.int .i64 r)) W') :
 Calls Tryz.prog 149 #[.int .i64 l, .int .i64 h, .pointer (some ⟨kd, 0, none⟩), .pointer (some ⟨kb, 0, none⟩), .pointer (some ⟨km, 0, none⟩)] W fun e W' => e = .returned (.int .i64 r) ∧ R (.returned (.int .i64 r)) W' := by
 have c1 := gn h1 0
 have c2 := gn h2 0
 have c3 := gn h3 0
 have b1 := gu h1
 have b2 := gu h2
 have b3 := gu h3
 replace h1 := gi h1; replace h2 := gi h2; replace h3 := gi h3; replace hR := gi hR
 go_enter Tryz.func149, Tryz.ntmps149
 go_wp2_with fail
 refine hR.out.mono ?_
 rintro e w1 ⟨rfl, hR1⟩
 replace hR1 := gi hR1
 go_wp2_with fail
 go_ret
 exact ⟨rfl, hR1.out⟩
theorem qif {F : FuncId} {dof : Is → Int → Int → Option (Is × Int)} (eF : ∀ (args : Array Value) (W : World), (callFunc F args).run Tryz.prog W = .ok (.enter F args) W) (hC : DoC F dof) (hV : qms dof) {B p m mc mm ks kd kb km : Nat} {qs : List Int} {aQ : Option Addr} {capQ : Nat}
 (hm : m < mc ∧ p < mc) (hmm : mm < mc ∧ mm ≠ m) (hB : B ≤ mc) (h1 : ks < B) (h2 : kd < B) (h3 : kb < mc ∧ km < mc) (hl7 : qs.length ≤ 1000) (hs : ∀ i j, i ≤ j → j < qs.length → toF qs i ≤ toF qs j) (hlow : 0 < qs.length → ∀ k, (Value.slice aQ qs.length capQ).ownBlock = some k → k < B) (hmB : B ≤ mm) :
 ChgE (fun x => decide (x ∈ qs)) dof B p m mc (fun i => i = mm) (QPre F p mm ks kd kb km qs aQ capQ) 148 149 #[.pointer (some ⟨ks, 0, none⟩)] #[.pointer (some ⟨kd, 0, none⟩), .pointer (some ⟨kb, 0, none⟩), .pointer (some ⟨km, 0, none⟩)] := by
 refine ⟨qoR, qoS, ?_, ?_, ?_, hV, fun i h => by omega, hm⟩
 · intro v W M h
   exact quant1 v ks qs aQ capQ W hl7 h.set h.row hs
 · intro a cap s l h s' r W hBu hP hN hVM hl hh e hlen
   have D := hC B p m mm a cap s l h s' r W hBu hP.map hmm.2 hN hVM hl hh e hlen
   refine (quant2 F eF l h p mm kd kb km W (fun _ W' => ∃ a' cap', qah W' B p m a' cap' s'.1 ∧ QPre F p mm ks kd kb km qs aQ capQ W' s'.2 ∧ qaK (fun i => BB p m i ∨ i = mm) W W' (.slice a s.1.length cap) (.slice a' s'.1.length cap')) hP.fn hP.bld hP.mem r (D.mono ?_)).mono ?_
   · rintro e W' ⟨rfl, a', cap', b1, b2, b3⟩
     have low : ∀ k, k < B → k < W.heap.size → W'.heap[k]? = W.heap[k]? := by
      intro k hk hlt
      refine b3.1.block k hlt ?_
      rintro (h | h | h)
      · have := (hBu.own.lt k h).1; omega
      · rcases h with h | h
        · have := hBu.pb; omega
        · have := hBu.mb; omega
      · omega
     refine ⟨rfl, a', cap', b1, ⟨?_, ?_, qcI hBu hP.map b3 hP.bld (by decide) (by decide), qcI hBu hP.map b3 hP.mem (by decide) (by decide), b2, hP.row.low b3.1.size low hlow⟩, b3⟩
     · rw [low _ h1 (gu hP.set)]; exact hP.set
     · rw [low _ h2 (gu hP.fn)]; exact hP.fn
   · rintro e W' ⟨rfl, h⟩
     exact ⟨rfl, h⟩
 · intro W W' M a cap N hP hBu hf
   have low : ∀ k, k < B → k < W.heap.size → W'.heap[k]? = W.heap[k]? := by
    intro k hk hlt
    refine hf.block k hlt ?_
    rintro (h | h | h)
    · have := (hBu.own.lt k h).1; omega
    · rcases h with h | h
      · have := hBu.pb; omega
      · have := hBu.mb; omega
    · omega
   have cells : ∀ {k : Nat} {cur : Array Value} {T : TypeId}, W.heap[k]? = some (.cells cur T (0, 0)) → T ≠ 132 → T ≠ 160 → k < mc → W'.heap[k]? = some (.cells cur T (0, 0)) := by
    intro k cur T hk t1 t2 hlt
    refine hf.at hk ?_
    rintro (h | h | h)
    · exact hBu.apart hk t1 t2 (.inl h)
    · exact hBu.apart hk t1 t2 (.inr h)
    · omega
   refine ⟨?_, ?_, cells hP.bld (by decide) (by decide) h3.1, cells hP.mem (by decide) (by decide) h3.2, ?_, hP.row.low hf.size low hlow⟩
   · rw [low _ h1 (gu hP.set)]; exact hP.set
   · rw [low _ h2 (gu hP.fn)]; exact hP.fn
   · refine hP.map.of_block (hf.block _ hP.map.lt ?_)
     rintro (h | h)
     · exact hBu.other_map hP.map hmm.2 (.inl h)
     · rcases h with h | h
       · exact hBu.other_map hP.map hmm.2 (.inr h)
       · omega
end Go.Proofs.YticcpnekjddanaaGreatDoor
