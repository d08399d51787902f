/-  -/
import Derived.Test.YticcpnekjddanaaGreatDoorZRelGenB
import Derived.Test.YticcpnekjddanaaGreatDoorZQuanG
import Derived.Test.YticcpnekjddanaaGreatDoorZNetC
set_option linter.unusedVariables false
set_option linter.unusedSimpArgs false
namespace Go.Proofs.YticcpnekjddanaaGreatDoor
open Go.RowKit
theorem qjI {n : Nat} (hn : n ≤ 20) {s : Is} {f g h : Int} (hN : Ord s.1 n) (hM : qh1 s.1 n s.2) (hf : qaH s.1 f) (hg : qaH s.1 g) (hh : qaH s.1 h) :
 ∃ s' k, qdY (n + 1) s f g h = some (s', k) ∧ Ord s'.1 n ∧ qh1 s'.1 n s'.2 ∧ s.1 <+: s'.1 ∧ qaH s'.1 k ∧ tab s'.1 n 0 k = qbE (tab s.1 n 0 f) (tab s.1 n 0 g) (tab s.1 n 0 h) ∧ s'.1.length ≤ s.1.length + 1048576 := by
 obtain ⟨s', k, a1, a2, a3, a4, a5, a6, a7, a8⟩ := qh2 (n := n) n 0 f g h s (n + 1) hN hM hf hg hh (qaE hN.val hf).1 (qaE hN.val hg).1 (qaE hN.val hh).1 (by omega) (by omega) (by omega)
 have h2 : 2 ^ n ≤ 2 ^ 20 := Nat.pow_le_pow_right (by omega) hn
 exact ⟨s', k, a1, a2, a3, a4, a5, a7, by omega⟩
theorem Not_big {n : Nat} (hn : n ≤ 20) {d : Dg} {t : List Bool} {w : World} (hat : d.at w) (T : d.tab n t) (hs : (qal n [] 0 (qbE t (fls n) (tru n))).1.length ≤ 16384) :
 Calls Tryz.prog 35 #[d.v] w (DgN n (qbE t (fls n) (tru n)) w) := by
 have : Calls Tryz.prog 35 #[d.v] w (qe0 w n (qal n [] 0 (qbE t (fls n) (tru n))).1 (qal n [] 0 (qbE t (fls n) (tru n))).2) := by
  refine qoM d n _ _ 0 w (fun W a hW hD => ?_)
  refine (qha 66 qmC a 1 [d] W hD (by simp) (by simp) (fun x hx => by simp at hx; subst hx; exact qaa.same hat hW) n [t] ⟨T, trivial⟩ (qbE t (fls n) (tru n)) (by omega) hs ?_)
  intro N ks hN hT hl _
  obtain ⟨k, rfl, hk, ht⟩ := hT.one
  obtain ⟨s', r, a1, a2, a3, a4, a5, a6, a7⟩ := qjI (s := (N, [])) hn hN (qh1.nil _ _) hk (vnum0 N) (qmE N)
  simp only at a6 a7
  refine ⟨s'.1, r, a2, a5, by rw [a6, ht, tab0 _ (by omega), tab1 _ (by omega)], by omega, ?_⟩
  intro W B p m mm a' cap' ar cr h1 h2 h3 h4
  exact not_do (n + 1) B p m mm a' cap' N ar cr k s' r W h1 h2 h3 hN.val h4 hk a1 (by omega)
 exact this.mono fun e w' h => qe0.dgN h ⟨by omega, qbG T.2.len (qbZ n) (qcq n), rfl, hs⟩
theorem qf2 {n : Nat} (hn : n ≤ 20) {d d' : Dg} {t t' : List Bool} {w : World} (hat : d.at w) (hat' : d'.at w) (T : d.tab n t) (T' : d'.tab n t') (hs : (qal n [] 0 (qbE t t' (fls n))).1.length ≤ 16384) :
 Calls Tryz.prog 36 #[d.v, d'.v] w (DgN n (qbE t t' (fls n)) w) := by
 have : Calls Tryz.prog 36 #[d.v, d'.v] w (qe0 w n (qal n [] 0 (qbE t t' (fls n))).1 (qal n [] 0 (qbE t t' (fls n))).2) := by
  refine qoN d d' n _ _ 0 w (fun W a hW hD => ?_)
  refine (qha 68 qmD a 2 [d, d'] W hD (by simp) (by simp) (fun x hx => by simp at hx; rcases hx with rfl | rfl <;> exact qaa.same (by assumption) hW) n [t, t'] ⟨T, T', trivial⟩ _ (by omega) hs ?_)
  intro N ks hN hT hl _
  obtain ⟨k, j, rfl, ⟨hk, ht⟩, hj, hu⟩ := hT.two
  obtain ⟨s', r, a1, a2, a3, a4, a5, a6, a7⟩ := qjI (s := (N, [])) hn hN (qh1.nil _ _) hk hj (vnum0 N)
  simp only at a6 a7
  refine ⟨s'.1, r, a2, a5, by rw [a6, ht, hu, tab0 _ (by omega)], by omega, ?_⟩
  intro W B p m mm a' cap' ar cr h1 h2 h3 h4
  exact and_do (n + 1) B p m mm a' cap' N ar cr k j s' r W h1 h2 h3 hN.val h4 hk hj a1 (by omega)
 exact this.mono fun e w' h => qe0.dgN h ⟨by omega, qbG T.2.len T'.2.len (qbZ n), rfl, hs⟩
theorem qqn {n : Nat} (hn : n ≤ 20) {d d' : Dg} {t t' : List Bool} {w : World} (hat : d.at w) (hat' : d'.at w) (T : d.tab n t) (T' : d'.tab n t') (hs : (qal n [] 0 (qbE t (tru n) t')).1.length ≤ 16384) :
 Calls Tryz.prog 94 #[d.v, d'.v] w (DgN n (qbE t (tru n) t') w) := by
 have : Calls Tryz.prog 94 #[d.v, d'.v] w (qe0 w n (qal n [] 0 (qbE t (tru n) t')).1 (qal n [] 0 (qbE t (tru n) t')).2) := by
  refine or_call d d' n _ _ 0 w (fun W a hW hD => ?_)
  refine (qha 121 qoO a 2 [d, d'] W hD (by simp) (by simp) (fun x hx => by simp at hx; rcases hx with rfl | rfl <;> exact qaa.same (by assumption) hW) n [t, t'] ⟨T, T', trivial⟩ _ (by omega) hs ?_)
  intro N ks hN hT hl _
  obtain ⟨k, j, rfl, ⟨hk, ht⟩, hj, hu⟩ := hT.two
  obtain ⟨s', r, a1, a2, a3, a4, a5, a6, a7⟩ := qjI (s := (N, [])) hn hN (qh1.nil _ _) hk (qmE N) hj
  simp only at a6 a7
  refine ⟨s'.1, r, a2, a5, by rw [a6, ht, hu, tab1 _ (by omega)], by omega, ?_⟩
  intro W B p m mm a' cap' ar cr h1 h2 h3 h4
  exact or_do (n + 1) B p m mm a' cap' N ar cr k j s' r W h1 h2 h3 hN.val h4 hk hj a1 (by omega)
 exact this.mono fun e w' h => qe0.dgN h ⟨by omega, qbG T.2.len (qcq n) T'.2.len, rfl, hs⟩
theorem chg_big {n : Nat} (hn : n ≤ 20) {t : List Bool} {L : List Nd} {r : Int} (T : qbN n t L r) {wn : Int → Bool} {o : Bool → Bool → Bool} {dof : Is → Int → Int → Option (Is × Int)} (ho : qmn o) (hdo : DoOk n o dof) :
 VNd (qa5 L ([], [0, 1])).1 ∧ qaH (qa5 L ([], [0, 1])).1 ((qa5 L ([], [0, 1])).2.getD r.toNat 0) ∧
 ∃ s' q, qa8 wn dof (n + 1) (((qa5 L ([], [0, 1])).1, []), []) ((qa5 L ([], [0, 1])).2.getD r.toNat 0) = some (s', q) ∧ Ord s'.1.1 n ∧ qaH s'.1.1 q ∧ tab s'.1.1 n 0 q = chT wn o n 0 t ∧ s'.1.1.length ≤ 90000000 := by
 obtain ⟨hL, hr, ht⟩ := T.ord
 obtain ⟨a1, a2, a3, a4, a5⟩ := qg3 hL (Ord.nil (n := (n : Int)) (by omega)) hr
 have h0 := (qaE hL.val hr).1
 have e := a5 n 0 (by omega) h0
 obtain ⟨s', q, b1, b2, b3, b4, b5, b6, b7, b8, b9⟩ := qh6 (wn := wn) ho hdo n 0 _ (((qa5 L ([], [0, 1])).1, []), []) (n + 1) a1 (qh1.nil _ _) (qg5.nil _ _ _ _) a3 (by rw [a4]; exact h0) (by omega) (by omega) (by omega)
 refine ⟨a1.val, a3, s', q, b1, b2, b6, by rw [b8, e, ht], ?_⟩
 have h1 := qc6 L ([], [0, 1])
 have h2 := T.short
 have h3 : 2 ^ n ≤ 2 ^ 20 := Nat.pow_le_pow_right (by omega) hn
 have h4 : n * 2 ^ n ≤ 20 * 2 ^ 20 := Nat.mul_le_mul hn h3
 simp only [List.length_nil] at h1 b9
 omega
theorem qlB {n : Nat} (hn : n ≤ 20) {d : Dg} {t : List Bool} {w : World} (qs : List Int) (aQ : Option Addr) (cQ : Nat) (hat : d.at w) (T : d.tab n t) (hl7 : qs.length ≤ 1000) (hQ : qan w (.slice aQ qs.length cQ) qs.length (gw qs)) (hr0 : qaw n qs qs.length 0 = 0)
 (hs : (qal n [] 0 (qcw (qOp false) n (qs.map Int.toNat) t)).1.length ≤ 16384) :
 Calls Tryz.prog 125 #[d.v, .slice aQ qs.length cQ] w (DgN n (qcw (qOp false) n (qs.map Int.toNat) t) w) := by
 have ho : qmn (qOp false) := by rw [qfP]; exact or_idem
 have hi : qjh (qOp false) := by rw [qfP]; exact qoQ
 have hdo : DoOk n (qOp false) (doE (n + 1)) := by rw [qfP]; exact doE_ok n (by omega)
 have hl : (qcw (qOp false) n (qs.map Int.toNat) t).length = 2 ^ n := qd7 _ _ _ _ T.2.len
 have hq := qjs ho hi T.2.len hr0
 rw [hq] at hs hl ⊢
 have Q := fun W (hW : qad w W) => (qnx enter_E (doE_c (n + 1)) (doE_val (n + 1)) ho d n t qs aQ cQ W (by omega) (qaa.same hat hW) T hl7 (hQ.same hW) hr0 hs (chg_big hn T.2 ho hdo)).mono fun e w' h => qe0.any h
 refine (qlA d n 0 _ qs aQ cQ w T.1 hat hQ Q).mono fun e w' h => ?_
 exact qe0.dgN (QAny.ret h) ⟨by omega, hl, rfl, hs⟩
theorem qny : ∀ (t u : List Bool) (n : Nat), t.length = n → u.length = n → (qbE t u (List.replicate n false)).count true ≤ t.count true
 | [], _, _, _, _ => by simp [qbE]
 | x :: t, [], n, h, h' => by simp at h h'; omega
 | x :: t, y :: u, 0, h, h' => by simp at h
 | x :: t, y :: u, n + 1, h, h' => by
  have ih := qny t u n (by simpa using h) (by simpa using h')
  rw [List.replicate_succ, qbE]
  simp only [List.count_cons]
  cases x <;> cases y <;> simp <;> omega
theorem qpl {b s : Nat} (hb : b ≤ 10) (hs : s < 2) (dr df : Dg) (t u : List Bool) (w : World) (hr : dr.at w) (hf : df.at w) (T : dr.tab (2 * b) t) (U : df.tab b u) (hth : qgr (2 * b) t) :
 Calls Tryz.prog 98 #[.agg #[.int .i64 dr.n, .slice dr.a dr.L.length dr.cap, .int .i64 dr.r], .agg #[.int .i64 df.n, .slice df.a df.L.length df.cap, .int .i64 df.r], .int .i64 s] w (DgN b (imT b s t u) w) := by
 have hstep := qo8 (b := b) hs (by simpa using T.2.len) U.2.len
 have hil : (imT b s t u).length = 2 ^ b := qbr _ _
 have hul := qbB (fun i => ((2 * i + s : Nat) : Int)) b (2 * b) u
 have hal := qbG T.2.len hul (qbZ (2 * b))
 have hsh := (hth.le (qny t (qhc (fun i => ((2 * i + s : Nat) : Int)) b (2 * b) u) _ T.2.len hul)).short (by omega) hal
 have hIm : qbN b (imT b s t u) (qal b [] 0 (imT b s t u)).1 (qal b [] 0 (imT b s t u)).2 := qbN.of (by omega) hil
 have hRn := qjp hIm (up2 (b := b) (s := 1 - s) (by omega)) (by omega)
 have hgL : (gL (fun i => 2 * i + s) b).map Int.toNat = qng b s := by
  unfold gL qng
  rw [List.map_map]
  exact List.map_congr_left (fun i _ => by simp only [Function.comp, Int.toNat_natCast])
 refine qpk (by omega) hs dr df w _ _ _ _ T.1 U.1
  (fun W hW => qlu df b (2 * b) 2 s u W (by omega) (by omega) (by omega) (by omega) (fun i hi => by omega) (qaa.same hf hW) U)
  (fun d' W hW h1 T' => qf2 (by omega) (qaa.same hr hW) h1 T T' hsh)
  (fun d' W aQ cQ h1 T' hQ => by
   have := qlB (n := 2 * b) (by omega) (gL (fun i => 2 * i + s) b) aQ cQ h1 T' (by rw [qek]; omega) (by rw [qek]; exact hQ) (qm5 (fun i hi => by omega) (fun i hi => by omega)) (by
    rw [hgL, hstep, hRn.eq]
    exact hRn.short)
   rw [qek, hgL, hstep] at this
   exact this)
  (fun d' W h1 T' => qnj (n := b) (m := 2 * b) (by omega) (by omega) (up2 (b := b) (s := 1 - s) (by omega)) hil h1 T' 127 #[] (fun v => v / 2) (fun v hv => by omega) qjC qnh)
theorem qf3 {m b s : Nat} (hb : b ≤ 10) (hm40 : m ≤ 40) (hs : s < 2) (dr df : Dg) (t u : List Bool) (w : World) (hr : dr.at w) (hf : df.at w) (T : dr.tab m t) (U : df.tab b u) (hth : m = 2 * b → qgr (2 * b) t) :
 Calls Tryz.prog 63 #[.agg #[.int .i64 dr.n, .slice dr.a dr.L.length dr.cap, .int .i64 dr.r], .agg #[.int .i64 df.n, .slice df.a df.L.length df.cap, .int .i64 df.r], .int .i64 s] w (ClE (if m = 2 * b then 0 else 4) b s t u w) := by
 refine qjG hs (by omega) (fun v => v.length = 2 ^ b) (fun v hv => qnt hv) (fun _ k hk => ?_) dr df w U.2.len hr hf T U (fun h d v W hv hW hd hT => ?_) (fun h d d' v W hv hd hd' hT hT' => ?_)
 · have := qnw U.2.len hk
   have h3 : 2 ^ b ≤ 2 ^ 10 := Nat.pow_le_pow_right (by omega) hb
   omega
 · subst h
   exact qpl hb hs dr d t v W (qaa.same hr hW) hd T hT (hth rfl)
 · exact qqn (by omega) hd hd' hT hT' (qfU (by omega) (qbG hv (qcq b) (qjF _ _ _ _)))
theorem qjJ {b : Nat} (hb : b ≤ 10) (dr df : Dg) (t u : List Bool) (w : World) (hr : dr.at w) (hf : df.at w) (T : dr.tab (2 * b) t) (U : df.tab b u) (hth : qgr (2 * b) t) :
 Calls Tryz.prog 32 #[.agg #[.int .i64 dr.n, .slice dr.a dr.L.length dr.cap, .int .i64 dr.r], .agg #[.int .i64 df.n, .slice df.a df.L.length df.cap, .int .i64 df.r]] w (ClE 0 b 0 t u w) := by
 have := qjH dr df t u w hr hf T U (fun W hW => qf3 (s := 0) hb (by omega) (by omega) dr df t u W (qaa.same hr hW) (qaa.same hf hW) T U (fun _ => hth))
 rwa [if_pos rfl] at this
theorem qir {b : Nat} (hb : b ≤ 10) (dr df : Dg) (t u : List Bool) (w : World) (hr : dr.at w) (hf : df.at w) (T : dr.tab (2 * b) t) (U : df.tab b u) (hth : qgr (2 * b) t) :
 Calls Tryz.prog 34 #[.agg #[.int .i64 dr.n, .slice dr.a dr.L.length dr.cap, .int .i64 dr.r], .agg #[.int .i64 df.n, .slice df.a df.L.length df.cap, .int .i64 df.r]] w (ClE 0 b 1 t u w) := by
 have := qiq dr df t u w hr hf T U (fun W hW => qf3 (s := 1) hb (by omega) (by omega) dr df t u W (qaa.same hr hW) (qaa.same hf hW) T U (fun _ => hth))
 rwa [if_pos rfl] at this
end Go.Proofs.YticcpnekjddanaaGreatDoor
