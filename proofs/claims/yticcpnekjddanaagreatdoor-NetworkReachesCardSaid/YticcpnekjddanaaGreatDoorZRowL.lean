/-  -/
import Derived.Test.YticcpnekjddanaaGreatDoorZRelF
import Derived.Test.YticcpnekjddanaaGreatDoorZRowS
import Derived.Test.YticcpnekjddanaaGreatDoorZBigT
import Derived.Test.YticcpnekjddanaaGreatDoorZRestr
import Derived.Test.YticcpnekjddanaaGreatDoorZNetC
set_option maxRecDepth 100000
set_option maxHeartbeats 8000000
set_option linter.unusedVariables false
set_option linter.unusedSimpArgs false
namespace Go.Proofs.YticcpnekjddanaaGreatDoor
open Go.RowKit
theorem qan.int {w : World} {a : Option Addr} {q cap : Nat} {l : List Int} (h : qan w (.slice a q cap) q (gw l)) (hq : l.length = q) {k : Nat} (hk : k < q) :
 ∃ b off, a = some ⟨b, off, none⟩ ∧ b < w.heap.size ∧ w.cell? ⟨b, off + k, none⟩ = some (.int .i64 (l[k]'(by omega))) := by
 obtain ⟨b, off, ha, hbl, hc⟩ := h.cell (by omega)
 exact ⟨b, off, ha, hbl, hc k _ (by simp [gw, hq, hk])⟩
def pre (a b a' b' : Int) : Bool := decide (a = a' ∧ b = b')
theorem arr2 : Tryz.prog.underlying 103 = some (.array 2 3) := Tryz.underlying103
theorem qe5 (d : Nat) (a b a' b' : Int) (w : World) : (Op.equalIn (d + 2) 103 (.agg #[.int .i64 a, .int .i64 b]) (.agg #[.int .i64 a', .int .i64 b'])).run Tryz.prog w = .ok (pre a b a' b') w := by
 simp [Op.equalIn, run_underlying arr2, run_underlying qfw, go_sem, List.range']
 unfold pre
 by_cases e1 : a = a' <;> by_cases e2 : b = b' <;> simp [e1, e2]
theorem qnp : Tryz.prog.eqGuardType Tryz.prog.depth 103 = false := by kernel_rfl
@[go_sem ↓] theorem guardNe2 (x y : Operand) (xs ys : Array Value) (w : World) : (eqGuard .neq 103 x y (.agg xs) (.agg ys)).run Tryz.prog w = .ok () w := run_eqGuard_agg w .neq 103 x y xs ys qnp
@[go_sem ↓] theorem guardEq2 (x y : Operand) (xs ys : Array Value) (w : World) : (eqGuard .eql 103 x y (.agg xs) (.agg ys)).run Tryz.prog w = .ok () w := run_eqGuard_agg w .eql 103 x y xs ys qnp
@[go_sem ↓] theorem neq2 (a b a' b' : Int) (w : World) : (binOp .neq 103 (.agg #[.int .i64 a, .int .i64 b]) (.agg #[.int .i64 a', .int .i64 b'])).run Tryz.prog w = .ok (.bool (!pre a b a' b')) w := by
 rw [run_neq_struct, qe5 9998]; rfl
@[go_sem ↓] theorem eql2 (a b a' b' : Int) (w : World) : (binOp .eql 103 (.agg #[.int .i64 a, .int .i64 b]) (.agg #[.int .i64 a', .int .i64 b'])).run Tryz.prog w = .ok (.bool (pre a b a' b')) w := by
 rw [run_eql_struct, qe5 9998]; rfl
def qez (p : Nat → Bool) (k : Nat) : List Nat := (List.range k).filter p
theorem qhn {p : Nat → Bool} {k : Nat} (h : p k = true) : qez p (k + 1) = qez p k ++ [k] := by simp [qez, List.range_succ, h]
theorem qjE {p : Nat → Bool} {k : Nat} (h : p k = false) : qez p (k + 1) = qez p k := by simp [qez, List.range_succ, h]
theorem qdB (p : Nat → Bool) (k : Nat) : (qez p k).length ≤ k := by
 have := List.length_filter_le p (List.range k)
 simpa [qez] using this
theorem qho {p : Nat → Bool} {k x : Nat} : x ∈ qez p k ↔ x < k ∧ p x = true := by simp [qez, List.mem_filter]
def qaz (l : List Nat) : List Int := l.map fun (i : Nat) => (i : Int)
theorem qaG (l : List Nat) : (qaz l).length = l.length := by simp [qaz]
theorem qnq (l : List Nat) (k : Nat) : gw (qaz (l ++ [k])) = gw (qaz l) ++ [.int .i64 k] := by simp [qaz, gw]
theorem qkB {l : List Nat} {x : Nat} : (x : Int) ∈ qaz l ↔ x ∈ l := by
 unfold qaz
 rw [List.mem_map]
 constructor
 · rintro ⟨a, h, e⟩
   obtain rfl : a = x := by omega
   exact h
 · intro h
   exact ⟨x, h, rfl⟩
theorem qeO (l : List Nat) : (qaz l).map Int.toNat = l := by simp [qaz, List.map_map, Function.comp_def]
theorem qph {l m : List Nat} (h : qaz l = qaz m) : l = m := by rw [← qeO l, h, qeO]
theorem qkC (l : List Int) (x : Int) (a : Option Addr) (q cap : Nat) (w : World) (hq : l.length = q) (hl : qan w (.slice a q cap) q (gw l)) (hq9 : q ≤ 100000) :
 Calls Tryz.prog 82 #[.slice a q cap, .int .i64 x] w fun e w' => e = .returned (.bool (decide (x ∈ l))) ∧ qad w w' := by
 obtain ⟨R, hR⟩ : ∃ R : Bool, R = decide (x ∈ l) := ⟨_, rfl⟩
 rw [← hR]
 have hL : l.length = q := hq
 clear hq
 replace hl := gi hl; replace hR := gi hR; replace hL := gi hL
 go_enter Tryz.func82, Tryz.ntmps82
 go_wp2_with fail
 go_loopw [5] (fun i wr => ∃ k : Nat, i = .int .i64 k ∧ k ≤ q ∧ (∀ (j : Nat) (h : j < l.length), j < k → l[j] ≠ x) ∧ qad w wr) (fun i _ => q - (intOf i).toNat)
 case atStart => exact ⟨0, rfl, by omega, fun _ _ h => by omega, Fr.refl _ _⟩
 case round =>
  obtain ⟨k, rfl, hk, hf, hs⟩ := hrel
  by_cases hlt : k < q
  · have hkl : k < l.length := by rw [hL.out]; exact hlt
    obtain ⟨bb, off, rfl, hbl, z0⟩ := (hl.out.same hs).int (by rw [hL.out]) hlt
    by_cases he : l[k] = x
    · have hm : x ∈ l := he ▸ List.getElem_mem hkl
      rw [he] at z0
      replace hf := gi hf; replace hs := gi hs; replace he := gi he; replace hm := gi hm
      go_wp2_with fail
      go_ret
      refine ⟨?_, hs.out.same fs2⟩
      rw [hR.out, decide_eq_true hm.out]; rfl
    · have hpe : (l[k] == x) = false := by simpa using he
      have hf2 : ∀ (j : Nat) (h : j < l.length), j < k + 1 → l[j] ≠ x := fun j h hj => by
       by_cases hjk : j < k
       · exact hf j h hjk
       · have : j = k := by omega
         subst this; exact he
      generalize l[k] = y at *
      replace hf := gi hf; replace hs := gi hs; replace hf2 := gi hf2
      go_wp2_with fail
      go_roundw
      case rel => exact ⟨k + 1, by go_num, by omega, hf2.out, hs.out.same fs2⟩
      case measure => simp [intOf]; omega
  · obtain rfl : k = q := by omega
    have hm : ¬ x ∈ l := fun h => by
     obtain ⟨j, hj, e⟩ := List.mem_iff_getElem.1 h
     exact hf j hj (by rw [← hL.out]; exact hj) e
    replace hf := gi hf; replace hs := gi hs; replace hm := gi hm
    go_wp2_with fail
    go_ret
    refine ⟨?_, hs.out.same fs2⟩
    rw [hR.out, decide_eq_false hm.out]; rfl
def qdS (lk : List Nat) : List Value := lk.map fun (x : Nat) => .int .u8 (x : Int)
theorem qlz (l : List Int) (x : Int) (a : Option Addr) (q cap : Nat) (w : World) (hq : l.length = q) (hl : qan w (.slice a q cap) q (gw l)) (hq9 : q ≤ 100000) :
 Calls Tryz.prog 128 #[.slice a q cap, .int .i64 x] w fun e w' => ∃ r : Int, e = .returned (.int .i64 r) ∧ decide (0 ≤ r) = decide (x ∈ l) ∧ qad w w' := by
 have hL : l.length = q := hq
 clear hq
 replace hl := gi hl; replace hL := gi hL
 go_enter Tryz.func128, Tryz.ntmps128
 go_wp2_with fail
 go_loopw [8] (fun i wr => ∃ k : Nat, i = .int .i64 k ∧ k ≤ q ∧ (∀ (j : Nat) (h : j < l.length), j < k → l[j] ≠ x) ∧ qad w wr) (fun i _ => q - (intOf i).toNat)
 case atStart => exact ⟨0, rfl, by omega, fun _ _ h => by omega, Fr.refl _ _⟩
 case round =>
  obtain ⟨k, rfl, hk, hf, hs⟩ := hrel
  by_cases hlt : k < q
  · have hkl : k < l.length := by rw [hL.out]; exact hlt
    obtain ⟨bb, off, rfl, hbl, z0⟩ := (hl.out.same hs).int (by rw [hL.out]) hlt
    by_cases he : l[k] = x
    · have hm : x ∈ l := he ▸ List.getElem_mem hkl
      rw [he] at z0
      replace hf := gi hf; replace hs := gi hs; replace he := gi he; replace hm := gi hm
      go_wp2_with fail
      go_ret
      exact ⟨k, rfl, by rw [decide_eq_true hm.out, decide_eq_true (by omega)], hs.out.same fs2⟩
    · have hpe : (x == l[k]) = false := by simpa using fun h => he h.symm
      have hf2 : ∀ (j : Nat) (h : j < l.length), j < k + 1 → l[j] ≠ x := fun j h hj => by
       by_cases hjk : j < k
       · exact hf j h hjk
       · have : j = k := by omega
         subst this; exact he
      generalize l[k] = y at *
      replace hf := gi hf; replace hs := gi hs; replace hf2 := gi hf2
      go_wp2_with fail
      go_roundw
      case rel => exact ⟨k + 1, by go_num, by omega, hf2.out, hs.out.same fs2⟩
      case measure => simp [intOf]; omega
  · obtain rfl : k = q := by omega
    have hm : ¬ x ∈ l := fun h => by
     obtain ⟨j, hj, e⟩ := List.mem_iff_getElem.1 h
     exact hf j hj (by rw [← hL.out]; exact hj) e
    replace hf := gi hf; replace hs := gi hs; replace hm := gi hm
    go_wp2_with fail
    go_ret
    exact ⟨-1, rfl, by rw [decide_eq_false hm.out]; decide, hs.out.same fs2⟩
theorem qeo (l : List Int) (x : Int) (a : Option Addr) (q cap : Nat) (w : World) (hq : l.length = q) (hl : qan w (.slice a q cap) q (gw l)) (hq9 : q ≤ 100000) :
 Calls Tryz.prog 111 #[.slice a q cap, .int .i64 x] w fun e w' => e = .returned (.bool (decide (x ∈ l))) ∧ qad w w' := by
 have IX := fun W (hW : qad w W) => qlz l x a q cap W hq (hl.same hW) hq9
 obtain ⟨R, hR⟩ : ∃ R : Bool, R = decide (x ∈ l) := ⟨_, rfl⟩
 rw [← hR] at IX ⊢
 clear hR hq hl
 replace IX := gi IX
 go_enter Tryz.func111, Tryz.ntmps111
 go_wp2_with fail
 refine (IX.out _ fs2).mono ?_
 rintro e w1 ⟨r, rfl, hr, s1⟩
 have s1 := (show qad w _ from fs2).same s1
 replace s1 := gi s1; replace hr := gi hr
 go_wp2_with fail
 go_ret
 refine ⟨?_, s1.out.same fs2⟩
 rw [← hr.out]; rfl
structure Au where
 al : List Int
 n : Int
 ma : List Int
 es : List Nd
 aA : Option Addr
 cA : Nat
 aM : Option Addr
 cM : Nat
 aE : Option Addr
 cE : Nat
def Au.v (A : Au) : Value := .agg #[.slice A.aA A.al.length A.cA, .int .i64 A.n, .slice A.aM A.ma.length A.cM, .slice A.aE A.es.length A.cE]
structure Au.at (A : Au) (w : World) : Prop where
 al : qan w (.slice A.aA A.al.length A.cA) A.al.length (gw A.al)
 ma : qan w (.slice A.aM A.ma.length A.cM) A.ma.length (gw A.ma)
 es : qbb w A.aE A.es A.cE
theorem Au.at.same {A : Au} {w w' : World} (h : A.at w) (hs : qad w w') : A.at w' := ⟨h.al.same hs, h.ma.same hs, h.es.same hs⟩
structure Au.small (A : Au) : Prop where
 al : A.al.length ≤ 1000
 ma : A.ma.length ≤ 1000
 es : A.es.length ≤ 1000
def qdF (al : List Int) (n : Int) (x : Nd) : Int := if x.1 < 0 ∨ n ≤ x.1 ∨ x.2.2 < 0 ∨ n ≤ x.2.2 then 2 else if x.2.1 ∈ al then 0 else 9
def qdT (y x : Nd) : Prop := x.1 < y.1 ∨ x.1 = y.1 ∧ x.2.1 ≤ y.2.1
instance egDec (y x : Nd) : Decidable (qdT y x) := by unfold qdT; exact inferInstance
def qct (al : List Int) (n : Int) (es : List Nd) : Nat → Nat → Int
 | 0, _ => 0
 | m + 1, i => if qdF al n (es.getD i (0, 0, 0)) ≠ 0 then qdF al n (es.getD i (0, 0, 0)) else if 0 < i ∧ qdT (es.getD (i - 1) (0, 0, 0)) (es.getD i (0, 0, 0)) then 5 else qct al n es m (i + 1)
theorem qcC {es : List Nd} {k : Nat} (h : k < es.length) : es.getD k (0, 0, 0) = es[k] := by simp [List.getD, h]
theorem egErr_0 (al : List Int) (n : Int) (es : List Nd) (q : Nat) (hq : es.length = q) (h : 0 < es.length) : qct al n es (q - 0) 0 = if qdF al n (es[0]'h) ≠ 0 then qdF al n (es[0]'h) else qct al n es (q - 1) 1 := by
 subst hq
 conv => lhs; rw [show es.length - 0 = (es.length - 1) + 1 by omega, qct, qcC h, if_neg (c := 0 < 0 ∧ _) (by omega)]
theorem egErr_s (al : List Int) (n : Int) (es : List Nd) (q : Nat) (hq : es.length = q) (k : Nat) (h : k + 1 < es.length) : qct al n es (q - (k + 1)) (k + 1) = if qdF al n (es[k + 1]'h) ≠ 0 then qdF al n (es[k + 1]'h) else if qdT (es[k]'(Nat.lt_of_succ_lt h)) (es[k + 1]'h) then 5 else qct al n es (q - (k + 1 + 1)) (k + 1 + 1) := by
 subst hq
 conv => lhs; rw [show es.length - (k + 1) = (es.length - (k + 1 + 1)) + 1 by omega, qct, qcC h, Nat.add_sub_cancel, qcC (show k < es.length by omega)]
 by_cases he : qdT es[k] es[k + 1]
 · rw [if_pos (c := 0 < k + 1 ∧ _) ⟨by omega, he⟩, if_pos he]
 · rw [if_neg (c := 0 < k + 1 ∧ _) (fun hh => he hh.2), if_neg he]
def qbC (A : Au) : Int :=
 if qaw 32 A.al A.al.length 0 ≠ 0 then qaw 32 A.al A.al.length 0 else if A.n < 0 then 2 else if 4096 < A.n then 3 else
 if qaw A.n A.ma A.ma.length 0 ≠ 0 then qaw A.n A.ma A.ma.length 0 else qct A.al A.n A.es A.es.length 0
theorem qkD (n : Int) (qs : List Int) (aQ : Option Addr) (capQ : Nat) (w : World) (hl7 : qs.length ≤ 1000) (hQ : qan w (.slice aQ qs.length capQ) qs.length (gw qs)) :
 Calls Tryz.prog 86 #[.slice aQ qs.length capQ, .int .i64 n] w fun e w' => e = .returned (.int .i64 (qaw n qs qs.length 0)) ∧ w = w' := by
 obtain ⟨E, hE⟩ : ∃ E, E = qaw n qs qs.length 0 := ⟨_, rfl⟩
 rw [← hE]
 obtain ⟨q, hq⟩ : ∃ q, q = qs.length := ⟨_, rfl⟩
 have hql : q ≤ 1000 := by omega
 rw [← hq] at hQ hE ⊢
 replace hQ := gi hQ; replace hE := gi hE; replace hq := gi hq
 go_enter Tryz.func86, Tryz.ntmps86
 go_wp2_with fail
 go_loopw [9] (fun i wr => ∃ k : Nat, i = .int .i64 k ∧ k ≤ q ∧ qaw n qs (q - k) k = E ∧ w = wr) (fun i _ => q - (intOf i).toNat)
 case atStart => exact ⟨0, rfl, by omega, hE.out.symm, rfl⟩
 case round =>
  obtain ⟨k, rfl, hk, hrE, rfl⟩ := hrel
  by_cases hlt : k < q
  · rw [hq.out, qie n qs k (by rw [← hq.out]; exact hlt), ← hq.out] at hrE
    obtain ⟨bq, oq, rfl, hbq, hcq⟩ := qed (l := qs) (by rw [← hq.out]; exact hQ.out) (by rw [← hq.out]; omega)
    have ck := hcq k (by rw [← hq.out]; exact hlt)
    have cp : 0 < k → w.cell? ⟨bq, oq + (k - 1), none⟩ = some (.int .i64 (toF qs (k - 1))) := fun h => hcq (k - 1) (by rw [← hq.out]; omega)
    clear hcq
    obtain ⟨v, hv'⟩ : ∃ v, v = toF qs k := ⟨_, rfl⟩
    rw [← hv'] at hrE ck
    replace hv' := gi hv'
    by_cases c1 : v < 0 ∨ n ≤ v
    · rw [if_pos c1] at hrE
      subst hrE
      clear cp
      by_cases c2 : v < 0
      · clear c1
        go_wp2_with fail
        go_ret
        exact ⟨rfl, rfl⟩
      · have c3 : n ≤ v := by omega
        clear c1
        go_wp2_with fail
        go_ret
        exact ⟨rfl, rfl⟩
    · rw [if_neg c1] at hrE
      have c2 : 0 ≤ v := by omega
      have c3 : v < n := by omega
      clear c1
      by_cases c4 : 0 < k
      · have cp' := cp c4
        obtain ⟨k', rfl⟩ : ∃ k', k = k' + 1 := ⟨k - 1, by omega⟩
        rw [Nat.add_sub_cancel] at cp'
        obtain ⟨u, hu⟩ : ∃ u, u = toF qs k' := ⟨_, rfl⟩
        simp only [Nat.add_sub_cancel] at hrE
        rw [← hu] at hrE cp'
        have hkk : 0 < k' + 1 := c4
        have hkk2 : ((k' : Int) + 1 - 1) = (k' : Int) := by omega
        clear cp
        replace hu := gi hu
        by_cases c5 : v ≤ u
        · rw [if_pos ⟨c4, c5⟩] at hrE
          subst hrE
          go_wp2_with fail
          go_ret
          exact ⟨rfl, rfl⟩
        · rw [if_neg (fun h => c5 h.2)] at hrE
          have c6 : u < v := by omega
          clear c5
          replace hrE := gi hrE
          go_wp2_with fail
          go_roundw
          case rel => exact ⟨k' + 1 + 1, by go_num, by omega, hrE.out, (by first | rfl | trivial)⟩
          case measure => simp [intOf]; omega
      · rw [if_neg (fun h => c4 h.1)] at hrE
        have c7 : k = 0 := by omega
        replace c7 := gi c7
        clear cp
        replace hrE := gi hrE
        go_wp2_with fail
        go_roundw
        case rel => exact ⟨k + 1, by go_num, by omega, hrE.out, (by first | rfl | trivial)⟩
        case measure => simp [intOf]; omega
  · have hkq : k = q := by omega
    subst hkq
    rw [Nat.sub_self, qaw] at hrE
    subst hrE
    go_wp2_with fail
    go_ret
    exact ⟨rfl, rfl⟩
theorem qnr (A : Au) (w : World) (hA : A.at w) (hz : A.small) : Calls Tryz.prog 87 #[A.v] w fun e w' => e = .returned (.int .i64 (qct A.al A.n A.es A.es.length 0)) ∧ qad w w' := by
 obtain ⟨al, n, mk, es, aA, cA, aM, cM, aE, cE⟩ := A
 obtain ⟨h1, h2, h3⟩ := hA
 obtain ⟨z1, z2, z3⟩ := hz
 unfold Au.v
 simp only at h1 h2 h3 z1 z2 z3 ⊢
 have CT := fun (x : Int) W (hW : qad w W) => qeo al x aA al.length cA W rfl (h1.same hW) (by omega)
 have ND := fun (k : Nat) (hk : k < es.length) W (hW : qad w W) => (h3.same hW).node hk
 obtain ⟨E, hE⟩ : ∃ E, E = qct al n es es.length 0 := ⟨_, rfl⟩
 rw [← hE]
 obtain ⟨qE, hqE⟩ : ∃ q, q = es.length := ⟨_, rfl⟩
 have hst0 := egErr_0 al n es qE hqE.symm
 have hsts := egErr_s al n es qE hqE.symm
 rw [← hqE] at hE z3 ⊢
 have hL : es.length = qE := hqE.symm
 generalize al.length = qA at *
 generalize mk.length = qM at *
 clear h1 h2 h3 hqE z2
 replace CT := gi CT; replace ND := gi ND; replace hE := gi hE; replace hst0 := gi hst0; replace hsts := gi hsts; replace hL := gi hL
 go_enter Tryz.func87, Tryz.ntmps87
 go_upto_region 1 with fail
 have kb := gv w (.cells #[.slice aA qA cA, .int .i64 n, .slice aM qM cM, .slice aE qE cE] 39)
 have hs : qad w (w.alloc (.cells #[.slice aA qA cA, .int .i64 n, .slice aM qM cM, .slice aE qE cE] 39)) := fs2
 generalize w.alloc (.cells #[.slice aA qA cA, .int .i64 n, .slice aM qM cM, .slice aE qE cE] 39) = W0 at *
 replace kb := gi kb; replace hs := gi hs
 have b3 := gn kb.out 3
 have bl := gu kb.out
 go_wp2_with fail
 clear b3 bl
 go_loopw [9] (fun i wr => ∃ k : Nat, i = .int .i64 k ∧ k ≤ qE ∧ qct al n es (qE - k) k = E ∧ qad W0 wr) (fun i _ => qE - (intOf i).toNat)
 case atStart => exact ⟨0, rfl, by omega, hE.out.symm, Fr.refl _ _⟩
 case round =>
  obtain ⟨k, rfl, hk, hrE, hs1⟩ := hrel
  have hs2 := hs.out.same hs1
  replace kb := gi (hs1.at kb.out id)
  by_cases hlt : k < qE
  · obtain ⟨bb, off, rfl, hbl, z0, z1, z2⟩ := ND.out k (by rw [hL.out]; exact hlt) wr hs2
    have hord : 0 < k → ∀ W, qad w W → W.cell? ⟨bb, off + (k - 1) * 3, none⟩ = some (.int .i64 (es[k - 1]'(by rw [hL.out]; omega)).1) ∧ W.cell? ⟨bb, off + (k - 1) * 3 + 1, none⟩ = some (.int .i64 (es[k - 1]'(by rw [hL.out]; omega)).2.1) ∧ W.cell? ⟨bb, off + (k - 1) * 3 + 2, none⟩ = some (.int .i64 (es[k - 1]'(by rw [hL.out]; omega)).2.2) ∧ bb < W.heap.size := fun h0 W hW => by
     obtain ⟨bb', off', e', hl', y0, y1, y2⟩ := ND.out (k - 1) (by rw [hL.out]; omega) W hW
     cases e'
     exact ⟨y0, y1, y2, hl'⟩
    have hstep : (if qdF al n (es[k]'(by rw [hL.out]; exact hlt)) ≠ 0 then qdF al n (es[k]'(by rw [hL.out]; exact hlt)) else if 0 < k ∧ qdT (es[k - 1]'(by rw [hL.out]; omega)) (es[k]'(by rw [hL.out]; exact hlt)) then 5 else qct al n es (qE - (k + 1)) (k + 1)) = E := by
     rw [← hrE]
     rcases Nat.eq_zero_or_pos k with h | h
     · subst h
       rw [hst0.out (by rw [hL.out]; exact hlt), if_neg (c := 0 < 0 ∧ _) (by omega)]
     · obtain ⟨k', rfl⟩ : ∃ k', k = k' + 1 := ⟨k - 1, by omega⟩
       rw [hsts.out k' (by rw [hL.out]; exact hlt)]
       simp only [Nat.add_sub_cancel]
       by_cases he : qdT (es[k']'(by rw [hL.out]; omega)) (es[k' + 1]'(by rw [hL.out]; exact hlt))
       · rw [if_pos (c := 0 < k' + 1 ∧ _) ⟨by omega, he⟩, if_pos he]
       · rw [if_neg (c := 0 < k' + 1 ∧ _) (fun hh => he hh.2), if_neg he]
    generalize es[k]'(by rw [hL.out]; exact hlt) = x at *
    generalize es[k - 1]'(by rw [hL.out]; omega) = y at *
    obtain ⟨f, e, t⟩ := x
    obtain ⟨f', e', t'⟩ := y
    unfold qdF qdT at hstep
    simp only at z0 z1 z2 hstep hord
    clear hrE
    replace hs1 := gi hs1; replace hs2 := gi hs2; replace hord := gi hord; replace hstep := gi hstep
    go_upto_region 4 with fail
    have kx := gv wr (.cells #[.int .i64 f, .int .i64 e, .int .i64 t] 57)
    have s2 : qad wr (wr.alloc (.cells #[.int .i64 f, .int .i64 e, .int .i64 t] 57)) := fs2
    have hs3 := hs2.out.same s2
    have hs4 := hs1.out.same s2
    replace kb := gi (s2.at kb.out id)
    clear s2 z0 z1 z2 hbl
    generalize wr.alloc (.cells #[.int .i64 f, .int .i64 e, .int .i64 t] 57) = W2 at *
    generalize wr.heap.size = bx at *
    replace kx := gi kx; replace hs3 := gi hs3; replace hs4 := gi hs4
    obtain ⟨x0, x1, x2, xl⟩ := g3l kx.out
    have b0 := gn kb.out 0
    have b1 := gn kb.out 1
    have b3 := gn kb.out 3
    have bl := gu kb.out
    by_cases g1 : f < 0
    · have hEv : E = 2 := by rw [← hstep.out, if_pos (c := f < 0 ∨ _) (.inl g1), if_pos (by decide)]
      subst hEv
      go_wp2_with fail
      go_ret
      exact ⟨rfl, hs3.out.same fs2⟩
    have g1' : (f < 0) = False := by simpa using g1
    by_cases g2 : n ≤ f
    · have hEv : E = 2 := by rw [← hstep.out, if_pos (c := f < 0 ∨ _) (.inr (.inl g2)), if_pos (by decide)]
      subst hEv
      go_wp2_with fail
      go_ret
      exact ⟨rfl, hs3.out.same fs2⟩
    have g2' : (n ≤ f) = False := by simpa using g2
    by_cases g3 : t < 0
    · have hEv : E = 2 := by rw [← hstep.out, if_pos (c := f < 0 ∨ _) (.inr (.inr (.inl g3))), if_pos (by decide)]
      subst hEv
      go_wp2_with fail
      go_ret
      exact ⟨rfl, hs3.out.same fs2⟩
    have g3' : (t < 0) = False := by simpa using g3
    by_cases g4 : n ≤ t
    · have hEv : E = 2 := by rw [← hstep.out, if_pos (c := f < 0 ∨ _) (.inr (.inr (.inr g4))), if_pos (by decide)]
      subst hEv
      go_wp2_with fail
      go_ret
      exact ⟨rfl, hs3.out.same fs2⟩
    have g4' : (n ≤ t) = False := by simpa using g4
    have hstep2 := hstep.out
    rw [if_neg (c := f < 0 ∨ _) (fun h => by rcases h with h | h | h | h; exact g1 h; exact g2 h; exact g3 h; exact g4 h)] at hstep2
    obtain ⟨bm, hbm⟩ : ∃ b, b = decide (e ∈ al) := ⟨_, rfl⟩
    have CT1 := CT.out e
    rw [← hbm] at CT1
    clear g1 g2 g3 g4
    replace hstep2 := gi hstep2; replace CT1 := gi CT1; replace hbm := gi hbm
    go_wp2_with fail
    refine (CT1.out _ hs3.out).mono ?_
    rintro er w3 ⟨rfl, s5⟩
    have hs5 := hs3.out.same s5
    have hs6 := hs4.out.same s5
    clear x0 x1 x2 xl
    clear b0 b1 b3 bl
    replace kb := gi (s5.at kb.out id); replace kx := gi (s5.at kx.out id)
    clear s5
    replace hs5 := gi hs5; replace hs6 := gi hs6
    have b3 := gn kb.out 3
    have bl := gu kb.out
    obtain ⟨x0, x1, x2, xl⟩ := g3l kx.out
    cases bm with
    | false =>
     have hEv : E = 9 := by
      have := hstep2.out
      rw [if_neg (of_decide_eq_false hbm.out.symm)] at this
      simpa using this.symm
     subst hEv
     go_wp2_with fail
     go_ret
     exact ⟨rfl, hs5.out.same fs2⟩
    | true =>
     have hstep3 := hstep2.out
     rw [if_pos (of_decide_eq_true hbm.out.symm), if_neg (by simp)] at hstep3
     by_cases hk0 : k = 0
     · have h0 : ((k : Int) == 0) = true := by simp; omega
       rw [if_neg (c := 0 < k ∧ _) (by omega)] at hstep3
       replace hstep3 := gi hstep3; replace hk0 := gi hk0
       go_wp2_with fail
       go_roundw
       case rel => exact ⟨k + 1, by go_num, by omega, hstep3.out, hs6.out.same fs2⟩
       case measure => simp [intOf]; omega
     · have h0 : ((k : Int) == 0) = false := by simp; omega
       obtain ⟨k', rfl⟩ : ∃ k', k = k' + 1 := ⟨k - 1, by omega⟩
       obtain ⟨y0, y1, y2, yl⟩ := hord.out (by omega) w3 hs5.out
       simp only [Nat.add_sub_cancel] at y0 y1 y2 hstep3
       have hkk2 : ((k' : Int) + 1 - 1) = (k' : Int) := by omega
       have hkk3 : IntKind.i64.wrap (k' : Int) = (k' : Int) := IntWalk.i64_in _ (by omega)
       have hkk4 : (0 : Int) ≤ k' := by omega
       have hkk5 : (k' : Int) < qE := by omega
       replace hk0 := gi hk0
       go_upto_region 10 with fail
       have ky := gv w3 (.cells #[.int .i64 f', .int .i64 e', .int .i64 t'] 57)
       have s7 : qad w3 (w3.alloc (.cells #[.int .i64 f', .int .i64 e', .int .i64 t'] 57)) := fs2
       have hs7 := hs5.out.same s7
       have hs8 := hs6.out.same s7
       clear x0 x1 x2 xl
       clear b3 bl y0 y1 y2 yl
       replace kx := gi (s7.at kx.out id)
       generalize w3.alloc (.cells #[.int .i64 f', .int .i64 e', .int .i64 t'] 57) = W4 at *
       generalize w3.heap.size = bY at *
       clear s7
       replace ky := gi ky; replace hs7 := gi hs7; replace hs8 := gi hs8
       obtain ⟨x0, x1, x2, xl⟩ := g3l kx.out
       obtain ⟨y0, y1, y2, yl⟩ := g3l ky.out
       by_cases c1 : f < f'
       · have hEv : E = 5 := by rw [← hstep3, if_pos ⟨by omega, .inl c1⟩]
         subst hEv
         replace hstep3 := gi hstep3
         go_wp2_with fail
         go_ret
         exact ⟨rfl, hs7.out.same fs2⟩
       have c1' : (f < f') = False := by simpa using c1
       by_cases c2 : f = f'
       · subst c2
         by_cases c3 : e ≤ e'
         · have hEv : E = 5 := by rw [← hstep3, if_pos ⟨by omega, .inr ⟨rfl, c3⟩⟩]
           subst hEv
           replace hstep3 := gi hstep3; replace c1 := gi c1
           go_wp2_with fail
           go_ret
           exact ⟨rfl, hs7.out.same fs2⟩
         · have c3' : (e ≤ e') = False := by simpa using c3
           rw [if_neg (fun h => by rcases h.2 with h | h; exact c1 h; exact c3 h.2)] at hstep3
           replace hstep3 := gi hstep3; replace c1 := gi c1; replace c3 := gi c3
           go_wp2_with fail
           go_roundw
           case rel => exact ⟨k' + 1 + 1, by go_num, by omega, hstep3.out, hs8.out.same fs2⟩
           case measure => simp [intOf]; omega
       · have c2' : (f == f') = false := by simpa using c2
         rw [if_neg (fun h => by rcases h.2 with h | h; exact c1 h; exact c2 h.1)] at hstep3
         replace hstep3 := gi hstep3; replace c1 := gi c1; replace c2 := gi c2
         go_wp2_with fail
         go_roundw
         case rel => exact ⟨k' + 1 + 1, by go_num, by omega, hstep3.out, hs8.out.same fs2⟩
         case measure => simp [intOf]; omega
  · have hkq : k = qE := by omega
    subst hkq
    rw [Nat.sub_self, qct] at hrE
    subst hrE
    replace hs1 := gi hs1; replace hs2 := gi hs2
    go_wp2_with fail
    go_ret
    exact ⟨rfl, hs2.out.same fs2⟩
theorem qgN (A : Au) (w : World) (hA : A.at w) (hz : A.small) : Calls Tryz.prog 51 #[A.v] w fun e w' => e = .returned (.int .i64 (qbC A)) ∧ qad w w' := by
 have ED := fun W (hW : qad w W) => qnr A W (hA.same hW) hz
 have CA := fun W (hW : qad w W) => qkD 32 A.al A.aA A.cA W hz.al (hA.al.same hW)
 have CM := fun W (hW : qad w W) => qkD A.n A.ma A.aM A.cM W hz.ma (hA.ma.same hW)
 unfold qbC
 obtain ⟨al, n, mk, es, aA, cA, aM, cM, aE, cE⟩ := A
 unfold Au.v at ED ⊢
 simp only at ED CA CM ⊢
 generalize qaw 32 al al.length 0 = E1 at *
 generalize qaw n mk mk.length 0 = E2 at *
 generalize qct al n es es.length 0 = E3 at *
 generalize al.length = qA at *
 generalize mk.length = qM at *
 generalize es.length = qE at *
 obtain ⟨E, hE⟩ : ∃ E : Int, E = if E1 ≠ 0 then E1 else if n < 0 then 2 else if 4096 < n then 3 else if E2 ≠ 0 then E2 else E3 := ⟨_, rfl⟩
 rw [← hE]
 clear hA hz
 replace ED := gi ED; replace CA := gi CA; replace CM := gi CM; replace hE := gi hE
 go_enter Tryz.func51, Tryz.ntmps51
 go_upto_region 1 with fail
 have kb := gv w (.cells #[.slice aA qA cA, .int .i64 n, .slice aM qM cM, .slice aE qE cE] 39)
 have hs : qad w (w.alloc (.cells #[.slice aA qA cA, .int .i64 n, .slice aM qM cM, .slice aE qE cE] 39)) := fs2
 generalize w.alloc (.cells #[.slice aA qA cA, .int .i64 n, .slice aM qM cM, .slice aE qE cE] 39) = W0 at *
 replace kb := gi kb; replace hs := gi hs
 have b0 := gn kb.out 0
 have bl := gu kb.out
 go_wp2_with fail
 refine (CA.out _ hs.out).mono ?_
 rintro er w1 ⟨rfl, rfl⟩
 by_cases h1 : E1 = 0
 · subst h1
   have b1 := gn kb.out 1
   by_cases h2 : n < 0
   · obtain rfl : E = 2 := by rw [hE.out, if_neg (by simp), if_pos h2]
     go_wp2_with fail
     go_ret
     exact ⟨rfl, hs.out.same fs2⟩
   have h2' : (n < 0) = False := by simpa using h2
   by_cases h3 : 4096 < n
   · obtain rfl : E = 3 := by rw [hE.out, if_neg (by simp), if_neg h2, if_pos h3]
     go_wp2_with fail
     go_ret
     exact ⟨rfl, hs.out.same fs2⟩
   have h3' : (4096 < n) = False := by simpa using h3
   have b2 := gn kb.out 2
   have hE' : E = if E2 ≠ 0 then E2 else E3 := by rw [hE.out, if_neg (by simp), if_neg h2, if_neg h3]
   replace h2 := gi h2; replace h3 := gi h3; replace hE' := gi hE'
   go_wp2_with fail
   refine (CM.out _ hs.out).mono ?_
   rintro er w1 ⟨rfl, rfl⟩
   by_cases h4 : E2 = 0
   · subst h4
     have hE'' : E = E3 := by rw [hE'.out, if_neg (by simp)]
     subst hE''
     have b3 := gn kb.out 3
     go_wp2_with fail
     refine (ED.out _ hs.out).mono ?_
     rintro er w1 ⟨rfl, s1⟩
     have hs1 := hs.out.same s1
     clear b0 b1 b2 b3 bl
     replace hs1 := gi hs1
     go_wp2_with fail
     go_ret
     exact ⟨rfl, hs1.out.same fs2⟩
   · have hE'' : E = E2 := by rw [hE'.out, if_pos h4]
     subst hE''
     have h4' : (E == 0) = false := by simpa using h4
     replace h4 := gi h4
     go_wp2_with fail
     go_ret
     exact ⟨rfl, hs.out.same fs2⟩
 · have hE'' : E = E1 := by rw [hE.out, if_pos h1]
   subst hE''
   have h1' : (E == 0) = false := by simpa using h1
   replace h1 := gi h1
   go_wp2_with fail
   go_ret
   exact ⟨rfl, hs.out.same fs2⟩
theorem qkE {al : List Int} {n : Int} {es : List Nd} : ∀ (m i : Nat), qct al n es m i = 0 → ∀ j, i ≤ j → j < i + m → qdF al n (es.getD j (0, 0, 0)) = 0
 | 0, i, _, j, h1, h2 => by omega
 | m + 1, i, h, j, h1, h2 => by
  rw [qct] at h
  by_cases c : qdF al n (es.getD i (0, 0, 0)) = 0
  · rw [if_neg (by simpa using c)] at h
    by_cases o : 0 < i ∧ qdT (es.getD (i - 1) (0, 0, 0)) (es.getD i (0, 0, 0))
    · rw [if_pos o] at h; omega
    · rw [if_neg o] at h
      by_cases e : j = i
      · subst e; exact c
      · exact qkE m (i + 1) h j (by omega) (by omega)
  · rw [if_pos (by simpa using c)] at h
    exact absurd h c
theorem egBad_0 {al : List Int} {n : Int} {x : Nd} (h : qdF al n x = 0) : 0 ≤ x.1 ∧ x.1 < n ∧ 0 ≤ x.2.2 ∧ x.2.2 < n ∧ x.2.1 ∈ al := by
 unfold qdF at h
 by_cases c : x.1 < 0 ∨ n ≤ x.1 ∨ x.2.2 < 0 ∨ n ≤ x.2.2
 · rw [if_pos c] at h; omega
 · rw [if_neg c] at h
   by_cases m : x.2.1 ∈ al
   · exact ⟨by omega, by omega, by omega, by omega, m⟩
   · rw [if_neg m] at h; omega
structure qc1 (A : Au) : Prop where
 al : qaw 32 A.al A.al.length 0 = 0
 n0 : 0 ≤ A.n
 n4 : A.n ≤ 4096
 ma : qaw A.n A.ma A.ma.length 0 = 0
 es : qct A.al A.n A.es A.es.length 0 = 0
theorem qc1.of {A : Au} (h : qbC A = 0) : qc1 A := by
 unfold qbC at h
 by_cases c1 : qaw 32 A.al A.al.length 0 = 0
 · rw [if_neg (by simpa using c1)] at h
   by_cases c2 : A.n < 0
   · rw [if_pos c2] at h; omega
   · rw [if_neg c2] at h
     by_cases c3 : 4096 < A.n
     · rw [if_pos c3] at h; omega
     · rw [if_neg c3] at h
       by_cases c4 : qaw A.n A.ma A.ma.length 0 = 0
       · rw [if_neg (by simpa using c4)] at h
         exact ⟨c1, by omega, by omega, c4, h⟩
       · rw [if_pos (by simpa using c4)] at h
         exact absurd h c4
 · rw [if_pos (by simpa using c1)] at h
   exact absurd h c1
theorem qc1.err {A : Au} (h : qc1 A) : qbC A = 0 := by
 unfold qbC
 rw [if_neg (by simpa using h.al), if_neg (by have := h.n0; omega), if_neg (by have := h.n4; omega), if_neg (by simpa using h.ma), h.es]
theorem qc1.edge {A : Au} (h : qc1 A) {x : Nd} (hx : x ∈ A.es) : 0 ≤ x.1 ∧ x.1 < A.n ∧ 0 ≤ x.2.2 ∧ x.2.2 < A.n ∧ x.2.1 ∈ A.al := by
 obtain ⟨j, hj, rfl⟩ := List.mem_iff_getElem.1 hx
 have := qkE _ _ h.es j (by omega) (by omega)
 rw [qcC hj] at this
 exact egBad_0 this
def evP (es : List Nd) (ev : List Int) : List (Nat × Nat) := (es.filter fun x => decide (x.2.1 ∈ ev)).map fun x => (x.1.toNat, x.2.2.toNat)
theorem evP_yes {es : List Nd} {ev : List Int} {k : Nat} (h : k < es.length) (hm : es[k].2.1 ∈ ev) : evP (es.take (k + 1)) ev = evP (es.take k) ev ++ [(es[k].1.toNat, es[k].2.2.toNat)] := by
 unfold evP
 rw [List.take_add_one, List.getElem?_eq_getElem h, List.filter_append, List.map_append]
 simp [List.filter_cons, hm]
theorem evP_no {es : List Nd} {ev : List Int} {k : Nat} (h : k < es.length) (hm : ¬ es[k].2.1 ∈ ev) : evP (es.take (k + 1)) ev = evP (es.take k) ev := by
 unfold evP
 rw [List.take_add_one, List.getElem?_eq_getElem h, List.filter_append, List.map_append]
 simp [List.filter_cons, hm]
theorem evP_len (es : List Nd) (ev : List Int) (k : Nat) : (evP (es.take k) ev).length ≤ k := by
 unfold evP
 rw [List.length_map]
 refine Nat.le_trans (List.length_filter_le _ _) ?_
 rw [List.length_take]; omega
theorem evP_all (es : List Nd) (ev : List Int) (k : Nat) (h : es.length = k) : evP (es.take k) ev = evP es ev := by rw [List.take_of_length_le (by omega)]
theorem qqm {A : Au} (h : qc1 A) (ev : List Int) : ∀ p ∈ evP A.es ev, p.1 < A.n.toNat ∧ p.2 < A.n.toNat := fun p hp => by
 obtain ⟨x, hx, rfl⟩ := List.mem_map.1 hp
 have := h.edge ((List.mem_filter.1 hx).1)
 simp only
 omega
def qfY (A : Au) (ev : List Int) : Int := if qbC A ≠ 0 then qbC A else qaw 32 ev ev.length 0
theorem qpi (A : Au) (w : World) (hA : A.at w) (hz : A.small) (hn : A.n ≤ 64) (ev : List Int) (aV : Option Addr) (qV cV : Nat) (hqV : ev.length = qV) (hV : qan w (.slice aV qV cV) qV (gw ev)) (hq9 : qV ≤ 1000) :
 Calls Tryz.prog 119 #[A.v, .slice aV qV cV] w (DgE (qfY A ev) (2 * qa1 A.n.toNat) (qiX (qa1 A.n.toNat) (evP A.es ev)) w) := by
 have CK := fun W (hW : qad w W) => qgN A W (hA.same hW) hz
 have CS := fun W (hW : qad w W) => qdh 32 ev aV cV W (by omega) (by rw [hqV]; exact hV.same hW)
 have CT := fun (x : Int) W (hW : qad w W) => qeo ev x aV qV cV W hqV (hV.same hW) (by omega)
 have ND := fun (k : Nat) (hk : k < A.es.length) W (hW : qad w W) => (hA.es.same hW).node hk
 have hlen := evP_len A.es ev
 have hyes := fun k h => evP_yes (es := A.es) (ev := ev) (k := k) h
 have hno := fun k h => evP_no (es := A.es) (ev := ev) (k := k) h
 have hall := evP_all A.es ev A.es.length rfl
 have hED := fun (ho : qbC A = 0) (k : Nat) (hk : k < A.es.length) => (qc1.of ho).edge (List.getElem_mem hk)
 have FP := fun (ho : qbC A = 0) a cap W (h : qaa W 103 2 (.slice a (evP A.es ev).length cap) (evP A.es ev).length (prC (evP A.es ev))) => by
  have := qen (n := A.n.toNat) (by omega) (evP A.es ev) a _ cap W rfl (by have := hlen A.es.length; rw [hall] at this; have := hz.es; omega) (qqm (qc1.of ho) ev) h
  rw [show ((A.n.toNat : Nat) : Int) = A.n by have := (qc1.of ho).n0; omega] at this
  exact this
 generalize qiX (qa1 A.n.toNat) (evP A.es ev) = R at *
 generalize 2 * qa1 A.n.toNat = m at *
 have hzE := hz.es
 obtain ⟨E, hE⟩ : ∃ E, E = qfY A ev := ⟨_, rfl⟩
 rw [← hE]
 unfold qfY at hE
 generalize qbC A = E1 at *
 rw [hqV] at CS hE
 generalize qaw 32 ev qV 0 = E2 at *
 obtain ⟨al, n, mk, es, aA, cA, aM, cM, aE, cE⟩ := A
 unfold Au.v at CK ⊢
 simp only at CK ND hn hzE hlen hyes hno hall hED FP ⊢
 generalize al.length = qA at *
 generalize mk.length = qM at *
 obtain ⟨qE, hqE⟩ : ∃ q, q = es.length := ⟨_, rfl⟩
 have hL : es.length = qE := hqE.symm
 rw [← hqE] at hzE hall CK ⊢
 obtain ⟨i3, hi3, hi3z, hi3s, hi3b⟩ := info_parts infoP
 clear hqE hA hz
 replace CK := gi CK; replace CS := gi CS; replace CT := gi CT; replace ND := gi ND; replace FP := gi FP; replace hE := gi hE; replace hL := gi hL; replace hlen := gi hlen; replace hyes := gi hyes; replace hno := gi hno; replace hall := gi hall; replace hED := gi hED
 go_enter Tryz.func119, Tryz.ntmps119
 go_upto_region 1 with fail
 have ka := qab (gv w (.cells #[.slice aA qA cA, .int .i64 n, .slice aM qM cM, .slice aE qE cE] 39)) (.cells #[.int .i64 0, .slice none 0 0, .int .i64 0] 46)
 have kr := gv (w.alloc (.cells #[.slice aA qA cA, .int .i64 n, .slice aM qM cM, .slice aE qE cE] 39)) (.cells #[.int .i64 0, .slice none 0 0, .int .i64 0] 46)
 have hs : qad w ((w.alloc (.cells #[.slice aA qA cA, .int .i64 n, .slice aM qM cM, .slice aE qE cE] 39)).alloc (.cells #[.int .i64 0, .slice none 0 0, .int .i64 0] 46)) := fs2
 have hz1 : (w.alloc (.cells #[.slice aA qA cA, .int .i64 n, .slice aM qM cM, .slice aE qE cE] 39)).heap.size = w.heap.size + 1 := by simp
 rw [hz1] at kr
 generalize (w.alloc (.cells #[.slice aA qA cA, .int .i64 n, .slice aM qM cM, .slice aE qE cE] 39)).alloc (.cells #[.int .i64 0, .slice none 0 0, .int .i64 0] 46) = W0 at *
 clear hz1
 replace ka := gi ka; replace kr := gi kr; replace hs := gi hs
 obtain ⟨x0, x1, x2, x3, xl⟩ := g4l ka.out
 go_wp2_with fail
 refine (CK.out _ hs.out).mono ?_
 rintro e w1 ⟨rfl, s1⟩
 clear x0 x1 x2 x3 xl
 replace ka := gi (s1.at ka.out id); replace kr := gi (s1.at kr.out id)
 have hs1 := hs.out.same s1
 clear s1 hs
 replace hs1 := gi hs1
 by_cases h1 : E1 = 0
 case neg =>
  have h1' : (E1 == 0) = false := by simpa using h1
  obtain rfl : E = E1 := by rw [hE.out, if_pos h1]
  replace h1 := gi h1
  obtain ⟨x0, x1, x2, z0, z1, z2, xl⟩ := qar kr.out
  go_wp2_with fail
  obtain ⟨d0, d1, d2, hsF⟩ := qdi hs1.out (by omega) kr.out
  refine bodyPost_ret (v := .tuple #[.agg #[.int .i64 0, .slice none 0 0, .int .i64 0], .int .i64 (E)]) (by simp [results, Tryz.results119, go_sem, d0, d1, d2]) rfl ?_
  exact .inl ⟨h1.out, rfl, hsF⟩
 subst h1
 have FP' := FP.out rfl
 have hED' := hED.out rfl
 have hE2 : E = E2 := by rw [hE.out, if_neg (by simp)]
 clear FP hED hE
 subst hE2
 replace FP' := gi FP'; replace hED' := gi hED'
 go_wp2_with fail
 refine (CS.out _ hs1.out).mono ?_
 rintro e w2 ⟨rfl, rfl⟩
 by_cases h2 : E = 0
 case neg =>
  have h2' : (E == 0) = false := by simpa using h2
  replace h2 := gi h2
  obtain ⟨x0, x1, x2, z0, z1, z2, xl⟩ := qar kr.out
  go_wp2_with fail
  obtain ⟨d0, d1, d2, hsF⟩ := qdi hs1.out (by omega) kr.out
  refine bodyPost_ret (v := .tuple #[.agg #[.int .i64 0, .slice none 0 0, .int .i64 0], .int .i64 (E)]) (by simp [results, Tryz.results119, go_sem, d0, d1, d2]) rfl ?_
  exact .inl ⟨h2.out, rfl, hsF⟩
 subst h2
 have x3 := gn ka.out 3
 have xl := gu ka.out
 have hw1 := hs1.out.size
 go_wp2_with fail
 clear x3
 go_loopw [8, 26] (fun v i wr => ∃ (k q c : Nat) (a : Option Addr), i = .int .i64 k ∧ k ≤ qE ∧ q = (evP (es.take k) ev).length ∧ v = .slice a q c ∧ wr.ownsRow w1.heap.size 103 2 (.slice a q c) q (prC (evP (es.take k) ev)) ∧ qad w1 wr) (fun _ i _ => qE - (intOf i).toNat)
 case atStart => exact ⟨0, 0, 0, none, rfl, by omega, rfl, rfl, World.ownsRow_nil _ _ _ _, Fr.refl _ _⟩
 case round =>
  obtain ⟨k, q, c, a, rfl, hk, hq, rfl, ho, hs2⟩ := hrel
  have hws := hs2.size
  have hs3 := hs1.out.same hs2
  have hql := hlen.out k
  rw [← hq] at hql
  replace kr := gi (hs2.at kr.out id)
  replace ka := gi (hs2.at ka.out id)
  by_cases hlt : k < qE
  · have hkl : k < es.length := by rw [hL.out]; exact hlt
    obtain ⟨bb, off, rfl, hbl, z0, z1, z2⟩ := ND.out k hkl wr hs3
    have hbd := hED'.out k hkl
    have hyes' := hyes.out k hkl
    have hno' := hno.out k hkl
    generalize es[k]'hkl = x at *
    obtain ⟨f, e, t⟩ := x
    simp only at z0 z1 z2 hbd hyes' hno'
    generalize evP (es.take k) ev = O at *
    replace hs2 := gi hs2; replace hs3 := gi hs3; replace hq := gi hq; replace hyes' := gi hyes'; replace hno' := gi hno'; replace ho := gi ho
    go_upto_region 11 with fail
    have kx := gv wr (.cells #[.int .i64 f, .int .i64 e, .int .i64 t] 57)
    have s2 : qad wr (wr.alloc (.cells #[.int .i64 f, .int .i64 e, .int .i64 t] 57)) := fs2
    have hs4 := hs2.out.same s2
    have hs5 := hs3.out.same s2
    replace kr := gi (s2.at kr.out id)
    replace ka := gi (s2.at ka.out id)
    replace ho := gi (qag ho.out s2)
    clear s2 z0 z1 z2 hbl
    generalize wr.alloc (.cells #[.int .i64 f, .int .i64 e, .int .i64 t] 57) = W2 at *
    generalize wr.heap.size = bx at *
    replace kx := gi kx; replace hs4 := gi hs4; replace hs5 := gi hs5
    obtain ⟨x0, x1, x2, xl⟩ := g3l kx.out
    have CT1 := CT.out e
    obtain ⟨bm, hbm⟩ : ∃ b, b = decide (e ∈ ev) := ⟨_, rfl⟩
    rw [← hbm] at CT1
    replace CT1 := gi CT1; replace hbm := gi hbm
    go_wp2_with fail
    refine (CT1.out _ hs5.out).mono ?_
    rintro er w3 ⟨rfl, s5⟩
    have hs6 := hs4.out.same s5
    clear x0 x1 x2 xl
    replace kx := gi (s5.at kx.out id); replace kr := gi (s5.at kr.out id); replace ka := gi (s5.at ka.out id)
    replace ho := gi (qag ho.out s5)
    clear s5
    replace hs6 := gi hs6
    have hz3 := hs6.out.size
    cases bm with
    | false =>
     have hst := hno'.out (of_decide_eq_false hbm.out.symm)
     replace hst := gi hst
     go_wp2_with fail
     go_roundw
     case rel => exact ⟨k + 1, q, c, a, by go_num, by omega, by rw [hst.out]; exact hq.out, rfl, by rw [hst.out]; exact qag ho.out fs2, hs6.out.same fs2⟩
     case measure => simp [intOf]; omega
    | true =>
     have hst := hyes'.out (of_decide_eq_true hbm.out.symm)
     have ef : f = ((f.toNat : Nat) : Int) := by omega
     have et : t = ((t.toNat : Nat) : Int) := by omega
     generalize f.toNat = u at *
     generalize t.toNat = v at *
     subst ef et
     have hpc : prC (O ++ [(u, v)]) = prC O ++ [.int .i64 (u : Nat), .int .i64 (v : Nat)] := by rw [qeM]; rfl
     replace hst := gi hst; replace hbd := gi hbd; replace hpc := gi hpc
     obtain ⟨x0, x1, x2, xl⟩ := g3l kx.out
     go_wp2_with (at_builtin; refine qai rfl (.tmp 34) (.tmp 40) 188 rfl w1.heap.size 103 i3 (.agg #[.int .i64 0, .int .i64 0]) 2 16 Tryz.underlying188 hi3 hi3z hi3s hi3b rfl (by decide) (by decide) a q c (prC O) rfl (qag ho.out fs2) (by omega) w3.heap.size [.int .i64 (u : Nat), .int .i64 (v : Nat)] rfl rfl (gv _ _) (by simp [Value.oneCell']) (by simp; omega) ?_; intro a5 c5 w5 ho5 hG5)
     have hs7 : qad w1 w5 := qas (hs6.out.same fs2) hG5 (fun k hk => (ho.out.lt k hk).1)
     have ho5' : w5.ownsRow w1.heap.size 103 2 (.slice a5 (q + 1) c5) (q + 1) (prC (O ++ [(u, v)])) := by rw [hpc.out]; exact ho5
     have hq5 : q + 1 = (O ++ [(u, v)]).length := by have := hq.out; simp; omega
     clear ho5 hG5
     go_roundw
     case rel => exact ⟨k + 1, q + 1, c5, a5, by go_num, by omega, by rw [hst.out]; exact hq5, rfl, by rw [hst.out]; exact ho5', hs7⟩
     case measure => simp [intOf]; omega
  · obtain rfl : k = qE := by omega
    rw [hall.out] at hq ho
    subst hq
    have hR := qaa.of_owns ho
    have x1 := gn ka.out 1
    have yl := gu ka.out
    replace ho := gi ho; replace hs2 := gi hs2; replace hs3 := gi hs3; replace hR := gi hR
    go_wp2_with fail
    refine (FP'.out _ _ _ hR.out).mono ?_
    rintro e w5 ⟨d, rfl, hd, ht, hF⟩
    have kr5 := hF.at kr.out id
    have hs5 := hs3.out.same hF
    replace hd := gi hd; replace ht := gi ht; replace kr5 := gi kr5; replace hs5 := gi hs5
    clear hF x1 yl
    obtain ⟨x0, x1, x2, z0, z1, z2, xl⟩ := qar kr5.out
    go_wp2_with fail
    obtain ⟨d0, d1, d2, hdF, hsF⟩ := qaI hs5.out (by omega) hd.out kr5.out
    refine bodyPost_ret (v := .tuple #[.agg #[.int .i64 d.n, .slice d.a d.L.length d.cap, .int .i64 d.r], .int .i64 0]) (by simp [results, Tryz.results119, go_sem, d0, d1, d2]) rfl ?_
    exact .inr ⟨rfl, d, rfl, hdF, ht.out, hsF⟩
def qa4 : List Au → List Value
 | [] => []
 | A :: l => .slice A.aA A.al.length A.cA :: .int .i64 A.n :: .slice A.aM A.ma.length A.cM :: .slice A.aE A.es.length A.cE :: qa4 l
theorem qfZ : ∀ l : List Au, (qa4 l).length = l.length * 4
 | [] => rfl
 | A :: l => by rw [qa4]; simp only [List.length_cons, qfZ l]; omega
theorem qdH : ∀ l k : List Au, qa4 (l ++ k) = qa4 l ++ qa4 k
 | [], _ => rfl
 | A :: l, k => by rw [List.cons_append, qa4, qa4, qdH l k]; rfl
theorem qf0 : ∀ (l : List Au) (k : Nat) (hk : k < l.length), (qa4 l)[k * 4]? = some (.slice l[k].aA l[k].al.length l[k].cA) ∧ (qa4 l)[k * 4 + 1]? = some (.int .i64 l[k].n) ∧ (qa4 l)[k * 4 + 2]? = some (.slice l[k].aM l[k].ma.length l[k].cM) ∧ (qa4 l)[k * 4 + 3]? = some (.slice l[k].aE l[k].es.length l[k].cE)
 | A :: l, 0, _ => ⟨rfl, rfl, rfl, rfl⟩
 | A :: l, k + 1, hk => by
  have := qf0 l k (by simpa using hk)
  have e : ∀ c, (k + 1) * 4 + c = (k * 4 + c) + 4 := fun c => by omega
  have e0 : (k + 1) * 4 = k * 4 + 4 := by omega
  simp only [qa4, e0, e, List.getElem_cons_succ]
  simpa [Nat.add_right_comm] using this
structure qdm (w : World) (a : Option Addr) (cap : Nat) (l : List Au) : Prop where
 le : l.length ≤ cap
 mx : cap ≤ maxLen
 nil : a = none → cap = 0
 cells : 0 < l.length → ∃ b off, a = some ⟨b, off, none⟩ ∧ b < w.heap.size ∧ ∀ j u, (qa4 l)[j]? = some u → w.cell? ⟨b, off + j, none⟩ = some u
 each : ∀ A ∈ l, A.at w
theorem qdm.same {w w' : World} {a : Option Addr} {cap : Nat} {l : List Au} (h : qdm w a cap l) (hs : qad w w') : qdm w' a cap l :=
 ⟨h.le, h.mx, h.nil, fun h0 => by
  obtain ⟨b, off, h1, h2, h3⟩ := h.cells h0
  exact ⟨b, off, h1, Nat.lt_of_lt_of_le h2 hs.size, fun j u hj => by
   have := h3 j u hj
   unfold World.cell? at this ⊢
   rw [hs.block b h2 id]
   exact this⟩, fun A hA => (h.each A hA).same hs⟩
theorem qdm.row {w : World} {a : Option Addr} {cap : Nat} {l : List Au} (h : qdm w a cap l) {k : Nat} (hk : k < l.length) :
 ∃ b off, a = some ⟨b, off, none⟩ ∧ b < w.heap.size ∧ w.cell? ⟨b, off + k * 4, none⟩ = some (.slice l[k].aA l[k].al.length l[k].cA) ∧ w.cell? ⟨b, off + k * 4 + 1, none⟩ = some (.int .i64 l[k].n) ∧
  w.cell? ⟨b, off + k * 4 + 2, none⟩ = some (.slice l[k].aM l[k].ma.length l[k].cM) ∧ w.cell? ⟨b, off + k * 4 + 3, none⟩ = some (.slice l[k].aE l[k].es.length l[k].cE) := by
 obtain ⟨b, off, h1, h2, h3⟩ := h.cells (by omega)
 obtain ⟨c0, c1, c2, c3⟩ := qf0 l k hk
 exact ⟨b, off, h1, h2, h3 _ _ c0, h3 _ _ c1, h3 _ _ c2, h3 _ _ c3⟩
structure Nw where
 As : List Au
 o : List Int
 aA : Option Addr
 cA : Nat
 aO : Option Addr
 cO : Nat
def Nw.v (N : Nw) : Value := .agg #[.slice N.aA N.As.length N.cA, .slice N.aO N.o.length N.cO]
structure Nw.at (N : Nw) (w : World) : Prop where
 au : qdm w N.aA N.cA N.As
 o : qan w (.slice N.aO N.o.length N.cO) N.o.length (gw N.o)
theorem Nw.at.same {N : Nw} {w w' : World} (h : N.at w) (hs : qad w w') : N.at w' := ⟨h.au.same hs, h.o.same hs⟩
def qbP : List Au → Int
 | [] => 0
 | A :: l => if qbC A ≠ 0 then qbC A else qbP l
def qbx (l : List Au) : Int := if 12 < l.length then 3 else qbP l
theorem qip (l : List Au) (k : Nat) (hk : k < l.length) : qbP (l.drop k) = if qbC l[k] ≠ 0 then qbC l[k] else qbP (l.drop (k + 1)) := by
 rw [List.drop_eq_getElem_cons hk, qbP]
theorem qe6 : ∀ {l : List Au}, qbP l = 0 → ∀ A ∈ l, qc1 A
 | [], _, A, hA => by simp at hA
 | B :: l, h, A, hA => by
  rw [qbP] at h
  by_cases hB : qbC B = 0
  · rw [if_neg (by simpa using hB)] at h
    rcases List.mem_cons.1 hA with rfl | hA
    · exact qc1.of hB
    · exact qe6 h A hA
  · rw [if_pos hB] at h
    exact absurd h hB
def Nw.ns (N : Nw) : List Nat := N.As.map fun A => A.n.toNat
def Nw.bs (N : Nw) (i : Nat) : Nat := qa1 (N.ns.getD i 0)
def Nw.on (N : Nw) : List Nat := N.o.map Int.toNat
def Nw.at' (N : Nw) (i : Nat) : Nat := atB N.bs N.on i
def Nw.all (N : Nw) : Nat := qcd N.bs N.on
def Nw.emp (N : Nw) : Bool := N.ns.any fun n => n == 0
def Nw.err (N : Nw) : Int := if qbx N.As ≠ 0 then qbx N.As else if qcY N.As.length N.o ≠ 0 then qcY N.As.length N.o else if 20 < N.all then 3 else 0
structure qbs (N : Nw) : Prop where
 au : ∀ A ∈ N.As, qc1 A
 m12 : N.As.length ≤ 12
 pm : IsPm N.on N.As.length
 o : N.o = qaz N.on
theorem Nw.ns_len (N : Nw) : N.ns.length = N.As.length := by simp [Nw.ns]
theorem Nw.ns_get (N : Nw) {i : Nat} (h : i < N.As.length) : N.ns.getD i 0 = N.As[i].n.toNat := by simp [Nw.ns, List.getD, h]
theorem qfk : ∀ {m : Nat} {l : List Nat}, l.Nodup → (∀ x ∈ l, x < m) → l.length ≤ m
 | 0, [], _, _ => Nat.le_refl _
 | 0, x :: l, _, h => absurd (h x List.mem_cons_self) (by omega)
 | m + 1, l, hn, h => by
  by_cases hm : m ∈ l
  · have h1 := qfk (m := m) (hn.erase m) (fun x hx => by
      have h2 := h x (List.mem_of_mem_erase hx)
      have : x ≠ m := ((List.Nodup.mem_erase_iff hn).1 hx).1
      omega)
    rw [List.length_erase_of_mem hm] at h1
    omega
  · have := qfk (m := m) hn (fun x hx => by
      have := h x hx
      have : x ≠ m := fun e => hm (e ▸ hx)
      omega)
    omega
theorem qep {α : Type} [BEq α] [LawfulBEq α] : ∀ {l k : List α}, l.Nodup → (∀ x ∈ l, x ∈ k) → l.length ≤ k.length
 | [], _, _, _ => Nat.zero_le _
 | x :: l, k, hn, h => by
  have hnd := List.nodup_cons.1 hn
  have hx := h x List.mem_cons_self
  have := qep (l := l) (k := k.erase x) hnd.2 (fun y hy => (List.mem_erase_of_ne (fun e => hnd.1 (by rw [← e]; exact hy))).2 (h y (List.mem_cons_of_mem _ hy)))
  rw [List.length_erase_of_mem hx] at this
  have := List.length_pos_of_mem hx
  simp only [List.length_cons]
  omega
theorem qns {m : Nat} {l : List Nat} (hn : l.Nodup) (hl : l.length = m) (hlt : ∀ x ∈ l, x < m) : ∀ i, i < m → i ∈ l := by
 intro i hi
 by_cases h : i ∈ l
 · exact h
 · exfalso
   have h2 := qfk (m := m) (l := i :: l) (List.nodup_cons.2 ⟨h, hn⟩) (fun x hx => by
    rcases List.mem_cons.1 hx with rfl | hx
    · exact hi
    · exact hlt x hx)
   simp at h2
   omega
theorem qbs.of {N : Nw} (h1 : qbx N.As = 0) (h2 : qcY N.As.length N.o = 0) : qbs N := by
 unfold qbx at h1
 have h12 : ¬ 12 < N.As.length := fun h => by rw [if_pos h] at h1; omega
 rw [if_neg h12] at h1
 unfold qcY at h2
 rw [if_neg (by omega)] at h2
 by_cases hl : (N.o.length : Int) ≠ N.As.length
 · rw [if_pos hl] at h2; omega
 rw [if_neg hl] at h2
 obtain ⟨d1, d2, _⟩ := (qfC N.o []).1 h2
 have hinj : ∀ x ∈ N.o, ∀ y ∈ N.o, x.toNat = y.toNat → x = y := fun x hx y hy e => by
  have := d1 x hx; have := d1 y hy; omega
 have hnd : N.on.Nodup := by
  unfold Nw.on
  rw [List.nodup_iff_pairwise_ne, List.pairwise_map]
  refine List.Pairwise.imp_of_mem (fun {a b} ha hb hab e => hab (hinj a ha b hb e)) (List.nodup_iff_pairwise_ne.1 d2)
 have hlt : ∀ x ∈ N.on, x < N.As.length := fun x hx => by
  obtain ⟨y, hy, rfl⟩ := List.mem_map.1 hx
  have := d1 y hy; omega
 refine ⟨qe6 h1, by omega, ⟨hnd, fun i => ⟨hlt i, qns hnd ?_ hlt i⟩⟩, ?_⟩
 · unfold Nw.on; rw [List.length_map]; omega
 · unfold qaz Nw.on
   rw [List.map_map]
   conv => lhs; rw [← List.map_id N.o]
   refine List.map_congr_left (fun x hx => ?_)
   have := d1 x hx
   simp only [Function.comp, id]
   omega
theorem qbs.le {N : Nw} (h : qbs N) {i : Nat} (hi : i < N.As.length) : N.at' i + N.bs i ≤ N.all := qqi N.bs ((h.pm.mem i).2 hi)
theorem qbs.n4 {N : Nw} (h : qbs N) {i : Nat} (hi : i < N.As.length) : N.ns.getD i 0 ≤ 4096 ∧ N.As[i].n = ((N.ns.getD i 0 : Nat) : Int) := by
 have h1 := h.au _ (List.getElem_mem hi)
 have := h1.n0
 have := h1.n4
 rw [N.ns_get hi]
 omega
theorem qbs.bits {N : Nw} (h : qbs N) {i : Nat} (hi : i < N.As.length) : N.ns.getD i 0 ≤ 2 ^ N.bs i := (qcz (h.n4 hi).1).le
theorem Nw.bs_out (N : Nw) {i : Nat} (hi : N.As.length ≤ i) : N.bs i = 0 := by
 have e : N.ns.getD i 0 = 0 := by simp [List.getD, Nw.ns, hi]
 unfold Nw.bs
 rw [e]
 rfl
def Nw.set (N : Nw) (F : List Nat → Bool) : List Bool := qfa N.bs N.at' N.As.length N.all F
def Nw.rel (N : Nw) (F : List Nat → List Nat → Bool) : List Bool := qgq N.bs N.at' N.As.length N.all F
def auP (A : Au) (e : Int) : List (Nat × Nat) := if e ∈ A.al then evP A.es [e] else idL A.n.toNat
def qdG (As : List Au) (e : Int) (k : Nat) (x y : List Nat) : Bool := (List.range k).all fun i => match As[i]? with | some A => decide ((x.getD i 0, y.getD i 0) ∈ auP A e) | none => true
def qcu (As : List Au) (e : Int) (x y : List Nat) : Bool := (!(As.any fun A => A.n.toNat == 0)) && (As.any fun A => decide (e ∈ A.al)) && qdG As e As.length x y
def qau (As : List Au) (E : List Int) (x y : List Nat) : Bool := E.any fun e => qcu As e x y
def Nw.chosen (N : Nw) (S : Nat → List Nat) (x : List Nat) : Bool := !N.emp && (List.range N.As.length).all fun i => decide (x.getD i 0 ∈ S i)
theorem qdU (l : List Au) (a : Option Addr) (cap : Nat) (w : World) (h : qdm w a cap l) (hz : ∀ A ∈ l, A.small) (hl : l.length ≤ 1000) :
 Calls Tryz.prog 24 #[.slice a l.length cap] w fun e w' => e = .returned (.int .i64 (qbx l)) ∧ qad w w' := by
 have CK := fun (k : Nat) (hk : k < l.length) W (hW : qad w W) => qgN l[k] W ((h.each _ (List.getElem_mem hk)).same hW) (hz _ (List.getElem_mem hk))
 have hrow := fun (k : Nat) (hk : k < l.length) W (hW : qad w W) => (h.same hW).row hk
 have hfd := fun (k : Nat) (hk : k < l.length) => qip l k hk
 obtain ⟨R, hR⟩ : ∃ R, R = qbx l := ⟨_, rfl⟩
 rw [← hR]
 have hend : ∀ k, l.length ≤ k → qbP (l.drop k) = 0 := fun k hk => by rw [List.drop_eq_nil_of_le (by omega)]; rfl
 unfold Au.v at CK
 clear h hz
 replace CK := gi CK; replace hrow := gi hrow; replace hfd := gi hfd; replace hR := gi hR; replace hend := gi hend
 go_enter Tryz.func24, Tryz.ntmps24
 by_cases h12 : 12 < l.length
 · have hf : R = 3 := by rw [hR.out, qbx, if_pos h12]
   subst hf
   clear hR
   go_wp2_with fail
   go_ret
   exact ⟨rfl, fs2⟩
 have hf : R = qbP l := by rw [hR.out, qbx, if_neg h12]
 clear hR
 replace hf := gi hf
 go_wp2_with fail
 go_loopw [11] (fun i wr => ∃ k : Nat, k ≤ l.length ∧ i = .int .i64 k ∧ qbP l = qbP (l.drop k) ∧ qad w wr) (fun i _ => l.length - (intOf i).toNat)
 case atStart => exact ⟨0, by omega, rfl, rfl, Fr.refl _ _⟩
 case round =>
  obtain ⟨k, hk, rfl, hd, hs⟩ := hrel
  by_cases hlt : k < l.length
  · obtain ⟨b, off, ha, hb, x0, x1, x2, x3⟩ := hrow.out k hlt _ hs
    have CKk := CK.out k hlt _ (hs.alloc (.cells #[.slice (l[k]'hlt).aA (l[k]'hlt).al.length (l[k]'hlt).cA, .int .i64 (l[k]'hlt).n, .slice (l[k]'hlt).aM (l[k]'hlt).ma.length (l[k]'hlt).cM, .slice (l[k]'hlt).aE (l[k]'hlt).es.length (l[k]'hlt).cE] 39))
    have hdk := hfd.out k hlt
    rw [← hd] at hdk
    generalize (l[k]'hlt) = A at *
    subst ha
    replace hs := gi hs; replace hd := gi hd; replace CKk := gi CKk; replace hdk := gi hdk
    go_wp2_with fail
    refine CKk.out.mono ?_
    rintro e w1 ⟨rfl, s1⟩
    obtain ⟨E, hE⟩ : ∃ E, E = qbC A := ⟨_, rfl⟩
    rw [← hE]
    have hs1 : qad w w1 := (show qad w _ from hs.out.same fs2).same s1
    clear s1 CKk x0 x1 x2 x3
    replace hE := gi hE; replace hs1 := gi hs1
    by_cases h0 : E = 0
    · subst h0
      go_wp2_with fail
      go_roundw
      case rel => exact ⟨k + 1, by omega, by go_num, by rw [hdk.out, if_neg (by rw [← hE.out]; simp)], hs1.out⟩
      case measure => simp [intOf]; omega
    · have hb : (E != 0) = true := by simpa using h0
      replace h0 := gi h0
      go_wp2_with fail
      go_ret
      refine ⟨?_, hs1.out⟩
      rw [hf.out, hdk.out, if_pos (by rw [← hE.out]; exact h0.out), ← hE.out]
      rfl
  · have hz : R = 0 := by rw [hf.out, hd, hend.out k (by omega)]
    subst hz
    replace hs := gi hs; replace hd := gi hd
    go_wp2_with fail
    go_ret
    exact ⟨rfl, hs.out⟩
theorem qan.bool3 {w : World} {a : Option Addr} {q cap : Nat} {l : List Bool} (h : qan w (.slice a q cap) q (gz l)) {k : Nat} (hk : k < l.length) (hq : l.length = q) :
 ∃ b off, a = some ⟨b, off, none⟩ ∧ b < w.heap.size ∧ w.cell? ⟨b, off + k, none⟩ = some (.bool l[k]) := by
 obtain ⟨b, off, h1, h2, h3⟩ := h.cell (by omega)
 exact ⟨b, off, h1, h2, h3 _ _ (qcM l k hk)⟩
theorem qgQ (l l' : List Int) (a a' : Option Addr) (q q' cap cap' : Nat) (w : World) (hq : l.length = q) (hq' : l'.length = q') (h : qan w (.slice a q cap) q (gw l)) (h' : qan w (.slice a' q' cap') q' (gw l')) (hl : q ≤ 100000) :
 Calls Tryz.prog 13 #[.slice a q cap, .slice a' q' cap'] w fun e w' => e = .returned (.bool (decide (l = l'))) ∧ qad w w' := by
 obtain ⟨R, hR⟩ : ∃ R : Bool, R = decide (l = l') := ⟨_, rfl⟩
 rw [← hR]
 by_cases hlen : q = q'
 · subst hlen
   have hL : l.length = q := hq
   have hL' : l'.length = q := hq'
   clear hq hq'
   replace hL := gi hL; replace hL' := gi hL'; replace hR := gi hR; replace h := gi h; replace h' := gi h'
   go_enter Tryz.func13, Tryz.ntmps13
   go_wp2_with fail
   go_loopw [5, 13] (fun _ i wr => ∃ k : Nat, i = .int .i64 k ∧ k ≤ q ∧ (∀ (j : Nat), j < k → l[j]? = l'[j]?) ∧ qad w wr) (fun _ i _ => q - (intOf i).toNat)
   case atStart => exact ⟨0, rfl, by omega, fun _ h => by omega, Fr.refl _ _⟩
   case round =>
    obtain ⟨k, rfl, hk, hf, hs⟩ := hrel
    by_cases hlt : k < q
    · have hkl : k < l.length := by rw [hL.out]; exact hlt
      have hkl' : k < l'.length := by rw [hL'.out]; exact hlt
      obtain ⟨bb, off, rfl, hbl, z0⟩ := (h.out.same hs).int (by rw [hL.out]) hlt
      obtain ⟨bb', off', rfl, hbl', z0'⟩ := (h'.out.same hs).int (by rw [hL'.out]) hlt
      have hx : l[k]? = some l[k] := List.getElem?_eq_getElem hkl
      have hx' : l'[k]? = some l'[k] := List.getElem?_eq_getElem hkl'
      generalize l[k] = x at *
      generalize l'[k] = y at *
      clear hkl hkl'
      by_cases he : x = y
      · have hpe : (x == y) = true := by simpa using he
        replace hf := gi hf; replace hs := gi hs; replace hx := gi hx; replace hx' := gi hx'; replace he := gi he
        go_upto_region 6 with fail
        refine qac (fun k => k = bb ∨ k = bb') [0, 0, 0, 1, 0, 0, 0, 1, 0] [0, 1, 2, 4, 5, 6, 3, 7, 8] (by kernel_rfl) (by kernel_rfl) ?_
        repeat ((first | refine gB rfl rfl fun _ k => ?_ | refine gC rfl rfl fun _ k => ?_); go_simp; (first | refine k _ ?_ | refine ⟨_, fun _ => rfl, k _ ?_⟩); clear k)
        refine gO (NoPanic.normal ?_)
        go_wp2_with fail
        go_roundw
        case rel =>
         refine ⟨k + 1, by go_num, by omega, fun j hj => ?_, hs.out.same fs2⟩
         by_cases hjk : j < k
         · exact hf.out j hjk
         · obtain rfl : j = k := by omega
           rw [hx.out, hx'.out, he.out]
        case measure => simp [intOf]; omega
      · have hpe : (x == y) = false := by simpa using he
        replace hf := gi hf; replace hs := gi hs; replace hx := gi hx; replace hx' := gi hx'; replace he := gi he
        go_upto_region 6 with fail
        refine qac (fun k => k = bb ∨ k = bb') [0, 0, 0, 1, 0, 0, 0, 1, 0] [0, 1, 2, 4, 5, 6, 3, 7, 8] (by kernel_rfl) (by kernel_rfl) ?_
        repeat ((first | refine gB rfl rfl fun _ k => ?_ | refine gC rfl rfl fun _ k => ?_); go_simp; (first | refine k _ ?_ | refine ⟨_, fun _ => rfl, k _ ?_⟩); clear k)
        refine gO (NoPanic.normal ?_)
        go_wp2_with fail
        go_ret
        refine ⟨?_, hs.out.same fs2⟩
        have : ¬ l = l' := fun e => he.out (by subst e; have := hx.out.symm.trans hx'.out; simpa using this)
        rw [hR.out, decide_eq_false this]; rfl
    · obtain rfl : k = q := by omega
      replace hf := gi hf; replace hs := gi hs
      go_wp2_with fail
      go_ret
      refine ⟨?_, hs.out.same fs2⟩
      have : l = l' := by
       apply List.ext_getElem?
       intro j
       by_cases hj : j < k
       · exact hf.out j hj
       · rw [List.getElem?_eq_none (by have := hL.out; omega), List.getElem?_eq_none (by have := hL'.out; omega)]
      rw [hR.out, decide_eq_true this]; rfl
 · have hne : ¬ l = l' := fun e => hlen (by rw [← hq, ← hq', e])
   rw [decide_eq_false hne] at hR
   obtain rfl := hR
   have hb : (q : Int) ≠ q' := by omega
   replace h := gi h; replace h' := gi h'; replace hne := gi hne; replace hlen := gi hlen; replace hq := gi hq; replace hq' := gi hq'
   go_enter Tryz.func13, Tryz.ntmps13
   go_wp2_with fail
   go_ret
   exact ⟨rfl, Fr.refl _ _⟩
theorem qgR (l l' : List Bool) (a a' : Option Addr) (q q' cap cap' : Nat) (w : World) (hq : l.length = q) (hq' : l'.length = q') (h : qan w (.slice a q cap) q (gz l)) (h' : qan w (.slice a' q' cap') q' (gz l')) (hl : q ≤ 100000) :
 Calls Tryz.prog 20 #[.slice a q cap, .slice a' q' cap'] w fun e w' => e = .returned (.bool (decide (l = l'))) ∧ qad w w' := by
 obtain ⟨R, hR⟩ : ∃ R : Bool, R = decide (l = l') := ⟨_, rfl⟩
 rw [← hR]
 by_cases hlen : q = q'
 · subst hlen
   have hL : l.length = q := hq
   have hL' : l'.length = q := hq'
   clear hq hq'
   replace hL := gi hL; replace hL' := gi hL'; replace hR := gi hR; replace h := gi h; replace h' := gi h'
   go_enter Tryz.func20, Tryz.ntmps20
   go_wp2_with fail
   go_loopw [5, 13] (fun _ i wr => ∃ k : Nat, i = .int .i64 k ∧ k ≤ q ∧ (∀ (j : Nat), j < k → l[j]? = l'[j]?) ∧ qad w wr) (fun _ i _ => q - (intOf i).toNat)
   case atStart => exact ⟨0, rfl, by omega, fun _ h => by omega, Fr.refl _ _⟩
   case round =>
    obtain ⟨k, rfl, hk, hf, hs⟩ := hrel
    by_cases hlt : k < q
    · have hkl : k < l.length := by rw [hL.out]; exact hlt
      have hkl' : k < l'.length := by rw [hL'.out]; exact hlt
      obtain ⟨bb, off, rfl, hbl, z0⟩ := (h.out.same hs).bool3 hkl hL.out
      obtain ⟨bb', off', rfl, hbl', z0'⟩ := (h'.out.same hs).bool3 hkl' hL'.out
      have hx : l[k]? = some l[k] := List.getElem?_eq_getElem hkl
      have hx' : l'[k]? = some l'[k] := List.getElem?_eq_getElem hkl'
      generalize l[k] = x at *
      generalize l'[k] = y at *
      clear hkl hkl'
      by_cases he : x = y
      · have hpe : (x == y) = true := by simpa using he
        replace hf := gi hf; replace hs := gi hs; replace hx := gi hx; replace hx' := gi hx'; replace he := gi he
        go_upto_region 6 with fail
        refine qac (fun k => k = bb ∨ k = bb') [0, 0, 0, 1, 0, 0, 0, 1, 0] [0, 1, 2, 4, 5, 6, 3, 7, 8] (by kernel_rfl) (by kernel_rfl) ?_
        repeat ((first | refine gB rfl rfl fun _ k => ?_ | refine gC rfl rfl fun _ k => ?_); go_simp; (first | refine k _ ?_ | refine ⟨_, fun _ => rfl, k _ ?_⟩); clear k)
        refine gO (NoPanic.normal ?_)
        go_wp2_with fail
        go_roundw
        case rel =>
         refine ⟨k + 1, by go_num, by omega, fun j hj => ?_, hs.out.same fs2⟩
         by_cases hjk : j < k
         · exact hf.out j hjk
         · obtain rfl : j = k := by omega
           rw [hx.out, hx'.out, he.out]
        case measure => simp [intOf]; omega
      · have hpe : (x == y) = false := by simpa using he
        replace hf := gi hf; replace hs := gi hs; replace hx := gi hx; replace hx' := gi hx'; replace he := gi he
        go_upto_region 6 with fail
        refine qac (fun k => k = bb ∨ k = bb') [0, 0, 0, 1, 0, 0, 0, 1, 0] [0, 1, 2, 4, 5, 6, 3, 7, 8] (by kernel_rfl) (by kernel_rfl) ?_
        repeat ((first | refine gB rfl rfl fun _ k => ?_ | refine gC rfl rfl fun _ k => ?_); go_simp; (first | refine k _ ?_ | refine ⟨_, fun _ => rfl, k _ ?_⟩); clear k)
        refine gO (NoPanic.normal ?_)
        go_wp2_with fail
        go_ret
        refine ⟨?_, hs.out.same fs2⟩
        have : ¬ l = l' := fun e => he.out (by subst e; have := hx.out.symm.trans hx'.out; simpa using this)
        rw [hR.out, decide_eq_false this]; rfl
    · obtain rfl : k = q := by omega
      replace hf := gi hf; replace hs := gi hs
      go_wp2_with fail
      go_ret
      refine ⟨?_, hs.out.same fs2⟩
      have : l = l' := by
       apply List.ext_getElem?
       intro j
       by_cases hj : j < k
       · exact hf.out j hj
       · rw [List.getElem?_eq_none (by have := hL.out; omega), List.getElem?_eq_none (by have := hL'.out; omega)]
      rw [hR.out, decide_eq_true this]; rfl
 · have hne : ¬ l = l' := fun e => hlen (by rw [← hq, ← hq', e])
   rw [decide_eq_false hne] at hR
   obtain rfl := hR
   have hb : (q : Int) ≠ q' := by omega
   replace h := gi h; replace h' := gi h'; replace hne := gi hne; replace hlen := gi hlen; replace hq := gi hq; replace hq' := gi hq'
   go_enter Tryz.func20, Tryz.ntmps20
   go_wp2_with fail
   go_ret
   exact ⟨rfl, Fr.refl _ _⟩
end Go.Proofs.YticcpnekjddanaaGreatDoor
namespace Go.Proofs.YticcpnekjddanaaGreatDoor
open Go.ChangeShapes Go.WideShapes Go.ChangeAt Go.RowKit Go.Joins Go.Deep
theorem qcE {cs : List Value} {m n : Nat} {p : List Value → Prop} (hl : cs.length = n * m) (h : ∀ i, i < n → ∃ l : List Nat, (cs.drop (i * m)).take m = qdS l ∧ l.length = m ∧ ∀ x ∈ l, x < 256) : ∃ l : List Nat, cs = qdS l ∧ l.length = n * m ∧ ∀ x ∈ l, x < 256 := by
 induction n generalizing cs with
 | zero => exact ⟨[], by simpa [qdS] using hl, by simp, by simp⟩
 | succ n ih =>
  obtain ⟨l0, e0, h0, b0⟩ := h 0 (by omega)
  simp only [Nat.zero_mul, List.drop_zero] at e0
  obtain ⟨l1, e1, h1, b1⟩ := ih (cs := cs.drop m) (by rw [List.length_drop, hl, Nat.succ_mul]; omega) (fun i hi => by
   obtain ⟨l, e, h2, b⟩ := h (i + 1) (by omega)
   rw [List.drop_drop, show m + i * m = (i + 1) * m by rw [Nat.succ_mul]; omega]
   exact ⟨l, e, h2, b⟩)
  refine ⟨l0 ++ l1, ?_, by rw [List.length_append, h0, h1, Nat.succ_mul]; omega, fun x hx => ?_⟩
  · have := List.take_append_drop m cs
    rw [← this, e0, e1]
    simp [qdS]
  · rcases List.mem_append.1 hx with hx | hx
    · exact b0 x hx
    · exact b1 x hx
theorem qhL : Tryz.prog.cellsOf 5 = 1 := by kernel_rfl
theorem qp7 {H : Type} {enc : TypeId × Value → H} {W : World} {base fuel n : Nat} {sp : Nat → Bool} {held : Bool} {T : TypeId} {cs : List Value} {x : DataW H × List MemPlace} (hT : Tryz.prog.underlying T = some (.array n 5)) (hc : Tryz.prog.cellsOf T = n)
 (h : DataW.trod enc Tryz.prog W base sp held fuel T cs = some x) : ∃ l : List Nat, cs = qdS l ∧ l.length = n ∧ ∀ y ∈ l, y < 256 := by
 obtain ⟨xs, m, _, _, hl, hx, hi⟩ := DataW.trod_array hT h
 rw [hc] at hl
 obtain ⟨l, e, h1, h2⟩ := qcE (p := fun _ => True) (m := 1) (n := n) (cs := cs) (by omega) (fun i hin => by
  have e0 := hi i hin
  rw [qhL] at e0
  rw [List.getElem?_eq_getElem (by omega)] at e0
  obtain ⟨a, ea, _, wa⟩ := DataW.trod_int Tryz.underlying5 e0
  have b := qly wa
  refine ⟨[a.toNat], ?_, rfl, fun y hy => by simp only [List.mem_singleton] at hy; omega⟩
  rw [ea]
  simp only [qdS, List.map_cons, List.map_nil]
  rw [show ((a.toNat : Nat) : Int) = a by omega])
 exact ⟨l, e, by omega, h2⟩
theorem qos {H : Type} {enc : TypeId × Value → H} {W : World} {base fuel n m : Nat} {sp : Nat → Bool} {held : Bool} {T U : TypeId} {cs : List Value} {x : DataW H × List MemPlace} (hT : Tryz.prog.underlying T = some (.array n U)) (hU : Tryz.prog.underlying U = some (.array m 5)) (hcT : Tryz.prog.cellsOf T = n * m) (hcU : Tryz.prog.cellsOf U = m)
 (h : DataW.trod enc Tryz.prog W base sp held fuel T cs = some x) : ∃ l : List Nat, cs = qdS l ∧ l.length = n * m ∧ ∀ y ∈ l, y < 256 := by
 obtain ⟨xs, k, _, _, hl, hx, hi⟩ := DataW.trod_array hT h
 rw [hcT] at hl
 refine qcE (p := fun _ => True) hl (fun i hin => ?_)
 have e0 := hi i hin
 rw [hcU, List.getElem?_eq_getElem (by omega)] at e0
 exact qp7 hU hcU e0
end Go.Proofs.YticcpnekjddanaaGreatDoor
