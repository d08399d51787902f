/-  -/
import Derived.Test.YticcpnekjddanaaGreatDoorZIdxG
import Derived.Test.YticcpnekjddanaaGreatDoorZGrpW
import Derived.Test.YticcpnekjddanaaGreatDoorZMchI
import Derived.Test.YticcpnekjddanaaGreatDoorZMaps
import Derived.Test.YticcpnekjddanaaGreatDoorZKey2
import Derived.Test.YticcpnekjddanaaGreatDoorZRelN
set_option maxRecDepth 100000
set_option maxHeartbeats 4000000
set_option linter.unusedVariables false
set_option linter.unusedSimpArgs false
namespace Go.Proofs.YticcpnekjddanaaGreatDoor
open Go.RowKit
theorem qn0 (n : Nat) (w : World) (hn : n ≤ 4096) : Calls Tryz.prog 69 #[.int .i64 n] w fun e w' => e = .returned (.int .i64 (qa1 n)) ∧ qad w w' := by
 obtain ⟨b, hb⟩ : ∃ b, b = qa1 n := ⟨_, rfl⟩
 have hB := qcz hn
 have h12 := qcQ hn
 rw [← hb] at hB h12 ⊢
 replace hb := gi hb; replace hB := gi hB
 go_enter Tryz.func69, Tryz.ntmps69
 go_wp2_with fail
 go_loopw [3] (fun v wr => ∃ j : Nat, v = .int .i64 j ∧ j ≤ b ∧ qad w wr) (fun j _ => b - (intOf j).toNat)
 case atStart => exact ⟨0, rfl, by omega, Fr.refl _ _⟩
 case round =>
  obtain ⟨j, rfl, hj, hs⟩ := hrel
  have hw := qg9 j (by omega)
  have hw2 : IntKind.i64.wrap ((2 : Int) ^ j) = ((2 ^ j : Nat) : Int) := by
   have e : ((2 : Int) ^ j) = ((2 ^ j : Nat) : Int) := by simp
   have hj2 : 2 ^ j ≤ 2 ^ 12 := Nat.pow_le_pow_right (by omega) (by omega)
   rw [e]
   exact qjt _ (Nat.le_trans hj2 (by decide))
  by_cases hlt : j < b
  · have h2 := hB.out.least j hlt
    generalize hp : 2 ^ j = p at *
    have h2i : (p : Int) < n := by omega
    replace hs := gi hs; replace hp := gi hp
    go_wp2_with fail
    go_roundw
    case rel => exact ⟨j + 1, by go_num, by omega, hs.out⟩
    case measure => simp [intOf]; omega
  · obtain rfl : j = b := by omega
    have h2 := hB.out.le
    generalize hp : 2 ^ j = p at *
    have h2i : ¬ (p : Int) < n := by omega
    replace hs := gi hs; replace hp := gi hp
    go_wp2_with fail
    go_ret
    exact ⟨rfl, hs.out⟩
theorem qn1 (l : List Bool) (a : Option Addr) (cap q : Nat) (w : World) (hq : l.length = q) (hl : qan w (.slice a q cap) q (gz l)) (h12 : q ≤ 20) :
 Calls Tryz.prog 40 #[.slice a q cap] w fun e w' => e = .returned (.int .i64 (qe3 l)) ∧ qad w w' := by
 replace hq := gi hq; replace hl := gi hl
 go_enter Tryz.func40, Tryz.ntmps40
 go_wp2_with fail
 go_loopw [3, 8] (fun s i wr => ∃ k : Nat, i = .int .i64 k ∧ k ≤ q ∧ s = .int .i64 (qe3 (l.take k)) ∧ qad w wr) (fun _ i _ => q - (intOf i).toNat)
 case atStart => exact ⟨0, rfl, by omega, rfl, Fr.refl _ _⟩
 case round =>
  obtain ⟨k, rfl, hk, rfl, hs⟩ := hrel
  by_cases hlt : k < q
  · have hkl : k < l.length := by rw [hq.out]; exact hlt
    obtain ⟨b, off, rfl, hb, hc⟩ := (hl.out.same hs).cell (by omega)
    have c0 := hc k (.bool l[k]) (qcM l k hkl)
    have hst := List.take_succ_eq_append_getElem hkl
    have hbd := qju l k (by omega)
    have hbd2 : 2 ^ k ≤ 2 ^ 20 := Nat.pow_le_pow_right (by omega) (by omega)
    have hns := qef (l.take k) l[k]
    rw [← hst] at hns
    generalize l[k] = x at *
    generalize qe3 (l.take k) = S at *
    have hS : S ≤ 1048576 := by omega
    clear hbd hbd2 hc
    replace hs := gi hs; replace hst := gi hst; replace hns := gi hns
    cases x
    · go_wp2_with fail
      go_roundw
      case rel => exact ⟨k + 1, by go_num, by omega, by rw [hns.out]; simp; omega, hs.out⟩
      case measure => simp [intOf]; omega
    · go_wp2_with fail
      go_roundw
      case rel => exact ⟨k + 1, by go_num, by omega, by rw [hns.out]; simp; omega, hs.out⟩
      case measure => simp [intOf]; omega
  · obtain rfl : k = q := by omega
    rw [List.take_of_length_le (by rw [hq.out]; exact Nat.le_refl _)]
    replace hs := gi hs
    go_wp2_with fail
    go_ret
    exact ⟨rfl, hs.out⟩
theorem qn2 {bs : Nat → Nat} {l k : List Nat} (h : l.Perm k) : qcd bs l = qcd bs k := by
 induction h with
 | nil => rfl
 | cons x _ ih => simp only [qcd, ih]
 | swap x y l => simp only [qcd]; omega
 | trans _ _ a b => exact a.trans b
theorem qbs.all_range {N : Nw} (h : qbs N) : N.all = qcd N.bs (List.range N.As.length) :=
 qn2 ((List.perm_ext_iff_of_nodup h.pm.nodup List.nodup_range).2 (fun i => by rw [h.pm.mem, List.mem_range]))
theorem qkS (bs : Nat → Nat) (k : Nat) : qcd bs (List.range (k + 1)) = qcd bs (List.range k) + bs k := by
 rw [List.range_succ, qdR]; rfl
theorem qgU {bs : Nat → Nat} (h : ∀ i, bs i ≤ 12) : ∀ k, qcd bs (List.range k) ≤ k * 12
 | 0 => Nat.zero_le _
 | k + 1 => by
  have := qgU h k
  have := h k
  rw [qkS]
  omega
theorem lall13 (N : Nw) (w : World) (hat : N.at w) (hn : ∀ A ∈ N.As, 0 ≤ A.n ∧ A.n ≤ 4096) (hm : N.As.length ≤ 1000) :
 Calls Tryz.prog 37 #[.agg #[.slice N.aA N.As.length N.cA, .slice N.aO N.o.length N.cO]] w fun e w' => e = .returned (.int .i64 (qcd N.bs (List.range N.As.length))) ∧ qad w w' := by
 have LB := fun (n : Nat) (h : n ≤ 4096) W => qn0 n W h
 obtain ⟨m, hmm⟩ : ∃ m, m = N.As.length := ⟨_, rfl⟩
 have hlt : ∀ k, k < m → k < N.As.length := fun k h => hmm ▸ h
 have hrow := fun (k : Nat) (hk : k < m) W (hW : qad w W) => (hat.au.same hW).row (hlt k hk)
 have hnk : ∀ k (hk : k < N.As.length), ∃ n : Nat, N.As[k].n = n ∧ n ≤ 4096 ∧ N.bs k = qa1 n := fun k hk => by
  have h := hn _ (List.getElem_mem hk)
  refine ⟨N.As[k].n.toNat, by omega, by omega, ?_⟩
  unfold Nw.bs
  rw [N.ns_get hk]
 have h12 : ∀ i, N.bs i ≤ 12 := fun i => by
  by_cases hi : i < N.As.length
  · obtain ⟨n, _, h2, h3⟩ := hnk i hi
    rw [h3]; exact qcQ h2
  · rw [N.bs_out (by omega)]; omega
 obtain ⟨sf, hsf⟩ : ∃ f : Nat → Nat, f = fun k => qcd N.bs (List.range k) := ⟨_, rfl⟩
 have hs0 : sf 0 = 0 := by rw [hsf]; rfl
 have hss : ∀ k, sf (k + 1) = sf k + N.bs k := fun k => by rw [hsf]; exact qkS _ _
 have hsb : ∀ k, sf k ≤ k * 12 := fun k => by rw [hsf]; exact qgU h12 k
 have e : qcd N.bs (List.range N.As.length) = sf N.As.length := by rw [hsf]
 rw [e]
 generalize N.bs = bs at *
 clear hat hn e hsf
 simp only [← hmm] at hrow hm ⊢
 generalize N.aA = aA at *
 generalize N.cA = cA at *
 generalize N.aO = aO at *
 generalize N.cO = cO at *
 generalize N.o.length = qo at *
 generalize N.As = As at *
 clear hmm
 replace LB := gi LB; replace hrow := gi hrow; replace hnk := gi hnk; replace h12 := gi h12; replace hs0 := gi hs0; replace hss := gi hss; replace hsb := gi hsb; replace hlt := gi hlt
 go_enter Tryz.func37, Tryz.ntmps37
 go_upto_region 1 with fail
 have kn := gv w (.cells #[.slice aA m cA, .slice aO qo cO] 35)
 have s0 : qad w (w.alloc (.cells #[.slice aA m cA, .slice aO qo cO] 35)) := fs2
 generalize w.alloc (.cells #[.slice aA m cA, .slice aO qo cO] 35) = W0 at *
 replace kn := gi kn; replace s0 := gi s0
 obtain ⟨x0, x1, xl⟩ := g2l kn.out
 go_wp2_with fail
 clear x0 x1 xl
 go_loopw [3, 9] (fun v i wr => ∃ k : Nat, i = .int .i64 k ∧ k ≤ m ∧ v = .int .i64 (sf k) ∧ qad w wr) (fun _ i _ => m - (intOf i).toNat)
 case atStart => exact ⟨0, rfl, by omega, by rw [hs0.out]; rfl, s0.out⟩
 case round =>
  obtain ⟨k, rfl, hk, rfl, hs⟩ := hrel
  by_cases hkm : k < m
  · obtain ⟨b, off, ha, hb, x0, x1, x2, x3⟩ := hrow.out k hkm _ hs
    obtain ⟨n, hn1, hn2, hn3⟩ := hnk.out k (hlt.out k hkm)
    have LBk := LB.out n hn2
    have hst := hss.out k
    rw [hn3] at hst
    have hb1 := hsb.out k
    have hb2 := hsb.out (k + 1)
    generalize As[k]'(hlt.out k hkm) = A at *
    rw [hn1] at x1
    subst ha
    rw [← hn3] at hst LBk
    generalize bs k = c at *
    obtain ⟨S, hS⟩ : ∃ S, S = sf k := ⟨_, rfl⟩
    rw [← hS] at hst hb1 ⊢
    rw [hst] at hb2
    have hS1 : S ≤ 12000 := by omega
    have hS2 : S + c ≤ 12012 := by omega
    clear hn1 hn3 hb1 hb2
    replace hS := gi hS; replace hst := gi hst
    replace hs := gi hs; replace LBk := gi LBk
    go_wp2_with fail
    refine (LBk.out _).mono ?_
    rintro e w1 ⟨rfl, s1⟩
    have hs1 := (show qad w _ from hs.out.same fs2).same s1
    clear s1 x0 x1 x2 x3
    replace hs1 := gi hs1
    go_wp2_with fail
    go_roundw
    case rel => exact ⟨k + 1, by go_num, by omega, by rw [hst.out]; simp, hs1.out⟩
    case measure => simp [intOf]; omega
  · obtain rfl : k = m := by omega
    replace hs := gi hs
    go_wp2_with fail
    go_ret
    exact ⟨rfl, hs.out⟩
def nx1 (A : Au) (e : Int) (s : Nat) : Option Nat := if e ∈ A.al then (A.es.find? fun x => x.1 == (s : Int) && x.2.1 == e).map fun x => x.2.2.toNat else some s
theorem qn3 {A : Au} (h : qc1 A) {e : Int} {s t : Nat} (hs : s < A.n.toNat) : nx1 A e s = some t ↔ (s, t) ∈ auP A e := by
 unfold nx1 auP
 by_cases he : e ∈ A.al
 · rw [if_pos he, if_pos he]
   constructor
   · intro hh
     obtain ⟨x, hx, rfl⟩ := Option.map_eq_some_iff.1 hh
     have h1 := List.mem_of_find?_eq_some hx
     have h2 := List.find?_some hx
     simp only [Bool.and_eq_true, beq_iff_eq] at h2
     refine List.mem_map.2 ⟨x, List.mem_filter.2 ⟨h1, by simp [h2.2]⟩, ?_⟩
     rw [h2.1]; simp
   · intro hh
     obtain ⟨x, hx, e2⟩ := List.mem_map.1 hh
     obtain ⟨hx1, hx2⟩ := List.mem_filter.1 hx
     simp only [Prod.mk.injEq] at e2
     have hx3 : x.2.1 = e := by simpa using hx2
     have hed := h.edge hx1
     cases hf : A.es.find? fun x => x.1 == (s : Int) && x.2.1 == e with
     | none =>
      have := List.find?_eq_none.1 hf x hx1
      simp only [Bool.and_eq_true, beq_iff_eq, not_and] at this
      exact absurd hx3 (this (by omega))
     | some y =>
      have h1 := List.mem_of_find?_eq_some hf
      have h2 := List.find?_some hf
      simp only [Bool.and_eq_true, beq_iff_eq] at h2
      have := h.det h1 hx1 (by omega) (by rw [h2.2, hx3])
      rw [this]
      simp [e2.2]
 · rw [if_neg he, if_neg he]
   constructor
   · intro hh
     obtain rfl : s = t := by simpa using hh
     exact List.mem_map.2 ⟨s, List.mem_range.2 hs, rfl⟩
   · intro hh
     obtain ⟨i, _, e2⟩ := List.mem_map.1 hh
     simp only [Prod.mk.injEq] at e2
     rw [← e2.1, e2.2]
structure qkT (As : List Au) (e : Int) (x : List Nat) (k : Nat) (y : List Nat) : Prop where
 len : y.length = As.length
 old : ∀ i, k ≤ i → y.getD i 0 = x.getD i 0
 new : ∀ i (hi : i < As.length), i < k → nx1 As[i] e (x.getD i 0) = some (y.getD i 0)
theorem qkT.zero {As : List Au} {e : Int} {x : List Nat} (hx : x.length = As.length) : qkT As e x 0 x := ⟨hx, fun _ _ => rfl, fun _ _ h => absurd h (by omega)⟩
theorem qkT.keep {As : List Au} {e : Int} {x y : List Nat} {k : Nat} (h : qkT As e x k y) (hk : k < As.length) (he : ¬ e ∈ As[k].al) : qkT As e x (k + 1) y :=
 ⟨h.len, fun i hi => h.old i (by omega), fun i hi hik => by
  by_cases h1 : i < k
  · exact h.new i hi h1
  · obtain rfl : i = k := by omega
    unfold nx1
    rw [if_neg he, h.old i (Nat.le_refl _)]⟩
theorem qkT.go {As : List Au} {e : Int} {x y : List Nat} {k t : Nat} (h : qkT As e x k y) (hk : k < As.length) (ht : nx1 As[k] e (x.getD k 0) = some t) : qkT As e x (k + 1) (y.set k t) := by
 have hky : k < y.length := by rw [h.len]; exact hk
 have g : ∀ i, (y.set k t).getD i 0 = if i = k then t else y.getD i 0 := fun i => by
  simp only [List.getD]
  rw [List.getElem?_set]
  by_cases e2 : k = i
  · subst e2; simp [hky]
  · simp [e2, Ne.symm e2]
 refine ⟨by simp [h.len], fun i hi => ?_, fun i hi hik => ?_⟩
 · rw [g, if_neg (by omega)]; exact h.old i (by omega)
 · rw [g]
   by_cases e2 : i = k
   · subst e2; rw [if_pos rfl]; exact ht
   · rw [if_neg e2]; exact h.new i hi (by omega)
theorem qiF {As : List Au} (hA : ∀ A ∈ As, qc1 A) {e : Int} {x y : List Nat} (hx : ∀ i (hi : i < As.length), x.getD i 0 < As[i].n.toNat) : qdG As e As.length x y = true ↔ ∀ i (hi : i < As.length), nx1 As[i] e (x.getD i 0) = some (y.getD i 0) := by
 constructor
 · intro h i hi
   exact (qn3 (hA _ (List.getElem_mem hi)) (hx i hi)).2 (qcc h hi hi)
 · intro h
   unfold qdG
   refine List.all_eq_true.2 (fun i hi => ?_)
   have hi' := List.mem_range.1 hi
   rw [List.getElem?_eq_getElem hi']
   exact decide_eq_true ((qn3 (hA _ (List.getElem_mem hi')) (hx i hi')).1 (h i hi'))
def edM (es : List Nd) : List ((Int × Int) × Int) := es.foldl (fun M x => qbW M (x.1, x.2.1) x.2.2) []
theorem qp1 (es : List Nd) (x : Nd) : edM (es ++ [x]) = qbW (edM es) (x.1, x.2.1) x.2.2 := by simp [edM]
theorem qk9 {es : List Nd} {k : Nat} (hk : k < es.length) : edM (es.take (k + 1)) = qbW (edM (es.take k)) (es[k].1, es[k].2.1) es[k].2.2 := by
 rw [List.take_add_one, List.getElem?_eq_getElem hk]
 exact qp1 _ _
theorem qqy {es : List Nd} (hd : ∀ x ∈ es, ∀ y ∈ es, x.1 = y.1 → x.2.1 = y.2.1 → x = y) (p : Int × Int) : ∀ k, k ≤ es.length → qa0 (edM (es.take k)) p = ((es.take k).find? fun x => x.1 == p.1 && x.2.1 == p.2).map (·.2.2)
 | 0, _ => rfl
 | k + 1, hk => by
  have hk' : k < es.length := by omega
  have ih := qqy hd p k (by omega)
  rw [qk9 hk', List.take_add_one, List.getElem?_eq_getElem hk', Option.toList_some, List.find?_append]
  by_cases h : p = (es[k].1, es[k].2.1)
  · rw [h, qa3]
    cases hf : (es.take k).find? fun x => x.1 == es[k].1 && x.2.1 == es[k].2.1 with
    | none => simp [List.find?_cons, hf]
    | some y =>
     have h1 := List.mem_of_find?_eq_some hf
     have h2 := List.find?_some hf
     simp only [Bool.and_eq_true, beq_iff_eq] at h2
     have h3 := hd y (List.mem_of_mem_take h1) es[k] (List.getElem_mem hk') h2.1 h2.2
     simp [hf, h3]
  · rw [qbK _ _ _ _ h, ih]
    have : (es[k].1 == p.1 && es[k].2.1 == p.2) = false := by
     rw [Bool.and_eq_false_iff, beq_eq_false_iff_ne, beq_eq_false_iff_ne]
     by_cases h1 : es[k].1 = p.1
     · exact .inr fun h2 => h (by rw [h1, h2])
     · exact .inl h1
    simp [List.find?_cons, this]
theorem qqz {A : Au} (h : qc1 A) {e : Int} (he : e ∈ A.al) (s : Nat) : qa0 (edM A.es) ((s : Int), e) = (nx1 A e s).map fun t : Nat => (t : Int) := by
 have := qqy (es := A.es) (fun x hx y hy h1 h2 => h.det hx hy h1 h2) ((s : Int), e) A.es.length (Nat.le_refl _)
 rw [List.take_length] at this
 rw [this]
 unfold nx1
 rw [if_pos he, Option.map_map]
 cases hf : A.es.find? fun x => x.1 == (s : Int) && x.2.1 == e with
 | none => rfl
 | some x =>
  have h1 := h.edge (List.mem_of_find?_eq_some hf)
  simp only [Option.map_some, Function.comp]
  congr 1; omega
theorem ed_miss {A : Au} (h : qc1 A) {e : Int} (he : e ∈ A.al) {s : Nat} (hn : qa0 (edM A.es) ((s : Int), e) = none) : nx1 A e s = none := by
 rw [qqz h he] at hn
 exact Option.map_eq_none_iff.1 hn
theorem ed_hit {A : Au} (h : qc1 A) {e : Int} (he : e ∈ A.al) {s : Nat} {z : Int} (hn : qa0 (edM A.es) ((s : Int), e) = some z) : ∃ t : Nat, z = (t : Int) ∧ nx1 A e s = some t := by
 rw [qqz h he] at hn
 obtain ⟨t, h1, h2⟩ := Option.map_eq_some_iff.1 hn
 exact ⟨t, h2.symm, h1⟩
structure qgY (w : World) (base : Nat) (As : List Au) (k : Nat) (a : Option Addr) (c : Nat) (mbs : List Nat) : Prop where
 len : mbs.length = k
 own : w.ownsRow base 102 1 (.slice a k c) k (mbs.map fun b => Value.map (some b))
 maps : ∀ i (hi : i < k) (hA : i < As.length), ∀ b, mbs[i]? = some b → base ≤ b ∧ qaR prV (Value.int .i64) w b (edM As[i].es)
theorem qgY.same {w W : World} {base : Nat} {As : List Au} {k : Nat} {a : Option Addr} {c : Nat} {mbs : List Nat} (h : qgY w base As k a c mbs) (hs : qad w W) : qgY W base As k a c mbs :=
 ⟨h.len, qag h.own hs, fun i hi hA b hb => by
  obtain ⟨h1, h2⟩ := h.maps i hi hA b hb
  exact ⟨h1, h2.of_block (hs.block b h2.lt id)⟩⟩
theorem qgY.nil (w : World) (As : List Au) : qgY w w.heap.size As 0 none 0 [] :=
 ⟨rfl, World.ownsRow_nil w _ _ _, fun i hi => absurd hi (by omega)⟩
theorem qgY.grow {w w' : World} {base : Nat} {As : List Au} {k : Nat} {a a' : Option Addr} {c c' mb : Nat} {mbs : List Nat} (h : qgY w base As k a c mbs) (hk : k < As.length) (hM : qaR prV (Value.int .i64) w mb (edM As[k].es)) (hb : base ≤ mb)
 (ho : w'.ownsRow base 102 1 (.slice a' (k + 1) c') (k + 1) (mbs.map (fun b => Value.map (some b)) ++ [.map (some mb)])) (hG : qaK (fun _ => False) w w' (.slice a k c) (.slice a' (k + 1) c')) : qgY w' base As (k + 1) a' c' (mbs ++ [mb]) := by
 have kept : ∀ {b : Nat} {M : List ((Int × Int) × Int)}, qaR prV (Value.int .i64) w b M → qaR prV (Value.int .i64) w' b M := fun {b M} hm =>
  hm.of_block (hG.1.block b hm.lt (fun hh => by
   rcases hh with hh | hh
   · obtain ⟨cur, hc⟩ := qaj h.own hh
     exact qat hm hc rfl
   · exact hh))
 refine ⟨by simp [h.len], by rw [List.map_append]; exact ho, fun i hi hA b hbi => ?_⟩
 by_cases hik : i < k
 · rw [List.getElem?_append_left (by have := h.len; omega)] at hbi
   obtain ⟨h1, h2⟩ := h.maps i hik hA b hbi
   exact ⟨h1, kept h2⟩
 · obtain rfl : i = k := by omega
   have hl := h.len
   rw [List.getElem?_append_right (by omega), hl, Nat.sub_self] at hbi
   cases hbi
   exact ⟨hb, kept hM⟩
structure qgo (w : World) (As : List Au) (a : Option Addr) (c : Nat) (mbs : List Nat) : Prop where
 len : mbs.length = As.length
 ty : qaa w 102 1 (.slice a As.length c) As.length (mbs.map fun b => Value.map (some b))
 maps : ∀ i (hi : i < As.length), ∀ b, mbs[i]? = some b → qaR prV (Value.int .i64) w b (edM As[i].es)
theorem qgo.same {w W : World} {As : List Au} {a : Option Addr} {c : Nat} {mbs : List Nat} (h : qgo w As a c mbs) (hs : qad w W) : qgo W As a c mbs :=
 ⟨h.len, h.ty.same hs, fun i hi b hb => (h.maps i hi b hb).of_block (hs.block b (h.maps i hi b hb).lt id)⟩
theorem qgo.row {w : World} {As : List Au} {a : Option Addr} {c : Nat} {mbs : List Nat} (h : qgo w As a c mbs) : qan w (.slice a As.length c) As.length (mbs.map fun b => Value.map (some b)) := h.ty.row
theorem qgo.bx {w W : World} {As : List Au} {a : Option Addr} {c : Nat} {mbs : List Nat} {b : Nat} {cs : Array Value} {T : TypeId} {f : Nat × Nat} (h : qgo w As a c mbs) (hb : w.heap[b]? = some (.cells cs T f)) (hT : T ≠ 102) (hf : Fr (fun q => q = b) w W) : qgo W As a c mbs :=
 ⟨h.len, h.ty.fr hf (fun k cur hk e => by
  rw [show k = b from e, hb] at hk
  simp only [Option.some.injEq, Obj.cells.injEq] at hk
  exact hT hk.2.1), fun i hi b' hb' => (h.maps i hi b' hb').of_block (hf.block b' (h.maps i hi b' hb').lt (fun e => qat (h.maps i hi b' hb') hb e))⟩
theorem qgY.at {w : World} {base : Nat} {As : List Au} {k : Nat} {a : Option Addr} {c : Nat} {mbs : List Nat} (h : qgY w base As k a c mbs) (hk : k = As.length) : qgo w As a c mbs := by
 subst hk
 exact ⟨h.len, qaa.of_owns h.own, fun i hi b hb => (h.maps i hi hi b hb).2⟩
theorem qgY.bx {w W : World} {base : Nat} {As : List Au} {k : Nat} {a : Option Addr} {c : Nat} {mbs : List Nat} {b : Nat} {cs : Array Value} {T : TypeId} {f : Nat × Nat} (h : qgY w base As k a c mbs) (hb : w.heap[b]? = some (.cells cs T f)) (hT : T ≠ 102) (hf : Fr (fun q => q = b) w W) : qgY W base As k a c mbs :=
 ⟨h.len, qaN h.own hf (fun q hq e => by
  obtain ⟨cur, e1⟩ := qaj h.own hq
  rw [show q = b from e, hb] at e1
  simp only [Option.some.injEq, Obj.cells.injEq] at e1
  exact hT e1.2.1), fun i hi hA b' hb' => by
  obtain ⟨h1, h2⟩ := h.maps i hi hA b' hb'
  exact ⟨h1, h2.of_block (hf.block b' h2.lt (fun e => qat h2 hb e))⟩⟩
theorem qgY.put {w W : World} {base : Nat} {As : List Au} {k : Nat} {a : Option Addr} {c : Nat} {mbs : List Nat} {b : Nat} (h : qgY w base As k a c mbs) (hb : w.heap.size ≤ b) (hf : Fr (fun q => q = b) w W) : qgY W base As k a c mbs :=
 h.same (Fr.of_below ⟨hf.os, hf.tape, hf.output, hf.size, fun q hq => hf.block q hq (fun e => by have : q = b := e; omega)⟩)
theorem infoM2 : (Tryz.prog.info? 102).map (fun i => (i.zero, i.size, i.bytes)) = some (some (.map none), 1, 8) := by kernel_rfl
theorem qp2 (As : List Au) (hl : As.length ≤ 1000) (h : ∀ A ∈ As, qc1 A) (hz : ∀ A ∈ As, A.small) (aA : Option Addr) (cA : Nat) (w : World) (hat : qdm w aA cA As) :
 Calls Tryz.prog 25 #[.slice aA As.length cA] w fun e w' => ∃ aV cV aM cM mbs, e = .returned (.agg #[.slice aA As.length cA, .slice aV (qaJ As).length cV, .slice aM As.length cM]) ∧ qaa w' 3 1 (.slice aV (qaJ As).length cV) (qaJ As).length (gw (qaJ As)) ∧ qgo w' As aM cM mbs ∧ qad w w' := by
 obtain ⟨i4, hi4, hi4z, hi4s, hi4b⟩ := info_parts infoM2
 have hmm := @run_makeMap Tryz.prog
 have EV := fun W (hW : qad w W) => qf5 As hl h hz aA cA W (hat.same hW)
 have hrow := fun (k : Nat) (hk : k < As.length) W (hW : qad w W) => (hat.same hW).row hk
 have hnd := fun (k : Nat) (hk : k < As.length) (j : Nat) (hj : j < As[k].es.length) W (hW : qad w W) => ((hat.same hW).each _ (List.getElem_mem hk)).es.node hj
 have hzE := fun (k : Nat) (hk : k < As.length) => (hz _ (List.getElem_mem hk)).es
 generalize qaJ As = V at *
 clear h hz hat
 replace hrow := gi hrow; replace hnd := gi hnd; replace hzE := gi hzE; replace EV := gi EV
 go_enter Tryz.func25, Tryz.ntmps25
 go_wp2_with fail
 refine (EV.out _ fs2).mono ?_
 rintro e w1 ⟨aV, cV, rfl, hV, s1⟩
 have kr := s1.at (gv w (.cells #[.slice none 0 0, .slice none 0 0, .slice none 0 0] 72)) id
 have hs1 := (show qad w _ from fs2).same s1
 clear s1
 replace hV := gi hV; replace hs1 := gi hs1; replace kr := gi kr
 go_wp2_with fail
 have kn := gv w1 (.cells #[.slice aA As.length cA, .slice aV V.length cV, .slice none 0 0] 72)
 have s2 : qad w1 (w1.alloc (.cells #[.slice aA As.length cA, .slice aV V.length cV, .slice none 0 0] 72)) := fs2
 generalize w1.alloc (.cells #[.slice aA As.length cA, .slice aV V.length cV, .slice none 0 0] 72) = W2 at *
 have hw1 := hs1.out.size
 have hs2 := hs1.out.same s2
 have hV2 := hV.out.same s2
 have hr1 := gu kr.out
 replace kr := gi (s2.at kr.out id)
 generalize hbm : w1.heap.size = bm at *
 generalize hbr : w.heap.size = br at *
 clear hs1 hV s2
 replace hs2 := gi hs2; replace hV2 := gi hV2; replace kn := gi kn; replace hbr := gi hbr
 go_loopw [15] (fun i wr => ∃ (k : Nat) (a : Option Addr) (c : Nat) (mbs : List Nat), i = .int .i64 k ∧ k ≤ As.length ∧ wr.heap[bm]? = some (.cells #[.slice aA As.length cA, .slice aV V.length cV, .slice a k c] 72 (0, 0)) ∧ qgY wr W2.heap.size As k a c mbs ∧ Fr (fun q => q = bm) W2 wr) (fun i _ => As.length - (intOf i).toNat)
 case atStart => exact ⟨0, none, 0, [], rfl, by omega, kn.out, qgY.nil _ _, Fr.refl _ _⟩
 case round =>
  obtain ⟨k, a, c, mbs, rfl, hk, km, hB, hf⟩ := hrel
  have hsw : qad w wr := hs2.out.trans hf (fun i hi e => by have h1 := hbr.out; omega)
  have krr := hf.at kr.out (by omega)
  by_cases hkm : k < As.length
  · have GR : ∀ (W w' : World) (a' : Option Addr) (c' mb : Nat), qgY W W2.heap.size As k a c mbs → qaR prV (Value.int .i64) W mb (edM As[k].es) → W2.heap.size ≤ mb → w'.ownsRow W2.heap.size 102 1 (.slice a' (k + 1) c') (k + 1) (mbs.map (fun b => Value.map (some b)) ++ [.map (some mb)]) → qaK (fun _ => False) W w' (.slice a k c) (.slice a' (k + 1) c') → qgY w' W2.heap.size As (k + 1) a' c' (mbs ++ [mb]) := fun W w' a' c' mb h1 h2 h3 h4 h5 => h1.grow hkm h2 h3 h4 h5
    obtain ⟨b, off, rfl, hb, x0, x1, x2, x3⟩ := hrow.out k hkm _ hsw
    have hndk := fun j hj W hW => hnd.out k hkm j hj W hW
    have hzk := hzE.out k hkm
    generalize As[k] = A at *
    generalize A.aE = gE at *
    have hz9 : A.es.length ≤ 1000 := by have := hzk; omega
    clear hzk
    replace hB := gi hB; replace hf := gi hf; replace hsw := gi hsw; replace km := gi km; replace krr := gi krr; replace GR := gi GR; replace hndk := gi hndk
    go_upto_region 5 with fail
    have ka := gv wr (.cells #[.slice A.aA A.al.length A.cA, .int .i64 A.n, .slice A.aM A.ma.length A.cM, .slice gE A.es.length A.cE] 39)
    have sP : qad wr (wr.alloc (.cells #[.slice A.aA A.al.length A.cA, .int .i64 A.n, .slice A.aM A.ma.length A.cM, .slice gE A.es.length A.cE] 39)) := fs2
    generalize wr.alloc (.cells #[.slice A.aA A.al.length A.cA, .int .i64 A.n, .slice A.aM A.ma.length A.cM, .slice gE A.es.length A.cE] 39) = W3 at *
    generalize wr.heap.size = ba at *
    clear x0 x1 x2 x3 hb
    replace ka := gi ka; replace sP := gi sP
    go_upto_region 6 with fail
    have hM4 : qaR prV (Value.int .i64) (W3.alloc (.map #[] 0)) W3.heap.size ([] : List ((Int × Int) × Int)) := qcj _
    have sQ : qad W3 (W3.alloc (.map #[] 0)) := fs2
    have hW3 : ba < W3.heap.size := gu ka.out
    have hwb : W2.heap.size ≤ W3.heap.size := Nat.le_trans hf.out.size sP.out.size
    have hs4 := hsw.out.same (sP.out.same sQ)
    have hwz : w.heap.size ≤ W3.heap.size := (hsw.out.same sP.out).size
    have hB3 := hB.out.same sP.out
    have hf3 := hf.out.same sP.out
    have km3 := sP.out.at km.out id
    have hbm3 : bm < W3.heap.size := gu km3
    have ka4 := sQ.at ka.out id
    generalize W3.alloc (.map #[] 0) = W4 at *
    have hmz4 := hM4.lt
    obtain ⟨mb, hmb⟩ : ∃ mb, mb = W3.heap.size := ⟨_, rfl⟩
    rw [← hmb] at hM4 hmz4 hW3 hwb hbm3 hwz ⊢
    clear hB hf km krr sP hsw ka
    replace hM4 := gi hM4; replace sQ := gi sQ; replace hs4 := gi hs4; replace hB3 := gi hB3; replace hf3 := gi hf3; replace km3 := gi km3; replace ka4 := gi ka4; replace hmb := gi hmb
    obtain ⟨v0, v1, v2, v3, vl⟩ := g4l ka4.out
    go_wp2_with fail
    clear v0 v1 v2 v3 vl
    go_loopw [23] (fun i wr => ∃ j : Nat, i = .int .i64 j ∧ j ≤ A.es.length ∧ qaR prV (Value.int .i64) wr mb (edM (A.es.take j)) ∧ Fr (fun q => q = mb) W4 wr) (fun i _ => A.es.length - (intOf i).toNat)
    case atStart => exact ⟨0, rfl, by omega, by rw [List.take_zero]; exact hM4.out, Fr.refl _ _⟩
    case round =>
     obtain ⟨j, rfl, hj, hM, hfj⟩ := hrel
     by_cases hje : j < A.es.length
     · have hst := qk9 hje
       obtain ⟨b2, o2, rfl, hbl2, z0, z1, z2⟩ := hndk.out j hje wr (hs4.out.trans hfj (fun i hi e => by have h1 : i = mb := e; omega))
       generalize A.es[j] = e3 at *
       replace hM := gi hM; replace hfj := gi hfj; replace hst := gi hst
       go_upto_region 9 with fail
       have kx := gv wr (.cells #[.int .i64 e3.1, .int .i64 e3.2.1, .int .i64 e3.2.2] 57)
       have sR : qad wr (wr.alloc (.cells #[.int .i64 e3.1, .int .i64 e3.2.1, .int .i64 e3.2.2] 57)) := fs2
       have hM5 := hM.out.of_block (sR.block mb hM.out.lt id)
       have hf5 := hfj.out.same sR
       generalize wr.alloc (.cells #[.int .i64 e3.1, .int .i64 e3.2.1, .int .i64 e3.2.2] 57) = W5 at *
       generalize wr.heap.size = bx at *
       clear z0 z1 z2 hbl2 hM hfj sR
       obtain ⟨x0, x1, x2, f0, f1, f2, xl⟩ := qar kx
       replace hM5 := gi hM5; replace hf5 := gi hf5; replace kx := gi kx
       go_wp2_with (at_mapUpdate; refine qbp rfl (.tmp 27) (.tmp 32) (.tmp 34) rfl key2 map2 mb _ rfl hM5.out (e3.1, e3.2.1) rfl e3.2.2 rfl ?_; intro ob hob; replace hob := gi hob)
       go_roundw
       case rel => exact ⟨j + 1, by go_num, by omega, by rw [hst.out]; exact hob.out, hf5.out.setObj _ _ (fun _ => rfl)⟩
       case measure => simp [intOf]; omega
     · obtain rfl : j = A.es.length := by omega
       rw [List.take_length] at hM
       have hs5 : qad W3 wr := sQ.out.trans hfj (fun i hi e => by have h1 : i = mb := e; have := hmb.out; omega)
       have hB5 := hB3.out.same hs5
       have hf6 := hf3.out.same hs5
       have km5 := hs5.at km3.out id
       have hz5 : W2.heap.size ≤ wr.heap.size := by have := hs5.size; have := hmb.out; omega
       obtain ⟨q0, q1, q2⟩ := g3 km5
       have ff0 := qak km5 0
       have ff1 := qak km5 1
       have ff2 := qak km5 2
       have ql := gu km5
       replace hM := gi hM; replace hfj := gi hfj; replace hs5 := gi hs5; replace hB5 := gi hB5; replace hf6 := gi hf6; replace km5 := gi km5
       clear sQ hs4 hB3 hf3 km3 ka4
       go_wp2_with (at_builtin; generalize hQQ : @wpList = QQ)
       subst hQQ
       refine qai rfl (.tmp 37) (.tmp 39) 70 rfl W2.heap.size 102 i4 (.map none) 1 8 Tryz.underlying70 hi4 hi4z hi4s hi4b rfl (by decide) (by decide) a k c (mbs.map fun b => Value.map (some b)) rfl (qag hB5.out.own fs2) (by omega) wr.heap.size [.map (some mb)] rfl rfl (gv _ _) (by simp [Value.oneCell']) (by simp; omega) ?_
       intro a9 c9 w9 ho9 hG9
       have sA : qad wr (wr.alloc (.cells #[.map (some mb)] 102)) := fs2
       have hBA := hB5.out.same sA
       have hMA := hM.out.of_block (sA.block mb hM.out.lt id)
       have kmA := sA.at km5.out id
       have hB9 := GR.out _ _ a9 c9 mb hBA hMA hwb ho9 hG9
       have hf9 := (hf6.out.same sA).trans hG9.1 (fun i hi e => by
        rcases e with e | e
        · have h1 := (hB5.out.own.lt i e).1
          omega
        · exact e.elim)
       have km9 := hG9.1.at kmA (fun e => by
        rcases e with e | e
        · obtain ⟨cur, e1⟩ := qaj hBA.own e
          rw [e1] at kmA
          simp at kmA
        · exact e)
       clear q0 q1 q2 ff0 ff1 ff2 ql ho9 hG9 sA hBA hMA kmA
       obtain ⟨q0, q1, q2⟩ := g3 km9
       have ff0 := qak km9 0
       have ff1 := qak km9 1
       have ff2 := qak km9 2
       have ql := gu km9
       replace hB9 := gi hB9; replace hf9 := gi hf9; replace km9 := gi km9
       go_wp2_with fail
       have hS : Fr (fun q => q = bm) w9 (w9.setCell ⟨bm, 2, none⟩ (.slice a9 (k + 1) c9)) := (Fr.refl _ _).setCell _ _ (fun _ => rfl)
       go_roundw
       case rel => exact ⟨k + 1, a9, c9, mbs ++ [mb], by go_num, by omega, by rw [qaf km9.out 2 (.slice a9 (k + 1) c9)]; rfl, hB9.out.bx km9.out (by decide) hS, hf9.out.trans hS (fun i hi e => e)⟩
       case measure => simp [intOf]; omega
  · obtain rfl : k = As.length := by omega
    obtain ⟨q0, q1, q2, ql⟩ := g3l km
    obtain ⟨p0, p1, p2⟩ := g3 krr
    have f0 := qak krr 0
    have f1 := qak krr 1
    have f2 := qak krr 2
    have pl := gu krr
    have hV3 : qaa wr 3 1 (.slice aV V.length cV) V.length (gw V) := hV2.out.fr hf (fun q cur hq e => by
     rw [show q = bm from e, kn.out] at hq
     simp at hq)
    replace hB := gi hB; replace hf := gi hf; replace hsw := gi hsw; replace krr := gi krr; replace km := gi km; replace hV3 := gi hV3
    go_wp2_with fail
    obtain ⟨k3, f3⟩ := qcA (u0 := .slice aA As.length cA) (u1 := .slice aV V.length cV) (u2 := .slice a As.length c) krr.out
    have hs9 := hsw.out.trans f3 (fun i hi e => by have : i = br := e; have := hbr.out; omega)
    have hV9 := hV3.out.fr f3 (fun q cur hq e => by
     rw [show q = br from e, krr.out] at hq
     simp at hq)
    have hB9 := (hB.out.at rfl).bx krr.out (by decide) f3
    generalize ((wr.setCell ⟨br, 0, none⟩ (.slice aA As.length cA)).setCell ⟨br, 1, none⟩ (.slice aV V.length cV)).setCell ⟨br, 2, none⟩ (.slice a As.length c) = W9 at *
    obtain ⟨d0, d1, d2⟩ := g3 k3
    refine bodyPost_ret (v := .agg #[.slice aA As.length cA, .slice aV V.length cV, .slice a As.length c]) (by simp [results, Tryz.results25, go_sem, d0, d1, d2]) rfl ?_
    exact ⟨aV, cV, a, c, mbs, rfl, hV9, hB9, hs9⟩
end Go.Proofs.YticcpnekjddanaaGreatDoor
