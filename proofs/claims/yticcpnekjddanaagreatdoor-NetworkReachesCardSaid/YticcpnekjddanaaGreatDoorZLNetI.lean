/-  -/
import Derived.Test.YticcpnekjddanaaGreatDoorZGrpW
import Derived.Shelf.Spec.SlicesInsertGrow
set_option linter.unusedVariables false
set_option linter.unusedSimpArgs false
namespace Go.Proofs.YticcpnekjddanaaGreatDoor
open Go.RowKit
theorem qk3 (r : List Int) (v : Int) (q : Nat) (base : Option Addr) (cap vb : Nat) (w : World) (hq : r.length = q) (hnil : base = none → q = 0) (hqc : q ≤ cap) (hroom : cap < q + 1) (hq9 : q ≤ 1000)
 (hcs : ∀ a, base = some a → ∀ j u, (gw r)[j]? = some u → w.cell? (a.add j) = some u) (hv : w.heap[vb]? = some (.cells #[.int .i64 v] 3 (0, 0))) :
 Calls Tryz.prog 23 #[.slice base q cap, .int .i64 q, .slice (some ⟨vb, 0, none⟩) 1 1] w fun e w' =>
  ∃ g c, e = .returned (.slice (some ⟨g, 0, none⟩) (q + 1) c) ∧ w.heap.size ≤ g ∧ qc3 w' w.heap.size g c (r.take q ++ v :: r.drop q) ∧ qad w w' := by
 subst hq
 have hvc := gn hv 0
 refine (Tryz.slices_Insert_int_end_grow base r.length cap vb 0 1 1 (gw r) [.int .i64 v] w (by omega) hqc hroom (by omega) (by simp [gw]) rfl hnil hcs (fun j u hu => ?_) (fun u hu => ?_)).mono ?_
 · match j, hu with
   | 0, hu => simp at hu; subst hu; exact hvc
 · simp [gw] at hu
   rcases hu with ⟨x, _, rfl⟩ | rfl <;> rfl
 · rintro e w' ⟨rfl, rfl⟩
   have hge := grownCap_ge w (r.length + 1) cap 3
   have hle := grownCap_le_maxLen w (r.length + 1) cap 3 (by unfold maxLen; omega)
   refine ⟨w.heap.size, grownCap w (r.length + 1) cap 3, rfl, Nat.le_refl _, ⟨Nat.le_refl _, _, gv w.drew _, by simp; omega, hle, ?_, ?_⟩, fs2⟩
   · simp [Builtin.zeroCells, gw, Value.cells]
     omega
   · simp [gw, List.take_append]
     rw [List.take_of_length_le (by simp)]
theorem qpJ (r : List Int) (v : Int) (i q : Nat) (b cap vb : Nat) (w : World) (hq : r.length = q) (hi : i < q) (hqc : q ≤ cap) (hroom : cap < q + 1) (hq9 : q ≤ 1000)
 (hcs : ∀ j u, (gw r)[j]? = some u → w.cell? ⟨b, 0 + j, none⟩ = some u) (hv : w.heap[vb]? = some (.cells #[.int .i64 v] 3 (0, 0))) :
 Calls Tryz.prog 23 #[.slice (some ⟨b, 0, none⟩) q cap, .int .i64 i, .slice (some ⟨vb, 0, none⟩) 1 1] w fun e w' =>
  ∃ g c, e = .returned (.slice (some ⟨g, 0, none⟩) (q + 1) c) ∧ w.heap.size ≤ g ∧ qc3 w' w.heap.size g c (r.take i ++ v :: r.drop i) ∧ qad w w' := by
 subst hq
 have hvc := gn hv 0
 have hlen : (r.take i ++ v :: r.drop i).length = r.length + 1 := by simp; omega
 have hvs : ∀ j u, [Value.int .i64 v][j]? = some u → w.cell? ⟨vb, 0 + j, none⟩ = some u := fun j u hu => by
  match j, hu with
  | 0, hu => simp at hu; subst hu; exact hvc
 have h1c : ∀ u ∈ gw r, u.oneCell' = true := fun u hu => by simp [gw] at hu; obtain ⟨x, _, rfl⟩ := hu; rfl
 have h1v : ∀ u ∈ [Value.int .i64 v], u.oneCell' = true := fun u hu => by simp at hu; subst hu; rfl
 have hge := grownCap_ge w (r.length + 1) cap 3
 have hle := grownCap_le_maxLen w (r.length + 1) cap 3 (by unfold maxLen; omega)
 have H : Calls Tryz.prog 23 #[.slice (some ⟨b, 0, none⟩) r.length cap, .int .i64 i, .slice (some ⟨vb, 0, none⟩) 1 1] w fun e w' =>
  e = .returned (.slice (some ⟨w.heap.size, 0, none⟩) (r.length + 1) (grownCap w (r.length + 1) cap 3)) ∧
  w' = (((w.alloc (.cells (((gw r).take i).toArray ++ Builtin.zeroCells (Value.int .i64 0).cells (r.length + 1 - i) ++ Builtin.zeroCells (Value.int .i64 0).cells (grownCap w (r.length + 1) cap 3 - (r.length + 1))) 3)).drew.setCells w.heap.size i [Value.int .i64 v]).drew).setCells w.heap.size (i + 1) ((gw r).drop i) :=
  Any2.slices_Insert_int_grow Tryz.laysNm221 b 0 r.length cap i vb 0 1 1 (gw r) [.int .i64 v] w hi (by omega) hqc hroom (by omega) (by simp [gw]) rfl hcs hvs h1c h1v
 refine H.mono ?_
 clear H
 rintro e w' ⟨rfl, rfl⟩
 generalize grownCap w (r.length + 1) cap 3 = G at *
 obtain ⟨C, hC⟩ : ∃ C, C = ((gw r).take i).toArray ++ Builtin.zeroCells (Value.int .i64 0).cells (r.length + 1 - i) ++ Builtin.zeroCells (Value.int .i64 0).cells (G - (r.length + 1)) := ⟨_, rfl⟩
 rw [← hC]
 have hCs : C.size = G := by
  rw [hC]
  simp [Builtin.zeroCells, gw, Value.cells]
  omega
 have hCj : ∀ j, j < i → C[j]? = some (.int .i64 (r.getD j 0)) := fun j hj => by
  rw [hC, Array.append_assoc, Array.getElem?_append_left (by simp [gw]; omega)]
  simp only [List.getElem?_toArray]
  rw [List.getElem?_take_of_lt hj]
  exact qbf r j (by omega)
 clear hC
 obtain ⟨g, hg⟩ : ∃ g, g = w.heap.size := ⟨_, rfl⟩
 have k0 : (w.alloc (.cells C 3)).drew.heap[g]? = some (.cells C 3 (0, 0)) := by rw [hg]; exact gv w (.cells C 3)
 have F0 : qad w (w.alloc (.cells C 3)).drew := fs2
 rw [← hg]
 generalize (w.alloc (.cells C 3)).drew = W0 at *
 obtain ⟨c1, k1, s1⟩ := qbv g [.int .i64 v] i W0 C _ _ k0
 obtain ⟨c2, k2, s2⟩ := qbv g ((gw r).drop i) (i + 1) (W0.setCells g i [.int .i64 v]).drew c1 _ _ k1
 have hd : ((gw r).drop i).length = r.length - i := by simp [gw]
 have F1 : Fr (fun k => k = g) W0 (((W0.setCells g i [.int .i64 v]).drew).setCells g (i + 1) ((gw r).drop i)) :=
  ((qb0 g [.int .i64 v] i W0).drew).trans (qb0 g ((gw r).drop i) (i + 1) _) (fun _ _ h => h)
 refine ⟨g, G, rfl, by omega, qc3.of_cells (by omega) k2 (by omega) hle (by omega) (fun j hj => ?_), qkq F0 F1 (by omega)⟩
 rw [hlen] at hj
 have sp1 : ∀ j, j < [Value.int .i64 v].length → (W0.cell? ⟨g, i + j, none⟩).isSome = true := by
  intro j hj
  simp at hj
  subst hj
  rw [gn k0, Array.getElem?_eq_getElem (by omega)]
  rfl
 have sp2 : ∀ j, j < ((gw r).drop i).length → ((W0.setCells g i [.int .i64 v]).drew.cell? ⟨g, (i + 1) + j, none⟩).isSome = true := by
  intro j hj
  have k1' : (W0.setCells g i [.int .i64 v]).drew.heap[g]? = some (.cells c1 3 (0, 0)) := k1
  rw [gn k1', Array.getElem?_eq_getElem (by omega)]
  rfl
 rcases Nat.lt_trichotomy j i with h | h | h
 · rw [World.cell?_setCells_out g _ _ _ _ (fun _ _ => .inl (by simp; omega))]
   show (W0.setCells g i [.int .i64 v]).cell? _ = _
   rw [World.cell?_setCells_out g _ _ _ _ (fun _ _ => .inl (by simp; omega)), gn k0, hCj j h]
   simp [List.getElem_append_left, List.getD, show j < r.length by omega, h, show j < min i r.length by omega]
 · subst h
   rw [World.cell?_setCells_out g _ _ _ _ (fun _ _ => .inl (by simp <;> omega))]
   show (W0.setCells g j [.int .i64 v]).cell? _ = _
   have := World.cell?_setCells_in g [.int .i64 v] j _ sp1 0 (by simp)
   simp only [Nat.add_zero] at this
   rw [this]
   have hm : min j r.length = j := by omega
   simp [List.getElem_append_right, hm]
 · have := World.cell?_setCells_in g ((gw r).drop i) (i + 1) _ sp2 (j - (i + 1)) (by omega)
   rw [show i + 1 + (j - (i + 1)) = j by omega] at this
   rw [this, List.getElem_drop]
   have hm : min i r.length = i := by omega
   obtain ⟨m, rfl⟩ : ∃ m, j = i + 1 + m := ⟨j - (i + 1), by omega⟩
   have : (r.take i ++ v :: r.drop i)[i + 1 + m]'(by omega) = r[i + m]'(by omega) := by
    rw [List.getElem_append_right (by simp; omega)]
    simp only [List.length_take, hm]
    have e : i + 1 + m - i = m + 1 := by omega
    simp only [e, List.getElem_cons_succ, List.getElem_drop]
   rw [this]
   simp [gw, show i + 1 + m - (i + 1) = m by omega]
theorem qlV (r : List Int) (v : Int) (i q : Nat) (a : Option Addr) (cap base vb : Nat) (w : World) (hq : r.length = q) (hO : w.ownsRow base 3 1 (.slice a q cap) q (gw r)) (hb : base ≤ w.heap.size)
 (hv : w.heap[vb]? = some (.cells #[.int .i64 v] 3 (0, 0))) (hne : ∀ k, (Value.slice a q cap).ownBlock = some k → vb ≠ k) (hi : i ≤ q) (hq9 : q ≤ 1000) :
 Calls Tryz.prog 23 #[.slice a q cap, .int .i64 i, .slice (some ⟨vb, 0, none⟩) 1 1] w fun e w' =>
  ∃ a' c', e = .returned (.slice a' (q + 1) c') ∧ w'.ownsRow base 3 1 (.slice a' (q + 1) c') (q + 1) (gw (r.take i ++ v :: r.drop i)) ∧ Fr (fun k => (Value.slice a q cap).ownBlock = some k) w w' ∧ (∀ k, (Value.slice a' (q + 1) c').ownBlock = some k → (Value.slice a q cap).ownBlock = some k ∨ w.heap.size ≤ k) := by
 have hlen : (r.take i ++ v :: r.drop i).length = q + 1 := by simp; omega
 have wide : ∀ {w' : World}, qad w w' → Fr (fun k => (Value.slice a q cap).ownBlock = some k) w w' := fun h => (Fr.refl _ w).trans h (fun _ _ hf => hf.elim)
 have up : ∀ {w' : World} {g c : Nat} {l : List Int}, w.heap.size ≤ g → qc3 w' w.heap.size g c l → qc3 w' base g c l := fun hg h => ⟨by omega, h.2⟩
 rcases hO.2 with ⟨h1, h2⟩ | ⟨g, c0, cur, h1, h2, h3, h4, h5, h6, h7⟩
 · simp only [Value.slice.injEq] at h1
   obtain ⟨rfl, _, rfl⟩ := h1
   obtain rfl : i = 0 := by omega
   subst h2
   obtain rfl : r = [] := List.eq_nil_of_length_eq_zero hq
   refine (qk3 [] v 0 none 0 vb w rfl (fun _ => rfl) (by omega) (by omega) (by omega) (fun a h => by simp at h) hv).mono ?_
   rintro e w' ⟨g, c, rfl, hg, hO2, hs⟩
   exact ⟨_, c, rfl, (up hg hO2).owns hlen, wide hs, fun k hk => .inr (by simp only [Value.ownBlock, Option.some.injEq] at hk; omega)⟩
 · simp only [Value.slice.injEq] at h1
   obtain ⟨rfl, _, rfl⟩ := h1
   have hOI : qc3 w base g cap r := ⟨h2, cur, h3, by omega, h5, by omega, by rw [← hq] at h7; simpa using h7⟩
   have hcell : ∀ j u, (gw r)[j]? = some u → w.cell? ⟨g, 0 + j, none⟩ = some u := fun j u hu => by
    rw [Nat.zero_add, gn h3 j]
    have hj : j < q := by
     rcases Nat.lt_or_ge j r.length with h | h
     · omega
     · rw [List.getElem?_eq_none (by simpa [gw] using h)] at hu; cases hu
    have := congrArg (fun l => l[j]?) h7
    simp only [Nat.mul_one, List.getElem?_take_of_lt hj, Array.getElem?_toList] at this
    rw [this, hu]
   by_cases hroom : q + 1 ≤ cap
   · refine (qo3 r v i base g cap vb q w hq hOI hv (hne g rfl) hi hroom).mono ?_
     rintro e w' ⟨rfl, hO2, hF⟩
     exact ⟨_, cap, rfl, hO2.owns hlen, (Fr.refl _ w).trans hF (fun k _ e => by subst e; rfl), fun k hk => .inl hk⟩
   · by_cases hil : i < q
     · refine (qpJ r v i q g cap vb w hq hil h4 (by omega) hq9 hcell hv).mono ?_
       rintro e w' ⟨g', c, rfl, hg, hO2, hs⟩
       exact ⟨_, c, rfl, (up hg hO2).owns hlen, wide hs, fun k hk => .inr (by simp only [Value.ownBlock, Option.some.injEq] at hk; omega)⟩
     · obtain rfl : i = q := by omega
       refine (qk3 r v i (some ⟨g, 0, none⟩) cap vb w hq (by simp) h4 (by omega) hq9 (fun a h j u hu => ?_) hv).mono ?_
       · simp only [Option.some.injEq] at h
         subst h
         have := hcell j u hu
         by_cases hj0 : j = 0
         · subst hj0
           simpa [Addr.add] using this
         · simpa [Addr.add, hj0] using this
       · rintro e w' ⟨g', c, rfl, hg, hO2, hs⟩
         exact ⟨_, c, rfl, (up hg hO2).owns hlen, wide hs, fun k hk => .inr (by simp only [Value.ownBlock, Option.some.injEq] at hk; omega)⟩
end Go.Proofs.YticcpnekjddanaaGreatDoor
