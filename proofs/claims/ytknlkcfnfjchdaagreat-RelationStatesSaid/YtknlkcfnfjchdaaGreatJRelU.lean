/- package relation: Or of diagrams, closure, Forward, Backward walked. package relation: Pairs walked (errors first). package relation: an own row of pairs, sorted. package relation: Pairs' comparison; slices.SortFunc at pairs. -/
import Derived.Shelf.SlSortCmp.NoneTotal
import Derived.Shelf.SlicesG.Cmp
import Derived.Shelf.Lay
import Derived.Ground.SlsfProg
import Derived.Ground.SlgcProg
import Derived.Test.YtknlkcfnfjchdaaGreatJRelFp
import Derived.Sort.OwnSortedInts
namespace Go.Proofs.YtknlkcfnfjchdaaGreat
open Go.Shelf Go.RowKit Go.Lib Go.Sort
set_option linter.unusedVariables false
set_option linter.unusedSimpArgs false
end Go.Proofs.YtknlkcfnfjchdaaGreat
namespace Go.Proofs
open Go.Shelf
shelf_lay_g SlLaysF0.n6 Slsf 6 at Tryz 129 as Tryz.sortPr
shelf_lay_g SlLaysC2.n5 Slgc 5 at Tryz 170 as Tryz.cmpPr
end Go.Proofs
namespace Go.Proofs.YtknlkcfnfjchdaaGreat
open Go.Shelf Go.RowKit Go.Lib Go.Sort

/-- How two pairs compare. -/
def cmpP (x y : Nat × Nat) : Int := if Lib.compareInt x.1 y.1 ≠ 0 then Lib.compareInt x.1 y.1 else Lib.compareInt x.2 y.2
theorem cmp_int (x y : Int) (W : World) : Calls Tryz.prog 170 #[.int .i64 x, .int .i64 y] W fun e w' => e = .returned (.int .i64 (Lib.compareInt x y)) ∧ w' = W := AnyG.cmp_Compare_int Tryz.cmpPr x y W
set_option maxRecDepth 100000 in
set_option maxHeartbeats 1000000 in
theorem compare2 (x y : Nat × Nat) (b1 b2 : Nat) (W : World) (T : TypeId) (k1 : W.heap[b1]? = some (.cells #[.int .i64 x.1, .int .i64 x.2] T (0, 0))) (k2 : W.heap[b2]? = some (.cells #[.int .i64 y.1, .int .i64 y.2] T (0, 0))) :
    Calls Tryz.prog 131 #[.slice (some ⟨b1, 0, none⟩) 2 2, .slice (some ⟨b2, 0, none⟩) 2 2] W fun e w' => e = .returned (.int .i64 (cmpP x y)) ∧ w' = W := by
  have C1 := cmp_int x.1 y.1 W
  have C2 := cmp_int x.2 y.2 W
  obtain ⟨x0, x1⟩ := x
  obtain ⟨y0, y1⟩ := y
  unfold cmpP
  simp only at k1 k2 C1 C2 ⊢
  have c0 := cell_at k1 0
  have c1 := cell_at k1 1
  have d0 := cell_at k2 0
  have d1 := cell_at k2 1
  have l1 := lt_of_heap k1
  have l2 := lt_of_heap k2
  generalize Lib.compareInt x0 y0 = r0 at *
  generalize Lib.compareInt x1 y1 = r1 at *
  obtain ⟨R, hR⟩ : ∃ R : Int, R = if r0 ≠ 0 then r0 else r1 := ⟨_, rfl⟩
  rw [← hR]
  replace k1 := Lib.hid k1; replace k2 := Lib.hid k2; replace C1 := Lib.hid C1; replace C2 := Lib.hid C2; replace hR := Lib.hid hR
  go_enter Tryz.func131, Tryz.ntmps131
  go_wp2_with fail
  go_loopw [11] (fun i wr => (i = .int .i64 0 ∨ i = .int .i64 1 ∧ r0 = 0 ∨ i = .int .i64 2 ∧ r0 = 0 ∧ r1 = 0) ∧ wr = W) (fun i _ => 2 - (intOf i).toNat)
  case atStart => exact ⟨.inl rfl, rfl⟩
  case round =>
    obtain ⟨hi, rfl⟩ := hrel
    rcases hi with rfl | ⟨rfl, h0⟩ | ⟨rfl, h0, h1⟩
    · go_wp2_with fail
      refine (C1.out).mono ?_
      rintro e w1 ⟨rfl, rfl⟩
      by_cases h0 : r0 = 0
      · subst h0
        go_wp2_with fail
        go_roundw
        case rel => simp
        case measure => simp [intOf]
      · have h0' : (r0 == 0) = false := by simpa using h0
        obtain rfl : R = r0 := by rw [hR.out, if_pos h0]
        replace h0 := Lib.hid h0
        go_wp2_with fail
        go_ret
        exact ⟨rfl, rfl⟩
    · subst h0
      have hR2 : R = r1 := by rw [hR.out, if_neg (by simp)]
      subst hR2
      clear hR
      go_wp2_with fail
      refine (C2.out).mono ?_
      rintro e w1 ⟨rfl, rfl⟩
      by_cases h0 : R = 0
      · subst h0
        go_wp2_with fail
        go_roundw
        case rel => simp
        case measure => simp [intOf]
      · have h0' : (R == 0) = false := by simpa using h0
        replace h0 := Lib.hid h0
        go_wp2_with fail
        go_ret
        exact ⟨rfl, rfl⟩
    · subst h0 h1
      have hR2 : R = 0 := by rw [hR.out, if_neg (by simp)]
      subst hR2
      clear hR
      go_wp2_with fail
      go_ret
      exact ⟨rfl, rfl⟩

def encP (x : Nat × Nat) : List Value := [.int .i64 x.1, .int .i64 x.2]
set_option maxRecDepth 100000 in
set_option maxHeartbeats 1000000 in
theorem pairs2 (x y : Nat × Nat) (W : World) : Calls Tryz.prog 130 #[.agg #[.int .i64 x.1, .int .i64 x.2], .agg #[.int .i64 y.1, .int .i64 y.2]] W fun e w' => e = .returned (.int .i64 (cmpP x y)) ∧ ∃ q os', w' = grow (W.drewN q) os' := by
  have C := fun b1 b2 W h1 h2 => compare2 x y b1 b2 W 72 h1 h2
  obtain ⟨x0, x1⟩ := x
  obtain ⟨y0, y1⟩ := y
  simp only at C ⊢
  generalize cmpP (x0, x1) (y0, y1) = r at *
  replace C := Lib.hid C
  go_enter Tryz.func130, Tryz.ntmps130
  go_upto_region 1 with fail
  refine wp_region_sched (fun k => k = W.heap.size ∨ k = W.heap.size + 1) [0, 0, 3, 0] [0, 1, 2, 3] (by kernel_rfl) (by kernel_rfl) ?_
  repeat (first | (refine sched_w rfl rfl (fun _ hK => ?_); go_simp; refine hK _ ?_; clear hK) | (refine sched_s rfl rfl (fun _ hK => ?_); go_simp; first | (refine hK _ ?_; clear hK) | (refine ⟨_, fun _ => rfl, hK _ ?_⟩; clear hK)))
  have kx : ((W.alloc (.cells #[.int .i64 x0, .int .i64 x1] 72)).alloc (.cells #[.int .i64 y0, .int .i64 y1] 72)).drew.heap[W.heap.size]? = some (.cells #[.int .i64 x0, .int .i64 x1] 72 (0, 0)) := heap_old (heap_new _ _) _
  have ky : ((W.alloc (.cells #[.int .i64 x0, .int .i64 x1] 72)).alloc (.cells #[.int .i64 y0, .int .i64 y1] 72)).drew.heap[W.heap.size + 1]? = some (.cells #[.int .i64 y0, .int .i64 y1] 72 (0, 0)) := heap_new_at (by simp) _
  refine sched_l rfl (by decide) (fun _ hK => ?_); go_simp
  refine (C.out _ _ _ kx ky).mono ?_
  rintro e w1 ⟨rfl, rfl⟩
  refine hK _ _ ?_; clear hK; try simp only [Act.put, List.setIfInBounds_toArray, List.set_cons_zero, List.set_cons_succ]
  repeat (first | (refine sched_w rfl rfl (fun _ hK => ?_); go_simp; refine hK _ ?_; clear hK) | (refine sched_s rfl rfl (fun _ hK => ?_); go_simp; first | (refine hK _ ?_; clear hK) | (refine ⟨_, fun _ => rfl, hK _ ?_⟩; clear hK)))
  refine sched_nil (NoPanic.normal ?_)
  go_wp2_with fail
  go_ret
  refine ⟨rfl, 1, #[.cells #[.int .i64 x0, .int .i64 x1] 72, .cells #[.int .i64 y0, .int .i64 y1] 72], ?_⟩
  rw [alloc_eq_grow, alloc_eq_grow, grow_grow]
  rfl

instance lexDec (x y : Nat × Nat) : Decidable (lexB x y) := by unfold lexB; exact inferInstance
theorem cmpP_lt (x y : Nat × Nat) : ltOf cmpP x y = decide (lexB x y) := by
  unfold ltOf cmpP lexB Lib.compareInt
  by_cases h1 : (x.1 : Int) < y.1
  · have : x.1 < y.1 := by omega
    simp [this]
  · by_cases h2 : (y.1 : Int) < x.1
    · have h3 : y.1 < x.1 := by omega
      have h4 : ¬ x.1 < y.1 := by omega
      have h5 : x.1 ≠ y.1 := by omega
      simp [h3, h4, h5]
    · have h3 : x.1 = y.1 := by omega
      by_cases h4 : x.2 < y.2
      · simp [h3, h4]
      · by_cases h5 : y.2 < x.2
        · simp [h3, h4, h5]
        · simp [h3, h4, h5]
theorem cmpP_swo : SWO (ltOf cmpP) where
  irrefl x := by rw [cmpP_lt]; simp [lexB]
  trans x y z h1 h2 := by rw [cmpP_lt] at *; simp only [decide_eq_true_eq] at *; unfold lexB at *; omega
  ntrans x y z h1 h2 := by rw [cmpP_lt] at *; simp only [decide_eq_false_iff_not] at *; unfold lexB at *; omega
theorem enter_Pr2 (args : Array Value) (W : World) : (callFunc 130 args).run Tryz.prog W = .ok (.enter 130 args) W := by kernel_rfl
theorem cmpP_lays (blk off size : Nat) (w : World) : CmpLays Tryz.prog 130 #[] encP 2 cmpP blk off size w := fun _ _ _ _ x y => pairs2 x y _
theorem aggP : ∀ w, (isAgg 72).run Tryz.prog w = .ok true w := by intro w; kernel_rfl
theorem sizP : ∀ w, (Go.sizeOf 72).run Tryz.prog w = .ok 2 w := by intro w; kernel_rfl
theorem sort_pairs (blk off cap : Nat) (d : Array (Nat × Nat)) (w : World) (hH : HoldsK encP 2 w blk off d) (hblk : blk < w.heap.size) (hsz : d.size < 1000000) :
    Calls Tryz.prog 129 #[.slice (some ⟨blk, off, none⟩) d.size cap, .func (.func 130) #[] #[]] w fun e w' =>
      e = .returned (.tuple #[]) ∧ ∃ n os, w' = sortWorldK encP 2 w blk off n (d.toList.mergeSort fun x y => !(ltOf cmpP) y x).toArray os :=
  AnyQ.slices_SortFunc_total Tryz.sortPr 2 aggP sizP encP (fun _ => rfl) (fun x v hv => by simp [encP] at hv; rcases hv with rfl | rfl <;> rfl) cmpP cmpP_swo 130 #[] blk off cap d w enter_Pr2 (cmpP_lays blk off d.size w) hH hblk (by omega)
    (fun x y h1 h2 => by
      rw [cmpP_lt] at h1 h2
      simp only [decide_eq_false_iff_not] at h1 h2; unfold lexB at h1 h2
      exact Prod.ext (by omega) (by omega))
theorem merge_prs {l : List (Nat × Nat)} {b : Nat} {p : Nat → Nat → Bool} (h : l.Perm (prsT b p)) : (l.mergeSort fun x y => !(ltOf cmpP) y x) = prsT b p := by
  have hs := List.pairwise_mergeSort (le := fun x y => !(ltOf cmpP) y x) (fun a b c h1 h2 => by
      rw [cmpP_lt] at *; simp only [Bool.not_eq_true', decide_eq_false_iff_not] at *; unfold lexB at *; omega) (fun a b => by
      rw [cmpP_lt, cmpP_lt]
      by_cases h1 : lexB b a
      · have : ¬ lexB a b := by unfold lexB at *; omega
        simp [this]
      · simp [h1]) l
  refine List.Perm.eq_of_pairwise (le := fun x y => (!(ltOf cmpP) y x) = true) (fun x y _ _ h1 h2 => ?_) hs ((prs_sorted b p).imp (fun {x y} h => ?_)) ((List.mergeSort_perm _ _).trans h)
  · rw [cmpP_lt] at h1 h2
    simp only [Bool.not_eq_true', decide_eq_false_iff_not] at h1 h2; unfold lexB at h1 h2
    exact Prod.ext (by omega) (by omega)
  · rw [cmpP_lt]
    simp only [Bool.not_eq_true', decide_eq_false_iff_not] at *; unfold lexB at *
    omega
end Go.Proofs.YtknlkcfnfjchdaaGreat
namespace Go.Proofs.YtknlkcfnfjchdaaGreat
open Go.Shelf Go.RowKit Go.Lib Go.Sort
set_option linter.unusedVariables false
set_option linter.unusedSimpArgs false

theorem prC_get : ∀ (l : List (Nat × Nat)) (j : Nat), j < l.length * 2 → (prC l)[j]? = (encP (l[j / 2]!))[j % 2]?
  | [], j, h => by simp at h
  | p :: l, 0, h => by simp [prC, encP]
  | p :: l, 1, h => by simp [prC, encP]
  | p :: l, j + 2, h => by
    have ih := prC_get l j (by simp at h; omega)
    have e1 : (j + 2) / 2 = j / 2 + 1 := by omega
    have e2 : (j + 2) % 2 = j % 2 := by omega
    rw [e1, e2]
    simpa [prC] using ih
theorem flat_prC (l : List (Nat × Nat)) : (flatK encP 2 l.toArray).toList = prC l := by
  refine List.ext_getElem? (fun j => ?_)
  by_cases hj : j < l.length * 2
  · rw [prC_get l j hj, Array.getElem?_toList]
    have h2 : j % 2 < 2 := Nat.mod_lt _ (by omega)
    have h3 : j / 2 < l.length := by omega
    simp only [flatK, List.size_toArray, Array.getElem?_map, Array.getElem?_range, hj, if_true, Option.map_some]
    rcases (show j % 2 = 0 ∨ j % 2 = 1 by omega) with h | h <;> simp [h, encP, h3]
  · rw [List.getElem?_eq_none (by simp; omega), List.getElem?_eq_none (by rw [prC_len]; omega)]
theorem holds_flat {w : World} {g : Nat} {cur : Array Value} {e : TypeId} {l : List (Nat × Nat)} (hb : w.heap[g]? = some (.cells cur e (0, 0))) (ht : cur.toList.take (l.length * 2) = prC l) : HoldsK encP 2 w g 0 l.toArray := by
  intro j hj
  have hj' : j < l.length * 2 := by simpa using hj
  refine ⟨?_, by simp [World.frozen?, hb]⟩
  have h1 : (cur.toList.take (l.length * 2))[j]? = (flatK encP 2 l.toArray).toList[j]? := by rw [ht, flat_prC]
  rw [List.getElem?_take_of_lt hj'] at h1
  simp only [World.cell?, hb, Nat.zero_add]
  simp only [Option.isSome_none, Bool.false_eq_true, if_false]
  rw [← Array.getElem?_toList, h1, Array.getElem?_toList]
  simp [hj']
theorem heap_flat {w : World} {g n : Nat} {os : Array Obj} {cur : Array Value} {e : TypeId} (d : Array (Nat × Nat)) (hb : w.heap[g]? = some (.cells cur e (0, 0))) :
    (sortWorldK encP 2 w g 0 n d os).heap[g]? = some (.cells (putCells id 0 (flatK encP 2 d) cur) e (0, 0)) := by
  have hg : g < w.heap.size := (Array.getElem?_eq_some_iff.1 hb).1
  unfold sortWorldK putRowK
  rw [heap_grow_old _ _ (by simpa using hg)]
  simp [putRow, mapBlock, Sort.ahead, Array.getElem?_modify, hb, onCells]
theorem grown_flat {w : World} {g n : Nat} {os : Array Obj} (d : Array (Nat × Nat)) : w.grownBy (sortWorldK encP 2 w g 0 n d os) (some g) := by
  unfold sortWorldK putRowK
  refine ⟨rfl, rfl, rfl, by simp, fun k hk hne => ?_⟩
  rw [heap_grow_old _ _ (by simpa using hk)]
  have : g ≠ k := fun e => hne (by rw [e])
  simp [putRow, mapBlock, Sort.ahead, Array.getElem?_modify, this]
theorem take_flat (cur : Array Value) (l : List (Nat × Nat)) (h : l.length * 2 ≤ cur.size) : (putCells id 0 (flatK encP 2 l.toArray) cur).toList.take (l.length * 2) = prC l := by
  rw [← flat_prC]
  apply List.ext_getElem?
  intro j
  by_cases hj : j < l.length * 2
  · rw [List.getElem?_take_of_lt hj, Array.getElem?_toList, Array.getElem?_toList]
    simp [putCells, hj, show j < cur.size by omega]
  · rw [List.getElem?_take_eq_none (by omega), List.getElem?_eq_none (by simp; omega)]
set_option maxHeartbeats 1000000 in
theorem sortP_own (base : Nat) (l : List (Nat × Nat)) (a : Option Addr) (cap : Nat) (w : World) (h : w.ownsRow base 72 2 (.slice a l.length cap) l.length (prC l)) (hl : l.length < 1000000) :
    Calls Tryz.prog 129 #[.slice a l.length cap, .func (.func 130) #[] #[]] w fun e w' => e = .returned (.tuple #[]) ∧
      w'.ownsRow base 72 2 (.slice a l.length cap) l.length (prC (l.mergeSort fun x y => !(ltOf cmpP) y x)) ∧ Grew (fun _ => False) w w' (.slice a l.length cap) (.slice a l.length cap) := by
  rcases h.2 with ⟨hnil, hz⟩ | ⟨g, c, cur, he, hbase, hb, h1, h2, h3, h4⟩
  · simp only [Value.slice.injEq] at hnil
    obtain ⟨rfl, _, rfl⟩ := hnil
    have hz0 : l = [] := List.length_eq_zero_iff.1 hz
    subst hz0
    refine (show Calls Tryz.prog 129 _ w _ from AnyF.slices_SortFunc_none Tryz.sortPr none 0 (.func (.func 130) #[] #[]) w).mono ?_
    rintro e w' ⟨rfl, rfl⟩
    have e0 : (([] : List (Nat × Nat)).mergeSort fun x y => !(ltOf cmpP) y x) = [] := by simp
    rw [e0]
    exact ⟨rfl, h, Grew.refl _ _ _⟩
  · cases he
    refine (sort_pairs g 0 cap l.toArray w (holds_flat hb h4) (lt_of_heap hb) (by simpa using hl)).mono ?_
    rintro e w' ⟨rfl, n, os, rfl⟩
    have hml : (l.mergeSort fun x y => !(ltOf cmpP) y x).length = l.length := List.length_mergeSort _
    refine ⟨rfl, ⟨by simp [prC_len, hml], .inr ⟨g, cap, _, rfl, hbase, heap_flat _ hb, h1, h2, by simp [putCells, h3], ?_⟩⟩, (Fr.refl _ _).grown (grown_flat _) (fun k hk _ => .inl (by rw [← hk]; rfl)), fun k hk => .inl hk⟩
    rw [← hml]
    exact take_flat cur _ (by rw [hml, h3]; exact Nat.mul_le_mul_right 2 h1)
end Go.Proofs.YtknlkcfnfjchdaaGreat
namespace Go.Proofs.YtknlkcfnfjchdaaGreat
open Go.RowKit
set_option linter.unusedVariables false
set_option linter.unusedSimpArgs false

/-- What Pairs returns: the pairs in order, or an error. -/
def PaRet (w : World) (l : List (Nat × Nat)) (E : Int) (e : Ending) (w' : World) : Prop :=
  Same w w' ∧ ((E ≠ 0 ∧ e = .returned (.tuple #[.slice none 0 0, .int .i64 E])) ∨ (E = 0 ∧ ∃ a c, e = .returned (.tuple #[.slice a l.length c, .int .i64 0]) ∧ w'.ownsRow w.heap.size 72 2 (.slice a l.length c) l.length (prC l)))
def inDom (b n : Nat) (t : List Bool) : Bool := (posT t 0).all fun i => decide (ux b i < n) && decide (uy b i < n)
theorem inDom_iff {b n : Nat} {t : List Bool} (ht : t.length = 2 ^ (2 * b)) : inDom b n t = true ↔ ∀ i, i < 2 ^ (2 * b) → t.getD i false = true → ux b i < n ∧ uy b i < n := by
  unfold inDom
  simp only [List.all_eq_true, Bool.and_eq_true, decide_eq_true_eq]
  constructor
  · intro h i hi hp
    exact h i ((posT_mem t 0 i).2 ⟨by omega, by omega, by simpa using hp⟩)
  · intro h i hi
    obtain ⟨_, h2, h3⟩ := (posT_mem t 0 i).1 hi
    exact h i (by omega) (by simpa using h3)
theorem dom_eq {b n : Nat} {t : List Bool} (ht : t.length = 2 ^ (2 * b)) : tbF (2 * b) (fun i => t.getD i false && (decide (ux b i < n) && decide (uy b i < n))) = t ↔ inDom b n t = true := by
  rw [inDom_iff ht]
  constructor
  · intro h i hi hp
    have := tbF_get (2 * b) (fun i => t.getD i false && (decide (ux b i < n) && decide (uy b i < n))) hi
    rw [h, hp] at this
    simpa using this.symm
  · intro h
    refine ext_getD (tbF_len _ _) ht (fun i hi => ?_)
    rw [tbF_get _ _ hi]
    by_cases hp : t.getD i false = true
    · obtain ⟨h1, h2⟩ := h i hi hp
      simp [hp, h1, h2]
    · have : t.getD i false = false := by simpa using hp
      rw [this, Bool.false_and]
theorem dom_prs {b n : Nat} {t : List Bool} (ht : t.length = 2 ^ (2 * b)) (hn : n ≤ 2 ^ b) (h : inDom b n t = true) : prsT (2 ^ b) (fun x y => t.getD (wv b x y) false) = prsT n (fun x y => t.getD (wv b x y) false) :=
  prs_dom hn (fun x y hx hy hp => by
    have := (inDom_iff ht).1 h _ (wv_lt b x y) hp
    rw [ux_wv _ _ _ hx, uy_wv _ _ _ hy] at this
    exact this)
set_option maxRecDepth 100000 in
set_option maxHeartbeats 1000000 in
theorem Pairs_bad {n : Int} (hn : n < 0 ∨ 4096 < n) (d : Dg) (w : World) : Calls Tryz.prog 60 #[.int .i64 n, .agg #[.int .i64 d.n, .slice d.a d.L.length d.cap, .int .i64 d.r]] w (PaRet w [] 2) := by
  have CC := fun W => cc_bad hn W
  replace CC := Lib.hid CC
  go_enter Tryz.func60, Tryz.ntmps60
  go_wp2_with fail
  refine (CC.out _).mono ?_
  rintro e w1 ⟨rfl, rfl⟩
  go_wp2_with fail
  go_ret2
  exact ⟨(by repeat (first | exact Fr.refl _ _ | apply Fr.alloc | apply Fr.drewN | apply Fr.drew | apply Fr.undrew | apply Fr.undrewN)), .inl ⟨by decide, rfl⟩⟩

set_option maxRecDepth 100000 in
set_option maxHeartbeats 2000000 in
theorem Pairs_size {n : Nat} (hn : n ≤ 4096) (d : Dg) (m : Nat) (t : List Bool) (w : World) (hat : d.at w) (T : d.tab m t) (hm : m ≠ 2 * bitsF n) : Calls Tryz.prog 60 #[.int .i64 n, .agg #[.int .i64 d.n, .slice d.a d.L.length d.cap, .int .i64 d.r]] w (PaRet w [] 4) := by
  have CC := fun W => cc_ok hn W
  have CK := fun W (hW : Same w W) => check_tab d m t W (SliceAt.same hat hW) T
  have BI := fun W => bits_any n W hn
  have h12 := bitsF_12 hn
  have e := T.1
  rw [Dg.v, e] at CK
  rw [e]
  clear T e hat
  generalize bitsF n = b at *
  have hmb : ((m : Int) == 2 * (b : Int)) = false := by simp; omega
  have hw : IntKind.i64.wrap (2 * (b : Int)) = 2 * (b : Int) := IntWalk.i64_in _ (by omega)
  replace CC := Lib.hid CC; replace CK := Lib.hid CK; replace BI := Lib.hid BI
  go_enter Tryz.func60, Tryz.ntmps60
  go_upto_region 1 with fail
  have kb := heap_new w (.cells #[.int .i64 m, .slice d.a d.L.length d.cap, .int .i64 d.r] 54)
  have hs : Same w (w.alloc (.cells #[.int .i64 m, .slice d.a d.L.length d.cap, .int .i64 d.r] 54)) := (by repeat (first | exact Fr.refl _ _ | apply Fr.alloc | apply Fr.drewN | apply Fr.drew | apply Fr.undrew | apply Fr.undrewN))
  generalize w.alloc (.cells #[.int .i64 m, .slice d.a d.L.length d.cap, .int .i64 d.r] 54) = W0 at *
  replace kb := Lib.hid kb; replace hs := Lib.hid hs
  go_wp2_with fail
  refine (CC.out _).mono ?_
  rintro e w1 ⟨rfl, rfl⟩
  have x0 := cell_at kb.out 0
  have x1 := cell_at kb.out 1
  have x2 := cell_at kb.out 2
  have xl := lt_of_heap kb.out
  go_wp2_with fail
  refine (CK.out _ hs.out).mono ?_
  rintro e w2 ⟨rfl, hs2⟩
  replace kb := Lib.hid (hs2.at kb.out id)
  have hs2 := hs.out.same hs2
  clear x0 x1 x2 xl
  replace hs2 := Lib.hid hs2
  go_wp2_with fail
  refine (BI.out _).mono ?_
  rintro e w3 ⟨rfl, hs3⟩
  replace kb := Lib.hid (hs3.at kb.out id)
  have hs3 := hs2.out.same hs3
  replace hs3 := Lib.hid hs3
  go_upto_region 8 with fail
  have s4 : Same w3 (w3.alloc (.cells #[.int .i64 b] 3)) := (by repeat (first | exact Fr.refl _ _ | apply Fr.alloc | apply Fr.drewN | apply Fr.drew | apply Fr.undrew | apply Fr.undrewN))
  have kv := heap_new w3 (.cells #[.int .i64 b] 3)
  replace kb := Lib.hid (s4.at kb.out id)
  have hs4 := hs3.out.same s4
  clear s4
  generalize w3.alloc (.cells #[.int .i64 b] 3) = W4 at *
  generalize w3.heap.size = bv at *
  replace kv := Lib.hid kv; replace hs4 := Lib.hid hs4
  have x0 := cell_at kb.out 0
  have x1 := cell_at kb.out 1
  have x2 := cell_at kb.out 2
  have xl := lt_of_heap kb.out
  have v0 := cell_at kv.out 0
  have vl := lt_of_heap kv.out
  go_wp2_with fail
  go_ret2
  exact ⟨hs4.out.same (by repeat (first | exact Fr.refl _ _ | apply Fr.alloc | apply Fr.drewN | apply Fr.drew | apply Fr.undrew | apply Fr.undrewN)), .inl ⟨by decide, rfl⟩⟩

theorem equal_dg {d d' : Dg} {m : Nat} {t t' : List Bool} {w : World} (hd : d.at w) (hd' : d'.at w) (T : d.tab m t) (T' : d'.tab m t') :
    Calls Tryz.prog 39 #[d.v, d'.v] w fun e w' => e = .returned (.bool (decide (t = t'))) ∧ Same w w' := by
  have h1 := T.2.short
  have h2 := T'.2.short
  have e1 := T.1
  have e2 := T'.1
  refine (equal_any d.n d'.n d.r d'.r d.a d'.a d.cap d'.cap d.L d'.L w hd hd' (by omega) (by omega)).mono ?_
  rintro e w' ⟨rfl, hs⟩
  refine ⟨?_, hs⟩
  congr 2
  rw [decide_eq_decide]
  constructor
  · rintro ⟨_, hr, hL⟩
    have h1 := T.2.ord.2.2
    have h2 := T'.2.ord.2.2
    rw [← h1, ← h2, hr, hL]
  · rintro rfl
    have h1 := T.2.eq
    have h2 := T'.2.eq
    rw [h1] at h2
    simp only [Prod.mk.injEq] at h2
    exact ⟨by rw [e1, e2], h2.2, h2.1⟩
theorem runP_short : ∀ (l done : List Nat), done.length + l.length ≤ 1024 → runP (fun dn _ => decide ((dn.length : Int) + 1 ≤ 1024)) done l = (done ++ l, true)
  | [], done, _ => by simp [runP]
  | x :: l, done, h => by
    have ih := runP_short l (done ++ [x]) (by simp at *; omega)
    have h1 : decide ((done.length : Int) + 1 ≤ 1024) = true := by simp at *; omega
    rw [runP, if_pos h1, ih]
    simp

set_option maxRecDepth 100000 in
set_option maxHeartbeats 4000000 in
theorem Pairs_ok {n : Nat} (hn : n ≤ 64) (d : Dg) (t : List Bool) (w : World) (hat : d.at w) (T : d.tab (2 * bitsF n) t) (hlen : (posT t 0).length ≤ 1024) :
    Calls Tryz.prog 60 #[.int .i64 n, .agg #[.int .i64 d.n, .slice d.a d.L.length d.cap, .int .i64 d.r]] w (PaRet w (prsT n fun x y => t.getD (wv (bitsF n) x y) false) (if inDom (bitsF n) n t then 0 else 2)) := by
  have hn4 : n ≤ 4096 := by omega
  have hb6 : bitsF n ≤ 6 := (bitsF_is hn4).bd hn
  have hnb := (bitsF_is hn4).le
  have hpw : 2 ^ (2 * bitsF n) ≤ 4096 := Nat.le_trans (Nat.pow_le_pow_right (by omega) (show 2 * bitsF n ≤ 12 by omega)) (by decide)
  have CC := fun W => cc_ok hn4 W
  have CK := fun W (hW : Same w W) => check_tab d (2 * bitsF n) t W (SliceAt.same hat hW) T
  have BI := fun W => bits_any n W hn4
  have DM := fun W => domain_any hn W
  have htl := T.2.len
  obtain ⟨hO, hV, hTb⟩ := T.2.ord
  have h0 := (topF_range hO.val hV).1
  have AN := fun (d' : Dg) (W : World) (hW : Same w W) (h1 : d'.at W) (T' : d'.tab (2 * bitsF n) (domT (bitsF n) n)) =>
    And_dg (n := 2 * bitsF n) (by omega) (SliceAt.same hat hW) h1 (p := fun i => t.getD i false) (by rw [← tbF_of htl]; exact T) T'
  have EQ := fun (d' : Dg) (W : World) (hW : Same w W) (h1 : d'.at W) (T' : d'.tab (2 * bitsF n) (tbF (2 * bitsF n) (fun i => t.getD i false && (decide (ux (bitsF n) i < n) && decide (uy (bitsF n) i < n))))) =>
    equal_dg h1 (SliceAt.same hat hW) T' T
  have hdq : decide (tbF (2 * bitsF n) (fun i => t.getD i false && (decide (ux (bitsF n) i < n) && decide (uy (bitsF n) i < n))) = t) = inDom (bitsF n) n t := by
    have := dom_eq (n := n) htl
    by_cases h : inDom (bitsF n) n t = true
    · rw [h, decide_eq_true (this.2 h)]
    · have h' : inDom (bitsF n) n t = false := by simpa using h
      rw [h', decide_eq_false (fun e => h (this.1 e))]
  rw [hdq] at EQ
  have EA := fun (base bl kn : Nat) (w0 W : World) (hkn : kn < base) (hbl' : w0.heap.size ≤ bl) (hba : w0.heap.size ≤ base) (hJ : PrJ d (bitsF n) base bl kn w0 [] (.slice none 0 0) W) =>
    each_any T (by omega) (F := 128) (cs := #[.pointer (some ⟨kn, 0, none⟩), .pointer (some ⟨bl, 0, none⟩)]) (P := fun dn _ => decide ((dn.length : Int) + 1 ≤ 1024)) (bl := bl) (J := PrJ d (bitsF n) base bl kn w0)
      ⟨enter_Pr1, fun done v x W hJ hx hl => pairs1 d (bitsF n) base bl kn w0 hb6 hkn hbl' hba done v x W hJ (by omega) hl, fun done v W W' h hs => h.same hs,
        fun done v W ⟨a, c, h1, h2, h3, h4, h5, h6, h7⟩ => ⟨lt_of_heap h2, fun k hk => by subst h1; obtain ⟨cur, hc⟩ := own_block h3 hk; exact lt_of_heap hc⟩,
        fun done v W ⟨a, c, h1, h2, h3, h4, h5, h6, h7⟩ => h5⟩ (2 * bitsF n) 0 d.r 0 [] (.slice none 0 0) W (by omega) hV h0 (by simp) (by simp) hJ
  rw [show ((0 : Nat) : Int) = 0 from rfl, hTb, Nat.zero_mul] at EA
  have hR := runP_short (posT t 0) [] (by simpa using hlen)
  have hdt : ∀ W, Same w W → d.at W := fun W hW => SliceAt.same hat hW
  have hperm := prs_perm (bitsF n) htl
  have hdom := fun h => dom_prs (n := n) htl hnb h
  have e := T.1
  rw [Dg.v, e] at CK
  simp only [Dg.v] at AN EQ
  rw [e] at EA AN EQ ⊢
  clear hdq hpw
  obtain ⟨bb, hbb⟩ : ∃ b, b = inDom (bitsF n) n t := ⟨_, rfl⟩
  rw [← hbb] at EQ hdom ⊢
  obtain ⟨E, hE⟩ : ∃ E : Int, E = if bb then 0 else 2 := ⟨_, rfl⟩
  rw [← hE]
  clear hbb
  unfold domT at DM
  clear T e hat hO hV hTb h0 htl
  generalize posT t 0 = l at *
  obtain ⟨m, hm⟩ : ∃ m, m = 2 * bitsF n := ⟨_, rfl⟩
  obtain ⟨prs, hprs⟩ : ∃ x, x = prsT n (fun x y => t.getD (wv (bitsF n) x y) false) := ⟨_, rfl⟩
  have hdom' : bb = true → ((l.map fun i => (ux (bitsF n) i, uy (bitsF n) i)).mergeSort fun x y => !(ltOf cmpP) y x) = prs := fun h => by rw [merge_prs hperm, hdom h, hprs]
  rw [← hprs]
  simp only [domT] at AN
  rw [← hm] at DM AN EQ EA CK ⊢
  have hw : IntKind.i64.wrap (2 * ((bitsF n : Nat) : Int)) = (m : Int) := by rw [IntWalk.i64_in _ (by omega)]; omega
  clear hperm hdom hprs
  generalize tbF m (fun i => t.getD i false && (decide (ux (bitsF n) i < n) && decide (uy (bitsF n) i < n))) = TB at *
  generalize tbF m (fun i => decide (ux (bitsF n) i < n) && decide (uy (bitsF n) i < n)) = TD at *
  generalize bitsF n = b at *
  have hmb : ((m : Int) == (m : Int)) = true := by simp
  obtain ⟨a, ha⟩ : ∃ a, a = d.a := ⟨_, rfl⟩
  obtain ⟨cap, hcap⟩ : ∃ a, a = d.cap := ⟨_, rfl⟩
  obtain ⟨q, hq⟩ : ∃ a, a = d.L.length := ⟨_, rfl⟩
  obtain ⟨r, hr⟩ : ∃ a, a = d.r := ⟨_, rfl⟩
  rw [← ha, ← hcap, ← hq, ← hr] at CK EA AN EQ ⊢
  clear ha hcap hq hr
  replace CC := Lib.hid CC; replace CK := Lib.hid CK; replace BI := Lib.hid BI; replace DM := Lib.hid DM; replace AN := Lib.hid AN; replace EQ := Lib.hid EQ; replace EA := Lib.hid EA; replace hR := Lib.hid hR; replace hdt := Lib.hid hdt; replace hE := Lib.hid hE; replace hdom' := Lib.hid hdom'; replace hm := Lib.hid hm
  go_enter Tryz.func60, Tryz.ntmps60
  go_upto_region 1 with fail
  have kb := heap_new w (.cells #[.int .i64 m, .slice a q cap, .int .i64 r] 54)
  have hs : Same w (w.alloc (.cells #[.int .i64 m, .slice a q cap, .int .i64 r] 54)) := (by repeat (first | exact Fr.refl _ _ | apply Fr.alloc | apply Fr.drewN | apply Fr.drew | apply Fr.undrew | apply Fr.undrewN))
  have hz : (w.alloc (.cells #[.int .i64 m, .slice a q cap, .int .i64 r] 54)).heap.size = w.heap.size + 1 := by simp
  generalize w.alloc (.cells #[.int .i64 m, .slice a q cap, .int .i64 r] 54) = W0 at *
  replace kb := Lib.hid kb; replace hs := Lib.hid hs
  go_wp2_with fail
  refine (CC.out _).mono ?_
  rintro e w1 ⟨rfl, rfl⟩
  have x0 := cell_at kb.out 0
  have x1 := cell_at kb.out 1
  have x2 := cell_at kb.out 2
  have xl := lt_of_heap kb.out
  go_wp2_with fail
  refine (CK.out _ hs.out).mono ?_
  rintro e w2 ⟨rfl, hs2⟩
  replace kb := Lib.hid (hs2.at kb.out id)
  have hs2 := hs.out.same hs2
  clear x0 x1 x2 xl
  replace hs2 := Lib.hid hs2
  go_wp2_with fail
  refine (BI.out _).mono ?_
  rintro e w3 ⟨rfl, hs3⟩
  replace kb := Lib.hid (hs3.at kb.out id)
  have hs3 := hs2.out.same hs3
  replace hs3 := Lib.hid hs3
  go_upto_region 8 with fail
  have s4 : Same w3 (w3.alloc (.cells #[.int .i64 b] 3)) := (by repeat (first | exact Fr.refl _ _ | apply Fr.alloc | apply Fr.drewN | apply Fr.drew | apply Fr.undrew | apply Fr.undrewN))
  have kv := heap_new w3 (.cells #[.int .i64 b] 3)
  replace kb := Lib.hid (s4.at kb.out id)
  have hs4 := hs3.out.same s4
  have z3 := hs3.out.size
  have z4 : (w3.alloc (.cells #[.int .i64 b] 3)).heap.size = w3.heap.size + 1 := by simp
  clear s4
  generalize w3.alloc (.cells #[.int .i64 b] 3) = W4 at *
  generalize w3.heap.size = bv at *
  replace kv := Lib.hid kv; replace hs4 := Lib.hid hs4
  have x0 := cell_at kb.out 0
  have x1 := cell_at kb.out 1
  have x2 := cell_at kb.out 2
  have xl := lt_of_heap kb.out
  have v0 := cell_at kv.out 0
  have vl := lt_of_heap kv.out
  go_wp2_with fail
  refine (DM.out _).mono ?_
  intro e w5 hM
  obtain ⟨a1, c1, L1, r1, rfl, d1, t1, s5⟩ := hM.open
  clear x0 x1 x2 xl
  clear v0 vl
  replace kb := Lib.hid (s5.at kb.out id); replace kv := Lib.hid (s5.at kv.out id)
  have hs5 := hs4.out.same s5
  have z5 := s5.size
  replace d1 := Lib.hid d1; replace t1 := Lib.hid t1; replace hs5 := Lib.hid hs5
  clear hM s5
  go_upto_region 11 with fail
  have kd := heap_new w5 (.cells #[.int .i64 m, .slice a1 L1.length c1, .int .i64 r1] 54)
  have s6 : Same w5 (w5.alloc (.cells #[.int .i64 m, .slice a1 L1.length c1, .int .i64 r1] 54)) := (by repeat (first | exact Fr.refl _ _ | apply Fr.alloc | apply Fr.drewN | apply Fr.drew | apply Fr.undrew | apply Fr.undrewN))
  generalize w5.alloc (.cells #[.int .i64 m, .slice a1 L1.length c1, .int .i64 r1] 54) = W6 at *
  replace d1 := Lib.hid (d1.out.same s6); replace kb := Lib.hid (s6.at kb.out id); replace kv := Lib.hid (s6.at kv.out id)
  have hs6 := hs5.out.same s6
  have z6 := s6.size
  replace kd := Lib.hid kd; replace hs6 := Lib.hid hs6
  clear s6
  have x0 := cell_at kb.out 0
  have x1 := cell_at kb.out 1
  have x2 := cell_at kb.out 2
  have xl := lt_of_heap kb.out
  have y0 := cell_at kd.out 0
  have y1 := cell_at kd.out 1
  have y2 := cell_at kd.out 2
  have yl := lt_of_heap kd.out
  go_wp2_with fail
  refine (AN.out ⟨m, a1, c1, L1, r1⟩ _ hs6.out d1.out ⟨rfl, t1.out⟩).mono ?_
  intro e w7 hM
  obtain ⟨a2, c2, L2, r2, rfl, d2, t2, s7⟩ := hM.open
  clear x0 x1 x2 xl
  clear y0 y1 y2 yl
  replace kb := Lib.hid (s7.at kb.out id); replace kv := Lib.hid (s7.at kv.out id)
  have hs7 := hs6.out.same s7
  have z7 := s7.size
  replace d2 := Lib.hid d2; replace t2 := Lib.hid t2; replace hs7 := Lib.hid hs7
  clear hM s7 d1 t1 kd
  go_upto_region 14 with fail
  have kd := heap_new w7 (.cells #[.int .i64 m, .slice a2 L2.length c2, .int .i64 r2] 54)
  have s8 : Same w7 (w7.alloc (.cells #[.int .i64 m, .slice a2 L2.length c2, .int .i64 r2] 54)) := (by repeat (first | exact Fr.refl _ _ | apply Fr.alloc | apply Fr.drewN | apply Fr.drew | apply Fr.undrew | apply Fr.undrewN))
  generalize w7.alloc (.cells #[.int .i64 m, .slice a2 L2.length c2, .int .i64 r2] 54) = W8 at *
  replace d2 := Lib.hid (d2.out.same s8); replace kb := Lib.hid (s8.at kb.out id); replace kv := Lib.hid (s8.at kv.out id)
  have hs8 := hs7.out.same s8
  have z8 := s8.size
  replace kd := Lib.hid kd; replace hs8 := Lib.hid hs8
  clear s8
  have x0 := cell_at kb.out 0
  have x1 := cell_at kb.out 1
  have x2 := cell_at kb.out 2
  have xl := lt_of_heap kb.out
  have y0 := cell_at kd.out 0
  have y1 := cell_at kd.out 1
  have y2 := cell_at kd.out 2
  have yl := lt_of_heap kd.out
  go_wp2_with fail
  refine (EQ.out ⟨m, a2, c2, L2, r2⟩ _ hs8.out d2.out ⟨rfl, t2.out⟩).mono ?_
  rintro e w9 ⟨rfl, s9⟩
  clear x0 x1 x2 xl
  clear y0 y1 y2 yl
  replace kb := Lib.hid (s9.at kb.out id); replace kv := Lib.hid (s9.at kv.out id)
  have hs9 := hs8.out.same s9
  have z9 := s9.size
  replace hs9 := Lib.hid hs9
  clear s9 d2 t2 kd
  cases bb with
  | false =>
    have hE2 : E = 2 := hE.out
    replace hE2 := Lib.hid hE2
    go_wp2_with fail
    go_ret2
    obtain rfl := hE2.out
    exact ⟨hs9.out.same (by repeat (first | exact Fr.refl _ _ | apply Fr.alloc | apply Fr.drewN | apply Fr.drew | apply Fr.undrew | apply Fr.undrewN)), .inl ⟨by decide, rfl⟩⟩
  | true =>
    have hE0 : E = 0 := hE.out
    have hdl := hdom'.out rfl
    go_upto_region 19 with fail
    have kl := heap_new w9 (.cells #[.slice none 0 0] 101)
    have s10 : Same w9 (w9.alloc (.cells #[.slice none 0 0] 101)) := (by repeat (first | exact Fr.refl _ _ | apply Fr.alloc | apply Fr.drewN | apply Fr.drew | apply Fr.undrew | apply Fr.undrewN))
    have z10 : (w9.alloc (.cells #[.slice none 0 0] 101)).heap.size = w9.heap.size + 1 := by simp
    replace kb := Lib.hid (s10.at kb.out id); replace kv := Lib.hid (s10.at kv.out id)
    have hs10 := hs9.out.same s10
    clear s10
    generalize w9.alloc (.cells #[.slice none 0 0] 101) = W10 at *
    generalize w9.heap.size = bl at *
    have hJ : PrJ d b bv.succ bl bv w [] (.slice none 0 0) W10 := ⟨none, 0, rfl, kl, World.ownsRow_nil _ _ _ _, kv.out, hdt.out _ hs10, hs10, by omega⟩
    replace kl := Lib.hid kl; replace hs10 := Lib.hid hs10; replace hJ := Lib.hid hJ; replace hdl := Lib.hid hdl; replace hE0 := Lib.hid hE0
    have x0 := cell_at kb.out 0
    have x1 := cell_at kb.out 1
    have x2 := cell_at kb.out 2
    have xl := lt_of_heap kb.out
    have v0 := cell_at kv.out 0
    have vl := lt_of_heap kv.out
    have l0 := cell_at kl.out 0
    have ll := lt_of_heap kl.out
    go_wp2_with fail
    refine (EA.out _ _ _ _ _ (Nat.lt_succ_self _) (by omega) (by omega) hJ.out).mono ?_
    intro e w11 hM
    unfold EachR at hM
    rw [hR.out] at hM
    obtain ⟨rfl, v11, ⟨a11, c11, rfl, k11, o11, n11, d11, s11, z11⟩, hG⟩ := hM
    rw [List.nil_append] at k11 o11
    have o11 : w11.ownsRow w.heap.size 72 2 (.slice a11 l.length c11) l.length (prD b l) := owns_mono o11 (by omega)
    clear x0 x1 x2 xl
    clear v0 vl l0 ll n11 d11 hG
    have y0 := cell_at k11 0
    have yl := lt_of_heap k11
    have hbw := hs10.out.size
    have SR := sortP_own w.heap.size (l.map fun i => (ux b i, uy b i)) a11 c11 w11 (by simpa [prD] using o11) (by simp; omega)
    rw [List.length_map, hdl.out] at SR
    have hpl : prs.length = l.length := by rw [← hdl.out, List.length_mergeSort, List.length_map]
    replace k11 := Lib.hid k11; replace o11 := Lib.hid o11; replace s11 := Lib.hid s11; replace hJ := Lib.hid hJ; replace kl := Lib.hid kl; replace SR := Lib.hid SR; replace hpl := Lib.hid hpl
    go_wp2_with fail
    refine (SR.out).mono ?_
    rintro e w12 ⟨rfl, o12, hG⟩
    have hn12 : ¬ ((Value.slice a11 l.length c11).ownBlock = some bl ∨ False) := by
      rintro (h | h)
      · obtain ⟨cur, hc⟩ := own_block o11.out h
        rw [k11.out] at hc
        simp at hc
      · exact h
    have k12 := hG.1.at k11.out hn12
    have hs12 := grew_fresh s11.out hG (fun k hk => (o11.out.lt _ hk).1)
    clear y0 yl
    have y0 := cell_at k12 0
    have yl := lt_of_heap k12
    rw [← hpl.out] at o12
    replace k12 := Lib.hid k12; replace o12 := Lib.hid o12; replace hs12 := Lib.hid hs12; replace hG := Lib.hid hG
    go_wp2_with fail
    go_ret2
    rw [← hpl.out]
    exact ⟨hs12.out.same (by repeat (first | exact Fr.refl _ _ | apply Fr.alloc | apply Fr.drewN | apply Fr.drew | apply Fr.undrew | apply Fr.undrewN)), .inr ⟨hE0.out, a11, c11, rfl, owns_same o12.out (by repeat (first | exact Fr.refl _ _ | apply Fr.alloc | apply Fr.drewN | apply Fr.drew | apply Fr.undrew | apply Fr.undrewN))⟩⟩
end Go.Proofs.YtknlkcfnfjchdaaGreat
namespace Go.Proofs.YtknlkcfnfjchdaaGreat
open Go.RowKit
set_option linter.unusedVariables false
set_option linter.unusedSimpArgs false

theorem Or_tab {n : Nat} (hn : n ≤ 12) {d d' : Dg} {t u : List Bool} {w : World} (hd : d.at w) (hd' : d'.at w) (T : d.tab n t) (U : d'.tab n u) : Calls Tryz.prog 37 #[d.v, d'.v] w (DgN n (ite3 t (tru n) u) w) :=
  (or_right n d d' _ _ w hn hd hd' T U).mono fun e w' h => DRet.dgN h (IsTab.of hn (ite3_len T.2.len (tru_len n) U.2.len))

/-! ### the closure of a set, plain -/
def clS (b s : Nat) (r u : List Bool) : List Bool := ite3 u (tru b) (imT b s r u)
def clI (b s : Nat) (r u : List Bool) : Nat → List Bool
  | 0 => u
  | k + 1 => clS b s r (clI b s r u k)
theorem imT_len (b s : Nat) (r u : List Bool) : (imT b s r u).length = 2 ^ b := tbF_len _ _
theorem clS_len {b s : Nat} {r u : List Bool} (h : u.length = 2 ^ b) : (clS b s r u).length = 2 ^ b := ite3_len h (tru_len b) (imT_len _ _ _ _)
theorem clI_len {b s : Nat} {r u : List Bool} (h : u.length = 2 ^ b) : ∀ k, (clI b s r u k).length = 2 ^ b
  | 0 => h
  | k + 1 => clS_len (clI_len h k)
theorem clS_get {b s : Nat} {r u : List Bool} (h : u.length = 2 ^ b) {i : Nat} (hi : i < 2 ^ b) : (clS b s r u).getD i false = (u.getD i false || (imT b s r u).getD i false) := by
  unfold clS
  rw [ite3_get h (tru_len b) (imT_len _ _ _ _) hi, truG hi]
  cases u.getD i false <;> simp
theorem cntT_le : ∀ (s t : List Bool), s.length = t.length → (∀ i, s.getD i false = true → t.getD i false = true) → s.count true ≤ t.count true ∧ (s.count true = t.count true → s = t)
  | [], [], _, _ => by simp
  | [], y :: t, h, _ => by simp at h
  | x :: s, [], h, _ => by simp at h
  | x :: s, y :: t, h, hi => by
    have ih := cntT_le s t (by simpa using h) (fun i hx => by have := hi (i + 1); simpa using this (by simpa using hx))
    have h0 := hi 0
    simp only [List.getD_cons_zero] at h0
    cases x <;> cases y
    · simp only [List.count_cons] at *
      exact ⟨by simpa using ih.1, fun e => by rw [ih.2 (by simpa using e)]⟩
    · simp only [List.count_cons] at *
      refine ⟨by simp; omega, fun e => ?_⟩
      simp at e; omega
    · simp at h0
    · simp only [List.count_cons] at *
      exact ⟨by simpa using ih.1, fun e => by rw [ih.2 (by simpa using e)]⟩
theorem clI_cnt {b s : Nat} {r u : List Bool} (h : u.length = 2 ^ b) : ∀ k, (∀ j, j < k → clI b s r u j ≠ clI b s r u (j + 1)) → k ≤ (clI b s r u k).count true
  | 0, _ => Nat.zero_le _
  | k + 1, hne => by
    have ih := clI_cnt h k (fun j hj => hne j (by omega))
    have hl := clI_len (s := s) (r := r) h k
    have hc := cntT_le (clI b s r u k) (clI b s r u (k + 1)) (by rw [hl, clI_len h]) (fun i hi => by
      rcases Nat.lt_or_ge i (2 ^ b) with hb | hb
      · show (clS b s r (clI b s r u k)).getD i false = true
        rw [clS_get hl hb, hi, Bool.true_or]
      · rw [List.getD_eq_getElem?_getD, List.getElem?_eq_none (by omega)] at hi
        simp at hi)
    rcases Nat.lt_or_ge ((clI b s r u k).count true) ((clI b s r u (k + 1)).count true) with hlt | hge
    · omega
    · exact absurd (hc.2 (by omega)) (hne k (by omega))
theorem clI_bound {b s : Nat} {r u : List Bool} (h : u.length = 2 ^ b) {k : Nat} (hne : ∀ j, j < k → clI b s r u j ≠ clI b s r u (j + 1)) : k ≤ 2 ^ b := by
  have h1 := clI_cnt h k hne
  have h2 := List.count_le_length (a := true) (l := clI b s r u k)
  rw [clI_len h] at h2
  omega

/-! ### the walk -/
/-- What the loop keeps. -/
structure ClAt (w : World) (m b : Int) (ba bb bc : Nat) (ra : Option Addr) (rq rc : Nat) (rr : Int) (d : Dg) (W : World) : Prop where
  ka : W.heap[ba]? = some (.cells #[.int .i64 m, .slice ra rq rc, .int .i64 rr] 54 (0, 0))
  kb : W.heap[bb]? = some (.cells #[.int .i64 b, .slice d.a d.L.length d.cap, .int .i64 d.r] 54 (0, 0))
  kc : W.heap[bc]? = some (.cells #[.int .i64 0, .slice none 0 0, .int .i64 0] 54 (0, 0))
  same : Same w W
  at_ : d.at W
theorem ClAt.sm {w : World} {m b : Int} {ba bb bc : Nat} {ra : Option Addr} {rq rc : Nat} {rr : Int} {d : Dg} {W W' : World} (h : ClAt w m b ba bb bc ra rq rc rr d W) (hs : Same W W') : ClAt w m b ba bb bc ra rq rc rr d W' :=
  ⟨hs.at h.ka id, hs.at h.kb id, hs.at h.kc id, h.same.same hs, SliceAt.same h.at_ hs⟩
/-- The next set, stored. -/
theorem ClAt.next {w : World} {m b : Int} {ba bb bc : Nat} {ra : Option Addr} {rq rc : Nat} {rr : Int} {d d' : Dg} {W : World} (h : ClAt w m b ba bb bc ra rq rc rr d W) (hab : ba ≠ bb) (hcb : bc ≠ bb) (hw : w.heap.size ≤ bb) (hd : d'.at W) :
    ClAt w m b ba bb bc ra rq rc rr d' (((W.setCell ⟨bb, 0, none⟩ (.int .i64 b)).setCell ⟨bb, 1, none⟩ (.slice d'.a d'.L.length d'.cap)).setCell ⟨bb, 2, none⟩ (.int .i64 d'.r)) := by
  obtain ⟨k9, f9⟩ := box_dg (u0 := .int .i64 b) (u1 := .slice d'.a d'.L.length d'.cap) (u2 := .int .i64 d'.r) h.kb
  exact ⟨f9.at h.ka hab, k9, f9.at h.kc hcb, h.same.trans f9 (fun i hi e => by have : i = bb := e; omega), SliceAt.fr hd f9 (fun i cur hk' e => by rw [show i = bb from e, h.kb] at hk'; simp at hk')⟩

/-- The closure with its rounds. -/
def ClR (b s : Nat) (r u : List Bool) (w : World) (e : Ending) (w' : World) : Prop :=
  ∃ (d : Dg) (k : Nat), e = .returned (.tuple #[.agg #[.int .i64 d.n, .slice d.a d.L.length d.cap, .int .i64 d.r], .int .i64 k, .int .i64 0]) ∧ d.at w' ∧ d.tab b (clI b s r u k) ∧ clI b s r u (k + 1) = clI b s r u k ∧ (∀ j, j < k → clI b s r u j ≠ clI b s r u (j + 1)) ∧ Same w w'
def ClE (E : Int) (b s : Nat) (r u : List Bool) (w : World) (e : Ending) (w' : World) : Prop :=
  (E ≠ 0 ∧ e = .returned (.tuple #[.agg #[.int .i64 0, .slice none 0 0, .int .i64 0], .int .i64 0, .int .i64 E]) ∧ Same w w') ∨ (E = 0 ∧ ClR b s r u w e w')

set_option maxRecDepth 100000 in
set_option maxHeartbeats 8000000 in
theorem closure_any {m b s : Nat} (hs2 : s < 2) (hb6 : m = 2 * b → b ≤ 6) (dr df : Dg) (t u : List Bool) (w : World) (hr : dr.at w) (hf : df.at w) (T : dr.tab m t) (U : df.tab b u) :
    Calls Tryz.prog 148 #[.agg #[.int .i64 dr.n, .slice dr.a dr.L.length dr.cap, .int .i64 dr.r], .agg #[.int .i64 df.n, .slice df.a df.L.length df.cap, .int .i64 df.r], .int .i64 s] w (ClE (if m = 2 * b then 0 else 4) b s t u w) := by
  have hul := U.2.len
  have CB := fun W (hW : Same w W) => both_any dr df t u W (SliceAt.same hr hW) (SliceAt.same hf hW) T U
  have ST := fun (h : m = 2 * b) (d : Dg) (v : List Bool) W (hW : Same w W) (hd : d.at W) (hT : d.tab b v) => step_any (s := s) (hb6 h) hs2 dr d t v W (SliceAt.same hr hW) hd (h ▸ T) hT
  have OR := fun (h : m = 2 * b) (d d' : Dg) (v : List Bool) W (hd : d.at W) (hd' : d'.at W) (hT : d.tab b v) (hT' : d'.tab b (imT b s t v)) => Or_tab (n := b) (by have := hb6 h; omega) hd hd' hT hT'
  have EQ := fun (d d' : Dg) (v v' : List Bool) W (hd : d.at W) (hd' : d'.at W) (hT : d.tab b v) (hT' : d'.tab b v') => equal_dg hd hd' hT hT'
  have e1 : ∀ v, ite3 v (tru b) (imT b s t v) = clS b s t v := fun _ => rfl
  simp only [e1] at OR
  clear e1
  have hrn := T.1
  have hfn := U.1
  rw [hrn] at CB ST ⊢
  rw [hfn] at CB ⊢
  simp only [Dg.v] at OR EQ
  obtain ⟨df0, hdf⟩ : ∃ d : Dg, d = df := ⟨_, rfl⟩
  have hU0 : df0.tab b u := hdf ▸ U
  have hF0 : ∀ W, Same w W → df0.at W := fun W hW => hdf ▸ SliceAt.same hf hW
  rw [← hdf] at CB ⊢
  generalize dr.a = ra at *
  generalize dr.cap = rc at *
  generalize dr.r = rr at *
  generalize dr.L.length = rq at *
  obtain ⟨fa, hfa⟩ : ∃ x, x = df0.a := ⟨_, rfl⟩
  obtain ⟨fc, hfc⟩ : ∃ x, x = df0.cap := ⟨_, rfl⟩
  obtain ⟨fr, hfr⟩ : ∃ x, x = df0.r := ⟨_, rfl⟩
  obtain ⟨fq, hfq⟩ : ∃ x, x = df0.L.length := ⟨_, rfl⟩
  rw [← hfa, ← hfc, ← hfr, ← hfq] at CB ⊢
  obtain ⟨E, hE⟩ : ∃ E : Int, E = if m = 2 * b then 0 else 4 := ⟨_, rfl⟩
  rw [← hE] at CB ⊢
  clear T U hr hf hrn hfn hdf
  replace CB := Lib.hid CB; replace ST := Lib.hid ST; replace OR := Lib.hid OR; replace EQ := Lib.hid EQ; replace hb6 := Lib.hid hb6; replace hE := Lib.hid hE; replace hul := Lib.hid hul; replace hF0 := Lib.hid hF0; replace hU0 := Lib.hid hU0; replace hfa := Lib.hid hfa; replace hfc := Lib.hid hfc; replace hfr := Lib.hid hfr; replace hfq := Lib.hid hfq
  go_enter Tryz.func148, Tryz.ntmps148
  go_upto_region 1 with fail
  have ka := heap_old (heap_old (heap_new w (.cells #[.int .i64 m, .slice ra rq rc, .int .i64 rr] 54)) (.cells #[.int .i64 b, .slice fa fq fc, .int .i64 fr] 54)) (.cells #[.int .i64 0, .slice none 0 0, .int .i64 0] 54)
  have kb := heap_old (heap_new (w.alloc (.cells #[.int .i64 m, .slice ra rq rc, .int .i64 rr] 54)) (.cells #[.int .i64 b, .slice fa fq fc, .int .i64 fr] 54)) (.cells #[.int .i64 0, .slice none 0 0, .int .i64 0] 54)
  have kc := heap_new ((w.alloc (.cells #[.int .i64 m, .slice ra rq rc, .int .i64 rr] 54)).alloc (.cells #[.int .i64 b, .slice fa fq fc, .int .i64 fr] 54)) (.cells #[.int .i64 0, .slice none 0 0, .int .i64 0] 54)
  have hs : Same w (((w.alloc (.cells #[.int .i64 m, .slice ra rq rc, .int .i64 rr] 54)).alloc (.cells #[.int .i64 b, .slice fa fq fc, .int .i64 fr] 54)).alloc (.cells #[.int .i64 0, .slice none 0 0, .int .i64 0] 54)) := (by repeat (first | exact Fr.refl _ _ | apply Fr.alloc | apply Fr.drewN | apply Fr.drew | apply Fr.undrew | apply Fr.undrewN))
  have hz1 : (w.alloc (.cells #[.int .i64 m, .slice ra rq rc, .int .i64 rr] 54)).heap.size = w.heap.size + 1 := by simp
  have hz2 : ((w.alloc (.cells #[.int .i64 m, .slice ra rq rc, .int .i64 rr] 54)).alloc (.cells #[.int .i64 b, .slice fa fq fc, .int .i64 fr] 54)).heap.size = w.heap.size + 1 + 1 := by simp
  rw [hz1] at kb
  rw [hz2] at kc
  generalize ((w.alloc (.cells #[.int .i64 m, .slice ra rq rc, .int .i64 rr] 54)).alloc (.cells #[.int .i64 b, .slice fa fq fc, .int .i64 fr] 54)).alloc (.cells #[.int .i64 0, .slice none 0 0, .int .i64 0] 54) = W0 at *
  clear hz1 hz2
  replace ka := Lib.hid ka; replace kb := Lib.hid kb; replace kc := Lib.hid kc; replace hs := Lib.hid hs
  have x0 := cell_at ka.out 0
  have x1 := cell_at ka.out 1
  have x2 := cell_at ka.out 2
  have xl := lt_of_heap ka.out
  have y0 := cell_at kb.out 0
  have y1 := cell_at kb.out 1
  have y2 := cell_at kb.out 2
  have yl := lt_of_heap kb.out
  go_wp2_with fail
  refine (CB.out _ hs.out).mono ?_
  rintro e w1 ⟨rfl, s1⟩
  clear x0 x1 x2 xl
  clear y0 y1 y2 yl
  replace ka := Lib.hid (s1.at ka.out id); replace kb := Lib.hid (s1.at kb.out id); replace kc := Lib.hid (s1.at kc.out id)
  have hs1 := hs.out.same s1
  replace hs1 := Lib.hid hs1
  by_cases hmb : m = 2 * b
  · obtain rfl : E = 0 := by rw [hE.out, if_pos hmb]
    have hST := ST.out hmb
    have hOR := OR.out hmb
    have hb := hb6.out hmb
    have hbl := fun k => clI_bound (s := s) (r := t) hul.out (k := k)
    have hlen := fun k => clI_len (s := s) (r := t) hul.out k
    have hA0 : ClAt w m b w.heap.size (w.heap.size + 1) (w.heap.size + 1 + 1) ra rq rc rr df0 w1 := ⟨ka.out, by rw [← hfa.out, ← hfc.out, ← hfr.out, ← hfq.out]; exact kb.out, kc.out, hs1.out, hF0.out _ hs1.out⟩
    have hU := hU0.out
    replace hmb := Lib.hid hmb; replace hST := Lib.hid hST; replace hOR := Lib.hid hOR; replace hbl := Lib.hid hbl; replace hlen := Lib.hid hlen; replace hA0 := Lib.hid hA0; replace hU := Lib.hid hU
    clear ka kb kc hs1 hs
    go_upto_region 5 with fail
    go_loopw [10] (fun i wr => ∃ (k : Nat) (d : Dg), i = .int .i64 k ∧ ClAt w m b w.heap.size (w.heap.size + 1) (w.heap.size + 1 + 1) ra rq rc rr d wr ∧ d.tab b (clI b s t u k) ∧ (∀ j, j < k → clI b s t u j ≠ clI b s t u (j + 1))) (fun i _ => 2 ^ b + 1 - (intOf i).toNat)
    case atStart => exact ⟨0, df0, rfl, hA0.out, hU.out, fun j hj => by omega⟩
    case round =>
      obtain ⟨k, d, rfl, hA, hT, hne⟩ := hrel
      have hkb := hbl.out k hne
      have hp : 2 ^ b ≤ 2 ^ 6 := Nat.pow_le_pow_right (by omega) hb
      obtain ⟨dn, da, dc, dL, dr'⟩ := d
      obtain rfl : dn = (b : Int) := hT.1
      have ka := hA.ka
      have kb := hA.kb
      simp only at kb
      have hstep : clI b s t u (k + 1) = clS b s t (clI b s t u k) := rfl
      have hsz := hA.kc
      replace hsz := lt_of_heap hsz
      generalize hP : 2 ^ b = P at *
      clear hP
      obtain ⟨V, hVd⟩ : ∃ V, V = clI b s t u k := ⟨_, rfl⟩
      rw [← hVd] at hT hstep
      replace hA := Lib.hid hA; replace hT := Lib.hid hT; replace hne := Lib.hid hne; replace ka := Lib.hid ka; replace kb := Lib.hid kb; replace hstep := Lib.hid hstep; replace hVd := Lib.hid hVd
      have x0 := cell_at ka.out 0
      have x1 := cell_at ka.out 1
      have x2 := cell_at ka.out 2
      have xl := lt_of_heap ka.out
      have y0 := cell_at kb.out 0
      have y1 := cell_at kb.out 1
      have y2 := cell_at kb.out 2
      have yl := lt_of_heap kb.out
      go_upto_region 6 with fail
      go_wp2_with fail
      refine (hST.out ⟨b, da, dc, dL, dr'⟩ _ _ hA.out.same hA.out.at_ hT.out).mono ?_
      intro e w2 hM
      obtain ⟨a1, c1, L1, r1, rfl, d1, t1, s2⟩ := hM.open
      clear x0 x1 x2 xl
      clear y0 y1 y2 yl
      have hA2 := hA.out.sm s2
      have hz2 := s2.size
      clear hA hM ka kb s2
      replace hA2 := Lib.hid hA2; replace d1 := Lib.hid d1; replace t1 := Lib.hid t1
      go_upto_region 7 with fail
      have kg := heap_new w2 (.cells #[.int .i64 b, .slice a1 L1.length c1, .int .i64 r1] 54)
      have s3 : Same w2 (w2.alloc (.cells #[.int .i64 b, .slice a1 L1.length c1, .int .i64 r1] 54)) := (by repeat (first | exact Fr.refl _ _ | apply Fr.alloc | apply Fr.drewN | apply Fr.drew | apply Fr.undrew | apply Fr.undrewN))
      generalize w2.alloc (.cells #[.int .i64 b, .slice a1 L1.length c1, .int .i64 r1] 54) = W3 at *
      have hA3 := hA2.out.sm s3
      replace d1 := Lib.hid (d1.out.same s3)
      have hbg : w.heap.size + 1 + 1 < w2.heap.size := by omega
      clear hA2 s3
      generalize w2.heap.size = bg at *
      have kb := hA3.kb
      simp only at kb
      replace kg := Lib.hid kg; replace hA3 := Lib.hid hA3; replace kb := Lib.hid kb
      have y0 := cell_at kb.out 0
      have y1 := cell_at kb.out 1
      have y2 := cell_at kb.out 2
      have yl := lt_of_heap kb.out
      have x0 := cell_at kg.out 0
      have x1 := cell_at kg.out 1
      have x2 := cell_at kg.out 2
      have xl := lt_of_heap kg.out
      go_upto_region 9 with fail
      go_wp2_with fail
      refine (hOR.out ⟨b, da, dc, dL, dr'⟩ ⟨b, a1, c1, L1, r1⟩ _ _ hA3.out.at_ d1.out hT.out ⟨rfl, t1.out⟩).mono ?_
      intro e w4 hM
      obtain ⟨a2, c2, L2, r2, rfl, d2, t2, s4⟩ := hM.open
      clear x0 x1 x2 xl
      clear y0 y1 y2 yl
      have hA4 := hA3.out.sm s4
      replace kg := Lib.hid (s4.at kg.out id)
      clear hM s4 hA3 d1 t1 kb
      replace hA4 := Lib.hid hA4; replace d2 := Lib.hid d2; replace t2 := Lib.hid t2
      obtain ⟨y0, y1, y2, yf0, yf1, yf2, yl⟩ := box_facts kg.out
      go_upto_region 10 with fail
      obtain ⟨k5, f5⟩ := box_dg (u0 := .int .i64 b) (u1 := .slice a2 L2.length c2) (u2 := .int .i64 r2) kg.out
      have d5 := SliceAt.fr d2.out f5 (fun i cur hk' e => by rw [show i = bg from e, kg.out] at hk'; simp at hk')
      have dv5 := SliceAt.fr hA4.out.at_ f5 (fun i cur hk' e => by rw [show i = bg from e, kg.out] at hk'; simp at hk')
      have hA5 : ClAt w m b w.heap.size (w.heap.size + 1) (w.heap.size + 1 + 1) ra rq rc rr ⟨b, da, dc, dL, dr'⟩ _ := ⟨f5.at hA4.out.ka (by omega), f5.at hA4.out.kb (by omega), f5.at hA4.out.kc (by omega), hA4.out.same.trans f5 (fun i hi e => by have : i = bg := e; omega), dv5⟩
      clear kg y0 y1 y2 yf0 yf1 yf2 yl hA4 dv5
      generalize ((w4.setCell ⟨bg, 0, none⟩ (.int .i64 b)).setCell ⟨bg, 1, none⟩ (.slice a2 L2.length c2)).setCell ⟨bg, 2, none⟩ (.int .i64 r2) = W5 at *
      clear f5 d2
      have kb := hA5.kb
      simp only at kb
      replace k5 := Lib.hid k5; replace d5 := Lib.hid d5; replace hA5 := Lib.hid hA5; replace kb := Lib.hid kb
      have y0 := cell_at kb.out 0
      have y1 := cell_at kb.out 1
      have y2 := cell_at kb.out 2
      have yl := lt_of_heap kb.out
      have x0 := cell_at k5.out 0
      have x1 := cell_at k5.out 1
      have x2 := cell_at k5.out 2
      have xl := lt_of_heap k5.out
      go_upto_region 12 with fail
      go_wp2_with fail
      refine (EQ.out ⟨b, da, dc, dL, dr'⟩ ⟨b, a2, c2, L2, r2⟩ _ _ _ hA5.out.at_ d5.out hT.out ⟨rfl, t2.out⟩).mono ?_
      rintro e w6 ⟨rfl, s6⟩
      clear x0 x1 x2 xl
      clear y0 y1 y2 yl
      have hA6 := hA5.out.sm s6
      replace d5 := Lib.hid (d5.out.same s6); replace k5 := Lib.hid (s6.at k5.out id)
      clear hA5 kb s6
      have kb := hA6.kb
      have kc := hA6.kc
      simp only at kb
      replace hA6 := Lib.hid hA6; replace kb := Lib.hid kb; replace kc := Lib.hid kc
      by_cases hV : V = clS b s t V
      · have hb1 : decide (V = clS b s t V) = true := decide_eq_true hV
        rw [hb1]
        replace hV := Lib.hid hV
        obtain ⟨x0, x1, x2, z0, z1, z2, xl⟩ := box_facts kc.out
        have x90 := cell_at k5.out 0
        have x91 := cell_at k5.out 1
        have x92 := cell_at k5.out 2
        have x9l := lt_of_heap k5.out
        go_wp2_with fail
        obtain ⟨q0, q1, q2, hdF, hsF⟩ := dg_stored hA6.out.same (by omega) (d := ⟨b, a2, c2, L2, r2⟩) d5.out kc.out
        refine bodyPost_ret (v := .tuple #[.agg #[.int .i64 b, .slice a2 L2.length c2, .int .i64 r2], .int .i64 k, .int .i64 0]) (by simp [results, Tryz.results148, go_sem, q0, q1, q2]) rfl ?_
        have ht2 := t2.out
        rw [← hV.out, hVd.out] at ht2
        exact .inr ⟨rfl, ⟨b, a2, c2, L2, r2⟩, k, rfl, hdF, ⟨rfl, ht2⟩, by rw [hstep.out, ← hV.out]; exact hVd.out, hne.out, hsF⟩
      · have hb1 : decide (V = clS b s t V) = false := decide_eq_false hV
        rw [hb1]
        have hne' : ∀ j, j < k + 1 → clI b s t u j ≠ clI b s t u (j + 1) := fun j hj => by
          rcases Nat.lt_or_ge j k with h | h
          · exact hne.out j h
          · obtain rfl : j = k := by omega
            rw [hstep.out, ← hVd.out]; exact hV
        have hkb' := hbl.out (k + 1) hne'
        have hw1 : IntKind.i64.wrap ((k : Int) + 1) = ((k + 1 : Nat) : Int) := by rw [IntWalk.i64_in _ (by omega)]; omega
        have hA7 := hA6.out.next (d' := ⟨b, a2, c2, L2, r2⟩) (by omega) (by omega) (by omega) d5.out
        simp only at hA7
        replace hV := Lib.hid hV; replace hne' := Lib.hid hne'; replace hA7 := Lib.hid hA7
        obtain ⟨x0, x1, x2, z0, z1, z2, xl⟩ := box_facts kb.out
        have x90 := cell_at k5.out 0
        have x91 := cell_at k5.out 1
        have x92 := cell_at k5.out 2
        have x9l := lt_of_heap k5.out
        go_wp2_with fail
        go_roundw
        case rel => exact ⟨k + 1, _, rfl, hA7.out.sm (by repeat (first | exact Fr.refl _ _ | apply Fr.alloc | apply Fr.drewN | apply Fr.drew | apply Fr.undrew | apply Fr.undrewN)), ⟨rfl, by rw [hstep.out]; exact t2.out⟩, hne'.out⟩
        case measure => simp [intOf]; omega
  · obtain rfl : E = 4 := by rw [hE.out, if_neg hmb]
    replace hmb := Lib.hid hmb
    obtain ⟨x0, x1, x2, z0, z1, z2, xl⟩ := box_facts kc.out
    go_wp2_with fail
    obtain ⟨d0, d1, d2, hsF⟩ := dg_zeroed hs1.out (by omega) kc.out
    refine bodyPost_ret (v := .tuple #[.agg #[.int .i64 0, .slice none 0 0, .int .i64 0], .int .i64 0, .int .i64 4]) (by simp [results, Tryz.results148, go_sem, d0, d1, d2]) rfl ?_
    exact .inl ⟨by decide, rfl, hsF⟩
end Go.Proofs.YtknlkcfnfjchdaaGreat
