/- The law's table, made, example, same. permute walked. permute walked: rows of diagrams, the two drawn regions. -/
import Derived.Test.YtmmjijmmocabhaaJGrpV
import Derived.Test.YtmmjijmmocabhaaJPerP
import Derived.Test.YtmmjijmmocabhaaJOpsR
import Derived.Test.YtmmjijmmocabhaaJFrom
import Derived.Test.YtmmjijmmocabhaaJCut
import Derived.Test.YtmmjijmmocabhaaJRQuant
import Derived.Laws.OwnMore
namespace Go.Proofs.Ytmmjijmmocabhaa
open Go.RowKit
set_option linter.unusedVariables false
set_option linter.unusedSimpArgs false

/-! ### rows of diagrams -/
theorem info45 : (Try.prog.info? 45).map (fun i => (i.zero, i.size, i.bytes)) = some (some (.agg #[.int .i64 0, .slice none 0 0, .int .i64 0]), 3, 40) := by kernel_rfl
def Dg0 : Dg := ⟨0, none, 0, [], 0⟩
theorem dgCells_getE (l : List Dg) (i : Nat) (h : i < l.length * 3) : (dgCells l)[i]? = some (if i % 3 = 0 then .int .i64 (l[i / 3]'(by omega)).n else if i % 3 = 1 then .slice (l[i / 3]'(by omega)).a (l[i / 3]'(by omega)).L.length (l[i / 3]'(by omega)).cap else .int .i64 (l[i / 3]'(by omega)).r) := by
  obtain ⟨g0, g1, g2⟩ := dgCells_get l (i / 3) (by omega)
  have hm : i % 3 = 0 ∨ i % 3 = 1 ∨ i % 3 = 2 := by omega
  rcases hm with hm | hm | hm
  · rw [if_pos hm, ← g0]; congr 1; omega
  · rw [if_neg (by omega), if_pos hm, ← g1]; congr 1; omega
  · rw [if_neg (by omega), if_neg (by omega), ← g2]; congr 1; omega
theorem madeD (n : Nat) : madeCells #[.int .i64 0, .slice none 0 0, .int .i64 0] (n * 3) = (dgCells (List.replicate n Dg0)).toArray := by
  apply Array.ext_getElem?
  intro i
  by_cases h : i < n * 3
  · rw [show (dgCells (List.replicate n Dg0)).toArray[i]? = (dgCells (List.replicate n Dg0))[i]? by simp, dgCells_getE _ i (by simpa using h)]
    simp only [madeCells, Array.getElem?_map, List.getElem_replicate]
    rw [Array.getElem?_range, if_pos h]
    have hm : i % 3 = 0 ∨ i % 3 = 1 ∨ i % 3 = 2 := by omega
    rcases hm with hm | hm | hm <;> simp [hm, Dg0]
  · rw [Array.getElem?_eq_none (by rw [size_madeCells]; omega), Array.getElem?_eq_none (by simp [dgCells_length]; omega)]
theorem dgCells_set (l : List Dg) (k : Nat) (d : Dg) (h : k < l.length) : (((dgCells l).set (k * 3) (.int .i64 d.n)).set (k * 3 + 1) (.slice d.a d.L.length d.cap)).set (k * 3 + 2) (.int .i64 d.r) = dgCells (l.set k d) := by
  induction l generalizing k with
  | nil => simp at h
  | cons x l ih =>
    cases k with
    | zero => simp [dgCells]
    | succ k =>
      have := ih k (by simpa using h)
      have e : (k + 1) * 3 = k * 3 + 3 := by omega
      rw [e, List.set_cons_succ, dgCells, dgCells, ← this]
      rfl
theorem dgCells_append (l m : List Dg) : dgCells (l ++ m) = dgCells l ++ dgCells m := by
  induction l with
  | nil => rfl
  | cons x l ih => simp [dgCells, ih]

theorem dg_set3 {w : World} {g : Nat} {l : List Dg} {T : TypeId} (h : w.heap[g]? = some (.cells (dgCells l).toArray T (0, 0))) (k : Nat) (d : Dg) (hk : k < l.length) :
    (((w.setCell ⟨g, k * 3, none⟩ (.int .i64 d.n)).setCell ⟨g, k * 3 + 1, none⟩ (.slice d.a d.L.length d.cap)).setCell ⟨g, k * 3 + 2, none⟩ (.int .i64 d.r)).heap[g]? = some (.cells (dgCells (l.set k d)).toArray T (0, 0)) := by
  rw [heap_setCell_same (heap_setCell_same (heap_setCell_same h (k * 3) _) (k * 3 + 1) _) (k * 3 + 2) _, ← dgCells_set l k d hk]
  simp

/-- A call returns the diagram of a table. -/
def DgR (n : Nat) (t : List Bool) (w : World) (e : Ending) (w' : World) : Prop :=
  ∃ d : Dg, e = .returned (.tuple #[.agg #[.int .i64 d.n, .slice d.a d.L.length d.cap, .int .i64 d.r], .int .i64 0]) ∧ d.at w' ∧ d.tab n t ∧ Same w w'
theorem DRet.dg {n : Nat} {t : List Bool} {O : List Nd} {r : Int} {w w' : World} {e : Ending} (h : DRet w n O r e w') (T : IsTab n t O r) : DgR n t w e w' := by
  obtain ⟨ao, co, rfl, h1, h2⟩ := h
  exact ⟨⟨n, ao, co, O, r⟩, rfl, h1, ⟨rfl, T⟩, h2⟩
theorem Dg.at.same {d : Dg} {w w' : World} (h : d.at w) (hs : Same w w') : d.at w' := SliceAt.same h hs
theorem const_dg (n : Nat) (b : Bool) (w : World) (hn : n ≤ 10) : Calls Try.prog 74 #[.int .i64 n, .bool b] w (DgR n (List.replicate (2 ^ n) b) w) :=
  (constant_ok n b w ⟨by omega, by omega⟩).mono fun e w' h => h.dg ⟨by omega, by simp, table_const (by omega) b, by simp⟩
theorem var_dg (n p : Nat) (w : World) (hn : n ≤ 10) (hp : p < n) : Calls Try.prog 75 #[.int .i64 n, .int .i64 p] w (DgR n (varT n p) w) :=
  (variable_ok n p w ⟨by omega, by omega⟩ ⟨by omega, by omega⟩).mono fun e w' h => h.dg (var_tab hn hp)
theorem ite_dg {n : Nat} (hn : n ≤ 10) {d d' d'' : Dg} {t t' t'' : List Bool} (w : World) (h1 : d.at w) (h2 : d'.at w) (h3 : d''.at w) (T : d.tab n t) (T' : d'.tab n t') (T'' : d''.tab n t'') :
    Calls Try.prog 76 #[.agg #[.int .i64 d.n, .slice d.a d.L.length d.cap, .int .i64 d.r], .agg #[.int .i64 d'.n, .slice d'.a d'.L.length d'.cap, .int .i64 d'.r], .agg #[.int .i64 d''.n, .slice d''.a d''.L.length d''.cap, .int .i64 d''.r]] w (DgR n (ite3 t t' t'') w) :=
  (ite_rt n d d' d'' t t' t'' w hn h1 h2 h3 T T' T'').mono fun e w' h => h.dg (IsTab.of hn (ite3_len T.2.len T'.2.len T''.2.len))

/-- A frame that is T but for two ranges of slots. -/
theorem fill_of2 {T T' : Array Value} (lo n lo2 n2 : Nat) (hs : T'.size = T.size) (h : ∀ i, ¬ (lo ≤ i ∧ i < lo + n) → ¬ (lo2 ≤ i ∧ i < lo2 + n2) → T'[i]? = T[i]?) : T' = fillF (fillF T (fun i => T'.getD i undef) lo n) (fun i => T'.getD i undef) lo2 n2 := by
  apply Array.ext_getElem?
  intro i
  rw [fillF_get, fillF_get, fillF_size]
  have hg : i < T.size → some (T'.getD i undef) = T'[i]? := fun h2 => by
    have h3 : i < T'.size := by omega
    simp [Array.getD, h3]
  split
  · rename_i h1; exact (hg h1.2.2).symm
  · rename_i h1
    split
    · rename_i h2; exact (hg h2.2.2).symm
    · rename_i h2
      by_cases h3 : i < T.size
      · exact h i (by omega) (by omega)
      · rw [Array.getElem?_eq_none (by omega), Array.getElem?_eq_none (by omega)]
theorem fill_end2 {Q : Exit → Act → World → Prop} {T T' : Array Value} {w : World} (lo n lo2 n2 : Nat) (hs : T'.size = T.size) (h : ∀ i, ¬ (lo ≤ i ∧ i < lo + n) → ¬ (lo2 ≤ i ∧ i < lo2 + n2) → T'[i]? = T[i]?)
    (hK : Q .normal ⟨fillF (fillF T (fun i => T'.getD i undef) lo n) (fun i => T'.getD i undef) lo2 n2, []⟩ w) : Q .normal ⟨T', []⟩ w := by
  rw [fill_of2 lo n lo2 n2 hs h]; exact hK

/-- Three cells of a new block, stored: what is there. -/
theorem new3 {w : World} {b : Nat} {x y z a c d : Value} {T : TypeId} (h : w.heap[b]? = some (.cells #[x, y, z] T (0, 0))) :
    (((w.setCell ⟨b, 0, none⟩ a).setCell ⟨b, 1, none⟩ c).setCell ⟨b, 2, none⟩ d).heap[b]? = some (.cells #[a, c, d] T (0, 0)) := stored3 h

/-- What a region that makes a diagram leaves: its box. -/
structure Boxed (n : Nat) (t : List Bool) (b : Nat) (w w' : World) : Prop where
  is : ∃ d : Dg, d.at w' ∧ d.tab n t ∧ w'.heap[b]? = some (.cells #[.int .i64 d.n, .slice d.a d.L.length d.cap, .int .i64 d.r] 45 (0, 0))
  same : Same w w'

theorem boxed_set {n : Nat} {t : List Bool} {d : Dg} {w w1 : World} (hd : d.at w1) (ht : d.tab n t) (hs : Same w w1) (kb : w1.heap[w.heap.size]? = some (.cells #[.int .i64 0, .slice none 0 0, .int .i64 0] 45 (0, 0))) :
    Boxed n t w.heap.size w (((w1.setCell ⟨w.heap.size, 0, none⟩ (.int .i64 d.n)).setCell ⟨w.heap.size, 1, none⟩ (.slice d.a d.L.length d.cap)).setCell ⟨w.heap.size, 2, none⟩ (.int .i64 d.r)) := by
  have hfr := stored3_fr (w := w1) (b := w.heap.size) (a := .int .i64 d.n) (c := .slice d.a d.L.length d.cap) (d := .int .i64 d.r)
  exact ⟨⟨d, SliceAt.fr hd hfr (fun k cur hk h => by rw [h, kb] at hk; simp at hk), ht, stored3 kb⟩, hs.trans hfr (fun i hi h => by omega)⟩

set_option maxRecDepth 100000 in
set_option maxHeartbeats 4000000 in
theorem perm_r14 {Q : Exit → Act → World → Prop} {T : Array Value} (hTs : T.size = 95) {n b2 b13 b6 v p : Nat} {x1 x2 y1 y2 : Value} {I : List Int} {wr : World}
    (t2 : T[2]'(by omega) = .pointer (some ⟨b2, 0, none⟩)) (t13 : T[13]'(by omega) = .pointer (some ⟨b13, 0, none⟩)) (t6 : T[6]'(by omega) = .pointer (some ⟨b6, 0, none⟩))
    (k2 : wr.heap[b2]? = some (.cells #[.int .i64 n, x1, x2] 45 (0, 0))) (k13 : wr.heap[b13]? = some (.cells #[.int .i64 v, y1, y2] 94 (0, 0))) (k6 : ArrAt wr b6 98 (intCells I))
    (hI : I[v]? = some (p : Int)) (hv : v < 40) (hp : p < n) (hn : n ≤ 10)
    (hK : ∀ f w' b, f 14 = .pointer (some ⟨b, 0, none⟩) → f 15 = .int .i64 0 → Boxed n (varT n p) b wr w' → Q .normal ⟨fillF (fillF T f 14 2) f 52 10, []⟩ w') :
    Code.wp Try.prog (regionOf Try.f55 14) Q ⟨T, []⟩ wr := by
  conv => arg 2; whnf
  have c20 := cell_at k2 0
  have c2l := lt_of_heap k2
  have c13 := cell_at k13 0
  have c13l := lt_of_heap k13
  have c6 := k6.cell (ints_at _ _ _ hI)
  have c6l := k6.lt
  have hv' : (v : Int) < 40 := by omega
  replace k2 := Lib.hid k2; replace k13 := Lib.hid k13; replace k6 := Lib.hid k6; replace hI := Lib.hid hI; replace hK := Lib.hid hK
  refine wp_region_planF (L3 b2 b13 b6) [0, 1, 0, 1, 0, 1, 2, 0, 0, 0, 2, 3, 0] (.fork [0, 2, 1, 3, 4, 5] 6 (.run [7, 8, 9, 10, 11, 12]) 10 (.run [6, 7, 8, 9, 11, 12])) (by kernel_rfl) (by kernel_rfl) ?_
  refine plan_fork ?_
  repeat (first | (refine sched_w rfl rfl (fun _ hK => ?_); go_simp; refine hK _ ?_; clear hK) | (refine sched_s rfl rfl (fun _ hK => ?_); go_simp; first | (refine hK _ ?_; clear hK) | (refine ⟨_, fun _ => rfl, hK _ ?_⟩; clear hK)))
  refine sched_nil ⟨?_, ?_⟩
  · refine fork_g rfl rfl (fun _ hK => ?_)
    go_simp
    refine (var_dg n p _ hn hp).mono ?_
    rintro e w1 ⟨d, rfl, hd, ht, hs⟩
    have hs1 : Same wr w1 := (show Same wr _ from (by repeat (first | exact Fr.refl _ _ | apply Fr.undrew | apply Fr.undrewN | apply Fr.drew | apply Fr.drewN | apply Fr.alloc))).same hs
    refine hK _ _ (Kp.of_same hs) ?_
    clear hK hs
    (try simp only [Act.put, List.setIfInBounds_toArray, List.set_cons_zero, List.set_cons_succ])
    refine plan_run ?_
    replace hd := Lib.hid hd; replace ht := Lib.hid ht; replace hs1 := Lib.hid hs1
    repeat (first | (refine sched_w rfl rfl (fun _ hK => ?_); go_simp; refine hK _ ?_; clear hK) | (refine sched_s rfl rfl (fun _ hK => ?_); go_simp; first | (refine hK _ ?_; clear hK) | (refine ⟨_, fun _ => rfl, hK _ ?_⟩; clear hK)))
    refine sched_g rfl rfl (fun _ hK => ?_); go_simp; refine hK _ _ (Kp.of_same (by repeat (first | exact Fr.refl _ _ | apply Fr.undrew | apply Fr.undrewN | apply Fr.drew | apply Fr.drewN | apply Fr.alloc))) ?_; clear hK
    refine sched_l rfl (by decide) (fun _ hK => ?_); go_simp
    refine hK _ _ ?_; clear hK; try simp only [Act.put, List.setIfInBounds_toArray, List.set_cons_zero, List.set_cons_succ]
    repeat (first | (refine sched_w rfl rfl (fun _ hK => ?_); go_simp; refine hK _ ?_; clear hK) | (refine sched_s rfl rfl (fun _ hK => ?_); go_simp; first | (refine hK _ ?_; clear hK) | (refine ⟨_, fun _ => rfl, hK _ ?_⟩; clear hK)))
    refine sched_nil (NoPanic.normal ?_)
    show Q .normal _ _
    refine fill_end2 (T := T) 14 2 52 10 (by simp only [Array.size_setIfInBounds]) (by intro i h1 h2; repeat rw [Array.getElem?_setIfInBounds_ne (by omega)]) ?_
    exact hK.out _ _ w1.heap.size (by simp [Array.getD, hTs]) (by simp [Array.getD, hTs]) ⟨⟨d, hd.out.same (by repeat (first | exact Fr.refl _ _ | apply Fr.undrew | apply Fr.undrewN | apply Fr.drew | apply Fr.drewN | apply Fr.alloc)), ht.out, heap_new _ _⟩, hs1.out.same (by repeat (first | exact Fr.refl _ _ | apply Fr.undrew | apply Fr.undrewN | apply Fr.drew | apply Fr.drewN | apply Fr.alloc))⟩
  · refine fork_g rfl rfl (fun _ hK => ?_)
    go_simp
    refine hK _ _ (Kp.of_same (by repeat (first | exact Fr.refl _ _ | apply Fr.undrew | apply Fr.undrewN | apply Fr.drew | apply Fr.drewN | apply Fr.alloc))) ?_
    clear hK
    (try simp only [Act.put, List.setIfInBounds_toArray, List.set_cons_zero, List.set_cons_succ])
    refine plan_run ?_
    refine sched_g rfl rfl (fun _ hK => ?_)
    go_simp
    refine (var_dg n p _ hn hp).mono ?_
    rintro e w1 ⟨d, rfl, hd, ht, hs⟩
    have hs1 : Same wr w1 := (show Same wr _ from (by repeat (first | exact Fr.refl _ _ | apply Fr.undrew | apply Fr.undrewN | apply Fr.drew | apply Fr.drewN | apply Fr.alloc))).same hs
    have kb : w1.heap[wr.heap.size]? = some (.cells #[.int .i64 0, .slice none 0 0, .int .i64 0] 45 (0, 0)) := hs.at (heap_new_at (by simp) _) id
    refine hK _ _ (Kp.of_same hs) ?_
    clear hK hs
    (try simp only [Act.put, List.setIfInBounds_toArray, List.set_cons_zero, List.set_cons_succ])
    have x0 := cell_at kb 0
    have x1' := cell_at kb 1
    have x2' := cell_at kb 2
    have xf0 := free_at kb 0
    have xf1 := free_at kb 1
    have xf2 := free_at kb 2
    have xl := lt_of_heap kb
    replace hd := Lib.hid hd; replace ht := Lib.hid ht; replace hs1 := Lib.hid hs1; replace kb := Lib.hid kb
    repeat (first | (refine sched_w rfl rfl (fun _ hK => ?_); go_simp; refine hK _ ?_; clear hK) | (refine sched_s rfl rfl (fun _ hK => ?_); go_simp; first | (refine hK _ ?_; clear hK) | (refine ⟨_, fun _ => rfl, hK _ ?_⟩; clear hK)))
    refine sched_l rfl (by decide) (fun _ hK => ?_); go_simp
    refine hK _ _ ?_; clear hK; try simp only [Act.put, List.setIfInBounds_toArray, List.set_cons_zero, List.set_cons_succ]
    repeat (first | (refine sched_w rfl rfl (fun _ hK => ?_); go_simp; refine hK _ ?_; clear hK) | (refine sched_s rfl rfl (fun _ hK => ?_); go_simp; first | (refine hK _ ?_; clear hK) | (refine ⟨_, fun _ => rfl, hK _ ?_⟩; clear hK)))
    refine sched_nil (NoPanic.normal ?_)
    show Q .normal _ _
    refine fill_end2 (T := T) 14 2 52 10 (by simp only [Array.size_setIfInBounds]) (by intro i h1 h2; repeat rw [Array.getElem?_setIfInBounds_ne (by omega)]) ?_
    exact hK.out _ _ wr.heap.size (by simp [Array.getD, hTs]) (by simp [Array.getD, hTs]) (boxed_set hd.out ht.out hs1.out kb.out)

theorem lz (x : Nat) : 0 + x = x := Nat.zero_add x

set_option maxRecDepth 100000 in
set_option maxHeartbeats 4000000 in
theorem perm_r17 {Q : Exit → Act → World → Prop} {T : Array Value} (hTs : T.size = 95) {n b14 b13 g m c lo hi : Nat} {y0 : Value} {d0 : Dg} {l : List Dg} {x y z : List Bool} {wr : World}
    (t7 : T[7]'(by omega) = .slice (some ⟨g, 0, none⟩) m c) (t13 : T[13]'(by omega) = .pointer (some ⟨b13, 0, none⟩)) (t14 : T[14]'(by omega) = .pointer (some ⟨b14, 0, none⟩))
    (k14 : wr.heap[b14]? = some (.cells #[.int .i64 d0.n, .slice d0.a d0.L.length d0.cap, .int .i64 d0.r] 45 (0, 0))) (k13 : wr.heap[b13]? = some (.cells #[y0, .int .i64 lo, .int .i64 hi] 94 (0, 0)))
    (hO : DgsAt wr (some ⟨g, 0, none⟩) c l) (hm : l.length = m) (hlo : lo < m) (hhi : hi < m) (hn : n ≤ 10)
    (h0 : d0.at wr ∧ d0.tab n x) (hH : ∃ d, l[hi]? = some d ∧ d.at wr ∧ d.tab n y) (hL : ∃ d, l[lo]? = some d ∧ d.at wr ∧ d.tab n z)
    (hK : ∀ f w' b, f 16 = .pointer (some ⟨b, 0, none⟩) → f 15 = .int .i64 0 → Boxed n (ite3 x y z) b wr w' → Q .normal ⟨fillF (fillF T f 15 2) f 66 15, []⟩ w') :
    Code.wp Try.prog (regionOf Try.f55 17) Q ⟨T, []⟩ wr := by
  conv => arg 2; whnf
  obtain ⟨dh, hdh, ah, th⟩ := hH
  obtain ⟨dl, hdl, al, tl⟩ := hL
  obtain ⟨a0, tt0⟩ := h0
  have e14_0 := cell_at k14 0
  have e14_1 := cell_at k14 1
  have e14_2 := cell_at k14 2
  have e14l := lt_of_heap k14
  have e13_1 := cell_at k13 1
  have e13_2 := cell_at k13 2
  have e13l := lt_of_heap k13
  obtain ⟨b, off, hb, egl, h0', h1', h2'⟩ := hO.cells (k := hi) (by omega)
  obtain ⟨b', off', hb', _, l0', l1', l2'⟩ := hO.cells (k := lo) (by omega)
  cases hb
  cases hb'
  rw [List.getElem?_eq_getElem (by omega)] at hdh hdl
  rw [Option.some.inj hdh] at h0' h1' h2'
  rw [Option.some.inj hdl] at l0' l1' l2'
  rw [Nat.zero_add] at h0' h1' h2' l0' l1' l2'
  have z1 : (lo : Int) < m := by omega
  have z2 : (hi : Int) < m := by omega
  replace k14 := Lib.hid k14; replace k13 := Lib.hid k13; replace hO := Lib.hid hO; replace hm := Lib.hid hm; replace ah := Lib.hid ah; replace th := Lib.hid th; replace al := Lib.hid al; replace tl := Lib.hid tl; replace a0 := Lib.hid a0; replace tt0 := Lib.hid tt0; replace hdh := Lib.hid hdh; replace hdl := Lib.hid hdl; replace hK := Lib.hid hK
  refine wp_region_planF (L3 b14 b13 g) [1, 0, 0, 1, 0, 1, 0, 0, 1, 0, 1, 2, 0, 0, 0, 2, 3, 0] (.fork [1, 2, 6, 7, 0, 3, 4, 5, 8, 9, 10] 11 (.run [12, 13, 14, 15, 16, 17]) 15 (.run [11, 12, 13, 14, 16, 17])) (by kernel_rfl) (by kernel_rfl) ?_
  refine plan_fork ?_
  repeat (first | (refine sched_w rfl rfl (fun _ hK => ?_); go_simp; refine hK _ ?_; clear hK) | (refine sched_s rfl rfl (fun _ hK => ?_); go_simp; first | (refine hK _ ?_; clear hK) | (refine ⟨_, fun _ => rfl, hK _ ?_⟩; clear hK)))
  refine sched_nil ⟨?_, ?_⟩
  · refine fork_g rfl rfl (fun _ hK => ?_)
    go_simp
    refine (ite_dg hn _ (a0.out.same (by repeat (first | exact Fr.refl _ _ | apply Fr.undrew | apply Fr.undrewN | apply Fr.drew | apply Fr.drewN | apply Fr.alloc))) (ah.out.same (by repeat (first | exact Fr.refl _ _ | apply Fr.undrew | apply Fr.undrewN | apply Fr.drew | apply Fr.drewN | apply Fr.alloc))) (al.out.same (by repeat (first | exact Fr.refl _ _ | apply Fr.undrew | apply Fr.undrewN | apply Fr.drew | apply Fr.drewN | apply Fr.alloc))) tt0.out th.out tl.out).mono ?_
    rintro e w1 ⟨d, rfl, hd, ht, hs⟩
    have hs1 : Same wr w1 := (show Same wr _ from (by repeat (first | exact Fr.refl _ _ | apply Fr.undrew | apply Fr.undrewN | apply Fr.drew | apply Fr.drewN | apply Fr.alloc))).same hs
    refine hK _ _ (Kp.of_same hs) ?_
    clear hK hs
    (try simp only [Act.put, List.setIfInBounds_toArray, List.set_cons_zero, List.set_cons_succ])
    refine plan_run ?_
    replace hd := Lib.hid hd; replace ht := Lib.hid ht; replace hs1 := Lib.hid hs1
    repeat (first | (refine sched_w rfl rfl (fun _ hK => ?_); go_simp; refine hK _ ?_; clear hK) | (refine sched_s rfl rfl (fun _ hK => ?_); go_simp; first | (refine hK _ ?_; clear hK) | (refine ⟨_, fun _ => rfl, hK _ ?_⟩; clear hK)))
    refine sched_g rfl rfl (fun _ hK => ?_); go_simp; refine hK _ _ (Kp.of_same (by repeat (first | exact Fr.refl _ _ | apply Fr.undrew | apply Fr.undrewN | apply Fr.drew | apply Fr.drewN | apply Fr.alloc))) ?_; clear hK
    refine sched_l rfl (by decide) (fun _ hK => ?_); go_simp
    refine hK _ _ ?_; clear hK; try simp only [Act.put, List.setIfInBounds_toArray, List.set_cons_zero, List.set_cons_succ]
    repeat (first | (refine sched_w rfl rfl (fun _ hK => ?_); go_simp; refine hK _ ?_; clear hK) | (refine sched_s rfl rfl (fun _ hK => ?_); go_simp; first | (refine hK _ ?_; clear hK) | (refine ⟨_, fun _ => rfl, hK _ ?_⟩; clear hK)))
    refine sched_nil (NoPanic.normal ?_)
    show Q .normal _ _
    refine fill_end2 (T := T) 15 2 66 15 (by simp only [Array.size_setIfInBounds]) (by intro i h1 h2; repeat rw [Array.getElem?_setIfInBounds_ne (by omega)]) ?_
    exact hK.out _ _ w1.heap.size (by simp [Array.getD, hTs]) (by simp [Array.getD, hTs]) ⟨⟨d, hd.out.same (by repeat (first | exact Fr.refl _ _ | apply Fr.undrew | apply Fr.undrewN | apply Fr.drew | apply Fr.drewN | apply Fr.alloc)), ht.out, heap_new _ _⟩, hs1.out.same (by repeat (first | exact Fr.refl _ _ | apply Fr.undrew | apply Fr.undrewN | apply Fr.drew | apply Fr.drewN | apply Fr.alloc))⟩
  · refine fork_g rfl rfl (fun _ hK => ?_)
    go_simp
    refine hK _ _ (Kp.of_same (by repeat (first | exact Fr.refl _ _ | apply Fr.undrew | apply Fr.undrewN | apply Fr.drew | apply Fr.drewN | apply Fr.alloc))) ?_
    clear hK
    (try simp only [Act.put, List.setIfInBounds_toArray, List.set_cons_zero, List.set_cons_succ])
    refine plan_run ?_
    refine sched_g rfl rfl (fun _ hK => ?_)
    go_simp
    refine (ite_dg hn _ (a0.out.same (by repeat (first | exact Fr.refl _ _ | apply Fr.undrew | apply Fr.undrewN | apply Fr.drew | apply Fr.drewN | apply Fr.alloc))) (ah.out.same (by repeat (first | exact Fr.refl _ _ | apply Fr.undrew | apply Fr.undrewN | apply Fr.drew | apply Fr.drewN | apply Fr.alloc))) (al.out.same (by repeat (first | exact Fr.refl _ _ | apply Fr.undrew | apply Fr.undrewN | apply Fr.drew | apply Fr.drewN | apply Fr.alloc))) tt0.out th.out tl.out).mono ?_
    rintro e w1 ⟨d, rfl, hd, ht, hs⟩
    have hs1 : Same wr w1 := (show Same wr _ from (by repeat (first | exact Fr.refl _ _ | apply Fr.undrew | apply Fr.undrewN | apply Fr.drew | apply Fr.drewN | apply Fr.alloc))).same hs
    have kb : w1.heap[wr.heap.size]? = some (.cells #[.int .i64 0, .slice none 0 0, .int .i64 0] 45 (0, 0)) := hs.at (heap_new_at (by simp) _) id
    refine hK _ _ (Kp.of_same hs) ?_
    clear hK hs
    (try simp only [Act.put, List.setIfInBounds_toArray, List.set_cons_zero, List.set_cons_succ])
    have x0 := cell_at kb 0
    have x1' := cell_at kb 1
    have x2' := cell_at kb 2
    have xf0 := free_at kb 0
    have xf1 := free_at kb 1
    have xf2 := free_at kb 2
    have xl := lt_of_heap kb
    replace hd := Lib.hid hd; replace ht := Lib.hid ht; replace hs1 := Lib.hid hs1; replace kb := Lib.hid kb
    repeat (first | (refine sched_w rfl rfl (fun _ hK => ?_); go_simp; refine hK _ ?_; clear hK) | (refine sched_s rfl rfl (fun _ hK => ?_); go_simp; first | (refine hK _ ?_; clear hK) | (refine ⟨_, fun _ => rfl, hK _ ?_⟩; clear hK)))
    refine sched_l rfl (by decide) (fun _ hK => ?_); go_simp
    refine hK _ _ ?_; clear hK; try simp only [Act.put, List.setIfInBounds_toArray, List.set_cons_zero, List.set_cons_succ]
    repeat (first | (refine sched_w rfl rfl (fun _ hK => ?_); go_simp; refine hK _ ?_; clear hK) | (refine sched_s rfl rfl (fun _ hK => ?_); go_simp; first | (refine hK _ ?_; clear hK) | (refine ⟨_, fun _ => rfl, hK _ ?_⟩; clear hK)))
    refine sched_nil (NoPanic.normal ?_)
    show Q .normal _ _
    refine fill_end2 (T := T) 15 2 66 15 (by simp only [Array.size_setIfInBounds]) (by intro i h1 h2; repeat rw [Array.getElem?_setIfInBounds_ne (by omega)]) ?_
    exact hK.out _ _ wr.heap.size (by simp [Array.getD, hTs]) (by simp [Array.getD, hTs]) (boxed_set hd.out ht.out hs1.out kb.out)
end Go.Proofs.Ytmmjijmmocabhaa
namespace Go.Proofs.Ytmmjijmmocabhaa
open Go.RowKit
set_option linter.unusedVariables false
set_option linter.unusedSimpArgs false

theorem dgc {w : World} {g : Nat} {l : List Dg} {T : TypeId} (h : w.heap[g]? = some (.cells (dgCells l).toArray T (0, 0))) (k : Nat) (hk : k < l.length) (i0 i1 i2 : Nat) (e0 : i0 = k * 3) (e1 : i1 = k * 3 + 1) (e2 : i2 = k * 3 + 2) :
    ∃ u0 u1 u2, w.cell? ⟨g, i0, none⟩ = some u0 ∧ w.cell? ⟨g, i1, none⟩ = some u1 ∧ w.cell? ⟨g, i2, none⟩ = some u2 := by
  subst e0 e1 e2
  obtain ⟨a, b, c⟩ := dgCells_get l k hk
  exact ⟨_, _, _, (cell_at h _).trans (by simpa using a), (cell_at h _).trans (by simpa using b), (cell_at h _).trans (by simpa using c)⟩
theorem set3_fr (g i0 i1 i2 : Nat) (a b c : Value) (w : World) : Fr (fun k => k = g) w (((w.setCell ⟨g, i0, none⟩ a).setCell ⟨g, i1, none⟩ b).setCell ⟨g, i2, none⟩ c) :=
  ((((Fr.refl (fun k => k = g) w).setCell ⟨g, i0, none⟩ a (fun _ => rfl)).setCell ⟨g, i1, none⟩ b (fun _ => rfl)).setCell ⟨g, i2, none⟩ c (fun _ => rfl))
theorem at_fr {S : Nat → Prop} {d : Dg} {w w' : World} (h : d.at w) (hf : Fr S w w') (hS : ∀ k, S k → ∃ cur, w.heap[k]? = some (.cells cur 45 (0, 0))) : d.at w' :=
  SliceAt.fr h hf (fun k cur hk hs => by
    obtain ⟨c, hc⟩ := hS k hs
    rw [hc] at hk
    simp at hk)
theorem dgCells_take (l : List Dg) : ∀ m, dgCells (l.take m) = (dgCells l).take (m * 3) := by
  induction l with
  | nil => intro m; simp [dgCells]
  | cons x l ih =>
    intro m
    cases m with
    | zero => simp [dgCells]
    | succ m => rw [show (m + 1) * 3 = m * 3 + 3 by omega, List.take_succ_cons, dgCells, dgCells, ih]; rfl
theorem own_of_dgs {w : World} {base g m : Nat} {l : List Dg} (h : w.heap[g]? = some (.cells (dgCells l).toArray 45 (0, 0))) (hb : base ≤ g) (hm : m ≤ l.length) (hl : l.length ≤ 1000000) : w.ownsRow base 45 3 (.slice (some ⟨g, 0, none⟩) m l.length) m (dgCells (l.take m)) := by
  refine ⟨by rw [dgCells_length]; simp; omega, .inr ⟨g, l.length, _, rfl, hb, h, hm, by unfold maxLen; omega, by simp [dgCells_length], ?_⟩⟩
  rw [dgCells_take]

/-- What permute keeps: its argument's box, the result, the positions. -/
structure Pm (b2 b4 b6 n : Nat) (a : Option Addr) (cap : Nat) (L : List Nd) (r : Int) (I : List Int) (w wr : World) : Prop where
  k2 : wr.heap[b2]? = some (.cells #[.int .i64 n, .slice a L.length cap, .int .i64 r] 45 (0, 0))
  k4 : wr.heap[b4]? = some (.cells #[.int .i64 0, .slice none 0 0, .int .i64 0] 45 (0, 0))
  k6 : ArrAt wr b6 98 (intCells I)
  sm : Same w wr
theorem Pm.fr {S : Nat → Prop} {b2 b4 b6 n : Nat} {a : Option Addr} {cap : Nat} {L : List Nd} {r : Int} {I : List Int} {w wr W : World} (h : Pm b2 b4 b6 n a cap L r I w wr) (hf : Fr S wr W) (hS : ∀ k, S k → w.heap.size ≤ k ∧ k ≠ b2 ∧ k ≠ b4 ∧ k ≠ b6) : Pm b2 b4 b6 n a cap L r I w W :=
  ⟨hf.at h.k2 (fun e => (hS _ e).2.1 rfl), hf.at h.k4 (fun e => (hS _ e).2.2.1 rfl), h.k6.fr hf (fun e => (hS _ e).2.2.2 rfl), h.sm.trans hf (fun i hi e => by have := (hS i e).1; omega)⟩
theorem Pm.same {b2 b4 b6 n : Nat} {a : Option Addr} {cap : Nat} {L : List Nd} {r : Int} {I : List Int} {w wr W : World} (h : Pm b2 b4 b6 n a cap L r I w wr) (hf : Same wr W) : Pm b2 b4 b6 n a cap L r I w W := h.fr hf (fun _ e => e.elim)

/-- The first k of a row of diagrams are those of the constants. -/
structure B1 (n g c k : Nat) (W : World) : Prop where
  is : ∃ l : List Dg, l.length = c ∧ W.heap[g]? = some (.cells (dgCells l).toArray 45 (0, 0)) ∧ ∀ j, j < k → ∃ d, l[j]? = some d ∧ d.at W ∧ d.tab n (List.replicate (2 ^ n) (decide (j = 1)))
theorem B1.same {n g c k : Nat} {w W : World} (h : B1 n g c k w) (hs : Same w W) : B1 n g c k W := by
  obtain ⟨l, h1, h2, h3⟩ := h.is
  refine ⟨l, h1, hs.at h2 id, fun j hj => ?_⟩
  obtain ⟨d, e1, e2, e3⟩ := h3 j hj
  exact ⟨d, e1, e2.same hs, e3⟩
theorem B1.next {n g c k : Nat} {w : World} {d : Dg} {b : Bool} (h : B1 n g c k w) (hk : k < c) (hb : b = decide (k = 1)) (hd : d.at w) (ht : d.tab n (List.replicate (2 ^ n) b)) (i0 i1 i2 : Nat) (e0 : i0 = k * 3) (e1 : i1 = k * 3 + 1) (e2 : i2 = k * 3 + 2) :
    B1 n g c (k + 1) (((w.setCell ⟨g, i0, none⟩ (.int .i64 d.n)).setCell ⟨g, i1, none⟩ (.slice d.a d.L.length d.cap)).setCell ⟨g, i2, none⟩ (.int .i64 d.r)) := by
  subst e0 e1 e2 hb
  obtain ⟨l, h1, h2, h3⟩ := h.is
  have hS : ∀ i, i = g → ∃ cur, w.heap[i]? = some (.cells cur 45 (0, 0)) := fun i e => ⟨(dgCells l).toArray, by rw [e]; exact h2⟩
  have hf := set3_fr g (k * 3) (k * 3 + 1) (k * 3 + 2) (.int .i64 d.n) (.slice d.a d.L.length d.cap) (.int .i64 d.r) w
  refine ⟨l.set k d, by rw [List.length_set]; exact h1, dg_set3 h2 k d (by omega), fun j hj => ?_⟩
  by_cases e : j = k
  · subst e
    exact ⟨d, by rw [List.getElem?_set_self (by omega)], at_fr hd hf hS, ht⟩
  · obtain ⟨d', e1, e2, e3⟩ := h3 j (by omega)
    exact ⟨d', by rw [List.getElem?_set_ne (Ne.symm e)]; exact e1, at_fr e2 hf hS, e3⟩

/-- The diagrams of the numbers below m, in the order o. -/
structure Bt (o : List Int) (L : List Nd) (n base m : Nat) (v : Value) (W : World) : Prop where
  is : ∃ (g c : Nat) (l : List Dg), v = .slice (some ⟨g, 0, none⟩) m c ∧ base ≤ g ∧ l.length = m ∧ W.ownsRow base 45 3 v m (dgCells l) ∧ ∀ j, j < m → ∃ d, l[j]? = some d ∧ d.at W ∧ d.tab n (permT o n (tab L n 0 j))
theorem Bt.same {o : List Int} {L : List Nd} {n base m : Nat} {v : Value} {w W : World} (h : Bt o L n base m v w) (hs : Same w W) : Bt o L n base m v W := by
  obtain ⟨g, c, l, e1, e2, e3, e4, e5⟩ := h.is
  refine ⟨g, c, l, e1, e2, e3, owns_same e4 hs, fun j hj => ?_⟩
  obtain ⟨d, d1, d2, d3⟩ := e5 j hj
  exact ⟨d, d1, d2.same hs, d3⟩
theorem B1.bt {n g c base : Nat} {w : World} {o : List Int} {L : List Nd} (h : B1 n g c 2 w) (hn : n ≤ 10) (hb : base ≤ g) (hc : 2 ≤ c) (hc' : c ≤ 1000000) : Bt o L n base 2 (.slice (some ⟨g, 0, none⟩) 2 c) w := by
  obtain ⟨l, h1, h2, h3⟩ := h.is
  subst h1
  refine ⟨g, l.length, l.take 2, rfl, hb, by simp; omega, own_of_dgs h2 hb hc hc', fun j hj => ?_⟩
  obtain ⟨d, d1, d2, d3⟩ := h3 j hj
  refine ⟨d, by rw [List.getElem?_take_of_lt hj]; exact d1, d2, ?_⟩
  have hj' : j = 0 ∨ j = 1 := by omega
  rcases hj' with rfl | rfl
  · rw [show ((0 : Nat) : Int) = 0 by rfl, tab_zero L n 0 (by omega), perm_const]; exact d3
  · rw [show ((1 : Nat) : Int) = 1 by rfl, tab_one L n 0 (by omega), perm_const]; exact d3
theorem Bt.snoc {o : List Int} {L : List Nd} {n base m g c : Nat} {l : List Dg} {w W w' : World} {a' : Option Addr} {c' : Nat} {d : Dg}
    (h2 : base ≤ g) (h3 : l.length = m) (h4 : w.ownsRow base 45 3 (.slice (some ⟨g, 0, none⟩) m c) m (dgCells l)) (h5 : ∀ j, j < m → ∃ d, l[j]? = some d ∧ d.at w ∧ d.tab n (permT o n (tab L n 0 j)))
    (hd : d.at w) (ht : d.tab n (permT o n (tab L n 0 m))) (hs : Same w W) (hown : w'.ownsRow base 45 3 (.slice a' (m + 1) c') (m + 1) (dgCells l ++ dgCells [d])) (hG : Grew (fun _ => False) W w' (.slice (some ⟨g, 0, none⟩) m c) (.slice a' (m + 1) c')) :
    Bt o L n base (m + 1) (.slice a' (m + 1) c') w' := by
  have hS : ∀ i, (Value.slice (some ⟨g, 0, none⟩) m c).ownBlock = some i ∨ False → ∃ cur, W.heap[i]? = some (.cells cur 45 (0, 0)) := fun i hi => own_block (owns_same h4 hs) (hi.resolve_right id)
  have hown0 := hown
  obtain ⟨_, ⟨_, hz⟩ | ⟨g', cap, cur, he, hb, hrest⟩⟩ := hown
  · omega
  · cases he
    rw [← dgCells_append] at hown0
    refine ⟨g', c', l ++ [d], rfl, hb, by simp [h3], hown0, fun j hj => ?_⟩
    by_cases e : j = m
    · subst e
      exact ⟨d, by rw [← h3]; simp, at_fr (hd.same hs) hG.1 hS, ht⟩
    · obtain ⟨d', d1, d2, d3⟩ := h5 j (by omega)
      exact ⟨d', by rw [List.getElem?_append_left (by omega)]; exact d1, at_fr (d2.same hs) hG.1 hS, d3⟩

theorem perm_apart {b2 b4 b6 n g m c : Nat} {a : Option Addr} {cap : Nat} {L : List Nd} {r : Int} {I : List Int} {w wr : World} (h : Pm b2 b4 b6 n a cap L r I w wr) (hg : b6 + 1 ≤ g) (h2 : w.heap.size ≤ b6 := by omega) (h3 : b2 < b6 := by omega) (h4 : b4 < b6 := by omega) :
    ∀ k, (Value.slice (some ⟨g, 0, none⟩) m c).ownBlock = some k ∨ False → w.heap.size ≤ k ∧ k ≠ b2 ∧ k ≠ b4 ∧ k ≠ b6 := by
  rintro k (hk | hk)
  · simp [Value.ownBlock] at hk
    omega
  · exact hk.elim

/-- make of a row of diagrams. -/
theorem wpList_mkD {P : Program} (w : World) {ops : Array Oper} {rest : List Oper} {o : Oper} {a : Act} {Q : Exit → Act → World → Prop}
    (hg : o.guard = none) (l c : Operand) (t : TypeId) (hop : o.op = Op.makeSlice t l c)
    (e : TypeId) (i : TypeInfo) (h1 : P.underlying t = some (.slice e)) (h2 : P.info? e = some i) (h3 : i.zero = some (.agg #[.int .i64 0, .slice none 0 0, .int .i64 0])) (h4 : i.size = 3) (h5 : i.bytes = 40)
    (n m : Nat) (hl : a.eval l = .int .i64 n) (hc : a.eval c = .int .i64 m) (hnm : n ≤ m) (b3 : m ≤ 1000000000)
    (hK : wpList P ops Q rest (a.put o.dst (.slice (some ⟨w.heap.size, 0, none⟩) n m)) (w.alloc (.cells (dgCells (List.replicate m Dg0)).toArray e))) :
    wpList P ops Q (o :: rest) a w := by
  refine wpList_plain hg fun K hK' => ?_
  have hrun := run_make (P := P) w t e i _ h1 h2 h3 .i64 .i64 n m (by omega) (by omega) (by rw [h5]; omega) (by omega)
  have hm : madeCells (Value.agg #[.int .i64 0, .slice none 0 0, .int .i64 0]).cells ((m : Int).toNat * i.size) = (dgCells (List.replicate m Dg0)).toArray := by
    rw [h4, Int.toNat_natCast]; exact madeD m
  rw [hm] at hrun
  unfold Oper.wp
  simp [execOp, hop, hl, hc, hrun, Result.andThen]
  exact hK' _ _ (by simpa using hK)

set_option maxRecDepth 100000 in
set_option maxHeartbeats 8000000 in
theorem permute_any {n : Nat} {t : List Bool} {L : List Nd} {r : Int} {o : List Int} (hn : n ≤ 10) (hT : IsTab n t L r) (ho : IsOrd n o) (a : Option Addr) (cap : Nat) (ao : Option Addr) (co : Nat) (w : World)
    (hL : NodesAt w a L cap) (hO : RowAt w (.slice ao n co) n (intCells o)) :
    Calls Try.prog 55 #[.agg #[.int .i64 n, .slice a L.length cap, .int .i64 r], .slice ao n co] w (DgR n (permT o n t) w) := by
  obtain ⟨i5, hi5, hi5z, hi5s, hi5b⟩ := info_parts info45
  obtain ⟨hOrd, hVr, htab⟩ := hT.ord
  have hIl : (invL o).length = 40 := by unfold invL; rw [invF_length]
  have hIg : ∀ v, v < n → (invL o)[v]? = some (atF o v : Int) := fun v hv => invL_get ho hv
  have IV := fun W (hW : Same w W) => inverse_any ho ao co W (hO.same hW)
  have hLl : L.length ≤ 16384 := hT.short
  obtain ⟨q, hq⟩ : ∃ q, L.length = q := ⟨_, rfl⟩
  obtain ⟨I, hIe⟩ : ∃ I, I = invL o := ⟨_, rfl⟩
  rw [← hIe] at hIl hIg IV
  have idx0 : ∀ W, (Instr.index 116 (.agg #[.bool false, .bool true]) (.int .i64 0)).run Try.prog W = .ok (.bool false) W := fun _ => by kernel_rfl
  have idx1 : ∀ W, (Instr.index 116 (.agg #[.bool false, .bool true]) (.int .i64 1)).run Try.prog W = .ok (.bool true) W := fun _ => by kernel_rfl
  rw [hq] at hLl
  have hwq : IntKind.i64.wrap ((q : Int) + 2) = ((q + 2 : Nat) : Int) := by rw [IntWalk.i64_in _ (by omega)]; omega
  replace hT := Lib.hid hT; replace hOrd := Lib.hid hOrd; replace hVr := Lib.hid hVr; replace htab := Lib.hid htab; replace hIl := Lib.hid hIl; replace hIg := Lib.hid hIg; replace IV := Lib.hid IV; replace hIe := Lib.hid hIe; replace ho := Lib.hid ho; replace hO := Lib.hid hO; replace hL := Lib.hid hL
  rw [hq]
  go_enter Try.func55, Try.ntmps55
  go_upto_region 1 with fail
  refine wp_region_lit ?_
  refine wpList_step (fun K hK => ?_); go_simp; refine hK _ _ ?_; clear hK
  refine wpList_step (fun K hK => ?_); go_simp
  refine (IV.out _ (by repeat (first | exact Fr.refl _ _ | apply Fr.alloc | apply Fr.drewN | apply Fr.drew | apply Fr.undrew | apply Fr.undrewN))).mono ?_
  rintro e w2 ⟨rfl, hs2⟩
  have hs3 : Same w w2 := (show Same w _ from (by repeat (first | exact Fr.refl _ _ | apply Fr.alloc | apply Fr.drewN | apply Fr.drew | apply Fr.undrew | apply Fr.undrewN))).same hs2
  have k2 := hs2.at (heap_old (heap_new w _) _) id
  have k4 := hs2.at (heap_new_at (w := w.alloc (.cells #[.int .i64 n, .slice a q cap, .int .i64 r] 45)) (by simp) (.cells #[.int .i64 0, .slice none 0 0, .int .i64 0] 45)) id (k := w.heap.size + 1)
  have hs4 : Same w ((w2.alloc (.cells (intCells (List.replicate 40 0)).toArray 98)).setRow w2.heap.size (intCells I).toArray) := (hs3.alloc _).setRow _ _ (by intro h; have := hs3.size; omega)
  have hA : ArrAt ((w2.alloc (.cells (intCells (List.replicate 40 0)).toArray 98)).setRow w2.heap.size (intCells I).toArray) w2.heap.size 98 (intCells I) := (ArrAt.new (cs := intCells (List.replicate 40 0)) rfl).row
  have hf2 : Fr (fun k => k = w2.heap.size) w2 ((w2.alloc (.cells (intCells (List.replicate 40 0)).toArray 98)).setRow w2.heap.size (intCells I).toArray) := ((Fr.refl _ _).alloc _).setRow _ _ (fun _ => rfl)
  have z2 := lt_of_heap k2
  have z4 := lt_of_heap k4
  have hP : Pm w.heap.size (w.heap.size + 1) w2.heap.size n a cap L r I w ((w2.alloc (.cells (intCells (List.replicate 40 0)).toArray 98)).setRow w2.heap.size (intCells I).toArray) := ⟨by rw [hq]; exact hf2.at k2 (by omega), hf2.at k4 (by omega), hA, hs4⟩
  have hsz : w2.heap.size < ((w2.alloc (.cells (intCells (List.replicate 40 0)).toArray 98)).setRow w2.heap.size (intCells I).toArray).heap.size := hA.lt
  obtain ⟨W, hW⟩ : ∃ W, W = ((w2.alloc (.cells (intCells (List.replicate 40 0)).toArray 98)).setRow w2.heap.size (intCells I).toArray) := ⟨_, rfl⟩
  obtain ⟨b6, hb6⟩ : ∃ b6, b6 = w2.heap.size := ⟨_, rfl⟩
  rw [← hW, ← hb6] at hP hsz
  rw [← hb6] at z2 z4
  clear k2 k4 hs4 hA hf2 hs2 hs3
  replace hP := Lib.hid hP; replace hW := Lib.hid hW; replace hb6 := Lib.hid hb6
  refine hK _ _ ?_; clear hK
  (try simp only [Act.put, List.setIfInBounds_toArray, List.set_cons_zero, List.set_cons_succ])
  refine wpList_step (fun K hK => ?_); go_simp; refine hK _ _ ?_; clear hK
  (try simp only [Act.put, List.setIfInBounds_toArray, List.set_cons_zero, List.set_cons_succ])
  refine wpList_store_row rfl 98 (.tmp 6) (.tmp 18) rfl w2.heap.size (intCells I).toArray rfl rfl 98 (intCells (List.replicate 40 0)).toArray (heap_new _ _) (by rw [size40]; simp [intCells_length, hIl.out]) (by simp [hIl.out, intCells_length]) (intCells_one _) ?_
  simp only [Act.put]
  show wpList _ _ _ _ _ ((w2.alloc (.cells (intCells (List.replicate 40 0)).toArray 98)).setRow w2.heap.size (intCells I).toArray)
  rw [← hW.out, ← hb6.out]
  clear hW hb6
  have x1 := cell_at hP.out.k2 1
  have x2 := lt_of_heap hP.out.k2
  simp only [hq] at x1
  replace hq := Lib.hid hq
  go_wp2_with (at_make; refine wpList_mkD _ rfl (.const (.int .i64 2)) (.tmp 22) 115 rfl 45 i5 Try.underlying115 hi5 hi5z hi5s hi5b 2 (q + 2) rfl (by simp [go_sem]) (by omega) (by omega) ?_)
  have hB0 : B1 n W.heap.size (q + 2) 0 (W.alloc (.cells (dgCells (List.replicate (q + 2) Dg0)).toArray 45)) := ⟨_, by simp, heap_new _ _, fun j hj => absurd hj (by omega)⟩
  have hP0 := hP.out.same (show Same W (W.alloc (.cells (dgCells (List.replicate (q + 2) Dg0)).toArray 45)) from (by repeat (first | exact Fr.refl _ _ | apply Fr.alloc | apply Fr.drewN | apply Fr.drew | apply Fr.undrew | apply Fr.undrewN)))
  obtain ⟨g, hg⟩ : ∃ g, g = W.heap.size := ⟨_, rfl⟩
  have hgn : w.heap.size ≤ g ∧ g ≠ w.heap.size ∧ g ≠ w.heap.size + 1 ∧ g ≠ b6 := by have := hP.out.sm.size; omega
  generalize hW1 : W.alloc (.cells (dgCells (List.replicate (q + 2) Dg0)).toArray 45) = W1 at *
  rw [← hg] at hB0 ⊢
  clear hW1 x1 x2 hP
  replace hg := Lib.hid hg; replace hB0 := Lib.hid hB0; replace hP0 := Lib.hid hP0; replace hgn := Lib.hid hgn
  go_loopw [25] (fun i wr => ∃ k : Nat, i = .int .i64 k ∧ k ≤ 2 ∧ B1 n g (q + 2) k wr ∧ Pm w.heap.size (w.heap.size + 1) b6 n a cap L r I w wr) (fun i _ => 2 - (intOf i).toNat)
  case atStart => exact ⟨0, rfl, by omega, hB0.out, hP0.out⟩
  case round =>
    obtain ⟨k, rfl, hk, hB, hP1⟩ := hrel
    have p0 := cell_at hP1.k2 0
    have p1 := cell_at hP1.k2 1
    have p2 := cell_at hP1.k2 2
    have pl := lt_of_heap hP1.k2
    simp only [hq.out] at p1
    obtain rfl | rfl | rfl : k = 0 ∨ k = 1 ∨ k = 2 := by omega
    · replace hB := Lib.hid hB; replace hP1 := Lib.hid hP1
      go_wp2_with fail
      refine (const_dg n false _ hn).mono ?_
      rintro e w1 ⟨d, rfl, hd, ht, hs⟩
      have hs1 : Same wr w1 := (show Same wr _ from (by repeat (first | exact Fr.refl _ _ | apply Fr.undrew | apply Fr.undrewN | apply Fr.drew | apply Fr.drewN | apply Fr.alloc))).same hs
      have hB1 := hB.out.same hs1
      have hP1 := hP1.out.same hs1
      obtain ⟨l, l1, l2, _⟩ := id hB1.is
      obtain ⟨u0, u1, u2, g0, g1, g2⟩ := dgc l2 0 (by omega) 0 1 2 rfl rfl rfl
      have gf0 := free_at l2 0
      have gf1 := free_at l2 1
      have gf2 := free_at l2 2
      have gl := lt_of_heap l2
      have hB2 := (hB1.next (b := false) (by omega) (by decide) hd ht 0 1 2 rfl rfl rfl).same ((Fr.refl _ _).alloc (.cells #[.int .i64 d.n, .slice d.a d.L.length d.cap, .int .i64 d.r] 45))
      have hP2 := (hP1.fr (set3_fr g 0 1 2 (.int .i64 d.n) (.slice d.a d.L.length d.cap) (.int .i64 d.r) _) (fun k e => by subst e; exact hgn.out)).same ((Fr.refl _ _).alloc (.cells #[.int .i64 d.n, .slice d.a d.L.length d.cap, .int .i64 d.r] 45))
      clear hs l1
      replace hd := Lib.hid hd; replace ht := Lib.hid ht; replace hs1 := Lib.hid hs1; replace hB1 := Lib.hid hB1; replace hP1 := Lib.hid hP1; replace l2 := Lib.hid l2; replace hB2 := Lib.hid hB2; replace hP2 := Lib.hid hP2
      go_wp2_with fail
      go_roundw
      case rel => exact ⟨1, by rfl, by omega, hB2.out, hP2.out⟩
      case measure => simp [intOf]
    · replace hB := Lib.hid hB; replace hP1 := Lib.hid hP1
      go_wp2_with fail
      refine (const_dg n true _ hn).mono ?_
      rintro e w1 ⟨d, rfl, hd, ht, hs⟩
      have hs1 : Same wr w1 := (show Same wr _ from (by repeat (first | exact Fr.refl _ _ | apply Fr.undrew | apply Fr.undrewN | apply Fr.drew | apply Fr.drewN | apply Fr.alloc))).same hs
      have hB1 := hB.out.same hs1
      have hP1 := hP1.out.same hs1
      obtain ⟨l, l1, l2, _⟩ := id hB1.is
      obtain ⟨u0, u1, u2, g0, g1, g2⟩ := dgc l2 1 (by omega) 3 4 5 rfl rfl rfl
      have gf0 := free_at l2 3
      have gf1 := free_at l2 4
      have gf2 := free_at l2 5
      have gl := lt_of_heap l2
      have hB2 := (hB1.next (b := true) (by omega) (by decide) hd ht 3 4 5 rfl rfl rfl).same ((Fr.refl _ _).alloc (.cells #[.int .i64 d.n, .slice d.a d.L.length d.cap, .int .i64 d.r] 45))
      have hP2 := (hP1.fr (set3_fr g 3 4 5 (.int .i64 d.n) (.slice d.a d.L.length d.cap) (.int .i64 d.r) _) (fun k e => by subst e; exact hgn.out)).same ((Fr.refl _ _).alloc (.cells #[.int .i64 d.n, .slice d.a d.L.length d.cap, .int .i64 d.r] 45))
      clear hs l1
      replace hd := Lib.hid hd; replace ht := Lib.hid ht; replace hs1 := Lib.hid hs1; replace hB1 := Lib.hid hB1; replace hP1 := Lib.hid hP1; replace l2 := Lib.hid l2; replace hB2 := Lib.hid hB2; replace hP2 := Lib.hid hP2
      go_wp2_with fail
      go_roundw
      case rel => exact ⟨2, by rfl, by omega, hB2.out, hP2.out⟩
      case measure => simp [intOf]
    · have hbt : Bt o L n (b6 + 1) 2 (.slice (some ⟨g, 0, none⟩) 2 (q + 2)) wr := hB.bt hn (by have := hP0.out.k6.lt; have := hg.out; omega) (by omega) (by omega)
      replace hB := Lib.hid hB; replace hP1 := Lib.hid hP1; replace hbt := Lib.hid hbt
      go_wp2_with fail
      clear hgn hg hsz
      obtain ⟨wo, rfl⟩ : ∃ wo, wo = wr := ⟨_, rfl⟩
      go_loopw [7, 48] (fun v7 i wr2 => ∃ k : Nat, i = .int .i64 k ∧ k ≤ q ∧ Bt o L n (b6 + 1) (k + 2) v7 wr2 ∧ Pm w.heap.size (w.heap.size + 1) b6 n a cap L r I w wr2) (fun _ i _ => q - (intOf i).toNat)
      case atStart => exact ⟨0, rfl, by omega, hbt.out, hP1.out⟩
      case round =>
        clear hB hP1 hbt p0 p1 p2 pl hk hB0 hP0 idx0 idx1 hwq
        obtain ⟨k, rfl, hk, hB, hP⟩ := hrel
        obtain ⟨g7, c7, l, rfl, hgb, hll, hown, hall⟩ := hB.is
        have hDs : DgsAt wr (some ⟨g7, 0, none⟩) c7 l := by have := SliceAt.of_owns hown; unfold DgsAt; rw [hll]; exact this
        by_cases hlt : k < q
        · have hkl : k < L.length := by rw [hq.out]; exact hlt
          obtain ⟨b, off, rfl, hb, c0, c1, c2⟩ := (hL.out.same hP.sm).node hkl
          have hnum := hOrd.out.val k L[k] (List.getElem?_eq_getElem hkl)
          have hvn := hOrd.out.var _ (List.getElem_mem hkl)
          obtain ⟨v, hv⟩ : ∃ v : Nat, L[k].1 = v := ⟨L[k].1.toNat, by omega⟩
          obtain ⟨lo, hlo⟩ : ∃ v : Nat, L[k].2.1 = v := ⟨L[k].2.1.toNat, by omega⟩
          obtain ⟨hi, hhi⟩ : ∃ v : Nat, L[k].2.2 = v := ⟨L[k].2.2.toNat, by omega⟩
          rw [hv] at c0 hnum hvn
          rw [hlo] at c1 hnum
          rw [hhi] at c2 hnum
          have hnode : nodeF L ((k : Int) + 2) = ((v : Int), (lo : Int), (hi : Int)) := by
            unfold nodeF
            rw [show ((k : Int) + 2 - 2).toNat = k by omega]
            rw [← hv, ← hlo, ← hhi]
            simp [List.getD, hkl]
          have hpn := perm_node (o := o) hOrd.out (k := (k : Int) + 2) (by omega) ⟨by omega, by rw [hq.out]; omega⟩
          rw [hnode] at hpn
          simp only [Int.toNat_natCast] at hpn
          have hlo2 : lo < k + 2 := by omega
          have hhi2 : hi < k + 2 := by omega
          have hvn' : v < n := by omega
          have hv40 : v < 40 := by omega
          clear hnum hvn
          have hP2 := hP.same (show Same wr (wr.alloc (.cells #[.int .i64 v, .int .i64 lo, .int .i64 hi] 94)) from (by repeat (first | exact Fr.refl _ _ | apply Fr.alloc | apply Fr.drewN | apply Fr.drew | apply Fr.undrew | apply Fr.undrewN)))
          have k13 := heap_new wr (.cells #[.int .i64 v, .int .i64 lo, .int .i64 hi] 94)
          replace hB := Lib.hid hB; replace hP := Lib.hid hP; replace hown := Lib.hid hown; replace hall := Lib.hid hall; replace hDs := Lib.hid hDs; replace hv := Lib.hid hv; replace hlo := Lib.hid hlo; replace hhi := Lib.hid hhi; replace hnode := Lib.hid hnode; replace hpn := Lib.hid hpn; replace hP2 := Lib.hid hP2; replace hll := Lib.hid hll; replace k13 := Lib.hid k13
          go_upto_region 14 with fail
          refine perm_r14 (v := v) (p := atF o v) (I := I) rfl rfl rfl rfl hP2.out.k2 k13.out hP2.out.k6 (hIg.out v hvn') hv40 (atF_lt ho.out hvn') hn ?_
          intro f w3 b14 f14 f15 hX
          simp only [fillF, Nat.reduceAdd, f14, f15, List.setIfInBounds_toArray, List.set_cons_zero, List.set_cons_succ]
          obtain ⟨⟨d0, a0, t0, k14⟩, hs3⟩ := hX
          have hs3' : Same wr w3 := (show Same wr _ from (by repeat (first | exact Fr.refl _ _ | apply Fr.alloc | apply Fr.drewN | apply Fr.drew | apply Fr.undrew | apply Fr.undrewN))).same hs3
          have k13' := hs3.at k13.out id
          have e15 := f15
          clear f14 f15 e15
          replace a0 := Lib.hid a0; replace t0 := Lib.hid t0; replace k14 := Lib.hid k14; replace hs3 := Lib.hid hs3; replace hs3' := Lib.hid hs3'; replace k13' := Lib.hid k13'
          go_upto_region 17 with fail
          obtain ⟨dh, dh1, dh2, dh3⟩ := hall.out hi hhi2
          obtain ⟨dl, dl1, dl2, dl3⟩ := hall.out lo hlo2
          refine perm_r17 (m := k + 2) (d0 := d0) (l := l) rfl rfl rfl rfl k14.out k13'.out (hDs.out.same hs3'.out) hll.out hlo2 hhi2 hn ⟨a0.out, t0.out⟩ ⟨dh, dh1, dh2.same hs3'.out, dh3⟩ ⟨dl, dl1, dl2.same hs3'.out, dl3⟩ ?_
          intro f w4 b16 f16 f15 hX
          simp only [fillF, Nat.reduceAdd, f16, f15, List.setIfInBounds_toArray, List.set_cons_zero, List.set_cons_succ]
          rw [← hpn.out] at hX
          obtain ⟨⟨d, d1, d2, d3⟩, hs4⟩ := hX
          have hs4' : Same wr w4 := hs3'.out.same hs4
          have hown4 := owns_same hown.out hs4'
          have hall4 : ∀ j, j < k + 2 → ∃ d, l[j]? = some d ∧ d.at w4 ∧ d.tab n (permT o n (tab L n 0 j)) := fun j hj => by
            obtain ⟨d, q1, q2, q3⟩ := hall.out j hj
            exact ⟨d, q1, q2.same hs4', q3⟩
          have hP4 := hP.out.same hs4'
          have y0 := cell_at d3 0
          have y1 := cell_at d3 1
          have y2 := cell_at d3 2
          have yl := lt_of_heap d3
          have hbz : b6 + 1 ≤ w4.heap.size := hP4.k6.lt
          have ek : ((k : Int) + 2) = ((k + 2 : Nat) : Int) := by omega
          rw [ek] at d2
          have ek2 : k + 2 + 1 = k + 1 + 2 := by omega
          clear f16 f15 ek hs4 dh1 dh2 dh3 dl1 dl2 dl3
          replace d1 := Lib.hid d1; replace d2 := Lib.hid d2; replace d3 := Lib.hid d3; replace hs4' := Lib.hid hs4'; replace hown4 := Lib.hid hown4; replace hall4 := Lib.hid hall4; replace hP4 := Lib.hid hP4; replace ek2 := Lib.hid ek2
          go_wp2_with (at_builtin; refine wpList_append1 rfl (.tmp 85) (.tmp 87) 115 rfl (b6 + 1) 45 i5 (.agg #[.int .i64 0, .slice none 0 0, .int .i64 0]) 3 40 Try.underlying115 hi5 hi5z hi5s hi5b rfl (by decide) (by decide) (some ⟨g7, 0, none⟩) (k + 2) c7 (dgCells l) rfl (owns_same hown4.out (by repeat (first | exact Fr.refl _ _ | apply Fr.alloc | apply Fr.drewN | apply Fr.drew | apply Fr.undrew | apply Fr.undrewN))) (by omega) w4.heap.size [.int .i64 d.n, .slice d.a d.L.length d.cap, .int .i64 d.r] rfl rfl (heap_new _ _) (by simp [Value.oneCell']) (by simp; omega) ?_; intro a5 c5 w5 hown5 hG5; have hB5 := Bt.snoc (d := d) hgb hll.out hown4.out hall4.out d1.out d2.out (show Same w4 (w4.alloc (.cells #[.int .i64 d.n, .slice d.a d.L.length d.cap, .int .i64 d.r] 45)) from (by repeat (first | exact Fr.refl _ _ | apply Fr.alloc | apply Fr.drewN | apply Fr.drew | apply Fr.undrew | apply Fr.undrewN))) hown5 hG5; have hP5 := (hP4.out.same (show Same w4 (w4.alloc (.cells #[.int .i64 d.n, .slice d.a d.L.length d.cap, .int .i64 d.r] 45)) from (by repeat (first | exact Fr.refl _ _ | apply Fr.alloc | apply Fr.drewN | apply Fr.drew | apply Fr.undrew | apply Fr.undrewN)))).fr hG5.1 (perm_apart hP4.out hgb); rw [ek2.out] at hB5 ⊢; replace hB5 := Lib.hid hB5; replace hP5 := Lib.hid hP5; clear hown5 hG5)
          go_roundw
          case rel => (repeat apply Exists.intro); exact ⟨⟨k + 1, by go_num, by omega, hB5.out, hP5.out⟩, rfl, rfl, rfl, rfl, rfl, rfl, rfl⟩
          case measure => simp [intOf]; omega
        · obtain rfl : k = q := by omega
          have hr0 := hVr.out
          obtain ⟨rr, rfl⟩ : ∃ rr : Nat, r = rr := ⟨r.toNat, by have := hr0.1; omega⟩
          have hrr : rr < k + 2 := by have := hr0.2; rw [hq.out] at this; omega
          obtain ⟨d, q1, q2, q3⟩ := hall rr hrr
          obtain ⟨b', off', hb', egl, c0, c1, c2⟩ := hDs.cells (k := rr) (by omega)
          cases hb'
          rw [List.getElem?_eq_getElem (by omega)] at q1
          rw [Option.some.inj q1, Nat.zero_add] at c0 c1 c2
          rw [htab.out] at q3
          have p0 := cell_at hP.k2 0
          have p2 := cell_at hP.k2 2
          have pl := lt_of_heap hP.k2
          have kt := hP.k4
          have hs := hP.sm
          have hrr' : (rr : Int) < k + 2 := by omega
          clear hr0
          replace hB := Lib.hid hB; replace hP := Lib.hid hP; replace hown := Lib.hid hown; replace hall := Lib.hid hall; replace hDs := Lib.hid hDs; replace hll := Lib.hid hll; replace q1 := Lib.hid q1; replace q2 := Lib.hid q2; replace q3 := Lib.hid q3
          obtain ⟨⟨t0, t1, t2, f0, f1, f2, tb⟩, d0, d1, d2, hF, hK, hSl⟩ := res3 (a := .int .i64 d.n) (c := .slice d.a d.L.length d.cap) (d := .int .i64 d.r) kt hs (by omega); replace hF := Lib.hid hF; replace hK := Lib.hid hK; replace hSl := Lib.hid hSl; replace kt := Lib.hid kt; replace hs := Lib.hid hs
          go_wp2_with fail
          refine bodyPost_ret (v := .tuple #[.agg #[.int .i64 d.n, .slice d.a d.L.length d.cap, .int .i64 d.r], .int .i64 0]) (by simp [results, Try.results55, go_sem, d0, d1, d2]) rfl ?_
          exact ⟨d, rfl, hSl.out _ _ _ _ _ q2.out (by decide), q3.out, hF.out⟩
end Go.Proofs.Ytmmjijmmocabhaa
namespace Go.Proofs.Ytmmjijmmocabhaa
open Go.RowKit
set_option linter.unusedVariables false
set_option linter.unusedSimpArgs false

/-- The law's table of a function: bit k for the k-th assignment. -/
def tblF (n : Nat) (b : Int) : List Bool := colF (fun k => bits .and .u32 (b / 2 ^ k) 1 == 1) (2 ^ n)
theorem tblF_len (n : Nat) (b : Int) : (tblF n b).length = 2 ^ n := colF_length _ _

set_option maxRecDepth 100000 in
set_option maxHeartbeats 1000000 in
theorem otable_any (n : Nat) (b : Int) (w : World) (hn : n ≤ 5) (hb : 0 ≤ b) (hb' : b ≤ 4294967295) :
    Calls Try.prog 20 #[.int .i64 n, .int .u32 b] w fun e w' => ∃ a c, e = .returned (.slice a (2 ^ n) c) ∧ w'.ownsRow w.heap.size 4 1 (.slice a (2 ^ n) c) (2 ^ n) (boolCells (tblF n b)) ∧ Same w w' := by
  obtain ⟨m, hm⟩ : ∃ m, m = 2 ^ n := ⟨_, rfl⟩
  have hm32 : m ≤ 32 := by rw [hm]; exact Nat.pow_le_pow_right (by omega) hn
  obtain ⟨i3, hi3, hi3z, hi3s, hi3b⟩ := info_parts info4
  have hw1 : wrap64 (2 ^ n) = (m : Int) := by rw [wrap_pow n (by omega), hm]
  unfold tblF
  rw [← hm]
  replace hm := Lib.hid hm
  go_enter Try.func20, Try.ntmps20
  go_wp2_with fail
  go_loopw [5, 6] (fun v i wr => ∃ (k : Nat) (a : Option Addr) (c : Nat), i = .int .i64 k ∧ k ≤ m ∧ v = .slice a k c ∧ wr.ownsRow w.heap.size 4 1 (.slice a k c) k (boolCells (colF (fun k => bits .and .u32 (b / 2 ^ k) 1 == 1) k)) ∧ Same w wr) (fun _ i _ => m - (intOf i).toNat)
  case atStart => exact ⟨0, none, 0, rfl, by omega, rfl, World.ownsRow_nil _ _ _ _, (by repeat (first | exact Fr.refl _ _ | apply Fr.alloc | apply Fr.drewN | apply Fr.drew | apply Fr.undrew | apply Fr.undrewN))⟩
  case round =>
    obtain ⟨k, a, c, rfl, hk, rfl, ho, hs⟩ := hrel
    have hcs := colF_succ (fun k => bits .and .u32 (b / 2 ^ k) 1 == 1) k
    have hws := hs.size
    by_cases hlt : k < m
    · replace ho := Lib.hid ho; replace hs := Lib.hid hs; replace hcs := Lib.hid hcs
      go_wp2_with (at_builtin; refine wpList_append1 rfl (.tmp 13) (.tmp 19) 39 rfl w.heap.size 4 i3 (.bool false) 1 1 Try.underlying39 hi3 hi3z hi3s hi3b rfl (by decide) (by decide) a k c (boolCells (colF (fun k => bits .and .u32 (b / 2 ^ k) 1 == 1) k)) rfl (owns_same ho.out (by repeat (first | exact Fr.refl _ _ | apply Fr.alloc | apply Fr.drewN | apply Fr.drew | apply Fr.undrew | apply Fr.undrewN))) (by omega) wr.heap.size [.bool (bits .and .u32 (b / 2 ^ k) 1 == 1)] rfl rfl (heap_new _ _) (by simp [Value.oneCell']) (by simp; omega) ?_; intro a5 c5 w5 ho5 hG5)
      have hs5 : Same w w5 := grew_fresh (hs.out.same (by repeat (first | exact Fr.refl _ _ | apply Fr.alloc | apply Fr.drewN | apply Fr.drew | apply Fr.undrew | apply Fr.undrewN))) hG5 (fun k hk => (ho.out.lt k hk).1)
      have ho5' : w5.ownsRow w.heap.size 4 1 (.slice a5 (k + 1) c5) (k + 1) (boolCells (colF (fun k => bits .and .u32 (b / 2 ^ k) 1 == 1) (k + 1))) := by
        rw [hcs.out]; have := ho5; simpa [boolCells] using this
      clear ho5 hG5
      go_roundw
      case rel => exact ⟨k + 1, a5, c5, by go_num, by omega, rfl, ho5', hs5⟩
      case measure => simp [intOf]; omega
    · obtain rfl : k = m := by omega
      replace ho := Lib.hid ho; replace hs := Lib.hid hs; replace hcs := Lib.hid hcs
      go_wp2_with fail
      go_ret
      exact ⟨a, c, rfl, ho.out, hs.out⟩

/-! ### made -/
theorem tab_len_eq (n : Nat) (b : Int) : (tblF n b).length = 2 ^ n := tblF_len n b
set_option maxRecDepth 100000 in
set_option maxHeartbeats 1000000 in
theorem made_any (n : Nat) (b : Int) (w : World) (hn : n ≤ 5) (hb : 0 ≤ b) (hb' : b ≤ 4294967295) :
    Calls Try.prog 23 #[.int .i64 n, .int .u32 b] w fun e w' => ∃ d : Dg, e = .returned (.agg #[.int .i64 d.n, .slice d.a d.L.length d.cap, .int .i64 d.r]) ∧ d.at w' ∧ d.tab n (tblF n b) ∧ Same w w' := by
  have TB := fun W => otable_any n b W hn hb hb'
  have FT := fun aT cT W (hT : RowAt W (.slice aT (2 ^ n) cT) (2 ^ n) (boolCells (tblF n b))) => fromTable_row n (tblF n b) aT cT W (by omega) (tblF_len n b) (by rw [tblF_len]; exact hT)
  obtain ⟨t, ht⟩ : ∃ t, t = tblF n b := ⟨_, rfl⟩
  have htl : t.length = 2 ^ n := by rw [ht, tblF_len]
  rw [← ht] at TB FT ⊢
  rw [htl] at FT
  obtain ⟨m, hm⟩ : ∃ m, m = 2 ^ n := ⟨_, rfl⟩
  rw [← hm] at TB FT
  replace TB := Lib.hid TB; replace FT := Lib.hid FT; replace ht := Lib.hid ht; replace htl := Lib.hid htl; replace hm := Lib.hid hm
  go_enter Try.func23, Try.ntmps23
  go_wp2_with fail
  refine (TB.out _).mono ?_
  rintro e w1 ⟨a, c, rfl, ho, hs⟩
  have hs1 : Same w w1 := (show Same w _ from (by repeat (first | exact Fr.refl _ _ | apply Fr.alloc | apply Fr.drewN | apply Fr.drew | apply Fr.undrew | apply Fr.undrewN))).same hs
  have kt := hs.at (heap_new w (.cells #[.int .i64 0, .slice none 0 0, .int .i64 0] 45)) id
  replace ho := Lib.hid ho; replace hs := Lib.hid hs; replace hs1 := Lib.hid hs1; replace kt := Lib.hid kt
  go_wp2_with fail
  refine (FT.out a c _ (SliceAt.of_owns ho.out).row).mono ?_
  rintro e w2 hD
  obtain ⟨d, rfl, hd, hdt, hs2⟩ := hD.dg (IsTab.of (by omega) htl.out)
  have kt2 := hs2.at kt.out id
  have hs3 := hs1.out.same hs2
  have e0 := cell_at kt2 0
  have e1 := cell_at kt2 1
  have e2 := cell_at kt2 2
  have ef0 := free_at kt2 0
  have ef1 := free_at kt2 1
  have ef2 := free_at kt2 2
  have el := lt_of_heap kt2
  clear hs2
  replace hd := Lib.hid hd; replace hdt := Lib.hid hdt; replace kt2 := Lib.hid kt2; replace hs3 := Lib.hid hs3
  go_wp2_with fail
  have hf := (set3_fr w.heap.size 0 1 2 (.int .i64 d.n) (.slice d.a d.L.length d.cap) (.int .i64 d.r) w2)
  have hk := heap_setCell_same (heap_setCell_same (heap_setCell_same kt2.out 0 (.int .i64 d.n)) 1 (.slice d.a d.L.length d.cap)) 2 (.int .i64 d.r)
  have c0 := cell_at hk 0
  have c1 := cell_at hk 1
  have c2 := cell_at hk 2
  have cl := lt_of_heap hk
  simp at c0 c1 c2
  generalize hG : ((w2.setCell { block := w.heap.size, off := 0 } (.int .i64 d.n)).setCell { block := w.heap.size, off := 1 } (.slice d.a d.L.length d.cap)).setCell { block := w.heap.size, off := 2 } (.int .i64 d.r) = w4 at *
  have hF4 : Fr (fun k => k = w.heap.size) w2 (w4.alloc (.cells #[.int .i64 d.n, .slice d.a d.L.length d.cap, .int .i64 d.r] 45)) := hf.alloc _
  refine bodyPost_ret (v := .agg #[.int .i64 d.n, .slice d.a d.L.length d.cap, .int .i64 d.r]) (by simp [results, Try.results23, go_sem, c0, c1, c2, cl]) rfl ⟨d, rfl, ?_, hdt.out, ?_⟩
  · exact at_fr hd.out hF4 (fun k hk => ⟨_, (show w2.heap[k]? = _ from (show k = w.heap.size from hk) ▸ kt2.out)⟩)
  · exact hs3.out.trans hF4 (fun i hi e => by have : i = w.heap.size := e; omega)

/-! ### same -/
set_option maxRecDepth 100000 in
set_option maxHeartbeats 1000000 in
theorem osame_any (x y : List Int) (a b : Option Addr) (c d p q : Nat) (w : World) (hp : x.length = p) (hq : y.length = q) (hX : RowAt w (.slice a p c) p (intCells x)) (hY : RowAt w (.slice b q d) q (intCells y)) (hl : p ≤ 1000000) :
    Calls Try.prog 19 #[.slice a p c, .slice b q d] w fun e w' => e = .returned (.bool (decide (x = y))) ∧ Same w w' := by
  obtain ⟨R, hR⟩ : ∃ R, R = decide (x = y) := ⟨_, rfl⟩
  rw [← hR]
  by_cases hpq : p = q
  · subst hpq
    have hb : ((p : Int) != (p : Int)) = false := by simp
    replace hX := Lib.hid hX; replace hY := Lib.hid hY; replace hp := Lib.hid hp; replace hq := Lib.hid hq; replace hR := Lib.hid hR
    go_enter Try.func19, Try.ntmps19
    go_wp2_with fail
    go_loopw [5] (fun i wr => ∃ k : Nat, i = .int .i64 k ∧ k ≤ p ∧ x.take k = y.take k ∧ Same w wr) (fun i _ => p - (intOf i).toNat)
    case atStart => exact ⟨0, rfl, by omega, by simp, (by repeat (first | exact Fr.refl _ _ | apply Fr.alloc | apply Fr.drewN | apply Fr.drew | apply Fr.undrew | apply Fr.undrewN))⟩
    case round =>
      obtain ⟨k, rfl, hk, he, hs⟩ := hrel
      by_cases hlt : k < p
      · have hkx : k < x.length := by rw [hp.out]; exact hlt
        have hky : k < y.length := by rw [hq.out]; exact hlt
        obtain ⟨bx, ox, rfl, hbx, x0⟩ := int_cell (hX.out.same hs) (k := k) hkx hp.out
        obtain ⟨by_, oy, rfl, hby, y0⟩ := int_cell (hY.out.same hs) (k := k) hky hq.out
        have hsx := List.take_succ_eq_append_getElem hkx
        have hsy := List.take_succ_eq_append_getElem hky
        have hne : x[k] ≠ y[k] → R = false := fun h => by
          rw [hR.out, decide_eq_false_iff_not]
          rintro rfl
          exact h rfl
        generalize x[k] = u at *
        generalize y[k] = v at *
        by_cases huv : u = v
        · subst huv
          have hb2 : (u != u) = false := by simp
          have he2 : x.take (k + 1) = y.take (k + 1) := by rw [hsx, hsy, he]
          replace hs := Lib.hid hs; replace he := Lib.hid he; replace hsx := Lib.hid hsx; replace hsy := Lib.hid hsy; replace hne := Lib.hid hne; replace he2 := Lib.hid he2
          go_upto_region 6 with fail
          refine wp_region_sched (L2 bx by_) [0, 0, 0, 1, 0, 0, 0, 1, 0] [0, 1, 2, 4, 5, 6, 3, 7, 8] (by kernel_rfl) (by kernel_rfl) ?_
          repeat (first | (refine sched_w rfl rfl (fun _ hK => ?_); go_simp; refine hK _ ?_; clear hK) | (refine sched_s rfl rfl (fun _ hK => ?_); go_simp; first | (refine hK _ ?_; clear hK) | (refine ⟨_, fun _ => rfl, hK _ ?_⟩; clear hK)))
          refine sched_nil (NoPanic.normal ?_)
          go_wp2_with fail
          go_roundw
          case rel => exact ⟨k + 1, by go_num, by omega, he2.out, hs.out.same (by repeat (first | exact Fr.refl _ _ | apply Fr.undrew | apply Fr.undrewN | apply Fr.drew | apply Fr.drewN | apply Fr.alloc))⟩
          case measure => simp [intOf]; omega
        · have hRf := hne huv
          have hb2 : (u != v) = true := by simpa using huv
          replace hs := Lib.hid hs; replace he := Lib.hid he; replace hsx := Lib.hid hsx; replace hsy := Lib.hid hsy; replace hne := Lib.hid hne; replace hRf := Lib.hid hRf; replace huv := Lib.hid huv
          go_upto_region 6 with fail
          refine wp_region_sched (L2 bx by_) [0, 0, 0, 1, 0, 0, 0, 1, 0] [0, 1, 2, 4, 5, 6, 3, 7, 8] (by kernel_rfl) (by kernel_rfl) ?_
          repeat (first | (refine sched_w rfl rfl (fun _ hK => ?_); go_simp; refine hK _ ?_; clear hK) | (refine sched_s rfl rfl (fun _ hK => ?_); go_simp; first | (refine hK _ ?_; clear hK) | (refine ⟨_, fun _ => rfl, hK _ ?_⟩; clear hK)))
          refine sched_nil (NoPanic.normal ?_)
          go_wp2_with fail
          go_ret
          exact ⟨by rw [hRf.out]; rfl, hs.out.same (by repeat (first | exact Fr.refl _ _ | apply Fr.undrew | apply Fr.undrewN | apply Fr.drew | apply Fr.drewN | apply Fr.alloc))⟩
      · obtain rfl : k = p := by omega
        have hRt : R = true := by
          rw [hR.out, decide_eq_true_iff]
          rw [List.take_of_length_le (by rw [hp.out]; exact Nat.le_refl _), List.take_of_length_le (by rw [hq.out]; exact Nat.le_refl _)] at he
          exact he
        replace hs := Lib.hid hs; replace he := Lib.hid he; replace hRt := Lib.hid hRt
        go_wp2_with fail
        go_ret
        exact ⟨by rw [hRt.out]; rfl, hs.out⟩
  · have hb : ((p : Int) != (q : Int)) = true := by simp; omega
    have hRf : R = false := by
      rw [hR, decide_eq_false_iff_not]
      rintro rfl
      omega
    replace hX := Lib.hid hX; replace hY := Lib.hid hY; replace hp := Lib.hid hp; replace hq := Lib.hid hq; replace hR := Lib.hid hR; replace hRf := Lib.hid hRf; replace hpq := Lib.hid hpq
    go_enter Try.func19, Try.ntmps19
    go_wp2_with fail
    go_ret
    exact ⟨by rw [hRf.out]; rfl, (by repeat (first | exact Fr.refl _ _ | apply Fr.alloc | apply Fr.drewN | apply Fr.drew | apply Fr.undrew | apply Fr.undrewN))⟩

/-! ### example -/
def exL : List Int := [0, 0, 0, 0, 0, 0, 32, 32, 160, 160, 160, 1184, 3232, 3232, 11424, 27808, 60576]
set_option maxRecDepth 100000 in
set_option maxHeartbeats 4000000 in
theorem example_any (w : World) : Calls Try.prog 47 #[] w fun e w' => e = .returned (.int .u32 60576) ∧ w' = w := by
  go_enter Try.func47, Try.ntmps47
  go_wp2_with fail
  go_loopw [1, 2] (fun v i wr => ∃ k : Nat, i = .int .i64 k ∧ k ≤ 16 ∧ v = .int .u32 (exL.getD k 0) ∧ wr = w) (fun _ i _ => 16 - (intOf i).toNat)
  case atStart => exact ⟨0, rfl, by omega, rfl, rfl⟩
  case round =>
    obtain ⟨k, rfl, hk, rfl, rfl⟩ := hrel
    obtain rfl | rfl | rfl | rfl | rfl | rfl | rfl | rfl | rfl | rfl | rfl | rfl | rfl | rfl | rfl | rfl | rfl : k = 0 ∨ k = 1 ∨ k = 2 ∨ k = 3 ∨ k = 4 ∨ k = 5 ∨ k = 6 ∨ k = 7 ∨ k = 8 ∨ k = 9 ∨ k = 10 ∨ k = 11 ∨ k = 12 ∨ k = 13 ∨ k = 14 ∨ k = 15 ∨ k = 16 := by omega
    · go_wp2_with fail
      go_roundw
      case rel => exact ⟨1, by rfl, by omega, rfl, trivial⟩
      case measure => simp [intOf]
    · go_wp2_with fail
      go_roundw
      case rel => exact ⟨2, by rfl, by omega, rfl, trivial⟩
      case measure => simp [intOf]
    · go_wp2_with fail
      go_roundw
      case rel => exact ⟨3, by rfl, by omega, rfl, trivial⟩
      case measure => simp [intOf]
    · go_wp2_with fail
      go_roundw
      case rel => exact ⟨4, by rfl, by omega, rfl, trivial⟩
      case measure => simp [intOf]
    · go_wp2_with fail
      go_roundw
      case rel => exact ⟨5, by rfl, by omega, rfl, trivial⟩
      case measure => simp [intOf]
    · go_wp2_with fail
      go_roundw
      case rel => exact ⟨6, by rfl, by omega, rfl, trivial⟩
      case measure => simp [intOf]
    · go_wp2_with fail
      go_roundw
      case rel => exact ⟨7, by rfl, by omega, rfl, trivial⟩
      case measure => simp [intOf]
    · go_wp2_with fail
      go_roundw
      case rel => exact ⟨8, by rfl, by omega, rfl, trivial⟩
      case measure => simp [intOf]
    · go_wp2_with fail
      go_roundw
      case rel => exact ⟨9, by rfl, by omega, rfl, trivial⟩
      case measure => simp [intOf]
    · go_wp2_with fail
      go_roundw
      case rel => exact ⟨10, by rfl, by omega, rfl, trivial⟩
      case measure => simp [intOf]
    · go_wp2_with fail
      go_roundw
      case rel => exact ⟨11, by rfl, by omega, rfl, trivial⟩
      case measure => simp [intOf]
    · go_wp2_with fail
      go_roundw
      case rel => exact ⟨12, by rfl, by omega, rfl, trivial⟩
      case measure => simp [intOf]
    · go_wp2_with fail
      go_roundw
      case rel => exact ⟨13, by rfl, by omega, rfl, trivial⟩
      case measure => simp [intOf]
    · go_wp2_with fail
      go_roundw
      case rel => exact ⟨14, by rfl, by omega, rfl, trivial⟩
      case measure => simp [intOf]
    · go_wp2_with fail
      go_roundw
      case rel => exact ⟨15, by rfl, by omega, rfl, trivial⟩
      case measure => simp [intOf]
    · go_wp2_with fail
      go_roundw
      case rel => exact ⟨16, by rfl, by omega, rfl, trivial⟩
      case measure => simp [intOf]
    · go_wp2_with fail
      go_ret
      exact ⟨rfl, rfl⟩
end Go.Proofs.Ytmmjijmmocabhaa
