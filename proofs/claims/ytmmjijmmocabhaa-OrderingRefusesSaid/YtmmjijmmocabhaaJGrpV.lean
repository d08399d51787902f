/- span, Span, Width walked. Groups walked: checkGroups, ends, span, Span, Width. Move and Inverse walked. A variable moved in an order: Clone, DeleteFunc, Insert on a row of the call's own; move, Move walked. -/
import Derived.Test.YtmmjijmmocabhaaJOrdC
import Derived.Test.YtmmjijmmocabhaaJShelf
import Derived.Sort.OwnSortedInts
import Derived.Test.YtmmjijmmocabhaaJGrpP
import Derived.Test.YtmmjijmmocabhaaJSearch
namespace Go.Proofs.Ytmmjijmmocabhaa
open Go.RowKit Go.Sort
set_option linter.unusedVariables false
set_option linter.unusedSimpArgs false

/-- The order in which v stands at p. -/
def movF (o : List Int) (v : Int) (p : Nat) : List Int := (o.filter fun x => !(x == v)).take p ++ v :: (o.filter fun x => !(x == v)).drop p

/-- A row of ints in block g, with room for cap. -/
def OwnI (w : World) (base g cap : Nat) (l : List Int) : Prop :=
  base ≤ g ∧ ∃ cur : Array Value, w.heap[g]? = some (.cells cur 3 (0, 0)) ∧ l.length ≤ cap ∧ cap ≤ maxLen ∧ cur.size = cap ∧ cur.toList.take l.length = intCells l

theorem OwnI.owns {w : World} {base g cap n : Nat} {l : List Int} (h : OwnI w base g cap l) (hn : l.length = n) : w.ownsRow base 3 1 (.slice (some ⟨g, 0, none⟩) n cap) n (intCells l) := by
  subst hn
  obtain ⟨h1, cur, h2, h3, h4, h5, h6⟩ := h
  exact ⟨by simp [intCells], .inr ⟨g, cap, cur, rfl, h1, h2, h3, h4, by omega, by simpa using h6⟩⟩
theorem owns_OwnI {w : World} {base n : Nat} {v : Value} {l : List Int} (h : w.ownsRow base 3 1 v n (intCells l)) (hv : v ≠ .slice none 0 0) : ∃ g cap, v = .slice (some ⟨g, 0, none⟩) n cap ∧ l.length = n ∧ OwnI w base g cap l := by
  obtain ⟨hl, h | ⟨g, cap, cur, rfl, h1, h2, h3, h4, h5, h6⟩⟩ := h
  · exact absurd h.1 hv
  · have : l.length = n := by simpa [intCells] using hl
    subst this
    exact ⟨g, cap, rfl, rfl, h1, cur, h2, h3, h4, by omega, by simpa using h6⟩
theorem OwnI.fr {S : Nat → Prop} {w w' : World} {base g cap : Nat} {l : List Int} (h : OwnI w base g cap l) (hf : Fr S w w') (hS : ¬ S g) : OwnI w' base g cap l := by
  obtain ⟨h1, cur, h2, h3⟩ := h
  exact ⟨h1, cur, hf.at h2 hS, h3⟩
theorem OwnI.same {w w' : World} {base g cap : Nat} {l : List Int} (h : OwnI w base g cap l) (hf : Same w w') : OwnI w' base g cap l := h.fr hf id
theorem OwnI.lt {w : World} {base g cap : Nat} {l : List Int} (h : OwnI w base g cap l) : g < w.heap.size := by
  obtain ⟨h1, cur, h2, _⟩ := h; exact lt_of_heap h2
theorem OwnI.base {w : World} {base base' g cap : Nat} {l : List Int} (h : OwnI w base g cap l) (hb : base' ≤ base) : OwnI w base' g cap l := ⟨Nat.le_trans hb h.1, h.2⟩
theorem OwnI.slice {w : World} {base g cap n : Nat} {l : List Int} (h : OwnI w base g cap l) (hn : l.length = n) : SliceAt w 3 1 (.slice (some ⟨g, 0, none⟩) n cap) n (intCells l) := SliceAt.of_owns (h.owns hn)
theorem OwnI.row {w : World} {base g cap n : Nat} {l : List Int} (h : OwnI w base g cap l) (hn : l.length = n) : RowAt w (.slice (some ⟨g, 0, none⟩) n cap) n (intCells l) := (h.slice hn).row

theorem own_base {w : World} {base base' : Nat} {T : TypeId} {sz n : Nat} {v : Value} {xs : List Value} (h : w.ownsRow base T sz v n xs) (hb : base' ≤ base) : w.ownsRow base' T sz v n xs := by
  obtain ⟨hl, hn | ⟨g, cap, cur, rfl, h1, h2⟩⟩ := h
  · exact ⟨hl, .inl hn⟩
  · exact ⟨hl, .inr ⟨g, cap, cur, rfl, Nat.le_trans hb h1, h2⟩⟩

/-! ### Clone -/
def CloneI (o : List Int) (q : Nat) (w : World) (e : Ending) (w' : World) : Prop :=
  ∃ a c, e = .returned (.slice a q c) ∧ w'.ownsRow w.heap.size 3 1 (.slice a q c) q (intCells o) ∧ Same w w'
theorem cloneI_any (o : List Int) (a : Option Addr) (cap q : Nat) (w : World) (hq : o.length = q) (hO : RowAt w (.slice a q cap) q (intCells o)) (hl : q ≤ 1000000) :
    Calls Try.prog 49 #[.slice a q cap] w (CloneI o q w) := by
  subst hq
  cases a with
  | none =>
    obtain ⟨_, a', cap', he, h1, h2, h3, _⟩ := hO
    cases he
    have hc := h3 rfl
    have hz : o = [] := List.length_eq_zero_iff.1 (by omega)
    subst hz
    refine (Try.slices_Clone_int_nil 0 cap w).mono ?_
    rintro e w' ⟨rfl, rfl⟩
    exact ⟨none, 0, rfl, World.ownsRow_nil _ _ _ _, Fr.refl _ _⟩
  | some ad =>
    by_cases h0 : o.length = 0
    · have hz : o = [] := List.length_eq_zero_iff.1 h0
      subst hz
      refine (Try.slices_Clone_int_zero ad cap w).mono ?_
      rintro e w' ⟨v', rfl, hown, hv, hb⟩
      obtain ⟨g, c, rfl, _, hI⟩ := owns_OwnI (l := []) hown hv
      exact ⟨_, c, rfl, hI.owns rfl, Fr.of_below hb⟩
    · obtain ⟨b, off, ha, hb, hc⟩ := hO.cell (by omega)
      cases ha
      refine (Try.slices_Clone_int b off o.length cap o w (Nat.le_refl _) (by omega) (fun j hj => hc j _ (intCells_get o j hj))).mono ?_
      rintro e w' ⟨v', rfl, hown, hv, hb⟩
      rw [List.take_length] at hown
      obtain ⟨g, c, rfl, _, hI⟩ := owns_OwnI (l := o) hown hv
      exact ⟨_, c, rfl, hI.owns rfl, Fr.of_below hb⟩
theorem cloneI_some (o : List Int) (a : Option Addr) (cap q : Nat) (w : World) (hq : o.length = q) (hO : RowAt w (.slice a q cap) q (intCells o)) (hl : q ≤ 1000000) (h0 : 0 < q) :
    Calls Try.prog 49 #[.slice a q cap] w fun e w' => ∃ g c, e = .returned (.slice (some ⟨g, 0, none⟩) q c) ∧ OwnI w' w.heap.size g c o ∧ Same w w' := by
  refine (cloneI_any o a cap q w hq hO hl).mono ?_
  rintro e w' ⟨a', c, rfl, hown, hs⟩
  obtain ⟨g, c', he, _, hI⟩ := owns_OwnI hown (by intro h; simp at h; omega)
  cases he
  exact ⟨g, c, rfl, hI, hs⟩

/-! ### DeleteFunc -/
set_option maxRecDepth 100000 in
theorem eqv_any (x v : Int) (bx : Nat) (W : World) (h : W.heap[bx]? = some (.cells #[.int .i64 v] 3 (0, 0))) :
    Calls Try.prog 80 #[.int .i64 x, .pointer (some ⟨bx, 0, none⟩)] W fun e w' => e = .returned (.bool (x == v)) ∧ w' = W := by
  have c0 := cell_at h 0
  clear h
  go_enter Try.func80, Try.ntmps80
  go_wp2_with fail
  go_ret
  exact ⟨rfl, rfl⟩

theorem enter_move1 (args : Array Value) (W : World) : (callFunc 80 args).run Try.prog W = .ok (.enter 80 args) W := by kernel_rfl

theorem delI_own (o : List Int) (v : Int) (base g cap bx q : Nat) (w : World) (hq : o.length = q) (hO : OwnI w base g cap o) (hbx : w.heap[bx]? = some (.cells #[.int .i64 v] 3 (0, 0))) (hne : bx ≠ g) :
    Calls Try.prog 79 #[.slice (some ⟨g, 0, none⟩) q cap, .func (.func 80) #[] #[.pointer (some ⟨bx, 0, none⟩)]] w fun e w' =>
      e = .returned (.slice (some ⟨g, 0, none⟩) (o.filter fun x => !(x == v)).length cap) ∧ OwnI w' base g cap (o.filter fun x => !(x == v)) ∧ Fr (fun k => k = g) w w' := by
  subst hq
  obtain ⟨h1, cur, h2, h3, h4, h5, h6⟩ := hO
  have hone : Go.Proofs.OneCell encI := fun x => rfl
  have hlt := lt_of_heap hbx
  have give : ∀ (W : World) (x : Int), W.heap[bx]? = some (.cells #[.int .i64 v] 3 (0, 0)) → FnGives Try.prog 80 #[.pointer (some ⟨bx, 0, none⟩)] #[encI x] (.bool (x == v)) W := by
    intro W x hW
    refine (eqv_any x v bx W hW).mono ?_
    rintro e w' ⟨rfl, rfl⟩
    exact ⟨rfl, 0, rfl⟩
  have hz : ∀ w, (zeroValue 3).run Try.prog w = .ok (encI 0) w := fun w => by kernel_rfl
  have hP : PredAt Try.prog 80 #[.pointer (some ⟨bx, 0, none⟩)] encI (fun x => x == v) w := fun W x hb => give W x ((hb.block bx hlt).trans hbx)
  have hPO : PredOver Try.prog 80 #[.pointer (some ⟨bx, 0, none⟩)] encI (fun x => x == v) g 0 o.toArray.size w := by
    intro n os dk x _
    refine give _ x ?_
    exact ((grownBy_sortedI (w := w) (g := g) (n := n) (os := os) dk).block bx hlt (by simp; omega)).trans hbx
  have hH : Holds encI w g 0 o.toArray := holds_of_blockI h2 (by simpa [intCells] using h6)
  refine (Try.slices_DeleteFunc encI hone (fun x => x == v) 80 #[.pointer (some ⟨bx, 0, none⟩)] enter_move1 0 hz g 0 cap o.toArray w hP hPO hH (by simp; unfold maxLen at h4; omega) (by simpa using h3)).mono ?_
  rintro e w' ⟨rfl, n, rfl⟩
  obtain ⟨r, hr⟩ : ∃ r, r = o.filter fun x => !(x == v) := ⟨_, rfl⟩
  have hrl : r.length ≤ o.length := by rw [hr]; exact List.length_filter_le _ _
  have hrl' : (o.toArray.toList.filter fun x => !(x == v)) = r := by rw [hr]
  simp only [hrl', ← hr]
  have hlen : (r ++ List.replicate (o.toArray.size - r.length) 0).length = o.length := by simp; omega
  have hh := heap_sortedI (n := n) (os := #[]) (r ++ List.replicate (o.toArray.size - r.length) 0).toArray h2
  have hg := grownBy_sortedI (w := w) (g := g) (n := n) (os := #[]) (r ++ List.replicate (o.toArray.size - r.length) 0).toArray
  have ht := take_putCellsI cur (r ++ List.replicate (o.toArray.size - r.length) 0) (by rw [hlen]; omega)
  rw [hlen] at ht
  simp only [grow_empty] at hh hg
  refine ⟨by first | trivial | rfl, ⟨h1, _, hh, by omega, h4, by simpa [putCells] using h5, ?_⟩, ⟨hg.os, hg.tape, hg.output, hg.size, fun k hk hkg => hg.block k hk (by simp; omega)⟩⟩
  have h7 := congrArg (List.take r.length) ht
  rw [List.take_take, Nat.min_eq_left hrl] at h7
  rw [h7, List.map_append, List.take_append_of_le_length (by simp), List.take_of_length_le (by simp)]
  rfl

/-! ### Insert -/
theorem setCells_block (b : Nat) : ∀ (vs : List Value) (o : Nat) (w : World) (cur : Array Value) (T : TypeId) (fr : Nat × Nat), w.heap[b]? = some (.cells cur T fr) → ∃ cur', (w.setCells b o vs).heap[b]? = some (.cells cur' T fr) ∧ cur'.size = cur.size
  | [], o, w, cur, T, fr, h => ⟨cur, h, rfl⟩
  | v :: vs, o, w, cur, T, fr, h => by
    obtain ⟨cur', h1, h2⟩ := setCells_block b vs (o + 1) (w.setCell ⟨b, o, none⟩ v) _ T fr (heap_setCell_same h o v)
    exact ⟨cur', h1, by rw [h2]; simp⟩
theorem setCells_fr (b : Nat) : ∀ (vs : List Value) (o : Nat) (w : World), Fr (fun k => k = b) w (w.setCells b o vs)
  | [], o, w => Fr.refl _ _
  | v :: vs, o, w => ((Fr.refl (fun k => k = b) w).setCell ⟨b, o, none⟩ v (fun _ => rfl)).trans (setCells_fr b vs (o + 1) (w.setCell ⟨b, o, none⟩ v)) (fun _ _ h => h)

theorem own_shape {w : World} {g : Nat} {cur : Array Value} {T : TypeId} {fr : Nat × Nat} (h : w.heap[g]? = some (.cells cur T fr)) : w.shape? g = some (T, cur.size) := by simp [World.shape?, h]

/-- What stands in a row behind cells were set, read off its cells. -/
theorem OwnI.of_cells {w : World} {base g cap : Nat} {cur : Array Value} {l : List Int} (h1 : base ≤ g) (h2 : w.heap[g]? = some (.cells cur 3 (0, 0))) (h3 : l.length ≤ cap) (h4 : cap ≤ maxLen) (h5 : cur.size = cap)
    (hc : ∀ j (hj : j < l.length), w.cell? ⟨g, j, none⟩ = some (.int .i64 l[j])) : OwnI w base g cap l := by
  refine ⟨h1, cur, h2, h3, h4, h5, ?_⟩
  apply List.ext_getElem?
  intro j
  by_cases hj : j < l.length
  · have := hc j hj
    rw [cell_at h2 j] at this
    rw [List.getElem?_take_of_lt hj, Array.getElem?_toList, this, intCells_get l j hj]
    simp [List.getD, hj]
  · rw [List.getElem?_eq_none (by simp; omega), List.getElem?_eq_none (by simp [intCells]; omega)]

theorem insI_own (r : List Int) (v : Int) (i base g cap vb q : Nat) (w : World) (hq : r.length = q) (hO : OwnI w base g cap r) (hv : w.heap[vb]? = some (.cells #[.int .i64 v] 3 (0, 0))) (hne : vb ≠ g) (hi : i ≤ q) (hroom : q + 1 ≤ cap) :
    Calls Try.prog 81 #[.slice (some ⟨g, 0, none⟩) q cap, .int .i64 i, .slice (some ⟨vb, 0, none⟩) 1 1] w fun e w' =>
      e = .returned (.slice (some ⟨g, 0, none⟩) (q + 1) cap) ∧ OwnI w' base g cap (r.take i ++ v :: r.drop i) ∧ Fr (fun k => k = g) w w' := by
  subst hq
  obtain ⟨h1, cur, h2, h3, h4, h5, h6⟩ := hO
  have hcap : cap ≤ 9223372036854775807 := by unfold maxLen at h4; omega
  have hcell : ∀ j, j < r.length → w.cell? ⟨g, j, none⟩ = some (.int .i64 (r.getD j 0)) := by
    intro j hj
    rw [cell_at h2 j]
    have := congrArg (fun l => l[j]?) h6
    simp only [List.getElem?_take_of_lt hj, Array.getElem?_toList, intCells_get r j hj] at this
    exact this
  have hsp : ∀ j, j < cap → (w.cell? ⟨g, j, none⟩).isSome = true := by
    intro j hj
    rw [cell_at h2 j, Array.getElem?_eq_getElem (by omega)]
    rfl
  have hfz : ∀ j, w.frozen? ⟨g, j, none⟩ = false := fun j => free_at h2 j
  have hvc := cell_at hv 0
  have hlen : (r.take i ++ v :: r.drop i).length = r.length + 1 := by simp; omega
  by_cases hil : i < r.length
  · refine (Try.slices_Insert_int_shift g 0 r.length cap i vb 0 1 1 (intCells r) [.int .i64 v] w hil (by omega) hroom hcap hne (by simp [intCells]) rfl
      (fun j u hu => ?_) (fun j hj => by rw [Nat.zero_add]; exact hsp j (by omega)) (fun j _ => hfz _) (fun j u hu => ?_) (fun u hu => ?_) (fun u hu => ?_) 3 3 1 cur.size (own_shape hv) (own_shape h2) (by omega) (free_at hv 0) (free_at hv 1)).mono ?_
    · have hj : j < r.length := by
        rcases Nat.lt_or_ge j r.length with h | h
        · exact h
        · rw [List.getElem?_eq_none (by simpa [intCells] using h)] at hu; cases hu
      rw [intCells_get r j hj] at hu
      cases hu
      rw [Nat.zero_add]
      exact hcell j hj
    · match j, hu with
      | 0, hu => simp at hu; subst hu; exact hvc
    · simp [intCells] at hu; obtain ⟨x, _, rfl⟩ := hu; rfl
    · simp at hu; subst hu; rfl
    · rintro e w' ⟨rfl, rfl⟩
      have F1 : Fr (fun k => k = g) w (((w.drew.setCells g (0 + (i + 1)) ((intCells r).drop i)).setCells g (0 + i) [.int .i64 v])) :=
        (((Fr.refl _ _).drew).trans (setCells_fr g ((intCells r).drop i) (0 + (i + 1)) w.drew) (fun _ _ h => h)).trans (setCells_fr g [.int .i64 v] (0 + i) _) (fun _ _ h => h)
      obtain ⟨c1, k1, s1⟩ := setCells_block g ((intCells r).drop i) (0 + (i + 1)) w.drew cur _ _ h2
      obtain ⟨c2, k2, s2⟩ := setCells_block g [.int .i64 v] (0 + i) _ c1 _ _ k1
      refine ⟨rfl, OwnI.of_cells h1 k2 (by omega) h4 (by omega) (fun j hj => ?_), F1⟩
      rw [hlen] at hj
      have hd : ((intCells r).drop i).length = r.length - i := by simp [intCells]
      have sp1 : ∀ j, j < ((intCells r).drop i).length → (w.drew.cell? ⟨g, (0 + (i + 1)) + j, none⟩).isSome = true := fun j hj => hsp _ (by omega)
      have sp2 : ∀ j, j < [Value.int .i64 v].length → ((w.drew.setCells g (0 + (i + 1)) ((intCells r).drop i)).cell? ⟨g, (0 + i) + j, none⟩).isSome = true := by
        intro j hj
        simp at hj
        subst hj
        rw [cell_at k1, Array.getElem?_eq_getElem (by omega)]
        rfl
      rcases Nat.lt_trichotomy j i with h | h | h
      · rw [World.cell?_setCells_out g _ _ _ _ (fun _ _ => .inl (by simp; omega)), World.cell?_setCells_out g _ _ _ _ (fun _ _ => .inl (by simp; omega))]
        show w.cell? _ = _
        rw [hcell j (by omega)]
        simp [List.getElem_append_left, List.getD, show j < r.length by omega, h, hil, show j < min i r.length by omega]
      · subst h
        have := World.cell?_setCells_in g [.int .i64 v] (0 + j) _ sp2 0 (by simp)
        simp only [Nat.add_zero, Nat.zero_add] at this ⊢
        rw [this]
        have hm : min j r.length = j := by omega
        simp [List.getElem_append_right, hm]
      · rw [World.cell?_setCells_out g _ _ _ _ (fun _ _ => .inr (by simp; omega))]
        have := World.cell?_setCells_in g ((intCells r).drop i) (0 + (i + 1)) w.drew sp1 (j - (i + 1)) (by omega)
        rw [show 0 + (i + 1) + (j - (i + 1)) = j by omega] at this
        rw [this, List.getElem_drop]
        have hm : min i r.length = i := by omega
        obtain ⟨m, rfl⟩ : ∃ m, j = i + 1 + m := ⟨j - (i + 1), by omega⟩
        have : (r.take i ++ v :: r.drop i)[i + 1 + m]'(by omega) = r[i + m]'(by omega) := by
          rw [List.getElem_append_right (by simp; omega)]
          simp only [List.length_take, hm]
          have e : i + 1 + m - i = m + 1 := by omega
          simp only [e, List.getElem_cons_succ, List.getElem_drop]
        rw [this]
        simp [intCells, show i + 1 + m - (i + 1) = m by omega]
  · obtain rfl : i = r.length := by omega
    refine (Try.slices_Insert_int_end_room g 0 r.length cap vb 0 1 1 [.int .i64 v] w (by omega) hroom hcap rfl (fun j hj => hsp _ (by omega)) (fun j _ => hfz _) (fun j u hu => ?_) (fun u hu => ?_)).mono ?_
    · match j, hu with
      | 0, hu => simp at hu; subst hu; exact hvc
    · simp at hu; subst hu; rfl
    · rintro e w' ⟨rfl, rfl⟩
      obtain ⟨c2, k2, s2⟩ := setCells_block g [.int .i64 v] (0 + r.length) w cur _ _ h2
      refine ⟨rfl, OwnI.of_cells h1 k2 (by omega) h4 (by omega) (fun j hj => ?_), setCells_fr g [.int .i64 v] (0 + r.length) w⟩
      rw [hlen] at hj
      have sp2 : ∀ j, j < [Value.int .i64 v].length → (w.cell? ⟨g, (0 + r.length) + j, none⟩).isSome = true := fun j hj => hsp _ (by simp at hj; omega)
      by_cases h : j < r.length
      · rw [World.cell?_setCells_out g _ _ _ _ (fun _ _ => .inl (by simp; omega)), hcell j h]
        simp [List.getD, h]
      · obtain rfl : j = r.length := by omega
        have := World.cell?_setCells_in g [.int .i64 v] (0 + r.length) _ sp2 0 (by simp)
        simp only [Nat.add_zero, Nat.zero_add] at this ⊢
        rw [this]
        simp

theorem same_own {w w1 w2 : World} {g : Nat} (h1 : Same w w1) (h2 : Fr (fun k => k = g) w1 w2) (hg : w.heap.size ≤ g) : Same w w2 := h1.trans h2 (fun i hi e => by have : i = g := e; omega)

/-! ### move -/
def MovRet (o : List Int) (v : Int) (p n : Nat) (w : World) (e : Ending) (w' : World) : Prop :=
  ∃ g c, e = .returned (.slice (some ⟨g, 0, none⟩) n c) ∧ OwnI w' w.heap.size g c (movF o v p) ∧ Same w w'

theorem del_length {n : Nat} {o : List Int} (h : IsOrd n o) {v : Nat} (hv : v < n) : (o.filter fun x => !(x == (v : Int))).length + 1 = n := by
  have h1 : (o.filter fun x => !(x == (v : Int))) = o.erase (v : Int) := by
    rw [h.nodup.erase_eq_filter]
    rfl
  have h2 := List.length_erase_of_mem (h.has hv)
  have h3 := List.length_pos_of_mem (h.has hv)
  rw [h1, h2, h.len] at *
  omega

set_option maxRecDepth 100000 in
set_option maxHeartbeats 2000000 in
theorem move_any {n : Nat} {o : List Int} (h : IsOrd n o) (v p : Nat) (hv : v < n) (hp : p < n) (a : Option Addr) (cap : Nat) (w : World) (hO : RowAt w (.slice a n cap) n (intCells o)) :
    Calls Try.prog 65 #[.slice a n cap, .int .i64 v, .int .i64 p] w (MovRet o v p n w) := by
  have hdl := del_length h hv
  have hl := h.len
  have h40 := h.n40
  obtain ⟨r, hr⟩ : ∃ r, r = o.filter fun x => !(x == (v : Int)) := ⟨_, rfl⟩
  rw [← hr] at hdl
  have hm : movF o v p = r.take p ++ (v : Int) :: r.drop p := by unfold movF; rw [← hr]
  obtain ⟨q, hq⟩ : ∃ q, r.length = q := ⟨_, rfl⟩
  rw [hq] at hdl
  have hpq : p ≤ q := by omega
  replace h := Lib.hid h; replace hO := Lib.hid hO; replace hr := Lib.hid hr; replace hm := Lib.hid hm; replace hl := Lib.hid hl; replace hq := Lib.hid hq; replace hdl := Lib.hid hdl
  go_enter Try.func65, Try.ntmps65
  go_wp2_with fail
  refine (cloneI_some o a cap n _ hl.out (hO.out.same (by repeat (first | exact Fr.refl _ _ | apply Fr.alloc | apply Fr.drewN | apply Fr.drew | apply Fr.undrew | apply Fr.undrewN))) (by omega) (by omega)).mono ?_
  rintro e w1 ⟨g, c, rfl, hI, hs⟩
  have kb := hs.at (heap_new w _) id
  have hgb := hI.1
  have hs1 : Same w w1 := (show Same w _ from (by repeat (first | exact Fr.refl _ _ | apply Fr.alloc | apply Fr.drewN | apply Fr.drew | apply Fr.undrew | apply Fr.undrewN))).same hs
  have hgb : w.heap.size < g := by simp at hgb; omega
  replace hI := Lib.hid hI; replace hs := Lib.hid hs; replace kb := Lib.hid kb; replace hs1 := Lib.hid hs1
  go_wp2_with fail
  have hdel := delI_own o v (w.heap.size + 1) g c w.heap.size n w1 hl.out (hI.out.base (by simp)) kb.out (by omega)
  rw [← hr.out, hq.out] at hdel
  refine hdel.mono ?_
  rintro e w2 ⟨rfl, hI2, hf2⟩
  have kb2 := hf2.at kb.out (fun e => by have : w.heap.size = g := e; omega)
  have x0 := cell_at kb2 0
  have xb := lt_of_heap kb2
  have hg2 := hI2.lt
  have hcap : q + 1 ≤ c := by
    obtain ⟨_, cur, _, h3, _⟩ := hI.out
    rw [hl.out] at h3
    have := hdl.out
    omega
  have hs2 : Same w w2 := same_own hs1.out hf2 (by omega)
  clear hdel
  replace hI2 := Lib.hid hI2; replace hf2 := Lib.hid hf2; replace kb2 := Lib.hid kb2; replace hs2 := Lib.hid hs2
  go_wp2_with fail
  refine (insI_own r v p (w.heap.size + 1) g c w2.heap.size q _ hq.out (hI2.out.same (by repeat (first | exact Fr.refl _ _ | apply Fr.alloc | apply Fr.drewN | apply Fr.drew | apply Fr.undrew | apply Fr.undrewN))) (heap_new _ _) (by omega) hpq hcap).mono ?_
  rintro e w3 ⟨rfl, hI3, hf3⟩
  have hs3 : Same w w3 := same_own (show Same w _ from hs2.out.same (by repeat (first | exact Fr.refl _ _ | apply Fr.alloc | apply Fr.drewN | apply Fr.drew | apply Fr.undrew | apply Fr.undrewN))) hf3 (by omega)
  rw [← hm.out] at hI3
  rw [hdl.out]
  replace hI3 := Lib.hid hI3; replace hs3 := Lib.hid hs3
  clear hf3
  go_wp2_with fail
  go_ret
  exact ⟨g, c, rfl, hI3.out.base (by omega), hs3.out⟩
end Go.Proofs.Ytmmjijmmocabhaa
namespace Go.Proofs.Ytmmjijmmocabhaa
open Go.RowKit Go.Sort
set_option linter.unusedVariables false
set_option linter.unusedSimpArgs false

/-- append of the m elements that lie at an address, to a row of the call's own; m may be 0. -/
theorem wpList_appendN {P : Program} {w : World} {ops : Array Oper} {rest : List Oper} {o : Oper} {a : Act} {Q : Exit → Act → World → Prop} (hgd : o.guard = none) (s x : Operand) (t : TypeId)
    (ho : o.op = .call { callee := .builtin .append, args := #[s, x], argTypes := #[t, t] })
    (base : Nat) (e : TypeId) (i : TypeInfo) (z : Value) (size bytes : Nat) (ht : P.underlying t = some (.slice e)) (hi : P.info? e = some i) (hz : i.zero = some z)
    (hsize : i.size = size) (hby : i.bytes = bytes) (hzs : z.cells.size = size) (hsz : 0 < size) (hb : bytes ≤ 1000)
    (v : Value) (n : Nat) (xs : List Value) (hs : a.eval s = v) (hown : w.ownsRow base e size v n xs)
    (ad : Addr) (m c : Nat) (news : List Value) (hx : a.eval x = .slice (some ad) m c) (hl : news.length = m * size) (hnews : ∀ j u, news[j]? = some u → w.cell? (ad.add j) = some u) (h1 : ∀ u ∈ news, u.oneCell' = true) (h63 : n + m ≤ 1000000000) (hbase : base ≤ w.heap.size)
    (h : ∀ a' cap' w', w'.ownsRow base e size (.slice a' (n + m) cap') (n + m) (xs ++ news) → Grew (fun _ => False) w w' v (.slice a' (n + m) cap') → wpList P ops Q rest (a.put o.dst (.slice a' (n + m) cap')) w') :
    wpList P ops Q (o :: rest) a w :=
  wpList_plain hgd fun K hK => by
    obtain ⟨v', w', hr, h2, h3, h4, h5⟩ := run_append_own_at (P := P) (w := w) base t o.type e i z size bytes ht hi hz hsize hby hzs hsz v n xs hown ad m c news hl hnews h1 (by unfold maxLen; omega)
      (Nat.le_trans (Nat.mul_le_mul h63 hb) (by omega)) hbase
    obtain ⟨a', cap', rfl⟩ : ∃ a' cap', v' = .slice a' (n + m) cap' := by
      rcases h2.2 with ⟨rfl, hz⟩ | ⟨g, cap, cur, rfl, _⟩
      · exact ⟨none, 0, by rw [hz]⟩
      · exact ⟨_, _, rfl⟩
    unfold Oper.wp execOp
    simp only [ho, resolve, invoke, builtin, Sem.run_bind, Sem.run_pure, Result.andThen_ok, List.map_toArray, List.map_cons, List.map_nil, hs, hx, hr]
    refine hK _ _ (h a' cap' w' h2 ⟨(Fr.refl _ _).grown h3 (fun k hk _ => .inl hk), fun k hk => ?_⟩)
    rcases h5 with h5 | h5
    · exact .inl (by rw [← h5]; exact hk)
    · rw [h5] at hk
      exact .inr (Nat.le_of_eq (Option.some.inj hk))

theorem grew_nil {w w' : World} {v' : Value} (h : Grew (fun _ => False) w w' (.slice none 0 0) v') : Same w w' := h.1.mono (fun k _ hk => by rcases hk with hk | hk; simp [Value.ownBlock] at hk; exact hk)

/-! ### Move -/
def movErr (o : List Int) (v p : Int) : Int := if ordErr o.length o ≠ 0 then ordErr o.length o else if v < 0 ∨ (o.length : Int) ≤ v ∨ p < 0 ∨ (o.length : Int) ≤ p then 2 else 0
def MoveRet (o : List Int) (v p : Int) (w : World) (e : Ending) (w' : World) : Prop :=
  if movErr o v p = 0 then ∃ g c, e = .returned (.tuple #[.slice (some ⟨g, 0, none⟩) o.length c, .int .i64 0]) ∧ OwnI w' w.heap.size g c (movF o v p.toNat) ∧ Same w w'
  else e = .returned (.tuple #[.slice none 0 0, .int .i64 (movErr o v p)]) ∧ Same w w'

set_option maxRecDepth 100000 in
set_option maxHeartbeats 2000000 in
theorem Move_any (o : List Int) (v p : Int) (a : Option Addr) (cap q : Nat) (w : World) (hq : o.length = q) (hO : RowAt w (.slice a q cap) q (intCells o)) (hl : q ≤ 1000000) :
    Calls Try.prog 32 #[.slice a q cap, .int .i64 v, .int .i64 p] w (MoveRet o v p w) := by
  obtain ⟨c, hc⟩ : ∃ c, c = ordErr q o := ⟨_, rfl⟩
  have hce : movErr o v p = if c ≠ 0 then c else if v < 0 ∨ (q : Int) ≤ v ∨ p < 0 ∨ (q : Int) ≤ p then 2 else 0 := by unfold movErr; rw [hq, hc]
  have CK := fun W (hW : Same w W) => ocheck_any o q a cap q W hq (hO.same hW) hl
  rw [← hc] at CK
  unfold MoveRet
  rw [hce, hq]
  by_cases h0 : c = 0
  · rw [if_neg (by omega)]
    have hord := (ordErr_zero (n := (q : Int)) (o := o)).1 (by rw [← hc]; exact h0)
    have hI : IsOrd q o := by rw [← hq]; exact hord.2
    have hb : (c != 0) = false := by simpa using h0
    by_cases hr : v < 0 ∨ (q : Int) ≤ v ∨ p < 0 ∨ (q : Int) ≤ p
    · rw [if_pos hr]
      simp only [show ¬ ((2 : Int) = 0) by omega, if_false]
      by_cases h1 : v < 0
      · clear hr h0
        replace hO := Lib.hid hO; replace hq := Lib.hid hq; replace hc := Lib.hid hc; replace hce := Lib.hid hce; replace CK := Lib.hid CK; replace hord := Lib.hid hord; replace hI := Lib.hid hI
        go_enter Try.func32, Try.ntmps32
        go_wp2_with fail
        refine (CK.out _ (by repeat (first | exact Fr.refl _ _ | apply Fr.alloc | apply Fr.drewN | apply Fr.drew | apply Fr.undrew | apply Fr.undrewN))).mono ?_
        rintro e w1 ⟨rfl, hs⟩
        replace hs := Lib.hid hs
        go_wp2_with fail
        go_ret2
        exact ⟨rfl, hs.out⟩
      · by_cases h2 : (q : Int) ≤ v
        · clear hr h0
          replace hO := Lib.hid hO; replace hq := Lib.hid hq; replace hc := Lib.hid hc; replace hce := Lib.hid hce; replace CK := Lib.hid CK; replace hord := Lib.hid hord; replace hI := Lib.hid hI
          go_enter Try.func32, Try.ntmps32
          go_wp2_with fail
          refine (CK.out _ (by repeat (first | exact Fr.refl _ _ | apply Fr.alloc | apply Fr.drewN | apply Fr.drew | apply Fr.undrew | apply Fr.undrewN))).mono ?_
          rintro e w1 ⟨rfl, hs⟩
          replace hs := Lib.hid hs
          go_wp2_with fail
          go_ret2
          exact ⟨rfl, hs.out⟩
        · by_cases h3 : p < 0
          · clear hr h0
            replace hO := Lib.hid hO; replace hq := Lib.hid hq; replace hc := Lib.hid hc; replace hce := Lib.hid hce; replace CK := Lib.hid CK; replace hord := Lib.hid hord; replace hI := Lib.hid hI
            go_enter Try.func32, Try.ntmps32
            go_wp2_with fail
            refine (CK.out _ (by repeat (first | exact Fr.refl _ _ | apply Fr.alloc | apply Fr.drewN | apply Fr.drew | apply Fr.undrew | apply Fr.undrewN))).mono ?_
            rintro e w1 ⟨rfl, hs⟩
            replace hs := Lib.hid hs
            go_wp2_with fail
            go_ret2
            exact ⟨rfl, hs.out⟩
          · have h4 : (q : Int) ≤ p := by omega
            clear hr h0
            replace hO := Lib.hid hO; replace hq := Lib.hid hq; replace hc := Lib.hid hc; replace hce := Lib.hid hce; replace CK := Lib.hid CK; replace hord := Lib.hid hord; replace hI := Lib.hid hI
            go_enter Try.func32, Try.ntmps32
            go_wp2_with fail
            refine (CK.out _ (by repeat (first | exact Fr.refl _ _ | apply Fr.alloc | apply Fr.drewN | apply Fr.drew | apply Fr.undrew | apply Fr.undrewN))).mono ?_
            rintro e w1 ⟨rfl, hs⟩
            replace hs := Lib.hid hs
            go_wp2_with fail
            go_ret2
            exact ⟨rfl, hs.out⟩
    · rw [if_neg hr]
      simp only [if_true]
      obtain ⟨v, rfl⟩ : ∃ x : Nat, v = x := ⟨v.toNat, by omega⟩
      obtain ⟨p, rfl⟩ : ∃ x : Nat, p = x := ⟨p.toNat, by omega⟩
      have v1 : ¬ q ≤ v := by omega
      have p1 : ¬ q ≤ p := by omega
      have v2 : v < q := by omega
      have p2 : p < q := by omega
      have MV := fun W (hW : Same w W) => move_any hI v p (by omega) (by omega) a cap W (hO.same hW)
      rw [Int.toNat_natCast]
      clear hr h0
      replace hO := Lib.hid hO; replace hq := Lib.hid hq; replace hc := Lib.hid hc; replace hce := Lib.hid hce; replace CK := Lib.hid CK; replace hord := Lib.hid hord; replace hI := Lib.hid hI; replace MV := Lib.hid MV
      go_enter Try.func32, Try.ntmps32
      go_wp2_with fail
      refine (CK.out _ (by repeat (first | exact Fr.refl _ _ | apply Fr.alloc | apply Fr.drewN | apply Fr.drew | apply Fr.undrew | apply Fr.undrewN))).mono ?_
      rintro e w1 ⟨rfl, hs⟩
      replace hs := Lib.hid hs
      go_wp2_with fail
      refine (MV.out _ (hs.out.same (by repeat (first | exact Fr.refl _ _ | apply Fr.alloc | apply Fr.drewN | apply Fr.drew | apply Fr.undrew | apply Fr.undrewN)))).mono ?_
      rintro e w2 ⟨g, c2, rfl, hI2, hs2⟩
      have hs3 := hs.out.same ((show Same w1 _ from (by repeat (first | exact Fr.refl _ _ | apply Fr.alloc | apply Fr.drewN | apply Fr.drew | apply Fr.undrew | apply Fr.undrewN))).same hs2)
      have hI3 := hI2.base (base' := w.heap.size) (by have := hs.out.size; simp; omega)
      replace hs2 := Lib.hid hs2; replace hs3 := Lib.hid hs3; replace hI2 := Lib.hid hI2; replace hI3 := Lib.hid hI3
      go_wp2_with fail
      go_ret2
      exact ⟨g, c2, rfl, hI3.out, hs3.out⟩
  · rw [if_pos h0]
    simp only [if_neg h0]
    have hb : (c != 0) = true := by simpa using h0
    replace hO := Lib.hid hO; replace hq := Lib.hid hq; replace hc := Lib.hid hc; replace hce := Lib.hid hce; replace CK := Lib.hid CK; replace h0 := Lib.hid h0
    go_enter Try.func32, Try.ntmps32
    go_wp2_with fail
    refine (CK.out _ (by repeat (first | exact Fr.refl _ _ | apply Fr.alloc | apply Fr.drewN | apply Fr.drew | apply Fr.undrew | apply Fr.undrewN))).mono ?_
    rintro e w1 ⟨rfl, hs⟩
    replace hs := Lib.hid hs
    go_wp2_with fail
    go_ret2
    exact ⟨rfl, hs.out⟩

/-! ### Inverse -/
@[go_sem] theorem len40 : Try.prog.arrayLen 98 = 40 := by kernel_rfl
def InvRet (o : List Int) (w : World) (e : Ending) (w' : World) : Prop :=
  if ordErr o.length o = 0 then ∃ a c, e = .returned (.tuple #[.slice a o.length c, .int .i64 0]) ∧ w'.ownsRow w.heap.size 3 1 (.slice a o.length c) o.length (intCells ((invL o).take o.length)) ∧ Same w w'
  else e = .returned (.tuple #[.slice none 0 0, .int .i64 (ordErr o.length o)]) ∧ Same w w'

theorem intCells_take (l : List Int) (k : Nat) : intCells (l.take k) = (intCells l).take k := by simp [intCells]

set_option maxRecDepth 100000 in
set_option maxHeartbeats 2000000 in
theorem Inverse_any (o : List Int) (a : Option Addr) (cap q : Nat) (w : World) (hq : o.length = q) (hO : RowAt w (.slice a q cap) q (intCells o)) (hl : q ≤ 1000000) :
    Calls Try.prog 31 #[.slice a q cap] w (InvRet o w) := by
  obtain ⟨c, hc⟩ : ∃ c, c = ordErr q o := ⟨_, rfl⟩
  have CK := fun W (hW : Same w W) => ocheck_any o q a cap q W hq (hO.same hW) hl
  rw [← hc] at CK
  unfold InvRet
  rw [hq, ← hc]
  by_cases h0 : c = 0
  · simp only [if_pos h0]
    have hord := (ordErr_zero (n := (q : Int)) (o := o)).1 (by rw [← hc]; exact h0)
    have hI : IsOrd q o := by rw [← hq]; exact hord.2
    have h40 := hI.n40
    have hb : (c != 0) = false := by simpa using h0
    obtain ⟨i3, hi3, hi3z, hi3s, hi3b⟩ := info_parts info3
    have IV := fun W (hW : Same w W) => inverse_any hI a cap W (hO.same hW)
    have hlen : (intCells (invL o)).length = 40 := by rw [intCells_length]; unfold invL; rw [invF_length]
    obtain ⟨I, hIe⟩ : ∃ I, I = invL o := ⟨_, rfl⟩
    rw [← hIe] at IV hlen ⊢
    clear h0
    replace hO := Lib.hid hO; replace hq := Lib.hid hq; replace hc := Lib.hid hc; replace CK := Lib.hid CK; replace hord := Lib.hid hord; replace hI := Lib.hid hI; replace IV := Lib.hid IV; replace hlen := Lib.hid hlen; replace hIe := Lib.hid hIe
    go_enter Try.func31, Try.ntmps31
    go_wp2_with fail
    refine (CK.out _ (by repeat (first | exact Fr.refl _ _ | apply Fr.alloc | apply Fr.drewN | apply Fr.drew | apply Fr.undrew | apply Fr.undrewN))).mono ?_
    rintro e w1 ⟨rfl, hs⟩
    replace hs := Lib.hid hs
    go_upto_region 4 with fail
    refine wp_region_lit ?_
    refine wpList_step (fun K hK => ?_); go_simp; refine hK _ _ ?_; clear hK
    refine wpList_step (fun K hK => ?_); go_simp
    refine (IV.out _ (hs.out.same (by repeat (first | exact Fr.refl _ _ | apply Fr.alloc | apply Fr.drewN | apply Fr.drew | apply Fr.undrew | apply Fr.undrewN)))).mono ?_
    rintro e w2 ⟨rfl, hs2⟩
    have hs3 := hs.out.same ((show Same w1 _ from (by repeat (first | exact Fr.refl _ _ | apply Fr.alloc | apply Fr.drewN | apply Fr.drew | apply Fr.undrew | apply Fr.undrewN))).same hs2)
    have hs4 : Same w ((w2.alloc (.cells (intCells (List.replicate 40 0)).toArray 98)).setRow w2.heap.size (intCells I).toArray) := (hs3.alloc _).setRow _ _ (by intro h; have := hs3.size; omega)
    have hA : ArrAt ((w2.alloc (.cells (intCells (List.replicate 40 0)).toArray 98)).setRow w2.heap.size (intCells I).toArray) w2.heap.size 98 (intCells I) := (ArrAt.new (cs := intCells (List.replicate 40 0)) rfl).row
    have hsz : w.heap.size ≤ ((w2.alloc (.cells (intCells (List.replicate 40 0)).toArray 98)).setRow w2.heap.size (intCells I).toArray).heap.size := hs4.size
    obtain ⟨W, hW⟩ : ∃ W, W = ((w2.alloc (.cells (intCells (List.replicate 40 0)).toArray 98)).setRow w2.heap.size (intCells I).toArray) := ⟨_, rfl⟩
    rw [← hW] at hs4 hA hsz
    have hIl : I.length = 40 := by rw [intCells_length] at hlen; exact hlen.out
    replace hs2 := Lib.hid hs2; replace hs3 := Lib.hid hs3; replace hs4 := Lib.hid hs4; replace hA := Lib.hid hA; replace hIl := Lib.hid hIl; replace hsz := Lib.hid hsz
    refine hK _ _ ?_; clear hK
    (try simp only [Act.put, List.setIfInBounds_toArray, List.set_cons_zero, List.set_cons_succ])
    refine wpList_step (fun K hK => ?_); go_simp; refine hK _ _ ?_; clear hK
    (try simp only [Act.put, List.setIfInBounds_toArray, List.set_cons_zero, List.set_cons_succ])
    refine wpList_store_row rfl 98 (.tmp 5) (.tmp 14) rfl w2.heap.size (intCells I).toArray rfl rfl 98 (intCells (List.replicate 40 0)).toArray (heap_new _ _) (by rw [size40]; simp [hlen.out]) (by simp [hlen.out, intCells_length]) (intCells_one _) ?_
    simp only [Act.put]
    show wpList _ _ _ _ _ ((w2.alloc (.cells (intCells (List.replicate 40 0)).toArray 98)).setRow w2.heap.size (intCells I).toArray)
    rw [← hW]
    clear hW
    have hq40 : q ≤ 40 := h40
    have hq40' : (q : Int) ≤ 40 := by omega
    have hnew : ∀ (j : Nat) (u : Value), (intCells (I.take q))[j]? = some u → W.cell? ((⟨w2.heap.size, 0, none⟩ : Addr).add j) = some u := by
      intro j u hu
      have e : (⟨w2.heap.size, 0, none⟩ : Addr).add j = ⟨w2.heap.size, j, none⟩ := by
        unfold Addr.add; split
        · rename_i h; subst h; rfl
        · simp
      rw [e]
      refine hA.out.cell ?_
      rw [intCells_take, List.getElem?_take] at hu
      split at hu
      · exact hu
      · cases hu
    replace hnew := Lib.hid hnew
    go_wp2_with (at_builtin; refine wpList_appendN rfl (.const (.slice none 0 0)) (.tmp 17) 23 rfl w.heap.size 3 i3 (.int .i64 0) 1 8 Try.underlying23 hi3 hi3z hi3s hi3b rfl (by decide) (by decide) (.slice none 0 0) 0 [] rfl (World.ownsRow_nil _ _ _ _) ⟨w2.heap.size, 0, none⟩ q 40 (intCells (I.take q)) rfl (by simp [intCells, hIl.out]; omega) hnew.out (by intro u hu; obtain ⟨x, _, rfl⟩ := List.mem_map.1 hu; rfl) (by omega) hsz.out ?_; intro a3 c3 w3 ho3 hG3; have hs5 := hs4.out.same (grew_nil hG3); simp only [Nat.zero_add, List.nil_append] at ho3 hs5 ⊢; replace ho3 := Lib.hid ho3; replace hs5 := Lib.hid hs5; clear hG3)
    go_ret2
    exact ⟨a3, c3, rfl, ho3.out, hs5.out⟩
  · simp only [if_neg h0]
    have hb : (c != 0) = true := by simpa using h0
    replace hO := Lib.hid hO; replace hq := Lib.hid hq; replace hc := Lib.hid hc; replace CK := Lib.hid CK; replace h0 := Lib.hid h0
    go_enter Try.func31, Try.ntmps31
    go_wp2_with fail
    refine (CK.out _ (by repeat (first | exact Fr.refl _ _ | apply Fr.alloc | apply Fr.drewN | apply Fr.drew | apply Fr.undrew | apply Fr.undrewN))).mono ?_
    rintro e w1 ⟨rfl, hs⟩
    replace hs := Lib.hid hs
    go_wp2_with fail
    go_ret2
    exact ⟨rfl, hs.out⟩
end Go.Proofs.Ytmmjijmmocabhaa
namespace Go.Proofs.Ytmmjijmmocabhaa
open Go.RowKit
set_option linter.unusedVariables false
set_option linter.unusedSimpArgs false

/-- A row of rows of ints that is only read. -/
structure Grp where
  a : Option Addr
  cap : Nat
  l : List Int
def Grp.v (g : Grp) : Value := .slice g.a g.l.length g.cap
def GsAt (w : World) (v : Value) (k : Nat) (gs : List Grp) : Prop := RowAt w v k (gs.map Grp.v) ∧ ∀ g ∈ gs, RowAt w g.v g.l.length (intCells g.l)
theorem GsAt.same {w w' : World} {v : Value} {k : Nat} {gs : List Grp} (h : GsAt w v k gs) (hs : Same w w') : GsAt w' v k gs := ⟨h.1.same hs, fun g hg => (h.2 g hg).same hs⟩
theorem GsAt.len {w : World} {v : Value} {k : Nat} {gs : List Grp} (h : GsAt w v k gs) : gs.length = k := by have := h.1.1; simpa using this
theorem GsAt.get {w : World} {a : Option Addr} {cap k i : Nat} {gs : List Grp} (h : GsAt w (.slice a k cap) k gs) (hi : i < gs.length) :
    ∃ b off, a = some ⟨b, off, none⟩ ∧ b < w.heap.size ∧ w.cell? ⟨b, off + i, none⟩ = some (.slice gs[i].a gs[i].l.length gs[i].cap) ∧ RowAt w (.slice gs[i].a gs[i].l.length gs[i].cap) gs[i].l.length (intCells gs[i].l) := by
  have hl := h.len
  obtain ⟨b, off, ha, hb, hc⟩ := h.1.cell (by omega)
  exact ⟨b, off, ha, hb, hc i _ (by simp [Grp.v, hi]), h.2 _ (List.getElem_mem hi)⟩
def lst (gs : List Grp) : List (List Int) := gs.map Grp.l
theorem lst_len (gs : List Grp) : (lst gs).length = gs.length := by simp [lst]
theorem lst_get (gs : List Grp) {i : Nat} (h : i < gs.length) : (lst gs)[i]'(by rw [lst_len]; exact h) = gs[i].l := by simp [lst]

theorem gErr_drop (n : Int) {gs : List (List Int)} {k : Nat} (h : k < gs.length) : gErr n (gs.drop k) = if gs[k].length = 0 then 12 else if 8 < gs[k].length then 3 else if renErr n gs[k] gs[k].length 0 ≠ 0 then renErr n gs[k] gs[k].length 0 else gErr n (gs.drop (k + 1)) := by
  rw [List.drop_eq_getElem_cons h, gErr]

set_option maxRecDepth 100000 in
set_option maxHeartbeats 4000000 in
theorem checkGroups_any (gs : List Grp) (o : List Int) (a ao : Option Addr) (cap co k q : Nat) (w : World) (hG : GsAt w (.slice a k cap) k gs) (hq : o.length = q) (hO : RowAt w (.slice ao q co) q (intCells o)) (hl : q ≤ 1000000) :
    Calls Try.prog 48 #[.slice a k cap, .slice ao q co] w fun e w' => e = .returned (.int .i64 (groupsErr (lst gs) o)) ∧ Same w w' := by
  obtain ⟨E, hE⟩ : ∃ E, E = groupsErr (lst gs) o := ⟨_, rfl⟩
  rw [← hE]
  unfold groupsErr gsErr at hE
  rw [hq, lst_len, hG.len] at hE
  have OC := fun W (hW : Same w W) => ocheck_any o q ao co q W hq (hO.same hW) hl
  have hkm : k ≤ 9223372036854775807 := by
    obtain ⟨_, a', c', e, h1, h2, _⟩ := hG.1
    cases e; unfold maxLen at h2; omega
  obtain ⟨c, hc⟩ : ∃ c, c = ordErr q o := ⟨_, rfl⟩
  rw [← hc] at OC hE
  by_cases h0 : c = 0
  · rw [if_neg (by omega)] at hE
    have hb : (c != 0) = false := by simpa using h0
    clear h0
    by_cases h64 : 64 < k
    · rw [if_pos h64] at hE
      subst hE
      have h64' : (64 : Int) < k := by omega
      replace hG := Lib.hid hG; replace hq := Lib.hid hq; replace hO := Lib.hid hO; replace OC := Lib.hid OC; replace hc := Lib.hid hc
      go_enter Try.func48, Try.ntmps48
      go_wp2_with fail
      refine (OC.out _ (by repeat (first | exact Fr.refl _ _ | apply Fr.alloc | apply Fr.drewN | apply Fr.drew | apply Fr.undrew | apply Fr.undrewN))).mono ?_
      rintro e w1 ⟨rfl, hs⟩
      replace hs := Lib.hid hs
      go_wp2_with fail
      go_ret
      exact ⟨rfl, hs.out⟩
    · rw [if_neg h64] at hE
      have h64' : ¬ (64 : Int) < k := by omega
      replace hG := Lib.hid hG; replace hq := Lib.hid hq; replace hO := Lib.hid hO; replace OC := Lib.hid OC; replace hc := Lib.hid hc; replace hE := Lib.hid hE
      go_enter Try.func48, Try.ntmps48
      go_wp2_with fail
      refine (OC.out _ (by repeat (first | exact Fr.refl _ _ | apply Fr.alloc | apply Fr.drewN | apply Fr.drew | apply Fr.undrew | apply Fr.undrewN))).mono ?_
      rintro e w1 ⟨rfl, hs⟩
      replace hs := Lib.hid hs
      go_wp2_with fail
      go_loopw [21] (fun i wr => ∃ j : Nat, i = .int .i64 j ∧ j ≤ k ∧ E = gErr q ((lst gs).drop j) ∧ Same w wr) (fun i _ => k - (intOf i).toNat)
      case atStart => exact ⟨0, rfl, by omega, hE.out, hs.out⟩
      case round =>
        obtain ⟨j, rfl, hj, hEj, hsr⟩ := hrel
        by_cases hlt : j < k
        · have hjl : j < gs.length := by rw [hG.out.len]; exact hlt
          obtain ⟨b, off, rfl, hbl, c0, hR⟩ := (hG.out.same hsr).get hjl
          rw [gErr_drop _ (by rw [lst_len]; exact hjl), lst_get gs hjl] at hEj
          generalize gs[j] = g at *
          obtain ⟨ga, gc, gl⟩ := g
          simp only at c0 hR hEj
          have CS := fun (h8 : gl.length ≤ 1000) => checkSet_any q gl ga gc wr h8 hR
          obtain ⟨p, hp⟩ : ∃ p, gl.length = p := ⟨_, rfl⟩
          rw [hp] at c0 hR hEj CS
          have hpm : p ≤ 9223372036854775807 := by
            obtain ⟨_, a', c', e, h1, h2, _⟩ := hR
            cases e; unfold maxLen at h2; omega
          by_cases h1 : p = 0
          · rw [if_pos h1] at hEj
            subst h1
            subst hEj
            replace hR := Lib.hid hR; replace hsr := Lib.hid hsr; replace CS := Lib.hid CS; replace hp := Lib.hid hp
            go_wp2_with fail
            go_ret
            exact ⟨rfl, hsr.out⟩
          · rw [if_neg h1] at hEj
            have hb1 : ((p : Int) == 0) = false := by simp; omega
            by_cases h2 : 8 < p
            · rw [if_pos h2] at hEj
              subst hEj
              have h2' : (8 : Int) < p := by omega
              replace hR := Lib.hid hR; replace hsr := Lib.hid hsr; replace CS := Lib.hid CS; replace hp := Lib.hid hp; replace h1 := Lib.hid h1
              go_wp2_with fail
              go_ret
              exact ⟨rfl, hsr.out⟩
            · rw [if_neg h2] at hEj
              have h2' : ¬ (8 : Int) < p := by omega
              have CS' := CS (by omega)
              obtain ⟨s, hse⟩ : ∃ s, s = renErr q gl p 0 := ⟨_, rfl⟩
              rw [← hse] at CS' hEj
              by_cases h3 : s = 0
              · rw [if_neg (by omega)] at hEj
                have hb3 : (s != 0) = false := by simpa using h3
                clear h3
                replace hR := Lib.hid hR; replace hsr := Lib.hid hsr; replace CS := Lib.hid CS; replace hp := Lib.hid hp; replace h1 := Lib.hid h1; replace hEj := Lib.hid hEj; replace hse := Lib.hid hse; replace CS' := Lib.hid CS'
                go_wp2_with fail
                refine CS'.out.mono ?_
                rintro e w2 ⟨rfl, rfl⟩
                go_wp2_with fail
                go_roundw
                case rel => exact ⟨j + 1, by go_num, by omega, hEj.out, hsr.out⟩
                case measure => simp [intOf]; omega
              · rw [if_pos h3] at hEj
                subst hEj
                have hb3 : (E != 0) = true := by simpa using h3
                replace hR := Lib.hid hR; replace hsr := Lib.hid hsr; replace CS := Lib.hid CS; replace hp := Lib.hid hp; replace h1 := Lib.hid h1; replace hse := Lib.hid hse; replace CS' := Lib.hid CS'; replace h3 := Lib.hid h3
                go_wp2_with fail
                refine CS'.out.mono ?_
                rintro e w2 ⟨rfl, rfl⟩
                go_wp2_with fail
                go_ret
                exact ⟨rfl, hsr.out⟩
        · have e0 : (lst gs).drop j = [] := by apply List.drop_eq_nil_of_le; rw [lst_len, hG.out.len]; omega
          rw [e0, gErr] at hEj
          subst hEj
          replace hsr := Lib.hid hsr; replace e0 := Lib.hid e0
          go_wp2_with fail
          go_ret
          exact ⟨rfl, hsr.out⟩
  · rw [if_pos h0] at hE
    subst hE
    have hb : (E != 0) = true := by simpa using h0
    replace hG := Lib.hid hG; replace hq := Lib.hid hq; replace hO := Lib.hid hO; replace OC := Lib.hid OC; replace hc := Lib.hid hc; replace h0 := Lib.hid h0
    go_enter Try.func48, Try.ntmps48
    go_wp2_with fail
    refine (OC.out _ (by repeat (first | exact Fr.refl _ _ | apply Fr.alloc | apply Fr.drewN | apply Fr.drew | apply Fr.undrew | apply Fr.undrewN))).mono ?_
    rintro e w1 ⟨rfl, hs⟩
    replace hs := Lib.hid hs
    go_wp2_with fail
    go_ret
    exact ⟨rfl, hs.out⟩

/-! ### ends -/
set_option maxRecDepth 100000 in
set_option maxHeartbeats 4000000 in
theorem ends_any {n : Nat} {o : List Int} (ho : IsOrd n o) {g : List Int} (hg : IsGrp n g) (ga : Option Addr) (gc p b6 : Nat) (w : World) (hp : g.length = p) (hR : RowAt w (.slice ga p gc) p (intCells g)) (hA : ArrAt w b6 98 (intCells (invL o))) :
    Calls Try.prog 66 #[.slice ga p gc, .pointer (some ⟨b6, 0, none⟩)] w fun e w' => e = .returned (.tuple #[.int .i64 (loF (posA o) g), .int .i64 (hiF (posA o) g)]) ∧ Same w w' := by
  have h40 := ho.n40
  have hp0 := hg.pos
  have hcell : ∀ k (hk : k < g.length), ∃ v : Nat, g[k] = v ∧ v < 40 ∧ posA o g[k] = (atF o v : Int) ∧ ∀ W, Same w W → W.cell? ⟨b6, v, none⟩ = some (.int .i64 (atF o v)) := by
    intro k hk
    have hr := hg.range _ (List.getElem_mem hk)
    obtain ⟨v, hv⟩ : ∃ v : Nat, g[k] = v := ⟨g[k].toNat, by omega⟩
    refine ⟨v, hv, by omega, by rw [hv]; unfold posA; simp, fun W hW => (hA.same hW).cell (ints_at _ _ _ (invL_get ho (by omega)))⟩
  have hbd := ends_bd (f := posA o) (a := 0) (b := 39) hg.pos (fun x hx => posA_bd ho (hg.range x hx))
  obtain ⟨v0, hv0, hv40, hp0', hc0⟩ := hcell 0 hp0
  obtain ⟨bg, off, rfl, hbg, r0⟩ := int_cell hR (k := 0) hp0 hp
  rw [hv0] at r0
  rw [Nat.add_zero] at r0
  have a0 := hc0 w (Fr.refl _ _)
  have al := hA.lt
  have hlo0 : loK (posA o) g 0 = (atF o v0 : Int) := by
    rw [← hp0']; unfold loK; simp [List.headD]
    cases g with
    | nil => simp at hp0
    | cons x l => rfl
  have hhi0 : hiK (posA o) g 0 = (atF o v0 : Int) := by
    rw [← hp0']; unfold hiK; simp [List.headD]
    cases g with
    | nil => simp at hp0
    | cons x l => rfl
  have hv40' : (v0 : Int) < 40 := by omega
  have hpp : 0 < p := by omega
  have hp8 : p ≤ 8 := by have := hg.le; omega
  have hlK := fun k (h : k < g.length) => loK_succ (posA o) h
  have hhK := fun k (h : k < g.length) => hiK_succ (posA o) h
  have hlE := loK_end (posA o) g
  have hhE := hiK_end (posA o) g
  replace ho := Lib.hid ho; replace hg := Lib.hid hg; replace hp := Lib.hid hp; replace hR := Lib.hid hR; replace hA := Lib.hid hA; replace hcell := Lib.hid hcell; replace hbd := Lib.hid hbd; replace hv0 := Lib.hid hv0; replace hp0' := Lib.hid hp0'; replace hc0 := Lib.hid hc0; replace hlo0 := Lib.hid hlo0; replace hhi0 := Lib.hid hhi0; replace hp0 := Lib.hid hp0; replace hlK := Lib.hid hlK; replace hhK := Lib.hid hhK; replace hlE := Lib.hid hlE; replace hhE := Lib.hid hhE
  go_enter Try.func66, Try.ntmps66
  go_upto_region 1 with fail
  refine wp_region_sched (L2 bg b6) [0, 0, 0, 1, 0, 0, 1, 0, 0, 0, 1, 0, 0, 1, 0, 0] [0, 1, 2, 4, 7, 8, 9, 11, 3, 5, 6, 14, 10, 12, 13, 15] (by kernel_rfl) (by kernel_rfl) ?_
  repeat (first | (refine sched_w rfl rfl (fun _ hK => ?_); go_simp; refine hK _ ?_; clear hK) | (refine sched_s rfl rfl (fun _ hK => ?_); go_simp; first | (refine hK _ ?_; clear hK) | (refine ⟨_, fun _ => rfl, hK _ ?_⟩; clear hK)))
  refine sched_nil (NoPanic.normal ?_)
  go_wp2_with fail
  clear r0 a0 al hv40 hv40'
  go_loopw [4, 5, 24] (fun lo hi i wr => ∃ k : Nat, i = .int .i64 k ∧ k ≤ p ∧ lo = .int .i64 (loK (posA o) g k) ∧ hi = .int .i64 (hiK (posA o) g k) ∧ Same w wr) (fun _ _ i _ => p - (intOf i).toNat)
  case atStart => exact ⟨0, rfl, by omega, by rw [hlo0.out], by rw [hhi0.out], (by repeat (first | exact Fr.refl _ _ | apply Fr.undrew | apply Fr.undrewN | apply Fr.drew | apply Fr.drewN | apply Fr.alloc))⟩
  case round =>
    obtain ⟨k, rfl, hk, rfl, rfl, hs⟩ := hrel
    by_cases hlt : k < p
    · have hkl : k < g.length := by rw [hp.out]; exact hlt
      obtain ⟨b', off', hb', hbg', r0⟩ := int_cell (hR.out.same hs) (k := k) hkl hp.out
      cases hb'
      obtain ⟨v, hv, hv40, hpv, hcv⟩ := hcell.out k hkl
      rw [hv] at r0
      have a0 := hcv wr hs
      have al := (hA.out.same hs).lt
      have hv40' : (v : Int) < 40 := by omega
      have l1 := hlK.out k hkl
      have l2 := hhK.out k hkl
      rw [hpv] at l1 l2
      clear hcv
      replace hs := Lib.hid hs; replace hv := Lib.hid hv; replace hpv := Lib.hid hpv; replace l1 := Lib.hid l1; replace l2 := Lib.hid l2
      go_upto_region 5 with fail
      refine wp_region_sched (L2 bg b6) [0, 0, 0, 0, 0, 1, 0, 0, 0, 0, 0, 0, 1, 0, 0, 0] [0, 1, 2, 3, 4, 7, 8, 9, 10, 11, 5, 6, 14, 12, 13, 15] (by kernel_rfl) (by kernel_rfl) ?_
      repeat (first | (refine sched_w rfl rfl (fun _ hK => ?_); go_simp; refine hK _ ?_; clear hK) | (refine sched_s rfl rfl (fun _ hK => ?_); go_simp; first | (refine hK _ ?_; clear hK) | (refine ⟨_, fun _ => rfl, hK _ ?_⟩; clear hK)))
      refine sched_nil (NoPanic.normal ?_)
      go_wp2_with fail
      go_roundw
      case rel => exact ⟨k + 1, by go_num, by omega, by rw [l1.out], by rw [l2.out], hs.out.same (by repeat (first | exact Fr.refl _ _ | apply Fr.undrew | apply Fr.undrewN | apply Fr.drew | apply Fr.drewN | apply Fr.alloc))⟩
      case measure => simp [intOf]; omega
    · obtain rfl : k = p := by omega
      rw [← hp.out, hlE.out, hhE.out]
      replace hs := Lib.hid hs
      go_wp2_with fail
      go_ret2
      exact ⟨rfl, hs.out⟩
end Go.Proofs.Ytmmjijmmocabhaa
namespace Go.Proofs.Ytmmjijmmocabhaa
open Go.RowKit
set_option linter.unusedVariables false
set_option linter.unusedSimpArgs false

theorem invL_len (o : List Int) : (invL o).length = 40 := by unfold invL; rw [invF_length]

set_option maxRecDepth 100000 in
set_option maxHeartbeats 4000000 in
theorem span_any {n : Nat} {o : List Int} (ho : IsOrd n o) (gs : List Grp) (hgs : ∀ g ∈ lst gs, IsGrp n g) (a ao : Option Addr) (cap co k : Nat) (w : World) (hk : k ≤ 64) (hG : GsAt w (.slice a k cap) k gs) (hO : RowAt w (.slice ao n co) n (intCells o)) :
    Calls Try.prog 50 #[.slice a k cap, .slice ao n co] w fun e w' => e = .returned (.int .i64 (spanF (posA o) (lst gs))) ∧ Same w w' := by
  have IV := fun W (hW : Same w W) => inverse_any ho ao co W (hO.same hW)
  obtain ⟨I, hIe⟩ : ∃ I, I = invL o := ⟨_, rfl⟩
  have hIl : I.length = 40 := by rw [hIe]; exact invL_len o
  rw [← hIe] at IV
  have hbd : ∀ j, j ≤ k → 0 ≤ spanF (posA o) ((lst gs).take j) ∧ spanF (posA o) ((lst gs).take j) ≤ 2496 := by
    intro j hj
    have := spanF_bd (f := posA o) (B := 39) ((lst gs).take j) (fun g hg => by have := ends40 ho (hgs g (List.mem_of_mem_take hg)); omega)
    have hl : ((lst gs).take j).length ≤ 64 := by simp; omega
    omega
  replace IV := Lib.hid IV; replace hIe := Lib.hid hIe; replace hIl := Lib.hid hIl; replace hgs := Lib.hid hgs; replace hG := Lib.hid hG; replace hO := Lib.hid hO; replace ho := Lib.hid ho; replace hbd := Lib.hid hbd
  go_enter Try.func50, Try.ntmps50
  go_upto_region 1 with fail
  refine wp_region_lit ?_
  refine wpList_step (fun K hK => ?_); go_simp; refine hK _ _ ?_; clear hK
  (try simp only [Act.put, List.setIfInBounds_toArray, List.set_cons_zero, List.set_cons_succ])
  refine wpList_step (fun K hK => ?_); go_simp
  refine (IV.out _ (Fr.refl _ _)).mono ?_
  rintro e wi ⟨rfl, hsi⟩
  have hsj : Same w wi := (show Same w _ from (Fr.refl _ _)).same hsi
  have hs4 : Same w ((wi.alloc (.cells (intCells (List.replicate 40 0)).toArray 98)).setRow wi.heap.size (intCells I).toArray) := (hsj.alloc _).setRow _ _ (by intro h; have := hsj.size; omega)
  have hA : ArrAt ((wi.alloc (.cells (intCells (List.replicate 40 0)).toArray 98)).setRow wi.heap.size (intCells I).toArray) wi.heap.size 98 (intCells I) := (ArrAt.new (cs := intCells (List.replicate 40 0)) rfl).row
  have hwi := hsj.size
  refine hK _ _ ?_; clear hK
  (try simp only [Act.put, List.setIfInBounds_toArray, List.set_cons_zero, List.set_cons_succ])
  refine wpList_step (fun K hK => ?_); go_simp; refine hK _ _ ?_; clear hK
  (try simp only [Act.put, List.setIfInBounds_toArray, List.set_cons_zero, List.set_cons_succ])
  refine wpList_store_row rfl 98 (.tmp 5) (.tmp 12) rfl wi.heap.size (intCells I).toArray rfl rfl 98 (intCells (List.replicate 40 0)).toArray (heap_new _ _) (by rw [size40]; simp [intCells_length, hIl.out]) (by simp [hIl.out, intCells_length]) (intCells_one _) ?_
  simp only [Act.put]
  show wpList _ _ _ _ _ ((wi.alloc (.cells (intCells (List.replicate 40 0)).toArray 98)).setRow wi.heap.size (intCells I).toArray)
  generalize (wi.alloc (.cells (intCells (List.replicate 40 0)).toArray 98)).setRow wi.heap.size (intCells I).toArray = W at *
  generalize wi.heap.size = b6 at *
  clear hsi hsj
  replace hs4 := Lib.hid hs4; replace hA := Lib.hid hA
  go_wp2_with fail
  go_loopw [6, 15] (fun s i wr => ∃ j : Nat, i = .int .i64 j ∧ j ≤ k ∧ s = .int .i64 (spanF (posA o) ((lst gs).take j)) ∧ Same W wr) (fun _ i _ => k - (intOf i).toNat)
  case atStart => exact ⟨0, rfl, by omega, by simp [spanF], (by repeat (first | exact Fr.refl _ _ | apply Fr.alloc | apply Fr.drewN | apply Fr.drew | apply Fr.undrew | apply Fr.undrewN))⟩
  case round =>
    obtain ⟨j, rfl, hj, rfl, hs⟩ := hrel
    have hsw := hs4.out.same hs
    have hA2 := hA.out.same hs
    by_cases hlt : j < k
    · have hjl : j < gs.length := by rw [hG.out.len]; exact hlt
      obtain ⟨b, off, rfl, hbl, c0, hR⟩ := (hG.out.same hsw).get hjl
      have hgj := hgs.out _ (List.getElem_mem (show j < (lst gs).length by rw [lst_len]; exact hjl))
      have hsp := spanF_succ (posA o) (show j < (lst gs).length by rw [lst_len]; exact hjl)
      have hb0 := hbd.out j (by omega)
      have hb1 := hbd.out (j + 1) (by omega)
      have he := ends40 ho.out hgj
      rw [lst_get gs hjl] at hgj hsp he
      generalize gs[j] = g at *
      obtain ⟨ga, gc, gl⟩ := g
      simp only at c0 hR hgj hsp he
      obtain ⟨p, hp⟩ : ∃ p, gl.length = p := ⟨_, rfl⟩
      rw [hp] at c0 hR
      have EN := ends_any ho.out hgj ga gc p b6 wr hp hR (by rw [← hIe.out]; exact hA2)
      generalize loF (posA o) gl = lo at *
      generalize hiF (posA o) gl = hi at *
      have hsp' := hsp
      rw [hsp] at hb1
      generalize spanF (posA o) (List.take j (lst gs)) = S at *
      replace hs := Lib.hid hs; replace hsw := Lib.hid hsw; replace hA2 := Lib.hid hA2; replace hR := Lib.hid hR; replace hgj := Lib.hid hgj; replace hp := Lib.hid hp; replace EN := Lib.hid EN; replace hsp := Lib.hid hsp; replace hsp' := Lib.hid hsp'
      go_wp2_with fail
      refine EN.out.mono ?_
      rintro e w5 ⟨rfl, hs5⟩
      have hs6 := hs.out.same hs5
      replace hs5 := Lib.hid hs5; replace hs6 := Lib.hid hs6
      go_wp2_with fail
      go_roundw
      case rel => exact ⟨j + 1, by go_num, by omega, by rw [hsp.out], hs6.out⟩
      case measure => simp [intOf]; omega
    · obtain rfl : j = k := by omega
      rw [show (lst gs).take j = lst gs by apply List.take_of_length_le; rw [lst_len, hG.out.len]; exact Nat.le_refl _]
      replace hs := Lib.hid hs; replace hsw := Lib.hid hsw; replace hA2 := Lib.hid hA2
      go_wp2_with fail
      go_ret
      exact ⟨rfl, hsw.out⟩

/-! ### Span -/
theorem groups_zero {gs : List (List Int)} {o : List Int} (h : groupsErr gs o = 0) : IsOrd o.length o ∧ gs.length ≤ 64 ∧ ∀ g ∈ gs, IsGrp o.length g := by
  unfold groupsErr gsErr at h
  split at h
  · omega
  · rename_i h0
    split at h
    · omega
    · rename_i h1
      exact ⟨((ordErr_zero (n := (o.length : Int)) (o := o)).1 (by simpa using h0)).2, by omega, gErr_zero h⟩

set_option maxRecDepth 100000 in
set_option maxHeartbeats 2000000 in
theorem Span_any (gs : List Grp) (o : List Int) (a ao : Option Addr) (cap co k q : Nat) (w : World) (hG : GsAt w (.slice a k cap) k gs) (hq : o.length = q) (hO : RowAt w (.slice ao q co) q (intCells o)) (hl : q ≤ 1000000) :
    Calls Try.prog 34 #[.slice a k cap, .slice ao q co] w fun e w' =>
      e = .returned (.tuple #[.int .i64 (if groupsErr (lst gs) o = 0 then spanF (posA o) (lst gs) else 0), .int .i64 (groupsErr (lst gs) o)]) ∧ Same w w' := by
  have CG := fun W (hW : Same w W) => checkGroups_any gs o a ao cap co k q W (hG.same hW) hq (hO.same hW) hl
  obtain ⟨E, hE⟩ : ∃ E, E = groupsErr (lst gs) o := ⟨_, rfl⟩
  rw [← hE] at CG ⊢
  by_cases h0 : E = 0
  · rw [if_pos h0]
    subst h0
    obtain ⟨ho, h64, hgs⟩ := groups_zero hE.symm
    rw [lst_len, hG.len] at h64
    rw [hq] at ho hgs
    have SP := fun W (hW : Same w W) => span_any ho gs hgs a ao cap co k W h64 (hG.same hW) (hO.same hW)
    replace CG := Lib.hid CG; replace hE := Lib.hid hE; replace ho := Lib.hid ho; replace hgs := Lib.hid hgs; replace SP := Lib.hid SP; replace hG := Lib.hid hG; replace hq := Lib.hid hq; replace hO := Lib.hid hO
    go_enter Try.func34, Try.ntmps34
    go_wp2_with fail
    refine (CG.out _ (by repeat (first | exact Fr.refl _ _ | apply Fr.alloc | apply Fr.drewN | apply Fr.drew | apply Fr.undrew | apply Fr.undrewN))).mono ?_
    rintro e w1 ⟨rfl, hs⟩
    replace hs := Lib.hid hs
    go_wp2_with fail
    refine (SP.out _ hs.out).mono ?_
    rintro e w2 ⟨rfl, hs2⟩
    have hs3 := hs.out.same hs2
    replace hs2 := Lib.hid hs2; replace hs3 := Lib.hid hs3
    go_wp2_with fail
    go_ret2
    exact ⟨rfl, hs3.out⟩
  · rw [if_neg h0]
    have hb : (E != 0) = true := by simpa using h0
    replace CG := Lib.hid CG; replace hE := Lib.hid hE; replace h0 := Lib.hid h0; replace hG := Lib.hid hG; replace hq := Lib.hid hq; replace hO := Lib.hid hO
    go_enter Try.func34, Try.ntmps34
    go_wp2_with fail
    refine (CG.out _ (by repeat (first | exact Fr.refl _ _ | apply Fr.alloc | apply Fr.drewN | apply Fr.drew | apply Fr.undrew | apply Fr.undrewN))).mono ?_
    rintro e w1 ⟨rfl, hs⟩
    replace hs := Lib.hid hs
    go_wp2_with fail
    go_ret2
    exact ⟨rfl, hs.out⟩

/-! ### Width -/
def crossL (f : Int → Int) (gs : List (List Int)) (lo : Int) (k : Nat) : List Int := (List.range 41).map fun (j : Nat) => crossF f gs j + if lo < (j : Int) ∧ j < k then 1 else 0
theorem crossL_len (f : Int → Int) (gs : List (List Int)) (lo : Int) (k : Nat) : (crossL f gs lo k).length = 41 := by simp [crossL]
theorem crossL_get (f : Int → Int) (gs : List (List Int)) (lo : Int) (k : Nat) {j : Nat} (h : j < 41) : (crossL f gs lo k)[j]? = some (crossF f gs j + if lo < (j : Int) ∧ j < k then 1 else 0) := by simp [crossL, h]
theorem crossL_zero (f : Int → Int) (lo : Int) (k : Nat) (h : (k : Int) ≤ lo + 1) : crossL f [] lo k = List.replicate 41 0 := by
  apply List.ext_getElem?
  intro j
  by_cases hj : j < 41
  · rw [crossL_get _ _ _ _ hj, if_neg (by omega), List.getElem?_replicate, if_pos hj]; simp [crossF]
  · rw [List.getElem?_eq_none (by rw [crossL_len]; omega), List.getElem?_eq_none (by simp; omega)]
theorem crossL_start (f : Int → Int) (gs : List (List Int)) (lo lo' : Int) (k k' : Nat) (h : (k : Int) ≤ lo + 1) (h' : (k' : Int) ≤ lo' + 1) : crossL f gs lo k = crossL f gs lo' k' := by
  apply List.ext_getElem?
  intro j
  by_cases hj : j < 41
  · rw [crossL_get _ _ _ _ hj, crossL_get _ _ _ _ hj, if_neg (by omega), if_neg (by omega)]
  · rw [List.getElem?_eq_none (by rw [crossL_len]; omega), List.getElem?_eq_none (by rw [crossL_len]; omega)]
theorem crossL_set (f : Int → Int) (gs : List (List Int)) (lo : Int) (k : Nat) (hk : k < 41) (hlo : lo < k) : (crossL f gs lo k).set k (crossF f gs k + 1) = crossL f gs lo (k + 1) := by
  apply List.ext_getElem?
  intro j
  rw [List.getElem?_set]
  by_cases hj : j < 41
  · rw [crossL_get _ _ _ _ hj, crossL_get _ _ _ _ hj, crossL_len]
    by_cases e : k = j
    · subst e; rw [if_pos rfl, if_pos hk, if_pos ⟨hlo, by omega⟩]
    · rw [if_neg e]
      congr 2
      by_cases h2 : lo < (j : Int) ∧ j < k
      · rw [if_pos h2, if_pos (by omega)]
      · rw [if_neg h2, if_neg (by omega)]
  · rw [List.getElem?_eq_none (l := crossL f gs lo (k + 1)) (by rw [crossL_len]; omega), List.getElem?_eq_none (l := crossL f gs lo k) (by rw [crossL_len]; omega), crossL_len]
    split
    · exfalso; omega
    · rfl
theorem crossL_end (f : Int → Int) (gs : List (List Int)) (g : List Int) (k : Nat) (lo' : Int) (k' : Nat) (hk : (k : Int) = hiF f g + 1) (h' : (k' : Int) ≤ lo' + 1) {i : Nat} (hi : i < gs.length) (hg : gs[i] = g) : crossL f (gs.take i) (loF f g) k = crossL f (gs.take (i + 1)) lo' k' := by
  apply List.ext_getElem?
  intro j
  by_cases hj : j < 41
  · rw [crossL_get _ _ _ _ hj, crossL_get _ _ _ _ hj, crossF_succ f hi, hg]
    rw [if_neg (show ¬ (lo' < (j : Int) ∧ j < k') by omega)]
    by_cases h : loF f g < (j : Int) ∧ j < k
    · have h' : loF f g < (j : Int) ∧ (j : Int) ≤ hiF f g := ⟨h.1, by omega⟩
      rw [if_pos h, if_pos h', Int.add_zero]
    · have h' : ¬ (loF f g < (j : Int) ∧ (j : Int) ≤ hiF f g) := fun hh => h ⟨hh.1, by omega⟩
      rw [if_neg h, if_neg h', Int.add_zero, Int.add_zero]
  · rw [List.getElem?_eq_none (by rw [crossL_len]; omega), List.getElem?_eq_none (by rw [crossL_len]; omega)]
theorem size41 : (Try.prog.info? 100).map (·.size) = some 41 := by kernel_rfl

def cF (f : Int → Int) (gs : List (List Int)) (lo : Int) (k : Nat) : Nat → Int := fun j => crossF f gs j + if lo < (j : Int) ∧ j < k then 1 else 0
theorem cF_mx {f : Int → Int} {gs : List (List Int)} {lo : Int} {k : Nat} {m : Int} (h : IsMx m (cF f gs lo k)) (hk : k < 41) (hlo : lo < k) : IsMx (max m (crossF f gs k + 1)) (cF f gs lo (k + 1)) := by
  have h0 : cF f gs lo k k = crossF f gs k := by unfold cF; rw [if_neg (by omega)]; omega
  have := h.raise (F' := cF f gs lo (k + 1)) hk (fun j => by
    unfold cF
    by_cases e : j = k
    · subst e; rw [if_pos rfl, if_pos (by omega), if_neg (by omega)]; omega
    · rw [if_neg e]
      by_cases h2 : lo < (j : Int) ∧ j < k
      · rw [if_pos h2, if_pos (by omega)]; omega
      · rw [if_neg h2, if_neg (by omega)]; omega) (by rw [h0]; exact (crossF_bd f gs k).1)
  rw [h0] at this
  exact this
theorem cF_bd (f : Int → Int) (gs : List (List Int)) (lo : Int) (k : Nat) {m : Int} (h : IsMx m (cF f gs lo k)) (hl : gs.length ≤ 64) : 0 ≤ m ∧ m ≤ 65 := by
  refine ⟨h.nn, ?_⟩
  rcases h.is with e | ⟨j, hj, e⟩
  · omega
  · have := (crossF_bd f gs j).2
    unfold cF at e
    split at e <;> omega

set_option maxRecDepth 100000 in
set_option maxHeartbeats 4000000 in
theorem Width_ok {n : Nat} {o : List Int} (ho : IsOrd n o) (gs : List Grp) (hgs : ∀ g ∈ lst gs, IsGrp n g) (a ao : Option Addr) (cap co k : Nat) (w : World) (hk : k ≤ 64) (hG : GsAt w (.slice a k cap) k gs) (hO : RowAt w (.slice ao n co) n (intCells o))
    (CG : ∀ W, Same w W → Calls Try.prog 48 #[.slice a k cap, .slice ao n co] W fun e w' => e = .returned (.int .i64 0) ∧ Same W w') :
    Calls Try.prog 35 #[.slice a k cap, .slice ao n co] w fun e w' => e = .returned (.tuple #[.int .i64 (widthF (posA o) (lst gs)), .int .i64 0]) ∧ Same w w' := by
  have IV := fun W (hW : Same w W) => inverse_any ho ao co W (hO.same hW)
  obtain ⟨I, hIe⟩ : ∃ I, I = invL o := ⟨_, rfl⟩
  have hIl : I.length = 40 := by rw [hIe]; exact invL_len o
  rw [← hIe] at IV
  replace IV := Lib.hid IV; replace hIe := Lib.hid hIe; replace hIl := Lib.hid hIl; replace hgs := Lib.hid hgs; replace hG := Lib.hid hG; replace hO := Lib.hid hO; replace ho := Lib.hid ho; replace CG := Lib.hid CG
  go_enter Try.func35, Try.ntmps35
  go_wp2_with fail
  refine (CG.out _ (Fr.refl _ _)).mono ?_
  rintro e w1 ⟨rfl, hs1⟩
  replace hs1 := Lib.hid hs1
  go_upto_region 4 with fail
  refine wp_region_lit ?_
  refine wpList_step (fun K hK => ?_); go_simp; refine hK _ _ ?_; clear hK
  (try simp only [Act.put, List.setIfInBounds_toArray, List.set_cons_zero, List.set_cons_succ])
  refine wpList_step (fun K hK => ?_); go_simp
  refine (IV.out _ hs1.out).mono ?_
  rintro e wi ⟨rfl, hsi⟩
  have hsj : Same w wi := (show Same w _ from hs1.out).same hsi
  have hs4 : Same w ((wi.alloc (.cells (intCells (List.replicate 40 0)).toArray 98)).setRow wi.heap.size (intCells I).toArray) := (hsj.alloc _).setRow _ _ (by intro h; have := hsj.size; omega)
  have hA : ArrAt ((wi.alloc (.cells (intCells (List.replicate 40 0)).toArray 98)).setRow wi.heap.size (intCells I).toArray) wi.heap.size 98 (intCells I) := (ArrAt.new (cs := intCells (List.replicate 40 0)) rfl).row
  have hwi := hsj.size
  refine hK _ _ ?_; clear hK
  (try simp only [Act.put, List.setIfInBounds_toArray, List.set_cons_zero, List.set_cons_succ])
  refine wpList_step (fun K hK => ?_); go_simp; refine hK _ _ ?_; clear hK
  (try simp only [Act.put, List.setIfInBounds_toArray, List.set_cons_zero, List.set_cons_succ])
  refine wpList_store_row rfl 98 (.tmp 7) (.tmp 22) rfl wi.heap.size (intCells I).toArray rfl rfl 98 (intCells (List.replicate 40 0)).toArray (heap_new _ _) (by rw [size40]; simp [intCells_length, hIl.out]) (by simp [hIl.out, intCells_length]) (intCells_one _) ?_
  simp only [Act.put]
  show wpList _ _ _ _ _ ((wi.alloc (.cells (intCells (List.replicate 40 0)).toArray 98)).setRow wi.heap.size (intCells I).toArray)
  generalize (wi.alloc (.cells (intCells (List.replicate 40 0)).toArray 98)).setRow wi.heap.size (intCells I).toArray = W at *
  generalize wi.heap.size = b6 at *
  clear hsi hsj
  replace hs4 := Lib.hid hs4; replace hA := Lib.hid hA
  go_wp2_with fail
  have hb6 := hA.out.lt
  have hsW : Same w (W.alloc (.cells (intCells (crossL (posA o) ((lst gs).take 0) 0 0)).toArray 100)) := hs4.out.same (by repeat (first | exact Fr.refl _ _ | apply Fr.alloc | apply Fr.drewN | apply Fr.drew | apply Fr.undrew | apply Fr.undrewN))
  have hX0 : ArrAt (W.alloc (.cells (intCells (crossL (posA o) ((lst gs).take 0) 0 0)).toArray 100)) W.heap.size 100 (intCells (crossL (posA o) ((lst gs).take 0) 0 0)) := heap_new _ _
  have hA0 := hA.out.same (show Same W (W.alloc (.cells (intCells (crossL (posA o) ((lst gs).take 0) 0 0)).toArray 100)) from (by repeat (first | exact Fr.refl _ _ | apply Fr.alloc | apply Fr.drewN | apply Fr.drew | apply Fr.undrew | apply Fr.undrewN)))
  have hz : W.alloc (.cells (intCells (crossL (posA o) ((lst gs).take 0) 0 0)).toArray 100) = W.alloc (.cells #[.int .i64 0, .int .i64 0, .int .i64 0, .int .i64 0, .int .i64 0, .int .i64 0, .int .i64 0, .int .i64 0, .int .i64 0, .int .i64 0, .int .i64 0, .int .i64 0, .int .i64 0, .int .i64 0, .int .i64 0, .int .i64 0, .int .i64 0, .int .i64 0, .int .i64 0, .int .i64 0, .int .i64 0, .int .i64 0, .int .i64 0, .int .i64 0, .int .i64 0, .int .i64 0, .int .i64 0, .int .i64 0, .int .i64 0, .int .i64 0, .int .i64 0, .int .i64 0, .int .i64 0, .int .i64 0, .int .i64 0, .int .i64 0, .int .i64 0, .int .i64 0, .int .i64 0, .int .i64 0, .int .i64 0] 100) := by
    rw [List.take_zero, crossL_zero _ _ _ (by omega)]; rfl
  rw [hz] at hsW hX0 hA0
  have hb8 := hs4.out.size
  generalize W.heap.size = b8 at *
  generalize W.alloc (.cells #[.int .i64 0, .int .i64 0, .int .i64 0, .int .i64 0, .int .i64 0, .int .i64 0, .int .i64 0, .int .i64 0, .int .i64 0, .int .i64 0, .int .i64 0, .int .i64 0, .int .i64 0, .int .i64 0, .int .i64 0, .int .i64 0, .int .i64 0, .int .i64 0, .int .i64 0, .int .i64 0, .int .i64 0, .int .i64 0, .int .i64 0, .int .i64 0, .int .i64 0, .int .i64 0, .int .i64 0, .int .i64 0, .int .i64 0, .int .i64 0, .int .i64 0, .int .i64 0, .int .i64 0, .int .i64 0, .int .i64 0, .int .i64 0, .int .i64 0, .int .i64 0, .int .i64 0, .int .i64 0, .int .i64 0] 100) = W1 at *
  have hmx0 : IsMx 0 (cF (posA o) ((lst gs).take 0) 0 0) := ⟨fun j hj => by simp [cF, crossF], .inl rfl, by omega⟩
  clear hz hwi
  replace hsW := Lib.hid hsW; replace hX0 := Lib.hid hX0; replace hA0 := Lib.hid hA0; replace hmx0 := Lib.hid hmx0
  go_loopw [9, 25] (fun s i wr => ∃ (j : Nat) (m : Int), i = .int .i64 j ∧ j ≤ k ∧ s = .int .i64 m ∧ IsMx m (cF (posA o) ((lst gs).take j) 0 0) ∧ ArrAt wr b8 100 (intCells (crossL (posA o) ((lst gs).take j) 0 0)) ∧ ArrAt wr b6 98 (intCells I) ∧ Same w wr) (fun _ i _ => k - (intOf i).toNat)
  case atStart => exact ⟨0, 0, rfl, by omega, rfl, hmx0.out, hX0.out, hA0.out, hsW.out⟩
  case round =>
    obtain ⟨j, m, rfl, hj, rfl, hmx, hX, hA2, hsw⟩ := hrel
    by_cases hlt : j < k
    · have hjl : j < gs.length := by rw [hG.out.len]; exact hlt
      have hjl' : j < (lst gs).length := by rw [lst_len]; exact hjl
      obtain ⟨b, off, rfl, hbl, c0, hR⟩ := (hG.out.same hsw).get hjl
      have hgj := hgs.out _ (List.getElem_mem hjl')
      have he := ends40 ho.out hgj
      have hgl := lst_get gs hjl
      rw [hgl] at hgj he
      generalize gs[j] = g at *
      obtain ⟨ga, gc, gl⟩ := g
      simp only at c0 hR hgj he hgl
      obtain ⟨p, hp⟩ : ∃ p, gl.length = p := ⟨_, rfl⟩
      rw [hp] at c0 hR
      have EN := ends_any ho.out hgj ga gc p b6 wr hp hR (by rw [← hIe.out]; exact hA2)
      obtain ⟨lo, hlo⟩ : ∃ lo : Nat, loF (posA o) gl = lo := ⟨(loF (posA o) gl).toNat, by omega⟩
      obtain ⟨hi, hhi⟩ : ∃ hi : Nat, hiF (posA o) gl = hi := ⟨(hiF (posA o) gl).toNat, by omega⟩
      rw [hlo, hhi] at EN he
      have hjk : ((lst gs).take j).length ≤ 64 := by simp; omega
      replace hsw := Lib.hid hsw; replace hA2 := Lib.hid hA2; replace hR := Lib.hid hR; replace hgj := Lib.hid hgj; replace hp := Lib.hid hp; replace EN := Lib.hid EN; replace hX := Lib.hid hX; replace hmx := Lib.hid hmx; replace hgl := Lib.hid hgl; replace hlo := Lib.hid hlo; replace hhi := Lib.hid hhi; replace hjk := Lib.hid hjk
      go_wp2_with fail
      refine EN.out.mono ?_
      rintro e w5 ⟨rfl, hs5⟩
      have hs6 := hsw.out.same hs5
      have hX6 := hX.out.same hs5
      have hA6 := hA2.out.same hs5
      have hX7 := crossL_start (posA o) ((lst gs).take j) 0 lo 0 (lo + 1) (by omega) (by omega)
      have hm7 : IsMx m (cF (posA o) ((lst gs).take j) lo (lo + 1)) := hmx.out.congr (fun i hi => by unfold cF; rw [if_neg (by omega), if_neg (by omega)])
      rw [hX7] at hX6
      replace hs5 := Lib.hid hs5; replace hs6 := Lib.hid hs6; replace hX6 := Lib.hid hX6; replace hA6 := Lib.hid hA6; replace hX7 := Lib.hid hX7; replace hm7 := Lib.hid hm7
      go_wp2_with fail
      obtain ⟨wo, rfl⟩ : ∃ wo, wo = wr := ⟨_, rfl⟩
      go_loopw [9, 14] (fun s i wr => ∃ (q : Nat) (m : Int), i = .int .i64 q ∧ lo < q ∧ q ≤ hi + 1 ∧ s = .int .i64 m ∧ IsMx m (cF (posA o) ((lst gs).take j) lo q) ∧ ArrAt wr b8 100 (intCells (crossL (posA o) ((lst gs).take j) lo q)) ∧ ArrAt wr b6 98 (intCells I) ∧ Same w wr) (fun _ i _ => hi + 1 - (intOf i).toNat)
      case atStart => exact ⟨lo + 1, m, by go_num, by omega, by omega, rfl, hm7.out, hX6.out, hA6.out, hs6.out⟩
      case round =>
        clear hmx hX hA2 hm7 hX6 hA6 hs6 hbl c0
        obtain ⟨q, m', rfl, hq1, hq2, rfl, hmx, hX, hA2, hsw'⟩ := hrel
        have hmb := cF_bd _ _ _ _ hmx hjk.out
        by_cases hqt : q ≤ hi
        · have hq41 : q < 41 := by omega
          have hcb := crossF_bd (posA o) ((lst gs).take j) q
          have hjk' := hjk.out
          have x0 := hX.cell (ints_at _ _ _ (crossL_get (posA o) ((lst gs).take j) lo q hq41))
          rw [if_neg (by omega)] at x0
          have xf := hX.free q
          have xl := hX.lt
          have hX2 := hX.set q (.int .i64 (crossF (posA o) ((lst gs).take j) q + 1))
          rw [ints_set, crossL_set _ _ _ _ hq41 (by omega)] at hX2
          have hm2 := cF_mx hmx hq41 (by omega)
          have hs2 := hsw'.setCell ⟨b8, q, none⟩ (.int .i64 (crossF (posA o) ((lst gs).take j) q + 1)) (by intro h; simp at h; omega)
          have hA3 : ArrAt (wr.setCell ⟨b8, q, none⟩ (.int .i64 (crossF (posA o) ((lst gs).take j) q + 1))) b6 98 (intCells I) := hA2.fr (S := fun k => k = b8) ((Fr.refl _ _).setCell _ _ (fun _ => rfl)) (by omega)
          have hqi : (q : Int) < 41 := by omega
          generalize crossF (posA o) ((lst gs).take j) q = C at *
          rw [Int.add_zero] at x0
          have hC0 : 0 ≤ C := by omega
          have hC1 : C ≤ 64 := by omega
          clear hjk'
          replace hmx := Lib.hid hmx; replace hX := Lib.hid hX; replace hA2 := Lib.hid hA2; replace hsw' := Lib.hid hsw'; replace hX2 := Lib.hid hX2; replace hm2 := Lib.hid hm2; replace hs2 := Lib.hid hs2; replace hA3 := Lib.hid hA3
          go_wp2_with fail
          go_roundw
          case rel => exact ⟨q + 1, _, by go_num, by omega, by omega, rfl, hm2.out, hX2.out, hA3.out, hs2.out⟩
          case measure => simp [intOf]; omega
        · have hqe : (q : Int) = hiF (posA o) gl + 1 := by rw [hhi.out]; omega
          have hX2 := crossL_end (posA o) (lst gs) gl q 0 0 hqe (by omega) hjl' hgl.out
          have hm2 : IsMx m' (cF (posA o) ((lst gs).take (j + 1)) 0 0) := hmx.congr (fun i hi => by
            have := congrArg (fun l => l[i]?) hX2
            simp only [crossL_get _ _ _ _ hi, hlo.out, Option.some.injEq] at this
            exact this.symm)
          rw [hlo.out] at hX2
          rw [hX2] at hX
          replace hmx := Lib.hid hmx; replace hX := Lib.hid hX; replace hA2 := Lib.hid hA2; replace hsw' := Lib.hid hsw'; replace hX2 := Lib.hid hX2; replace hm2 := Lib.hid hm2; replace hqe := Lib.hid hqe
          go_wp2_with fail
          go_roundw
          case rel => exact ⟨j + 1, _, by go_num, by omega, rfl, hm2.out, hX.out, hA2.out, hsw'.out⟩
          case measure => simp [intOf]; omega
    · obtain rfl : j = k := by omega
      rw [show (lst gs).take j = lst gs by apply List.take_of_length_le; rw [lst_len, hG.out.len]; exact Nat.le_refl _] at hmx
      have hme : m = widthF (posA o) (lst gs) := IsMx.unique (hmx.congr (F' := crossF (posA o) (lst gs)) (fun i hi => by unfold cF; rw [if_neg (by omega)]; omega)) (mxF_is _)
      replace hsw := Lib.hid hsw; replace hA2 := Lib.hid hA2; replace hX := Lib.hid hX; replace hmx := Lib.hid hmx; replace hme := Lib.hid hme
      go_wp2_with fail
      go_ret2
      exact ⟨by rw [hme.out]; rfl, hsw.out⟩

set_option maxRecDepth 100000 in
set_option maxHeartbeats 2000000 in
theorem Width_bad (E : Int) (h0 : E ≠ 0) (a ao : Option Addr) (cap co k n : Nat) (w : World)
    (CG : ∀ W, Same w W → Calls Try.prog 48 #[.slice a k cap, .slice ao n co] W fun e w' => e = .returned (.int .i64 E) ∧ Same W w') :
    Calls Try.prog 35 #[.slice a k cap, .slice ao n co] w fun e w' => e = .returned (.tuple #[.int .i64 0, .int .i64 E]) ∧ Same w w' := by
  have hb : (E != 0) = true := by simpa using h0
  replace CG := Lib.hid CG; replace h0 := Lib.hid h0
  go_enter Try.func35, Try.ntmps35
  go_wp2_with fail
  refine (CG.out _ (Fr.refl _ _)).mono ?_
  rintro e w1 ⟨rfl, hs1⟩
  replace hs1 := Lib.hid hs1
  go_wp2_with fail
  go_ret2
  exact ⟨rfl, hs1.out⟩
theorem Width_any (gs : List Grp) (o : List Int) (a ao : Option Addr) (cap co k q : Nat) (w : World) (hG : GsAt w (.slice a k cap) k gs) (hq : o.length = q) (hO : RowAt w (.slice ao q co) q (intCells o)) (hl : q ≤ 1000000) :
    Calls Try.prog 35 #[.slice a k cap, .slice ao q co] w fun e w' =>
      e = .returned (.tuple #[.int .i64 (if groupsErr (lst gs) o = 0 then widthF (posA o) (lst gs) else 0), .int .i64 (groupsErr (lst gs) o)]) ∧ Same w w' := by
  have CG := fun W (hW : Same w W) => checkGroups_any gs o a ao cap co k q W (hG.same hW) hq (hO.same hW) hl
  by_cases h0 : groupsErr (lst gs) o = 0
  · rw [if_pos h0, h0]
    rw [h0] at CG
    obtain ⟨ho, h64, hgs⟩ := groups_zero h0
    rw [lst_len, hG.len] at h64
    rw [hq] at ho hgs
    exact Width_ok ho gs hgs a ao cap co k w h64 hG hO CG
  · rw [if_neg h0]
    exact Width_bad _ h0 a ao cap co k q w CG
end Go.Proofs.Ytmmjijmmocabhaa
