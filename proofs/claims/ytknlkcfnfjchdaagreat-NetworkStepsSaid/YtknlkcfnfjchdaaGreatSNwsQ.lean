/- NetworkSteps: the append of two values in a drawn region; the closure of its ContainsFunc. NetworkSteps: the pairs of the steps, plain. The law of package network: possible walked. -/
import Derived.Test.YtknlkcfnfjchdaaGreatSLStpM
import Derived.Test.YtknlkcfnfjchdaaGreatSIdxG
import Derived.Test.YtknlkcfnfjchdaaGreatSLCod
import Derived.Test.YtknlkcfnfjchdaaGreatSValue
import Derived.Test.YtknlkcfnfjchdaaGreatSLStpP
import Derived.Test.YtknlkcfnfjchdaaGreatSLNetC
import Derived.Test.YtknlkcfnfjchdaaGreatSAppR
namespace Go.Proofs.YtknlkcfnfjchdaaGreat
open Go.RowKit
set_option linter.unusedVariables false
set_option linter.unusedSimpArgs false

theorem tup_lt {N : Nw} {x : List Nat} (hx : x ∈ tupsF N.ns) : x.length = N.As.length ∧ ∀ i (hi : i < N.As.length), x.getD i 0 < N.As[i].n.toNat := by
  obtain ⟨h1, h2⟩ := tups_iff.1 hx
  refine ⟨by rw [h1, N.ns_len], fun i hi => ?_⟩
  have := okT_iff.1 h2 i (by rw [N.ns_len]; exact hi)
  rw [N.ns_get hi] at this
  exact this
/-- Whether an event is possible in a tuple. -/
def pos1 (N : Nw) (x : List Nat) (e : Int) : Bool := (tupsF N.ns).any fun y => stepB N.As e x y
theorem StE.pos {N : Nw} (OK : NwOk N) {e : Int} {x : List Nat} {w w' : World} {E : Ending} (h : StE N e x w E w') : ∃ a q c, E = .returned (.tuple #[.slice a q c, .bool (pos1 N x e)]) ∧ Same w w' := by
  obtain ⟨a, q, c, b, rfl, hs, h1, h2⟩ := h
  have hb : b = pos1 N x e := by
    unfold pos1
    cases b with
    | true =>
      obtain ⟨y, hy, _, _, hst⟩ := h1 rfl
      exact (List.any_eq_true.2 ⟨y, tups_iff.2 ⟨by rw [hy, N.ns_len], (stepB_ok OK hst).2⟩, hst⟩).symm
    | false =>
      refine (List.any_eq_false.2 (fun y _ => ?_)).symm
      rw [h2 rfl y]; simp
  exact ⟨a, q, c, by rw [hb], hs⟩

/-- The tuple of the bits of a tuple's code is the tuple. -/
theorem tup_code {N : Nw} (h : NwOk N) {x : List Nat} (hx : x ∈ tupsF N.ns) (ρ : Nat → Bool) (hρ : ∀ v, v < N.all → ρ v = (codeL N.bs N.on x).getD v false) : tupA N.bs N.at' N.As.length ρ = x := by
  obtain ⟨hl, hlt⟩ := tup_lt hx
  refine list_of_getD (tupA_len _ _ _ _) hl (fun i hi => ?_)
  rw [tupA_get _ _ _ hi]
  have hle := h.le hi
  have hb := h.bits hi
  have hxi := hlt i hi
  have hn := N.ns_get hi
  have hx2 : x.getD i 0 < 2 ^ N.bs i := by omega
  have e : placeF ρ (N.bs i) (N.at' i) = placeF (bitF (N.bs i) (x.getD i 0)) (N.bs i) 0 := by
    have e1 : placeF ρ (N.bs i) (N.at' i) = placeF (fun u => ρ (N.at' i + u)) (N.bs i) 0 := by
      rw [place_shift, Nat.add_zero]
    rw [e1]
    refine place_cong _ (fun u hu => ?_)
    rw [hρ _ (by omega)]
    have h2 := codeL_at N.bs x (o := N.on) h.pm.nodup (i := i) (u := u) ((h.pm.mem i).2 hi) hu
    have e3 : N.at' i = atB N.bs N.on i := rfl
    rw [e3, h2]
    simp [encL, colF, List.getD, hu]
  rw [e, place_bit hx2]
/-- The bits of two codes, one after the other. -/
def zipC (a b : List Bool) : Nat → List Bool
  | 0 => []
  | k + 1 => zipC a b k ++ [a.getD k false, b.getD k false]
theorem zipC_len (a b : List Bool) : ∀ k, (zipC a b k).length = 2 * k
  | 0 => rfl
  | k + 1 => by rw [zipC, List.length_append, zipC_len a b k]; simp; omega
theorem zipC_get (a b : List Bool) : ∀ k v, v < k → (zipC a b k).getD (2 * v) false = a.getD v false ∧ (zipC a b k).getD (2 * v + 1) false = b.getD v false
  | 0, v, h => by omega
  | k + 1, v, h => by
    have hl := zipC_len a b k
    by_cases hv : v < k
    · have ih := zipC_get a b k v hv
      rw [zipC]
      have g : ∀ j, j < 2 * k → (zipC a b k ++ [a.getD k false, b.getD k false]).getD j false = (zipC a b k).getD j false := fun j hj => by
        simp only [List.getD]; rw [List.getElem?_append_left (by omega)]
      rw [g _ (by omega), g _ (by omega)]
      exact ih
    · obtain rfl : v = k := by omega
      rw [zipC]
      constructor
      · simp only [List.getD]; rw [List.getElem?_append_right (by omega), hl]; simp
      · simp only [List.getD]; rw [List.getElem?_append_right (by omega), hl]; simp
/-- What the relation holds at the bits of two codes. -/
theorem rel_code {N : Nw} (h : NwOk N) (F : List Nat → List Nat → Bool) {x y : List Nat} (hx : x ∈ tupsF N.ns) (hy : y ∈ tupsF N.ns) :
    evT (2 * N.all) (N.rel F) (fun u => (zipC (codeL N.bs N.on x) (codeL N.bs N.on y) N.all).getD u false) = F x y := by
  have hf : ∀ i, i < N.As.length → N.at' i + N.bs i ≤ N.all := fun i hi => h.le hi
  have e := evT_rel hf F (fun u => (zipC (codeL N.bs N.on x) (codeL N.bs N.on y) N.all).getD u false)
  unfold Nw.rel
  rw [e, tup_code h hx _ (fun v hv => (zipC_get _ _ _ v hv).1), tup_code h hy _ (fun v hv => (zipC_get _ _ _ v hv).2)]
def sumP (F : List Nat → List Nat → Bool) (T : List (List Nat)) : List (List Nat) → Nat
  | [] => 0
  | x :: l => (T.filter (F x)).length + sumP F T l
theorem sumP_append (F : List Nat → List Nat → Bool) (T : List (List Nat)) : ∀ l k, sumP F T (l ++ k) = sumP F T l + sumP F T k
  | [], k => by simp [sumP]
  | x :: l, k => by rw [List.cons_append, sumP, sumP, sumP_append F T l k]; omega
theorem sumP_take (F : List Nat → List Nat → Bool) (T l : List (List Nat)) {k : Nat} (hk : k < l.length) : sumP F T (l.take (k + 1)) = sumP F T (l.take k) + (T.filter (F l[k])).length := by
  rw [List.take_succ_eq_append_getElem hk, sumP_append]; simp [sumP]
theorem prs_len (F : List Nat → List Nat → Bool) (T : List (List Nat)) : ∀ l : List (List Nat), (l.flatMap fun x => (T.filter (F x)).map fun y => (x, y)).length = sumP F T l
  | [] => rfl
  | x :: l => by rw [List.flatMap_cons, List.length_append, prs_len F T l, sumP, List.length_map]
theorem sumP_le (F : List Nat → List Nat → Bool) (T : List (List Nat)) : ∀ l : List (List Nat), sumP F T l ≤ l.length * T.length
  | [] => by simp [sumP]
  | x :: l => by
    have h1 := sumP_le F T l
    have h2 := List.length_filter_le (F x) T
    rw [sumP, List.length_cons, Nat.add_mul]
    omega
theorem rel_cnt {N : Nw} (h : NwOk N) {F : List Nat → List Nat → Bool} (hF : ∀ x y, F x y = true → okT N.ns x = true ∧ okT N.ns y = true) : (N.rel F).count true = sumP F (tupsF N.ns) (tupsF N.ns) := by
  rw [← prs_len]
  obtain ⟨X, hX⟩ : ∃ X : Nat → List Nat, X = fun k => tupA N.bs N.at' N.As.length fun v => bitF (2 * N.all) k (2 * v) := ⟨_, rfl⟩
  obtain ⟨Y, hY⟩ : ∃ Y : Nat → List Nat, Y = fun k => tupA N.bs N.at' N.As.length fun v => bitF (2 * N.all) k (2 * v + 1) := ⟨_, rfl⟩
  have hrel : N.rel F = tbF (2 * N.all) fun k => F (X k) (Y k) := by rw [hX, hY]; rfl
  have hXl : ∀ k, (X k).length = N.ns.length := fun k => by rw [hX]; simp only; rw [tupA_len, N.ns_len]
  have hYl : ∀ k, (Y k).length = N.ns.length := fun k => by rw [hY]; simp only; rw [tupA_len, N.ns_len]
  have e : (N.rel F).count true = (((List.range (2 ^ (2 * N.all))).filter fun k => F (X k) (Y k)).map fun k => (X k, Y k)).length := by
    rw [hrel, tbF, List.length_map, List.count_eq_countP, List.countP_map, List.countP_eq_length_filter]
    congr 1
    refine List.filter_congr (fun x _ => ?_)
    simp only [Function.comp]
    cases F (X x) (Y x) <;> rfl
  have hinj : ∀ i j, i < 2 ^ (2 * N.all) → j < 2 ^ (2 * N.all) → X i = X j → Y i = Y j → i = j := fun i j hi hj e1 e2 => by
    rw [hX] at e1
    rw [hY] at e2
    have f1 := tup_bits h e1
    have f2 := tup_bits h e2
    refine num_bits hi hj (fun v hv => ?_)
    rcases (show v % 2 = 0 ∨ v % 2 = 1 by omega) with hp | hp
    · have := f1 (v / 2) (by omega)
      rwa [show 2 * (v / 2) = v by omega] at this
    · have := f2 (v / 2) (by omega)
      rwa [show 2 * (v / 2) + 1 = v by omega] at this
  rw [e]
  refine Nat.le_antisymm (nodup_sub ?_ (fun z hz => ?_)) (nodup_sub ?_ (fun z hz => ?_))
  · rw [List.nodup_iff_pairwise_ne, List.pairwise_map]
    refine List.Pairwise.imp_of_mem (fun {a b} ha hb hab hf => ?_) ((List.nodup_iff_pairwise_ne.1 List.nodup_range).filter _)
    simp only [Prod.mk.injEq] at hf
    exact hab (hinj a b (List.mem_range.1 (List.mem_filter.1 ha).1) (List.mem_range.1 (List.mem_filter.1 hb).1) hf.1 hf.2)
  · obtain ⟨k, hk, rfl⟩ := List.mem_map.1 hz
    have hk2 := (List.mem_filter.1 hk).2
    obtain ⟨o1, o2⟩ := hF _ _ hk2
    exact List.mem_flatMap.2 ⟨X k, tups_iff.2 ⟨hXl k, o1⟩, List.mem_map.2 ⟨Y k, List.mem_filter.2 ⟨tups_iff.2 ⟨hYl k, o2⟩, hk2⟩, rfl⟩⟩
  · refine List.nodup_iff_pairwise_ne.2 (List.pairwise_flatMap.2 ⟨fun x _ => ?_, (List.nodup_iff_pairwise_ne.1 (tups_nodup N.ns)).imp (fun {a b} hab x hx y hy e => ?_)⟩)
    · rw [List.pairwise_map]
      exact ((List.nodup_iff_pairwise_ne.1 (tups_nodup N.ns)).filter _).imp (fun {a b} hab e => hab (by simpa using e))
    · obtain ⟨y1, _, rfl⟩ := List.mem_map.1 hx
      obtain ⟨y2, _, rfl⟩ := List.mem_map.1 hy
      simp only [Prod.mk.injEq] at e
      exact hab e.1
  · obtain ⟨x, hx, hz⟩ := List.mem_flatMap.1 hz
    obtain ⟨y, hy, rfl⟩ := List.mem_map.1 hz
    obtain ⟨hy1, hy2⟩ := List.mem_filter.1 hy
    obtain ⟨k, hk⟩ : ∃ k, k = placeF (fun u => (zipC (codeL N.bs N.on x) (codeL N.bs N.on y) N.all).getD u false) (2 * N.all) 0 := ⟨_, rfl⟩
    have hk2 : k < 2 ^ (2 * N.all) := by rw [hk]; exact placeF_lt _ _ _
    have hb : ∀ v, v < 2 * N.all → bitF (2 * N.all) k v = (zipC (codeL N.bs N.on x) (codeL N.bs N.on y) N.all).getD v false := fun v hv => by rw [hk]; exact bit_of hv
    have eX : X k = x := by
      rw [hX]
      exact tup_code h hx _ (fun v hv => by rw [hb _ (by omega)]; exact (zipC_get _ _ _ v hv).1)
    have eY : Y k = y := by
      rw [hY]
      exact tup_code h hy1 _ (fun v hv => by rw [hb _ (by omega)]; exact (zipC_get _ _ _ v hv).2)
    exact List.mem_map.2 ⟨k, List.mem_filter.2 ⟨List.mem_range.2 hk2, by rw [eX, eY]; exact hy2⟩, by rw [eX, eY]⟩
/-- A diagram's value at bits. -/
theorem value_ev (d : Dg) {n : Nat} {t : List Bool} {l : List Bool} (hl : l.length = n) (ab : Option Addr) (cb : Nat) (w : World) (hat : d.at w) (T : d.tab n t) (hB : RowAt w (.slice ab n cb) n (boolCells l)) :
    Calls Tryz.prog 30 #[d.v, .slice ab n cb] w fun e w' => e = .returned (.tuple #[.bool (evT n t fun u => l.getD u false), .int .i64 0]) ∧ Same w w' := by
  obtain ⟨ho, hr, ht⟩ := T.2.ord
  have he : ev d.L d.r (fun u => l.getD u false) = evT n t fun u => l.getD u false := by
    unfold evT
    rw [← ht]
    exact (tab_ev ho (fun u => l.getD u false) n 0 d.r (by omega) hr (topF_range ho.val hr).1).symm
  refine (valueP_ok d n t ab cb _ w hat T hl hB).mono ?_
  rintro e w' ⟨rfl, hs⟩
  exact ⟨by rw [he], hs⟩
/-- The tuples to which a tuple steps by some events, each once. -/
structure NxL (N : Nw) (x : List Nat) (E : List Int) (L : List (List Nat)) : Prop where
  nd : L.Nodup
  mem : ∀ y, y ∈ L ↔ y ∈ tupsF N.ns ∧ stepsB N.As E x y = true
theorem NxL.nil (N : Nw) (x : List Nat) : NxL N x [] [] := ⟨List.nodup_nil, fun y => by simp [stepsB]⟩
theorem NxL.skip {N : Nw} {x : List Nat} {E : List Int} {L : List (List Nat)} {e : Int} (h : NxL N x E L) (hn : ∀ z, stepB N.As e x z = false) : NxL N x (E ++ [e]) L :=
  ⟨h.nd, fun y => by rw [h.mem y]; simp [stepsB, hn y]⟩
theorem NxL.old {N : Nw} (OK : NwOk N) {x : List Nat} (hx : x ∈ tupsF N.ns) {E : List Int} {L : List (List Nat)} {e : Int} {y : List Nat} (h : NxL N x E L) (hl : y.length = N.As.length) (hs : stepB N.As e x y = true) (hy : y ∈ L) : NxL N x (E ++ [e]) L :=
  ⟨h.nd, fun z => by
    rw [h.mem z]
    constructor
    · rintro ⟨h1, h2⟩
      exact ⟨h1, by unfold stepsB at h2 ⊢; rw [List.any_append, h2]; rfl⟩
    · rintro ⟨h1, h2⟩
      refine ⟨h1, ?_⟩
      unfold stepsB at h2 ⊢
      rw [List.any_append, Bool.or_eq_true] at h2
      rcases h2 with h2 | h2
      · exact h2
      · have h3 : stepB N.As e x z = true := by simpa using h2
        have := stepB_fun OK.au (tup_lt hx).2 (tup_lt h1).1 hl h3 hs
        subst this
        exact ((h.mem _).1 hy).2⟩
theorem NxL.new {N : Nw} (OK : NwOk N) {x : List Nat} (hx : x ∈ tupsF N.ns) {E : List Int} {L : List (List Nat)} {e : Int} {y : List Nat} (h : NxL N x E L) (hl : y.length = N.As.length) (hs : stepB N.As e x y = true) (hy : ¬ y ∈ L) : NxL N x (E ++ [e]) (L ++ [y]) := by
  have hyT : y ∈ tupsF N.ns := tups_iff.2 ⟨by rw [hl, N.ns_len], (stepB_ok OK hs).2⟩
  refine ⟨List.nodup_append.2 ⟨h.nd, by simp, fun a ha b hb e => hy (by simp at hb; rw [← hb, ← e]; exact ha)⟩, fun z => ?_⟩
  rw [List.mem_append, h.mem z]
  unfold stepsB
  rw [List.any_append, Bool.or_eq_true]
  constructor
  · rintro (⟨h1, h2⟩ | h1)
    · exact ⟨h1, .inl h2⟩
    · obtain rfl : z = y := by simpa using h1
      exact ⟨hyT, .inr (by simp [hs])⟩
  · rintro ⟨h1, h2 | h2⟩
    · exact .inl ⟨h1, h2⟩
    · have h3 : stepB N.As e x z = true := by simpa using h2
      exact .inr (by rw [stepB_fun OK.au (tup_lt hx).2 (tup_lt h1).1 hl h3 hs]; simp)
theorem NxL.len {N : Nw} {x : List Nat} {E : List Int} {L : List (List Nat)} (h : NxL N x E L) : L.length = ((tupsF N.ns).filter (stepsB N.As E x)).length :=
  Nat.le_antisymm (nodup_sub h.nd (fun y hy => List.mem_filter.2 ((h.mem y).1 hy))) (nodup_sub ((tups_nodup _).filter _) (fun y hy => (h.mem y).2 (List.mem_filter.1 hy)))
end Go.Proofs.YtknlkcfnfjchdaaGreat
namespace Go.Proofs.YtknlkcfnfjchdaaGreat
open Go.RowKit Go.Sort
set_option linter.unusedVariables false
set_option linter.unusedSimpArgs false

theorem step_appN {P : Program} {w : World} {ops : Array Oper} {o : Oper} {a : Act} {KK : Act → World → Prop} {Q : Exit → Act → World → Prop} {E : Prop} (hgd : o.guard = none) (s x : Operand) (t : TypeId)
    (ho : o.op = .call { callee := .builtin .append, args := #[s, x], argTypes := #[t, t] })
    (base : Nat) (e : TypeId) (i : TypeInfo) (z : Value) (size bytes : Nat) (ht : P.underlying t = some (.slice e)) (hi : P.info? e = some i) (hz : i.zero = some z)
    (hsize : i.size = size) (hby : i.bytes = bytes) (hzs : z.cells.size = size) (hsz : 0 < size) (hb : bytes ≤ 1000)
    (v : Value) (n : Nat) (xs : List Value) (hs : a.eval s = v) (hown : w.ownsRow base e size v n xs)
    (ad : Addr) (m c : Nat) (news : List Value) (hx : a.eval x = .slice (some ad) m c) (hl : news.length = m * size) (hnews : ∀ j u, news[j]? = some u → w.cell? (ad.add j) = some u) (h1 : ∀ u ∈ news, u.oneCell' = true) (h63 : n + m ≤ 1000000000) (hbase : base ≤ w.heap.size)
    (h : ∀ a' cap' w', w'.ownsRow base e size (.slice a' (n + m) cap') (n + m) (xs ++ news) → Grew (fun _ => False) w w' v (.slice a' (n + m) cap') → KK (a.put o.dst (.slice a' (n + m) cap')) w') :
    if Region.wanted o (yielded ops a.tmps) = true then Oper.wp P o a w KK Q else E := by
  have hw : Region.wanted o (yielded ops a.tmps) = true := by simp [Region.wanted, hgd]
  rw [if_pos hw]
  obtain ⟨v', w', hr, h2, h3, h4, h5⟩ := run_append_own_at (P := P) (w := w) base t o.type e i z size bytes ht hi hz hsize hby hzs hsz v n xs hown ad m c news hl hnews h1 (by unfold maxLen; omega)
    (Nat.le_trans (Nat.mul_le_mul h63 hb) (by omega)) hbase
  obtain ⟨a', cap', rfl⟩ : ∃ a' cap', v' = .slice a' (n + m) cap' := by
    rcases h2.2 with ⟨rfl, hz⟩ | ⟨g, cap, cur, rfl, _⟩
    · exact ⟨none, 0, by rw [hz]⟩
    · exact ⟨_, _, rfl⟩
  unfold Oper.wp execOp
  simp only [ho, resolve, invoke, builtin, Sem.run_bind, Sem.run_pure, Result.andThen_ok, List.map_toArray, List.map_cons, List.map_nil, hs, hx, hr]
  refine h a' cap' w' h2 ⟨(Fr.refl _ _).grown h3 (fun k hk _ => .inl hk), fun k hk => ?_⟩
  rcases h5 with h5 | h5
  · exact .inl (by rw [← h5]; exact hk)
  · rw [h5] at hk
    exact .inr (Nat.le_of_eq (Option.some.inj hk))
theorem enter_nsteps1 (args : Array Value) (W : World) : (callFunc 28 args).run Tryz.prog W = .ok (.enter 28 args) W := by kernel_rfl
set_option maxRecDepth 100000 in
theorem nsteps1 (l l' : List Int) (a a' : Option Addr) (q q' c c' b : Nat) (w : World) (hq : l.length = q) (hq' : l'.length = q') (h : RowAt w (.slice a q c) q (intCells l)) (h' : RowAt w (.slice a' q' c') q' (intCells l')) (hl : q ≤ 100000) (kb : w.heap[b]? = some (.cells #[.slice a' q' c'] 31 (0, 0))) :
    Calls Tryz.prog 28 #[.slice a q c, .pointer (some ⟨b, 0, none⟩)] w fun e w' => e = .returned (.bool (decide (l = l'))) ∧ Same w w' := by
  have EQ := fun W (hW : Same w W) => equalI_any l l' a a' q q' c c' W hq hq' (h.same hW) (h'.same hW) hl
  clear h h'
  generalize decide (l = l') = r at *
  replace EQ := Lib.hid EQ; replace kb := Lib.hid kb
  go_enter Tryz.func28, Tryz.ntmps28
  have y0 := cell_at kb.out 0
  have yl := lt_of_heap kb.out
  go_wp2_with fail
  refine (EQ.out _ (Fr.refl _ _)).mono ?_
  rintro e w2 ⟨rfl, sP⟩
  clear y0 yl
  replace sP := Lib.hid sP
  go_wp2_with fail
  go_ret
  exact ⟨rfl, sP.out⟩
theorem natI_injT {a b : List Nat} (h : natI a = natI b) : a = b := by
  have := congrArg (List.map Int.toNat) h
  simpa [natI, List.map_map, Function.comp_def] using this
theorem any_natI (L : List (List Nat)) (y : List Nat) : (L.map natI).any (fun z => decide (z = natI y)) = decide (y ∈ L) := by
  refine Bool.eq_iff_iff.2 ⟨fun h => ?_, fun h => ?_⟩
  · obtain ⟨z, hz, h2⟩ := List.any_eq_true.1 h
    obtain ⟨x, hx, rfl⟩ := List.mem_map.1 hz
    have := natI_injT (of_decide_eq_true h2)
    subst this
    exact decide_eq_true hx
  · exact List.any_eq_true.2 ⟨natI y, List.mem_map.2 ⟨y, of_decide_eq_true h, rfl⟩, by simp⟩
end Go.Proofs.YtknlkcfnfjchdaaGreat
