/- The closures of a network's steps, by tuples: they do not depend on the order (plain). Networks, plain: the steps are functions; the relations of small networks have few nodes. -/
import Derived.Test.YtknlkcfnfjchdaaGreatONetM
import Derived.Test.YtknlkcfnfjchdaaGreatONetQ
namespace Go.Proofs.YtknlkcfnfjchdaaGreat
open Go.RowKit
set_option linter.unusedVariables false
set_option linter.unusedSimpArgs false

theorem egErr_ord {al : List Int} {n : Int} {es : List Nd} : ∀ (m i : Nat), egErr al n es m i = 0 → ∀ j, i ≤ j → j < i + m → 0 < j → ¬ egOrd (es.getD (j - 1) (0, 0, 0)) (es.getD j (0, 0, 0))
  | 0, i, _, j, h1, h2, _ => by omega
  | m + 1, i, h, j, h1, h2, h3 => by
    rw [egErr] at h
    by_cases hb : egBad al n (es.getD i (0, 0, 0)) = 0
    · rw [if_neg (by simpa using hb)] at h
      by_cases ho : 0 < i ∧ egOrd (es.getD (i - 1) (0, 0, 0)) (es.getD i (0, 0, 0))
      · rw [if_pos ho] at h; omega
      · rw [if_neg ho] at h
        by_cases e : j = i
        · subst e; exact fun hc => ho ⟨h3, hc⟩
        · exact egErr_ord m (i + 1) h j (by omega) (by omega) h3
    · rw [if_pos (by simpa using hb)] at h
      exact absurd h hb
/-- Edges are in order: by state, then by event. -/
theorem AuOk.sorted {A : Au} (h : AuOk A) : ∀ (d i : Nat) (hd : i + d + 1 < A.es.length), A.es[i].1 < A.es[i + d + 1].1 ∨ A.es[i].1 = A.es[i + d + 1].1 ∧ A.es[i].2.1 < A.es[i + d + 1].2.1
  | 0, i, hd => by
    have := egErr_ord _ _ h.es (i + 1) (by omega) (by omega) (by omega)
    rw [Nat.add_sub_cancel, getD_get (show i < A.es.length by omega), getD_get (show i + 1 < A.es.length from hd)] at this
    unfold egOrd at this
    show A.es[i].1 < A.es[i + 1].1 ∨ A.es[i].1 = A.es[i + 1].1 ∧ A.es[i].2.1 < A.es[i + 1].2.1
    omega
  | d + 1, i, hd => by
    have h1 := AuOk.sorted h d i (by omega)
    have h2 := AuOk.sorted h 0 (i + d + 1) (by omega)
    have e : A.es[i + (d + 1) + 1] = A.es[i + d + 1 + 0 + 1] := by congr 1
    rw [e]
    omega
theorem AuOk.det {A : Au} (h : AuOk A) {x y : Nd} (hx : x ∈ A.es) (hy : y ∈ A.es) (h1 : x.1 = y.1) (h2 : x.2.1 = y.2.1) : x = y := by
  obtain ⟨i, hi, rfl⟩ := List.mem_iff_getElem.1 hx
  obtain ⟨j, hj, rfl⟩ := List.mem_iff_getElem.1 hy
  rcases Nat.lt_trichotomy i j with hl | rfl | hl
  · have := h.sorted (j - i - 1) i (by omega)
    simp only [show i + (j - i - 1) + 1 = j by omega] at this
    omega
  · rfl
  · have := h.sorted (i - j - 1) j (by omega)
    simp only [show j + (i - j - 1) + 1 = i by omega] at this
    omega
theorem auP_fun {A : Au} (h : AuOk A) {e : Int} {x y y' : Nat} (h1 : (x, y) ∈ auP A e) (h2 : (x, y') ∈ auP A e) : y = y' := by
  unfold auP at h1 h2
  by_cases he : e ∈ A.al
  · rw [if_pos he] at h1 h2
    obtain ⟨a, ha, e1⟩ := List.mem_map.1 h1
    obtain ⟨b, hb, e2⟩ := List.mem_map.1 h2
    obtain ⟨ha1, ha2⟩ := List.mem_filter.1 ha
    obtain ⟨hb1, hb2⟩ := List.mem_filter.1 hb
    simp only [List.mem_singleton, decide_eq_true_eq] at ha2 hb2
    simp only [Prod.mk.injEq] at e1 e2
    have k1 := h.edge ha1
    have k2 := h.edge hb1
    have := h.det ha1 hb1 (by omega) (by omega)
    subst this
    omega
  · rw [if_neg he] at h1 h2
    obtain ⟨a, _, e1⟩ := List.mem_map.1 h1
    obtain ⟨b, _, e2⟩ := List.mem_map.1 h2
    simp only [Prod.mk.injEq] at e1 e2
    omega
/-- What a step says of the tuples. -/
theorem stepK_get {As : List Au} {e : Int} {k : Nat} {x y : List Nat} (h : stepK As e k x y = true) {i : Nat} (hi : i < k) (hm : i < As.length) : (x.getD i 0, y.getD i 0) ∈ auP As[i] e := by
  unfold stepK at h
  have := List.all_eq_true.1 h i (List.mem_range.2 hi)
  rw [List.getElem?_eq_getElem hm] at this
  exact of_decide_eq_true this
theorem stepB_get {As : List Au} {e : Int} {x y : List Nat} (h : stepB As e x y = true) : stepK As e As.length x y = true ∧ (As.any fun A => A.n.toNat == 0) = false ∧ (∃ A ∈ As, e ∈ A.al) := by
  unfold stepB at h
  simp only [Bool.and_eq_true, Bool.not_eq_true', List.any_eq_true, decide_eq_true_eq] at h
  exact ⟨h.2, h.1.1, h.1.2⟩

/-- The number of true places, by an injection. -/
theorem cnt_inj {α : Type} [BEq α] [LawfulBEq α] (p : Nat → Bool) (f : Nat → α) (M : Nat) (L : List α) (hL : ∀ i, i < M → p i = true → f i ∈ L) (hinj : ∀ i j, i < M → j < M → p i = true → p j = true → f i = f j → i = j) : ((List.range M).map p).count true ≤ L.length := by
  have e : ((List.range M).map p).count true = (((List.range M).filter p).map f).length := by
    rw [List.length_map, List.count_eq_countP, List.countP_map, List.countP_eq_length_filter]
    congr 1
    refine List.filter_congr (fun x _ => ?_)
    simp only [Function.comp]
    cases p x <;> rfl
  rw [e]
  refine nodup_sub ?_ (fun x hx => ?_)
  · rw [List.nodup_iff_pairwise_ne, List.pairwise_map]
    refine List.Pairwise.imp_of_mem (fun {a b} ha hb hab hf => ?_) ((List.nodup_iff_pairwise_ne.1 List.nodup_range).filter _)
    obtain ⟨a1, a2⟩ := List.mem_filter.1 ha
    obtain ⟨b1, b2⟩ := List.mem_filter.1 hb
    exact hab (hinj a b (List.mem_range.1 a1) (List.mem_range.1 b1) a2 b2 hf)
  · obtain ⟨i, hi, rfl⟩ := List.mem_map.1 hx
    obtain ⟨a1, a2⟩ := List.mem_filter.1 hi
    exact hL i (List.mem_range.1 a1) a2
theorem tups_len : ∀ (ns : List Nat) (c : Nat), (∀ n ∈ ns, n ≤ c) → (tupsF ns).length ≤ c ^ ns.length := by
  have key : ∀ (k : Nat) (ns : List Nat) (c : Nat), ns.length = k → (∀ n ∈ ns, n ≤ c) → (tupsF ns).length ≤ c ^ k := by
    intro k
    induction k with
    | zero =>
      intro ns c h _
      obtain rfl := List.length_eq_zero_iff.1 h
      simp [tupsF]
    | succ k ih =>
      intro ns c h hc
      obtain ⟨ms, n, rfl⟩ : ∃ ms n, ns = ms ++ [n] := by
        rcases List.eq_nil_or_concat ns with rfl | ⟨ms, n, e⟩
        · simp at h
        · exact ⟨ms, n, by rw [e, List.concat_eq_append]⟩
      have h1 := ih ms c (by simpa using h) (fun x hx => hc x (List.mem_append_left _ hx))
      have h2 := hc n (List.mem_append_right _ List.mem_cons_self)
      rw [tups_snoc, List.length_flatMap]
      have e : ((tupsF ms).map fun t => ((List.range n).map fun s => t ++ [s]).length) = (tupsF ms).map fun _ => n := List.map_congr_left (fun t _ => by simp)
      rw [e]
      have e2 : ((tupsF ms).map fun _ => n).sum = (tupsF ms).length * n := by
        rw [List.map_const', List.sum_replicate_nat]
      rw [e2, Nat.pow_succ]
      exact Nat.mul_le_mul h1 h2
  exact fun ns c hc => key ns.length ns c rfl hc
/-- Two assignments with the same tuples are alike. -/
theorem tup_bits {N : Nw} (h : NwOk N) {ρ σ : Nat → Bool} (he : tupA N.bs N.at' N.As.length ρ = tupA N.bs N.at' N.As.length σ) : ∀ v, v < N.all → ρ v = σ v := by
  have h1 := codeL_tup (bs := N.bs) h.pm ρ
  have h2 := codeL_tup (bs := N.bs) h.pm σ
  have e : (tupA N.bs (atB N.bs N.on) N.As.length ρ) = tupA N.bs (atB N.bs N.on) N.As.length σ := he
  rw [e, h2] at h1
  intro v hv
  have h3 := congrArg (fun l : List Bool => l.getD v false) h1
  simp only [colF] at h3
  rw [show sumB N.bs N.on = N.all from rfl] at h3
  simpa [List.getD, hv] using h3.symm
theorem num_bits {n i j : Nat} (hi : i < 2 ^ n) (hj : j < 2 ^ n) (h : ∀ v, v < n → bitF n i v = bitF n j v) : i = j := by
  rw [← place_bit hi, ← place_bit hj]
  exact place_cong n h
/-- A step of one event is true seldom. -/
theorem step_cnt {N : Nw} (h : NwOk N) (e : Int) : (N.rel (stepB N.As e)).count true ≤ (tupsF N.ns).length := by
  refine cnt_inj _ (fun k => tupA N.bs N.at' N.As.length fun v => bitF (2 * N.all) k (2 * v)) (2 ^ (2 * N.all)) (tupsF N.ns) (fun k _ hp => ?_) (fun i j hi hj hpi hpj hf => ?_)
  · obtain ⟨h1, h2, _⟩ := stepB_get hp
    refine tups_iff.2 ⟨by rw [tupA_len, N.ns_len], okT_iff.2 (fun i hi => ?_)⟩
    rw [N.ns_len] at hi
    have := auP_lt (h.au _ (List.getElem_mem hi)) e _ (stepK_get h1 hi hi)
    rw [N.ns_get hi]
    exact this.1
  · obtain ⟨a1, _, _⟩ := stepB_get hpi
    obtain ⟨b1, _, _⟩ := stepB_get hpj
    have hy : (tupA N.bs N.at' N.As.length fun v => bitF (2 * N.all) i (2 * v + 1)) = tupA N.bs N.at' N.As.length fun v => bitF (2 * N.all) j (2 * v + 1) := by
      refine list_of_getD (tupA_len _ _ _ _) (tupA_len _ _ _ _) (fun q hq => ?_)
      have c1 := stepK_get a1 hq hq
      have c2 := stepK_get b1 hq hq
      rw [hf] at c1
      exact auP_fun (h.au _ (List.getElem_mem hq)) c1 c2
    have e1 := tup_bits h hf
    have e2 := tup_bits h hy
    refine num_bits hi hj (fun v hv => ?_)
    rcases (show v % 2 = 0 ∨ v % 2 = 1 by omega) with hp | hp
    · have := e1 (v / 2) (by omega)
      rwa [show 2 * (v / 2) = v by omega] at this
    · have := e2 (v / 2) (by omega)
      rwa [show 2 * (v / 2) + 1 = v by omega] at this
theorem cnt_or : ∀ (p q : Nat → Bool) (l : List Nat), (l.map fun i => p i || q i).count true ≤ (l.map p).count true + (l.map q).count true
  | p, q, [] => by simp
  | p, q, x :: l => by
    have := cnt_or p q l
    simp only [List.map_cons, List.count_cons]
    cases p x <;> cases q x <;> simp <;> omega
theorem steps_cnt {N : Nw} (h : NwOk N) : ∀ E : List Int, (N.rel (stepsB N.As E)).count true ≤ E.length * (tupsF N.ns).length
  | [] => by
    have : N.rel (stepsB N.As []) = fls (2 * N.all) := by rw [tbF_fls]; rfl
    rw [this]
    unfold fls
    rw [List.count_replicate]
    simp
  | e :: E => by
    have ih := steps_cnt h E
    have h1 := step_cnt h e
    have h2 := cnt_or (fun k => stepB N.As e (tupA N.bs N.at' N.As.length fun v => bitF (2 * N.all) k (2 * v)) (tupA N.bs N.at' N.As.length fun v => bitF (2 * N.all) k (2 * v + 1)))
      (fun k => stepsB N.As E (tupA N.bs N.at' N.As.length fun v => bitF (2 * N.all) k (2 * v)) (tupA N.bs N.at' N.As.length fun v => bitF (2 * N.all) k (2 * v + 1))) (List.range (2 ^ (2 * N.all)))
    have e1 : N.rel (stepsB N.As (e :: E)) = ((List.range (2 ^ (2 * N.all))).map fun k => stepB N.As e (tupA N.bs N.at' N.As.length fun v => bitF (2 * N.all) k (2 * v)) (tupA N.bs N.at' N.As.length fun v => bitF (2 * N.all) k (2 * v + 1)) || stepsB N.As E (tupA N.bs N.at' N.As.length fun v => bitF (2 * N.all) k (2 * v)) (tupA N.bs N.at' N.As.length fun v => bitF (2 * N.all) k (2 * v + 1))) := rfl
    rw [e1, List.length_cons, Nat.add_mul, Nat.one_mul]
    have h3 : (N.rel (stepB N.As e)).count true = ((List.range (2 ^ (2 * N.all))).map fun k => stepB N.As e (tupA N.bs N.at' N.As.length fun v => bitF (2 * N.all) k (2 * v)) (tupA N.bs N.at' N.As.length fun v => bitF (2 * N.all) k (2 * v + 1))).count true := rfl
    have h4 : (N.rel (stepsB N.As E)).count true = ((List.range (2 ^ (2 * N.all))).map fun k => stepsB N.As E (tupA N.bs N.at' N.As.length fun v => bitF (2 * N.all) k (2 * v)) (tupA N.bs N.at' N.As.length fun v => bitF (2 * N.all) k (2 * v + 1))).count true := rfl
    omega

/-! ### the prefixes of a step depend on few variables -/
theorem kV_or (V W : Nat → Bool) : ∀ d v, kV (fun u => V u || W u) d v ≤ kV V d v + kV W d v
  | 0, _ => Nat.zero_le _
  | d + 1, v => by
    have := kV_or V W d (v + 1)
    rw [kV, kV, kV]
    cases V v <;> cases W v <;> simp <;> omega
theorem kV_int (a b : Nat) : ∀ d v, kV (fun u => decide (a ≤ u ∧ u < b)) d v ≤ b - (max a v)
  | 0, _ => Nat.zero_le _
  | d + 1, v => by
    have := kV_int a b d (v + 1)
    rw [kV]
    by_cases h : a ≤ v ∧ v < b
    · rw [if_pos (decide_eq_true h)]
      omega
    · rw [if_neg (by simpa using h)]
      omega
theorem kV_cong {V W : Nat → Bool} (h : ∀ u, V u = true → W u = true) : ∀ d v, kV V d v ≤ kV W d v
  | 0, _ => Nat.le_refl _
  | d + 1, v => by
    have := kV_cong h d (v + 1)
    rw [kV, kV]
    by_cases hv : V v = true
    · rw [if_pos hv, if_pos (h v hv)]; omega
    · rw [if_neg hv]; omega
/-- The variables of the first k automata. -/
def Nw.vs (N : Nw) (k u : Nat) : Bool := (List.range k).any fun i => decide (2 * N.at' i ≤ u ∧ u < 2 * N.at' i + 2 * N.bs i)
theorem vs_le (N : Nw) (hb : ∀ i, N.bs i ≤ 3) : ∀ k d v, kV (N.vs k) d v ≤ 6 * k
  | 0, d, v => by
    have : kV (N.vs 0) d v ≤ kV (fun _ => false) d v := kV_cong (fun u h => by simp [Nw.vs] at h) d v
    have h2 : ∀ d v, kV (fun _ => false) d v = 0 := by
      intro d
      induction d with
      | zero => intro v; rfl
      | succ d ih => intro v; rw [kV, ih]; rfl
    have := h2 d v
    omega
  | k + 1, d, v => by
    have h1 := vs_le N hb k d v
    have h2 : kV (N.vs (k + 1)) d v ≤ kV (fun u => N.vs k u || decide (2 * N.at' k ≤ u ∧ u < 2 * N.at' k + 2 * N.bs k)) d v := kV_cong (fun u h => by
      unfold Nw.vs at h ⊢
      rw [List.range_succ, List.any_append] at h
      simpa using h) d v
    have h3 := kV_or (N.vs k) (fun u => decide (2 * N.at' k ≤ u ∧ u < 2 * N.at' k + 2 * N.bs k)) d v
    have h4 := kV_int (2 * N.at' k) (2 * N.at' k + 2 * N.bs k) d v
    have := hb k
    omega
theorem stepK_ind {N : Nw} (h : NwOk N) (e : Int) {k : Nat} (hk : k ≤ N.As.length) : indV (N.vs k) (2 * N.all) 0 (N.rel (stepK N.As e k)) := by
  refine indV_ev _ (relN_len _ _ _ _ _) (fun ρ u b hu hV => ?_)
  unfold Nw.rel
  rw [evT_rel (fun j hj => h.le hj), evT_rel (fun j hj => h.le hj)]
  unfold stepK
  rw [Bool.eq_iff_iff, List.all_eq_true, List.all_eq_true]
  have key : ∀ i, i < k → (tupA N.bs N.at' N.As.length fun v => updF ρ u b (2 * v)).getD i 0 = (tupA N.bs N.at' N.As.length fun v => ρ (2 * v)).getD i 0 ∧
      (tupA N.bs N.at' N.As.length fun v => updF ρ u b (2 * v + 1)).getD i 0 = (tupA N.bs N.at' N.As.length fun v => ρ (2 * v + 1)).getD i 0 := by
    intro i hi
    have hn : ¬ (2 * N.at' i ≤ u ∧ u < 2 * N.at' i + 2 * N.bs i) := fun hc => by
      have : N.vs k u = true := by
        unfold Nw.vs
        exact List.any_eq_true.2 ⟨i, List.mem_range.2 hi, decide_eq_true hc⟩
      rw [this] at hV
      exact Bool.noConfusion hV
    rw [tupA_get _ _ _ (by omega), tupA_get _ _ _ (by omega), tupA_get _ _ _ (by omega), tupA_get _ _ _ (by omega)]
    have e0 := fun σ : Nat → Bool => (place_shift σ (N.at' i) (N.bs i) 0).symm
    simp only [Nat.add_zero] at e0
    rw [e0, e0, e0 (fun v => updF ρ u b (2 * v + 1)), e0 (fun v => ρ (2 * v + 1))]
    exact ⟨place_cong _ (fun v hv => upd_ne _ _ (by omega)), place_cong _ (fun v hv => upd_ne _ _ (by omega))⟩
  constructor
  · intro hh i hi
    have := hh i hi
    obtain ⟨k1, k2⟩ := key i (List.mem_range.1 hi)
    revert this
    cases N.As[i]? with
    | none => exact fun _ => rfl
    | some A => simp only [k1, k2]; exact id
  · intro hh i hi
    have := hh i hi
    obtain ⟨k1, k2⟩ := key i (List.mem_range.1 hi)
    revert this
    cases N.As[i]? with
    | none => exact fun _ => rfl
    | some A => simp only [k1, k2]; exact id
/-- A group: at most three automata of at most five states over the events 0 to 4. -/
structure Grp3 (N : Nw) : Prop where
  ok : NwOk N
  m3 : N.As.length ≤ 3
  n5 : ∀ A ∈ N.As, A.n ≤ 5
  al : ∀ A ∈ N.As, ∀ e ∈ A.al, e < 5
theorem Grp3.ns {N : Nw} (h : Grp3 N) (i : Nat) : N.ns.getD i 0 ≤ 5 := by
  by_cases hi : i < N.As.length
  · rw [N.ns_get hi]
    have := h.n5 _ (List.getElem_mem hi)
    omega
  · simp [List.getD, Nw.ns, show N.As.length ≤ i by omega]
theorem Grp3.bs {N : Nw} (h : Grp3 N) (i : Nat) : N.bs i ≤ 3 := (bitsF_is (n := N.ns.getD i 0) (by have := h.ns i; omega)).bd (by have := h.ns i; omega)
theorem Grp3.all {N : Nw} (h : Grp3 N) : N.all ≤ 9 := by
  have key : ∀ l : List Nat, sumB N.bs l ≤ l.length * 3 := by
    intro l
    induction l with
    | nil => exact Nat.zero_le _
    | cons j l ih => have := h.bs j; rw [sumB, List.length_cons]; omega
  have h1 := key N.on
  have h2 := h.ok.len
  have h3 := h.m3
  unfold Nw.all
  omega
theorem Grp3.tups {N : Nw} (h : Grp3 N) : (tupsF N.ns).length ≤ 125 := by
  have h1 := tups_len N.ns 5 (fun n hn => by
    obtain ⟨i, hi, rfl⟩ := List.mem_iff_getElem.1 hn
    have := h.ns i
    simpa [List.getD, hi] using this)
  have h2 : 5 ^ N.ns.length ≤ 5 ^ 3 := Nat.pow_le_pow_right (by omega) (by rw [N.ns_len]; exact h.m3)
  omega
theorem Thin.of_cnt {n c : Nat} {t : List Bool} (hn : n ≤ 18) (hc : t.count true ≤ 625) : Thin n t := by
  by_cases h : n ≤ 14
  · exact Thin.of14 h t
  · refine ⟨9, by omega, ?_⟩
    have h1 : (n - 9) * t.count true ≤ 9 * 625 := Nat.mul_le_mul (by omega) hc
    have h2 : (2 : Nat) ^ 9 = 512 := by decide
    omega
theorem stepsB_five {As : List Au} (hal : ∀ A ∈ As, ∀ e ∈ A.al, 0 ≤ e ∧ e < 5) (E : List Int) (x y : List Nat) (h : stepsB As E x y = true) : stepsB As [0, 1, 2, 3, 4] x y = true := by
  unfold stepsB at h ⊢
  obtain ⟨e, _, he2⟩ := List.any_eq_true.1 h
  obtain ⟨_, _, A, hA, hm⟩ := stepB_get he2
  have := hal A hA e hm
  refine List.any_eq_true.2 ⟨e, ?_, he2⟩
  simp only [List.mem_cons, List.not_mem_nil, or_false]
  omega
theorem Grp3.fits {N : Nw} (h : Grp3 N) : Fits N := by
  have hall := h.all
  have ht := h.tups
  refine ⟨fun e k hk => ?_, fun E => ?_⟩
  · by_cases h2 : k ≤ 2
    · refine short_var (N.vs k) (by omega) (relN_len _ _ _ _ _) (stepK_ind h.ok e hk) ?_
      have := vs_le N h.bs k (2 * N.all) 0
      omega
    · have hk3 : k = N.As.length := by have := h.m3; omega
      subst hk3
      by_cases he : (∃ A ∈ N.As, e ∈ A.al) ∧ (N.As.any fun A => A.n.toNat == 0) = false
      · have e1 : N.rel (stepK N.As e N.As.length) = N.rel (stepB N.As e) := by
          show tbF _ _ = tbF _ _
          congr 1
          funext q
          refine (stepB_yes he.2 ?_ _ _).symm
          obtain ⟨A, hA, hm⟩ := he.1
          exact List.any_eq_true.2 ⟨A, hA, decide_eq_true hm⟩
        rw [e1]
        have := step_cnt h.ok e
        exact (Thin.of_cnt (c := 0) (by omega) (by omega)).short (by omega) (relN_len _ _ _ _ _)
      · refine (Thin.of_cnt (c := 0) (by omega) ?_).short (by omega) (relN_len _ _ _ _ _)
        refine Nat.le_trans (cnt_inj _ (fun k => tupA N.bs N.at' N.As.length fun v => bitF (2 * N.all) k (2 * v)) (2 ^ (2 * N.all)) (tupsF N.ns) (fun k _ hp => ?_) (fun i j hi hj hpi hpj hf => ?_)) (by omega)
        · refine tups_iff.2 ⟨by rw [tupA_len, N.ns_len], okT_iff.2 (fun i hi => ?_)⟩
          rw [N.ns_len] at hi
          have := auP_lt (h.ok.au _ (List.getElem_mem hi)) e _ (stepK_get hp hi hi)
          rw [N.ns_get hi]
          exact this.1
        · have hy : (tupA N.bs N.at' N.As.length fun v => bitF (2 * N.all) i (2 * v + 1)) = tupA N.bs N.at' N.As.length fun v => bitF (2 * N.all) j (2 * v + 1) := by
            refine list_of_getD (tupA_len _ _ _ _) (tupA_len _ _ _ _) (fun q hq => ?_)
            have c1 := stepK_get hpi hq hq
            have c2 := stepK_get hpj hq hq
            rw [hf] at c1
            exact auP_fun (h.ok.au _ (List.getElem_mem hq)) c1 c2
          have e1 := tup_bits h.ok hf
          have e2 := tup_bits h.ok hy
          refine num_bits hi hj (fun v hv => ?_)
          rcases (show v % 2 = 0 ∨ v % 2 = 1 by omega) with hp | hp
          · have := e1 (v / 2) (by omega)
            rwa [show 2 * (v / 2) = v by omega] at this
          · have := e2 (v / 2) (by omega)
            rwa [show 2 * (v / 2) + 1 = v by omega] at this
  · have hal : ∀ A ∈ N.As, ∀ e ∈ A.al, 0 ≤ e ∧ e < 5 := fun A hA e he => ⟨(al_range (h.ok.au A hA) he).1, h.al A hA e he⟩
    refine Thin.rel (G := stepsB N.As [0, 1, 2, 3, 4]) ?_ (fun x y => stepsB_five hal E x y)
    refine Thin.of_cnt (c := 0) (by omega) ?_
    have := steps_cnt h.ok [0, 1, 2, 3, 4]
    simp only [List.length_cons, List.length_nil] at this
    have h5 : (0 + 1 + 1 + 1 + 1 + 1) * (tupsF N.ns).length ≤ 5 * 125 := Nat.mul_le_mul (by omega) ht
    exact Nat.le_trans this h5
end Go.Proofs.YtknlkcfnfjchdaaGreat
namespace Go.Proofs.YtknlkcfnfjchdaaGreat
open Go.RowKit
set_option linter.unusedVariables false
set_option linter.unusedSimpArgs false

/-- The tuple of a code. -/
def Nw.T (N : Nw) (k : Nat) : List Nat := tupA N.bs N.at' N.As.length (bitF N.all k)
theorem Nw.T_len (N : Nw) (k : Nat) : (N.T k).length = N.ns.length := by rw [Nw.T, tupA_len, N.ns_len]
theorem NwOk.code {N : Nw} (h : NwOk N) {k : Nat} (hk : k < 2 ^ N.all) (p : List Nat → Bool) : (∃ x ∈ tupsF N.ns, p x = true ∧ numB (codeL N.bs N.on x) = k) ↔ okT N.ns (N.T k) = true ∧ p (N.T k) = true := by
  have hpm := h.pm
  rw [← N.ns_len] at hpm
  have H := code_key (bs := N.bs) (ns := N.ns) hpm (n := N.all) rfl (fun i hi => h.bits (by rw [← N.ns_len]; exact hi)) hk p
  have e : N.T k = tupA N.bs (atB N.bs N.on) N.ns.length (bitF N.all k) := by rw [N.ns_len]; rfl
  rw [e]
  exact H
theorem NwOk.tup_of {N : Nw} (h : NwOk N) {x : List Nat} (hx : x ∈ tupsF N.ns) : ∃ k, k < 2 ^ N.all ∧ N.T k = x ∧ numB (codeL N.bs N.on x) = k := by
  have hk : numB (codeL N.bs N.on x) < 2 ^ N.all := by
    have := numB_lt (codeL N.bs N.on x) _ (Nat.le_refl _)
    rw [List.take_length, codeL_len] at this
    exact this
  have := ((h.code hk (fun t => t == x)).1 ⟨x, hx, by simp, rfl⟩).2
  exact ⟨_, hk, by simpa using this, rfl⟩
theorem NwOk.T_inj {N : Nw} (h : NwOk N) {i j : Nat} (hi : i < 2 ^ N.all) (hj : j < 2 ^ N.all) (e : N.T i = N.T j) : i = j := num_bits hi hj (tup_bits h e)
theorem Nw.T_mem (N : Nw) {k : Nat} (h : okT N.ns (N.T k) = true) : N.T k ∈ tupsF N.ns := tups_iff.2 ⟨N.T_len k, h⟩
theorem Nw.set_eq (N : Nw) (F : List Nat → Bool) : N.set F = tbF N.all fun k => F (N.T k) := rfl

/-- A predicate of tuples only. -/
def Sup (ns : List Nat) (F : List Nat → Bool) : Prop := ∀ x, F x = true → okT ns x = true
theorem NwOk.set_iff {N : Nw} (h : NwOk N) {F G : List Nat → Bool} (hF : Sup N.ns F) (hG : Sup N.ns G) : N.set F = N.set G ↔ ∀ x ∈ tupsF N.ns, F x = G x := by
  constructor
  · intro e x hx
    obtain ⟨k, hk, rfl, _⟩ := h.tup_of hx
    exact tbF_inj e hk
  · intro e
    refine tbF_congr (fun k hk => ?_)
    by_cases hok : okT N.ns (N.T k) = true
    · exact e _ (N.T_mem hok)
    · have h1 : F (N.T k) = false := by
        cases hh : F (N.T k) with
        | false => rfl
        | true => exact absurd (hF _ hh) hok
      have h2 : G (N.T k) = false := by
        cases hh : G (N.T k) with
        | false => rfl
        | true => exact absurd (hG _ hh) hok
      exact h1.trans h2.symm

theorem stepB_ok {N : Nw} (h : NwOk N) {e : Int} {x y : List Nat} (hs : stepB N.As e x y = true) : okT N.ns x = true ∧ okT N.ns y = true := by
  obtain ⟨h1, _, _⟩ := stepB_get hs
  constructor
  all_goals
    refine okT_iff.2 (fun i hi => ?_)
    rw [N.ns_len] at hi
    have := auP_lt (h.au _ (List.getElem_mem hi)) e _ (stepK_get h1 hi hi)
    rw [N.ns_get hi]
    first | exact this.1 | exact this.2
theorem stepsB_ok {N : Nw} (h : NwOk N) {E : List Int} {x y : List Nat} (hs : stepsB N.As E x y = true) : okT N.ns x = true ∧ okT N.ns y = true := by
  unfold stepsB at hs
  obtain ⟨e, _, he⟩ := List.any_eq_true.1 hs
  exact stepB_ok h he

/-- The image (or the preimage) of a set of tuples under the steps by some events. -/
def imG (s : Nat) (As : List Au) (ns : List Nat) (E : List Int) (G : List Nat → Bool) (y : List Nat) : Bool := (tupsF ns).any fun x => (if s = 0 then stepsB As E x y else stepsB As E y x) && G x
theorem im_set {N : Nw} (h : NwOk N) {s : Nat} (hs : s < 2) (E : List Int) (G : List Nat → Bool) : imT N.all s (N.rel (stepsB N.As E)) (N.set G) = N.set (imG s N.As N.ns E G) := by
  have hf : ∀ i, i < N.As.length → N.at' i + N.bs i ≤ N.all := fun i hi => h.le hi
  obtain ⟨h0, h1⟩ := image_tup hf (stepsB N.As E) G
  rcases (show s = 0 ∨ s = 1 by omega) with rfl | rfl
  · refine h0.trans (tbF_congr (fun k hk => Bool.eq_iff_iff.2 ⟨fun hh => ?_, fun hh => ?_⟩))
    · obtain ⟨j, hj, hb⟩ := List.any_eq_true.1 hh
      have hb' := (Bool.and_eq_true _ _ ▸ hb : _ ∧ _)
      exact List.any_eq_true.2 ⟨N.T j, N.T_mem (stepsB_ok h hb'.1).1, by simp only [↓reduceIte]; exact hb⟩
    · obtain ⟨x, hx, hb⟩ := List.any_eq_true.1 hh
      obtain ⟨j, hj, rfl, _⟩ := h.tup_of hx
      exact List.any_eq_true.2 ⟨j, List.mem_range.2 hj, by simp only [↓reduceIte] at hb; exact hb⟩
  · refine h1.trans (tbF_congr (fun k hk => Bool.eq_iff_iff.2 ⟨fun hh => ?_, fun hh => ?_⟩))
    · obtain ⟨j, hj, hb⟩ := List.any_eq_true.1 hh
      have hb' := (Bool.and_eq_true _ _ ▸ hb : _ ∧ _)
      exact List.any_eq_true.2 ⟨N.T j, N.T_mem (stepsB_ok h hb'.1).2, by simp only [Nat.one_ne_zero, ↓reduceIte]; exact hb⟩
    · obtain ⟨x, hx, hb⟩ := List.any_eq_true.1 hh
      obtain ⟨j, hj, rfl, _⟩ := h.tup_of hx
      exact List.any_eq_true.2 ⟨j, List.mem_range.2 hj, by simp only [Nat.one_ne_zero, ↓reduceIte] at hb; exact hb⟩
theorem imG_sup {N : Nw} (h : NwOk N) (s : Nat) (E : List Int) (G : List Nat → Bool) : Sup N.ns (imG s N.As N.ns E G) := by
  intro y hy
  obtain ⟨x, _, hb⟩ := List.any_eq_true.1 hy
  have hb' := (Bool.and_eq_true _ _ ▸ hb : _ ∧ _)
  by_cases hs : s = 0
  · rw [if_pos hs] at hb'
    exact (stepsB_ok h hb'.1).2
  · rw [if_neg hs] at hb'
    exact (stepsB_ok h hb'.1).1
/-- The closure, round after round. -/
def clG (s : Nat) (As : List Au) (ns : List Nat) (E : List Int) (G : List Nat → Bool) : Nat → List Nat → Bool
  | 0 => G
  | k + 1 => fun y => clG s As ns E G k y || imG s As ns E (clG s As ns E G k) y
theorem cl_set {N : Nw} (h : NwOk N) {s : Nat} (hs : s < 2) (E : List Int) (G : List Nat → Bool) : ∀ k, clI N.all s (N.rel (stepsB N.As E)) (N.set G) k = N.set (clG s N.As N.ns E G k)
  | 0 => rfl
  | k + 1 => by
    rw [clI, cl_set h hs E G k]
    unfold clS
    rw [im_set h hs]
    exact tup_or _ _ _ _ _ _
theorem clG_sup {N : Nw} (h : NwOk N) {s : Nat} {E : List Int} {G : List Nat → Bool} (hG : Sup N.ns G) : ∀ k, Sup N.ns (clG s N.As N.ns E G k)
  | 0 => hG
  | k + 1 => fun y hy => by
    unfold clG at hy
    rcases (Bool.or_eq_true _ _ ▸ hy : _ ∨ _) with h1 | h1
    · exact clG_sup h hG k y h1
    · exact imG_sup h s E _ y h1
theorem clI_stay {b s : Nat} {r u : List Bool} {k : Nat} (h : clI b s r u (k + 1) = clI b s r u k) : ∀ i, clI b s r u (k + i) = clI b s r u k
  | 0 => rfl
  | i + 1 => by
    show clS b s r (clI b s r u (k + i)) = _
    rw [clI_stay h i]
    exact h
theorem clI_far {b s : Nat} {r u : List Bool} {k i : Nat} (h : clI b s r u (k + 1) = clI b s r u k) (hi : k ≤ i) : clI b s r u k = clI b s r u i := by
  obtain ⟨d, rfl⟩ : ∃ d, i = k + d := ⟨i - k, by omega⟩
  exact (clI_stay h d).symm

/-- The number of a set's tuples does not depend on the order. -/
theorem cnt_leN {N M : Nw} (hN : NwOk N) (hM : NwOk M) (hns : N.ns = M.ns) {F : List Nat → Bool} (hF : Sup N.ns F) : (N.set F).count true ≤ (M.set F).count true := by
  have e : (M.set F).count true = (((List.range (2 ^ M.all)).filter fun k => F (M.T k)).map M.T).length := by
    rw [M.set_eq, tbF, List.length_map, List.count_eq_countP, List.countP_map, List.countP_eq_length_filter]
    congr 1
    refine List.filter_congr (fun x _ => ?_)
    simp only [Function.comp]
    cases F (M.T x) <;> rfl
  rw [e, N.set_eq, tbF]
  refine cnt_inj _ N.T _ _ (fun i hi hp => ?_) (fun i j hi hj _ _ he => hN.T_inj hi hj he)
  obtain ⟨k, hk, e2, _⟩ := hM.tup_of (x := N.T i) (by rw [← hns]; exact N.T_mem (hF _ hp))
  exact List.mem_map.2 ⟨k, List.mem_filter.2 ⟨List.mem_range.2 hk, by rw [e2]; exact hp⟩, e2⟩
theorem cnt_same {N M : Nw} (hN : NwOk N) (hM : NwOk M) (hns : N.ns = M.ns) {F : List Nat → Bool} (hF : Sup N.ns F) : (N.set F).count true = (M.set F).count true :=
  Nat.le_antisymm (cnt_leN hN hM hns hF) (cnt_leN hM hN hns.symm (hns ▸ hF))
theorem mErr_set {N : Nw} {F : List Nat → Bool} (hF : Sup N.ns F) : N.mErr N.all (N.set F) = 0 := by
  unfold Nw.mErr
  rw [if_neg (by simp), if_pos]
  have e : ite3 (N.set F) (N.set (okT N.ns)) (fls N.all) = N.set (fun x => F x && okT N.ns x) := tup_and _ _ _ _ _ _
  rw [e]
  refine tbF_congr (fun k _ => ?_)
  show (F (N.T k) && okT N.ns (N.T k)) = F (N.T k)
  cases h : F (N.T k) with
  | false => rfl
  | true => rw [hF _ h]; rfl

/-! ### automata without their addresses -/
def Au.bare (A : Au) : Au := ⟨A.al, A.n, A.ma, A.es, none, 0, none, 0, none, 0⟩
theorem stepK_bare (As : List Au) (e : Int) (k : Nat) (x y : List Nat) : stepK (As.map Au.bare) e k x y = stepK As e k x y := by
  unfold stepK
  congr 1
  funext i
  rw [List.getElem?_map]
  cases As[i]? <;> rfl
theorem stepB_bare (As : List Au) (e : Int) (x y : List Nat) : stepB (As.map Au.bare) e x y = stepB As e x y := by
  unfold stepB
  rw [stepK_bare, List.any_map, List.any_map, List.length_map]
  rfl
theorem stepsB_bare (As : List Au) (E : List Int) (x y : List Nat) : stepsB (As.map Au.bare) E x y = stepsB As E x y := by
  unfold stepsB
  congr 1
  funext e
  exact stepB_bare As e x y
theorem evsF_bare (As : List Au) : evsF (As.map Au.bare) = evsF As := by
  unfold evsF
  rw [List.foldl_map]
  rfl
structure SameAs (N M : Nw) : Prop where
  bare : N.As.map Au.bare = M.As.map Au.bare
theorem SameAs.len {N M : Nw} (h : SameAs N M) : N.As.length = M.As.length := by
  have := congrArg List.length h.bare
  simpa using this
theorem SameAs.ns {N M : Nw} (h : SameAs N M) : N.ns = M.ns := by
  have := congrArg (List.map fun A : Au => A.n.toNat) h.bare
  simpa [Nw.ns, List.map_map, Function.comp_def, Au.bare] using this
theorem SameAs.steps {N M : Nw} (h : SameAs N M) (E : List Int) : stepsB N.As E = stepsB M.As E := by
  funext x y
  rw [← stepsB_bare N.As, ← stepsB_bare M.As, h.bare]
theorem SameAs.evs {N M : Nw} (h : SameAs N M) : evsF N.As = evsF M.As := by rw [← evsF_bare N.As, ← evsF_bare M.As, h.bare]
theorem SameAs.imG {N M : Nw} (h : SameAs N M) (s : Nat) (ns : List Nat) (E : List Int) (G : List Nat → Bool) : imG s N.As ns E G = imG s M.As ns E G := by
  funext y
  unfold Proofs.YtknlkcfnfjchdaaGreat.imG
  rw [h.steps]
theorem SameAs.clG {N M : Nw} (h : SameAs N M) (s : Nat) (ns : List Nat) (E : List Int) (G : List Nat → Bool) : ∀ k, clG s N.As ns E G k = clG s M.As ns E G k
  | 0 => rfl
  | k + 1 => by
    unfold Proofs.YtknlkcfnfjchdaaGreat.clG
    rw [SameAs.clG h s ns E G k, h.imG]
theorem SameAs.emp {N M : Nw} (h : SameAs N M) : N.emp = M.emp := by unfold Nw.emp; rw [h.ns]
theorem SameAs.marks {N M : Nw} (h : SameAs N M) : N.marks = M.marks := by
  funext i
  have e : (N.As.map Au.bare)[i]? = (M.As.map Au.bare)[i]? := by rw [h.bare]
  rw [List.getElem?_map, List.getElem?_map] at e
  unfold Nw.marks
  cases h1 : N.As[i]? <;> cases h2 : M.As[i]? <;> rw [h1, h2] at e <;> simp [Au.bare] at e ⊢
  rw [e.2.2.1]
theorem SameAs.chosen {N M : Nw} (h : SameAs N M) (S : Nat → List Nat) : N.chosen S = M.chosen S := by
  funext x
  unfold Nw.chosen
  rw [h.emp, h.len]
theorem SameAs.symm {N M : Nw} (h : SameAs N M) : SameAs M N := ⟨h.bare.symm⟩

theorem NetOk.ini_sup {N : Nw} (h : NetOk N) : Sup N.ns (N.chosen fun _ => [0]) := by
  intro x hx
  unfold Nw.chosen at hx
  rw [Bool.and_eq_true, List.all_eq_true] at hx
  refine okT_iff.2 (fun i hi => ?_)
  have h1 := of_decide_eq_true (hx.2 i (List.mem_range.2 (by rw [← N.ns_len]; exact hi)))
  simp only [List.mem_singleton] at h1
  have h2 : N.emp = false := by simpa using hx.1
  have h3 : ¬ N.ns[i] = 0 := fun e => by
    have : N.emp = true := by
      unfold Nw.emp
      exact List.any_eq_true.2 ⟨N.ns[i], List.getElem_mem hi, by simpa using e⟩
    rw [h2] at this
    cases this
  have h4 : N.ns.getD i 0 = N.ns[i] := by simp [List.getD, hi]
  omega
theorem NetOk.mark_sup {N : Nw} (h : NetOk N) : Sup N.ns (N.chosen N.marks) := by
  intro x hx
  unfold Nw.chosen at hx
  rw [Bool.and_eq_true, List.all_eq_true] at hx
  refine okT_iff.2 (fun i hi => ?_)
  have him : i < N.As.length := by rw [← N.ns_len]; exact hi
  have h1 := of_decide_eq_true (hx.2 i (List.mem_range.2 him))
  obtain ⟨e1, _, e3⟩ := h.ma him
  obtain ⟨_, hr⟩ := IncL.of_err e3
  have := hr (x.getD i 0 : Nat) (List.mem_map.2 ⟨_, h1, rfl⟩)
  omega

end Go.Proofs.YtknlkcfnfjchdaaGreat
