/- Networks, plain: the steps are functions; the relations of small networks have few nodes. -/
import Derived.Test.YtknlkcfnfjchdaaGreatUNetM
namespace Go.Proofs.YtknlkcfnfjchdaaGreat
open Go.RowKit
set_option linter.unusedVariables false
set_option linter.unusedSimpArgs false

theorem egErr_ord {al : List Int} {n : Int} {es : List Nd} : ∀ (m i : Nat), egErr al n es m i = 0 → ∀ j, i ≤ j → j < i + m → 0 < j → ¬ egOrd (es.getD (j - 1) (0, 0, 0)) (es.getD j (0, 0, 0))
  | 0, i, _, j, h1, h2, _ => by omega
  | m + 1, i, h, j, h1, h2, h3 => by
    rw [egErr] at h
    by_cases hb : egBad al n (es.getD i (0, 0, 0)) = 0
    · rw [if_neg (by simpa using hb)] at h
      by_cases ho : 0 < i ∧ egOrd (es.getD (i - 1) (0, 0, 0)) (es.getD i (0, 0, 0))
      · rw [if_pos ho] at h; omega
      · rw [if_neg ho] at h
        by_cases e : j = i
        · subst e; exact fun hc => ho ⟨h3, hc⟩
        · exact egErr_ord m (i + 1) h j (by omega) (by omega) h3
    · rw [if_pos (by simpa using hb)] at h
      exact absurd h hb
/-- Edges are in order: by state, then by event. -/
theorem AuOk.sorted {A : Au} (h : AuOk A) : ∀ (d i : Nat) (hd : i + d + 1 < A.es.length), A.es[i].1 < A.es[i + d + 1].1 ∨ A.es[i].1 = A.es[i + d + 1].1 ∧ A.es[i].2.1 < A.es[i + d + 1].2.1
  | 0, i, hd => by
    have := egErr_ord _ _ h.es (i + 1) (by omega) (by omega) (by omega)
    rw [Nat.add_sub_cancel, getD_get (show i < A.es.length by omega), getD_get (show i + 1 < A.es.length from hd)] at this
    unfold egOrd at this
    show A.es[i].1 < A.es[i + 1].1 ∨ A.es[i].1 = A.es[i + 1].1 ∧ A.es[i].2.1 < A.es[i + 1].2.1
    omega
  | d + 1, i, hd => by
    have h1 := AuOk.sorted h d i (by omega)
    have h2 := AuOk.sorted h 0 (i + d + 1) (by omega)
    have e : A.es[i + (d + 1) + 1] = A.es[i + d + 1 + 0 + 1] := by congr 1
    rw [e]
    omega
theorem AuOk.det {A : Au} (h : AuOk A) {x y : Nd} (hx : x ∈ A.es) (hy : y ∈ A.es) (h1 : x.1 = y.1) (h2 : x.2.1 = y.2.1) : x = y := by
  obtain ⟨i, hi, rfl⟩ := List.mem_iff_getElem.1 hx
  obtain ⟨j, hj, rfl⟩ := List.mem_iff_getElem.1 hy
  rcases Nat.lt_trichotomy i j with hl | rfl | hl
  · have := h.sorted (j - i - 1) i (by omega)
    simp only [show i + (j - i - 1) + 1 = j by omega] at this
    omega
  · rfl
  · have := h.sorted (i - j - 1) j (by omega)
    simp only [show j + (i - j - 1) + 1 = i by omega] at this
    omega
theorem auP_fun {A : Au} (h : AuOk A) {e : Int} {x y y' : Nat} (h1 : (x, y) ∈ auP A e) (h2 : (x, y') ∈ auP A e) : y = y' := by
  unfold auP at h1 h2
  by_cases he : e ∈ A.al
  · rw [if_pos he] at h1 h2
    obtain ⟨a, ha, e1⟩ := List.mem_map.1 h1
    obtain ⟨b, hb, e2⟩ := List.mem_map.1 h2
    obtain ⟨ha1, ha2⟩ := List.mem_filter.1 ha
    obtain ⟨hb1, hb2⟩ := List.mem_filter.1 hb
    simp only [List.mem_singleton, decide_eq_true_eq] at ha2 hb2
    simp only [Prod.mk.injEq] at e1 e2
    have k1 := h.edge ha1
    have k2 := h.edge hb1
    have := h.det ha1 hb1 (by omega) (by omega)
    subst this
    omega
  · rw [if_neg he] at h1 h2
    obtain ⟨a, _, e1⟩ := List.mem_map.1 h1
    obtain ⟨b, _, e2⟩ := List.mem_map.1 h2
    simp only [Prod.mk.injEq] at e1 e2
    omega
/-- What a step says of the tuples. -/
theorem stepK_get {As : List Au} {e : Int} {k : Nat} {x y : List Nat} (h : stepK As e k x y = true) {i : Nat} (hi : i < k) (hm : i < As.length) : (x.getD i 0, y.getD i 0) ∈ auP As[i] e := by
  unfold stepK at h
  have := List.all_eq_true.1 h i (List.mem_range.2 hi)
  rw [List.getElem?_eq_getElem hm] at this
  exact of_decide_eq_true this
theorem stepB_get {As : List Au} {e : Int} {x y : List Nat} (h : stepB As e x y = true) : stepK As e As.length x y = true ∧ (As.any fun A => A.n.toNat == 0) = false ∧ (∃ A ∈ As, e ∈ A.al) := by
  unfold stepB at h
  simp only [Bool.and_eq_true, Bool.not_eq_true', List.any_eq_true, decide_eq_true_eq] at h
  exact ⟨h.2, h.1.1, h.1.2⟩

/-- The number of true places, by an injection. -/
theorem cnt_inj {α : Type} [BEq α] [LawfulBEq α] (p : Nat → Bool) (f : Nat → α) (M : Nat) (L : List α) (hL : ∀ i, i < M → p i = true → f i ∈ L) (hinj : ∀ i j, i < M → j < M → p i = true → p j = true → f i = f j → i = j) : ((List.range M).map p).count true ≤ L.length := by
  have e : ((List.range M).map p).count true = (((List.range M).filter p).map f).length := by
    rw [List.length_map, List.count_eq_countP, List.countP_map, List.countP_eq_length_filter]
    congr 1
    refine List.filter_congr (fun x _ => ?_)
    simp only [Function.comp]
    cases p x <;> rfl
  rw [e]
  refine nodup_sub ?_ (fun x hx => ?_)
  · rw [List.nodup_iff_pairwise_ne, List.pairwise_map]
    refine List.Pairwise.imp_of_mem (fun {a b} ha hb hab hf => ?_) ((List.nodup_iff_pairwise_ne.1 List.nodup_range).filter _)
    obtain ⟨a1, a2⟩ := List.mem_filter.1 ha
    obtain ⟨b1, b2⟩ := List.mem_filter.1 hb
    exact hab (hinj a b (List.mem_range.1 a1) (List.mem_range.1 b1) a2 b2 hf)
  · obtain ⟨i, hi, rfl⟩ := List.mem_map.1 hx
    obtain ⟨a1, a2⟩ := List.mem_filter.1 hi
    exact hL i (List.mem_range.1 a1) a2
theorem tups_len : ∀ (ns : List Nat) (c : Nat), (∀ n ∈ ns, n ≤ c) → (tupsF ns).length ≤ c ^ ns.length := by
  have key : ∀ (k : Nat) (ns : List Nat) (c : Nat), ns.length = k → (∀ n ∈ ns, n ≤ c) → (tupsF ns).length ≤ c ^ k := by
    intro k
    induction k with
    | zero =>
      intro ns c h _
      obtain rfl := List.length_eq_zero_iff.1 h
      simp [tupsF]
    | succ k ih =>
      intro ns c h hc
      obtain ⟨ms, n, rfl⟩ : ∃ ms n, ns = ms ++ [n] := by
        rcases List.eq_nil_or_concat ns with rfl | ⟨ms, n, e⟩
        · simp at h
        · exact ⟨ms, n, by rw [e, List.concat_eq_append]⟩
      have h1 := ih ms c (by simpa using h) (fun x hx => hc x (List.mem_append_left _ hx))
      have h2 := hc n (List.mem_append_right _ List.mem_cons_self)
      rw [tups_snoc, List.length_flatMap]
      have e : ((tupsF ms).map fun t => ((List.range n).map fun s => t ++ [s]).length) = (tupsF ms).map fun _ => n := List.map_congr_left (fun t _ => by simp)
      rw [e]
      have e2 : ((tupsF ms).map fun _ => n).sum = (tupsF ms).length * n := by
        rw [List.map_const', List.sum_replicate_nat]
      rw [e2, Nat.pow_succ]
      exact Nat.mul_le_mul h1 h2
  exact fun ns c hc => key ns.length ns c rfl hc
/-- Two assignments with the same tuples are alike. -/
theorem tup_bits {N : Nw} (h : NwOk N) {ρ σ : Nat → Bool} (he : tupA N.bs N.at' N.As.length ρ = tupA N.bs N.at' N.As.length σ) : ∀ v, v < N.all → ρ v = σ v := by
  have h1 := codeL_tup (bs := N.bs) h.pm ρ
  have h2 := codeL_tup (bs := N.bs) h.pm σ
  have e : (tupA N.bs (atB N.bs N.on) N.As.length ρ) = tupA N.bs (atB N.bs N.on) N.As.length σ := he
  rw [e, h2] at h1
  intro v hv
  have h3 := congrArg (fun l : List Bool => l.getD v false) h1
  simp only [colF] at h3
  rw [show sumB N.bs N.on = N.all from rfl] at h3
  simpa [List.getD, hv] using h3.symm
theorem num_bits {n i j : Nat} (hi : i < 2 ^ n) (hj : j < 2 ^ n) (h : ∀ v, v < n → bitF n i v = bitF n j v) : i = j := by
  rw [← place_bit hi, ← place_bit hj]
  exact place_cong n h
/-- A step of one event is true seldom. -/
theorem step_cnt {N : Nw} (h : NwOk N) (e : Int) : (N.rel (stepB N.As e)).count true ≤ (tupsF N.ns).length := by
  refine cnt_inj _ (fun k => tupA N.bs N.at' N.As.length fun v => bitF (2 * N.all) k (2 * v)) (2 ^ (2 * N.all)) (tupsF N.ns) (fun k _ hp => ?_) (fun i j hi hj hpi hpj hf => ?_)
  · obtain ⟨h1, h2, _⟩ := stepB_get hp
    refine tups_iff.2 ⟨by rw [tupA_len, N.ns_len], okT_iff.2 (fun i hi => ?_)⟩
    rw [N.ns_len] at hi
    have := auP_lt (h.au _ (List.getElem_mem hi)) e _ (stepK_get h1 hi hi)
    rw [N.ns_get hi]
    exact this.1
  · obtain ⟨a1, _, _⟩ := stepB_get hpi
    obtain ⟨b1, _, _⟩ := stepB_get hpj
    have hy : (tupA N.bs N.at' N.As.length fun v => bitF (2 * N.all) i (2 * v + 1)) = tupA N.bs N.at' N.As.length fun v => bitF (2 * N.all) j (2 * v + 1) := by
      refine list_of_getD (tupA_len _ _ _ _) (tupA_len _ _ _ _) (fun q hq => ?_)
      have c1 := stepK_get a1 hq hq
      have c2 := stepK_get b1 hq hq
      rw [hf] at c1
      exact auP_fun (h.au _ (List.getElem_mem hq)) c1 c2
    have e1 := tup_bits h hf
    have e2 := tup_bits h hy
    refine num_bits hi hj (fun v hv => ?_)
    rcases (show v % 2 = 0 ∨ v % 2 = 1 by omega) with hp | hp
    · have := e1 (v / 2) (by omega)
      rwa [show 2 * (v / 2) = v by omega] at this
    · have := e2 (v / 2) (by omega)
      rwa [show 2 * (v / 2) + 1 = v by omega] at this
theorem cnt_or : ∀ (p q : Nat → Bool) (l : List Nat), (l.map fun i => p i || q i).count true ≤ (l.map p).count true + (l.map q).count true
  | p, q, [] => by simp
  | p, q, x :: l => by
    have := cnt_or p q l
    simp only [List.map_cons, List.count_cons]
    cases p x <;> cases q x <;> simp <;> omega
theorem steps_cnt {N : Nw} (h : NwOk N) : ∀ E : List Int, (N.rel (stepsB N.As E)).count true ≤ E.length * (tupsF N.ns).length
  | [] => by
    have : N.rel (stepsB N.As []) = fls (2 * N.all) := by rw [tbF_fls]; rfl
    rw [this]
    unfold fls
    rw [List.count_replicate]
    simp
  | e :: E => by
    have ih := steps_cnt h E
    have h1 := step_cnt h e
    have h2 := cnt_or (fun k => stepB N.As e (tupA N.bs N.at' N.As.length fun v => bitF (2 * N.all) k (2 * v)) (tupA N.bs N.at' N.As.length fun v => bitF (2 * N.all) k (2 * v + 1)))
      (fun k => stepsB N.As E (tupA N.bs N.at' N.As.length fun v => bitF (2 * N.all) k (2 * v)) (tupA N.bs N.at' N.As.length fun v => bitF (2 * N.all) k (2 * v + 1))) (List.range (2 ^ (2 * N.all)))
    have e1 : N.rel (stepsB N.As (e :: E)) = ((List.range (2 ^ (2 * N.all))).map fun k => stepB N.As e (tupA N.bs N.at' N.As.length fun v => bitF (2 * N.all) k (2 * v)) (tupA N.bs N.at' N.As.length fun v => bitF (2 * N.all) k (2 * v + 1)) || stepsB N.As E (tupA N.bs N.at' N.As.length fun v => bitF (2 * N.all) k (2 * v)) (tupA N.bs N.at' N.As.length fun v => bitF (2 * N.all) k (2 * v + 1))) := rfl
    rw [e1, List.length_cons, Nat.add_mul, Nat.one_mul]
    have h3 : (N.rel (stepB N.As e)).count true = ((List.range (2 ^ (2 * N.all))).map fun k => stepB N.As e (tupA N.bs N.at' N.As.length fun v => bitF (2 * N.all) k (2 * v)) (tupA N.bs N.at' N.As.length fun v => bitF (2 * N.all) k (2 * v + 1))).count true := rfl
    have h4 : (N.rel (stepsB N.As E)).count true = ((List.range (2 ^ (2 * N.all))).map fun k => stepsB N.As E (tupA N.bs N.at' N.As.length fun v => bitF (2 * N.all) k (2 * v)) (tupA N.bs N.at' N.As.length fun v => bitF (2 * N.all) k (2 * v + 1))).count true := rfl
    omega

/-! ### the prefixes of a step depend on few variables -/
theorem kV_or (V W : Nat → Bool) : ∀ d v, kV (fun u => V u || W u) d v ≤ kV V d v + kV W d v
  | 0, _ => Nat.zero_le _
  | d + 1, v => by
    have := kV_or V W d (v + 1)
    rw [kV, kV, kV]
    cases V v <;> cases W v <;> simp <;> omega
theorem kV_int (a b : Nat) : ∀ d v, kV (fun u => decide (a ≤ u ∧ u < b)) d v ≤ b - (max a v)
  | 0, _ => Nat.zero_le _
  | d + 1, v => by
    have := kV_int a b d (v + 1)
    rw [kV]
    by_cases h : a ≤ v ∧ v < b
    · rw [if_pos (decide_eq_true h)]
      omega
    · rw [if_neg (by simpa using h)]
      omega
theorem kV_cong {V W : Nat → Bool} (h : ∀ u, V u = true → W u = true) : ∀ d v, kV V d v ≤ kV W d v
  | 0, _ => Nat.le_refl _
  | d + 1, v => by
    have := kV_cong h d (v + 1)
    rw [kV, kV]
    by_cases hv : V v = true
    · rw [if_pos hv, if_pos (h v hv)]; omega
    · rw [if_neg hv]; omega
/-- The variables of the first k automata. -/
def Nw.vs (N : Nw) (k u : Nat) : Bool := (List.range k).any fun i => decide (2 * N.at' i ≤ u ∧ u < 2 * N.at' i + 2 * N.bs i)
theorem vs_le (N : Nw) (hb : ∀ i, N.bs i ≤ 3) : ∀ k d v, kV (N.vs k) d v ≤ 6 * k
  | 0, d, v => by
    have : kV (N.vs 0) d v ≤ kV (fun _ => false) d v := kV_cong (fun u h => by simp [Nw.vs] at h) d v
    have h2 : ∀ d v, kV (fun _ => false) d v = 0 := by
      intro d
      induction d with
      | zero => intro v; rfl
      | succ d ih => intro v; rw [kV, ih]; rfl
    have := h2 d v
    omega
  | k + 1, d, v => by
    have h1 := vs_le N hb k d v
    have h2 : kV (N.vs (k + 1)) d v ≤ kV (fun u => N.vs k u || decide (2 * N.at' k ≤ u ∧ u < 2 * N.at' k + 2 * N.bs k)) d v := kV_cong (fun u h => by
      unfold Nw.vs at h ⊢
      rw [List.range_succ, List.any_append] at h
      simpa using h) d v
    have h3 := kV_or (N.vs k) (fun u => decide (2 * N.at' k ≤ u ∧ u < 2 * N.at' k + 2 * N.bs k)) d v
    have h4 := kV_int (2 * N.at' k) (2 * N.at' k + 2 * N.bs k) d v
    have := hb k
    omega
theorem stepK_ind {N : Nw} (h : NwOk N) (e : Int) {k : Nat} (hk : k ≤ N.As.length) : indV (N.vs k) (2 * N.all) 0 (N.rel (stepK N.As e k)) := by
  refine indV_ev _ (relN_len _ _ _ _ _) (fun ρ u b hu hV => ?_)
  unfold Nw.rel
  rw [evT_rel (fun j hj => h.le hj), evT_rel (fun j hj => h.le hj)]
  unfold stepK
  rw [Bool.eq_iff_iff, List.all_eq_true, List.all_eq_true]
  have key : ∀ i, i < k → (tupA N.bs N.at' N.As.length fun v => updF ρ u b (2 * v)).getD i 0 = (tupA N.bs N.at' N.As.length fun v => ρ (2 * v)).getD i 0 ∧
      (tupA N.bs N.at' N.As.length fun v => updF ρ u b (2 * v + 1)).getD i 0 = (tupA N.bs N.at' N.As.length fun v => ρ (2 * v + 1)).getD i 0 := by
    intro i hi
    have hn : ¬ (2 * N.at' i ≤ u ∧ u < 2 * N.at' i + 2 * N.bs i) := fun hc => by
      have : N.vs k u = true := by
        unfold Nw.vs
        exact List.any_eq_true.2 ⟨i, List.mem_range.2 hi, decide_eq_true hc⟩
      rw [this] at hV
      exact Bool.noConfusion hV
    rw [tupA_get _ _ _ (by omega), tupA_get _ _ _ (by omega), tupA_get _ _ _ (by omega), tupA_get _ _ _ (by omega)]
    have e0 := fun σ : Nat → Bool => (place_shift σ (N.at' i) (N.bs i) 0).symm
    simp only [Nat.add_zero] at e0
    rw [e0, e0, e0 (fun v => updF ρ u b (2 * v + 1)), e0 (fun v => ρ (2 * v + 1))]
    exact ⟨place_cong _ (fun v hv => upd_ne _ _ (by omega)), place_cong _ (fun v hv => upd_ne _ _ (by omega))⟩
  constructor
  · intro hh i hi
    have := hh i hi
    obtain ⟨k1, k2⟩ := key i (List.mem_range.1 hi)
    revert this
    cases N.As[i]? with
    | none => exact fun _ => rfl
    | some A => simp only [k1, k2]; exact id
  · intro hh i hi
    have := hh i hi
    obtain ⟨k1, k2⟩ := key i (List.mem_range.1 hi)
    revert this
    cases N.As[i]? with
    | none => exact fun _ => rfl
    | some A => simp only [k1, k2]; exact id
/-- A group: at most three automata of at most five states over the events 0 to 4. -/
structure Grp3 (N : Nw) : Prop where
  ok : NwOk N
  m3 : N.As.length ≤ 3
  n5 : ∀ A ∈ N.As, A.n ≤ 5
  al : ∀ A ∈ N.As, ∀ e ∈ A.al, e < 5
theorem Grp3.ns {N : Nw} (h : Grp3 N) (i : Nat) : N.ns.getD i 0 ≤ 5 := by
  by_cases hi : i < N.As.length
  · rw [N.ns_get hi]
    have := h.n5 _ (List.getElem_mem hi)
    omega
  · simp [List.getD, Nw.ns, show N.As.length ≤ i by omega]
theorem Grp3.bs {N : Nw} (h : Grp3 N) (i : Nat) : N.bs i ≤ 3 := (bitsF_is (n := N.ns.getD i 0) (by have := h.ns i; omega)).bd (by have := h.ns i; omega)
theorem Grp3.all {N : Nw} (h : Grp3 N) : N.all ≤ 9 := by
  have key : ∀ l : List Nat, sumB N.bs l ≤ l.length * 3 := by
    intro l
    induction l with
    | nil => exact Nat.zero_le _
    | cons j l ih => have := h.bs j; rw [sumB, List.length_cons]; omega
  have h1 := key N.on
  have h2 := h.ok.len
  have h3 := h.m3
  unfold Nw.all
  omega
theorem Grp3.tups {N : Nw} (h : Grp3 N) : (tupsF N.ns).length ≤ 125 := by
  have h1 := tups_len N.ns 5 (fun n hn => by
    obtain ⟨i, hi, rfl⟩ := List.mem_iff_getElem.1 hn
    have := h.ns i
    simpa [List.getD, hi] using this)
  have h2 : 5 ^ N.ns.length ≤ 5 ^ 3 := Nat.pow_le_pow_right (by omega) (by rw [N.ns_len]; exact h.m3)
  omega
theorem Thin.of_cnt {n c : Nat} {t : List Bool} (hn : n ≤ 18) (hc : t.count true ≤ 625) : Thin n t := by
  by_cases h : n ≤ 14
  · exact Thin.of14 h t
  · refine ⟨9, by omega, ?_⟩
    have h1 : (n - 9) * t.count true ≤ 9 * 625 := Nat.mul_le_mul (by omega) hc
    have h2 : (2 : Nat) ^ 9 = 512 := by decide
    omega
theorem stepsB_five {As : List Au} (hal : ∀ A ∈ As, ∀ e ∈ A.al, 0 ≤ e ∧ e < 5) (E : List Int) (x y : List Nat) (h : stepsB As E x y = true) : stepsB As [0, 1, 2, 3, 4] x y = true := by
  unfold stepsB at h ⊢
  obtain ⟨e, _, he2⟩ := List.any_eq_true.1 h
  obtain ⟨_, _, A, hA, hm⟩ := stepB_get he2
  have := hal A hA e hm
  refine List.any_eq_true.2 ⟨e, ?_, he2⟩
  simp only [List.mem_cons, List.not_mem_nil, or_false]
  omega
theorem Grp3.fits {N : Nw} (h : Grp3 N) : Fits N := by
  have hall := h.all
  have ht := h.tups
  refine ⟨fun e k hk => ?_, fun E => ?_⟩
  · by_cases h2 : k ≤ 2
    · refine short_var (N.vs k) (by omega) (relN_len _ _ _ _ _) (stepK_ind h.ok e hk) ?_
      have := vs_le N h.bs k (2 * N.all) 0
      omega
    · have hk3 : k = N.As.length := by have := h.m3; omega
      subst hk3
      by_cases he : (∃ A ∈ N.As, e ∈ A.al) ∧ (N.As.any fun A => A.n.toNat == 0) = false
      · have e1 : N.rel (stepK N.As e N.As.length) = N.rel (stepB N.As e) := by
          show tbF _ _ = tbF _ _
          congr 1
          funext q
          refine (stepB_yes he.2 ?_ _ _).symm
          obtain ⟨A, hA, hm⟩ := he.1
          exact List.any_eq_true.2 ⟨A, hA, decide_eq_true hm⟩
        rw [e1]
        have := step_cnt h.ok e
        exact (Thin.of_cnt (c := 0) (by omega) (by omega)).short (by omega) (relN_len _ _ _ _ _)
      · refine (Thin.of_cnt (c := 0) (by omega) ?_).short (by omega) (relN_len _ _ _ _ _)
        refine Nat.le_trans (cnt_inj _ (fun k => tupA N.bs N.at' N.As.length fun v => bitF (2 * N.all) k (2 * v)) (2 ^ (2 * N.all)) (tupsF N.ns) (fun k _ hp => ?_) (fun i j hi hj hpi hpj hf => ?_)) (by omega)
        · refine tups_iff.2 ⟨by rw [tupA_len, N.ns_len], okT_iff.2 (fun i hi => ?_)⟩
          rw [N.ns_len] at hi
          have := auP_lt (h.ok.au _ (List.getElem_mem hi)) e _ (stepK_get hp hi hi)
          rw [N.ns_get hi]
          exact this.1
        · have hy : (tupA N.bs N.at' N.As.length fun v => bitF (2 * N.all) i (2 * v + 1)) = tupA N.bs N.at' N.As.length fun v => bitF (2 * N.all) j (2 * v + 1) := by
            refine list_of_getD (tupA_len _ _ _ _) (tupA_len _ _ _ _) (fun q hq => ?_)
            have c1 := stepK_get hpi hq hq
            have c2 := stepK_get hpj hq hq
            rw [hf] at c1
            exact auP_fun (h.ok.au _ (List.getElem_mem hq)) c1 c2
          have e1 := tup_bits h.ok hf
          have e2 := tup_bits h.ok hy
          refine num_bits hi hj (fun v hv => ?_)
          rcases (show v % 2 = 0 ∨ v % 2 = 1 by omega) with hp | hp
          · have := e1 (v / 2) (by omega)
            rwa [show 2 * (v / 2) = v by omega] at this
          · have := e2 (v / 2) (by omega)
            rwa [show 2 * (v / 2) + 1 = v by omega] at this
  · have hal : ∀ A ∈ N.As, ∀ e ∈ A.al, 0 ≤ e ∧ e < 5 := fun A hA e he => ⟨(al_range (h.ok.au A hA) he).1, h.al A hA e he⟩
    refine Thin.rel (G := stepsB N.As [0, 1, 2, 3, 4]) ?_ (fun x y => stepsB_five hal E x y)
    refine Thin.of_cnt (c := 0) (by omega) ?_
    have := steps_cnt h.ok [0, 1, 2, 3, 4]
    simp only [List.length_cons, List.length_nil] at this
    have h5 : (0 + 1 + 1 + 1 + 1 + 1) * (tupsF N.ns).length ≤ 5 * 125 := Nat.mul_le_mul (by omega) ht
    exact Nat.le_trans this h5
end Go.Proofs.YtknlkcfnfjchdaaGreat
