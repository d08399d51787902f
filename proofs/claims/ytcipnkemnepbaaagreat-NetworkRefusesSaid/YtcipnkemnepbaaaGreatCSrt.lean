/-  -/
import Derived.Test.YtcipnkemnepbaaaGreatCNetM
import Derived.Test.YtcipnkemnepbaaaGreatCNetQ
import Derived.Test.YtcipnkemnepbaaaGreatCGrpW
import Derived.Shelf.SlSortCmp.NoneTotal
import Derived.Shelf.SlicesG.Cmp
import Derived.Shelf.Lay
import Derived.Ground.SlsfProg
import Derived.Ground.SlgcProg
import Derived.Test.YtcipnkemnepbaaaGreatCRelGenB
set_option maxRecDepth 100000
set_option maxHeartbeats 8000000
set_option linter.unusedVariables false
set_option linter.unusedSimpArgs false
namespace Go.Proofs.YtcipnkemnepbaaaGreat
open Go.RowKit
theorem egErr_ord {al : List Int} {n : Int} {es : List Nd} : ∀ (m i : Nat), egErr al n es m i = 0 → ∀ j, i ≤ j → j < i + m → 0 < j → ¬ egOrd (es.getD (j - 1) (0, 0, 0)) (es.getD j (0, 0, 0))
 | 0, i, _, j, h1, h2, _ => by omega
 | m + 1, i, h, j, h1, h2, h3 => by
  rw [egErr] at h
  by_cases hb : egBad al n (es.getD i (0, 0, 0)) = 0
  · rw [if_neg (by simpa using hb)] at h
    by_cases ho : 0 < i ∧ egOrd (es.getD (i - 1) (0, 0, 0)) (es.getD i (0, 0, 0))
    · rw [if_pos ho] at h; omega
    · rw [if_neg ho] at h
      by_cases e : j = i
      · subst e; exact fun hc => ho ⟨h3, hc⟩
      · exact egErr_ord m (i + 1) h j (by omega) (by omega) h3
  · rw [if_pos (by simpa using hb)] at h
    exact absurd h hb
theorem AuOk.sorted {A : Au} (h : AuOk A) : ∀ (d i : Nat) (hd : i + d + 1 < A.es.length), A.es[i].1 < A.es[i + d + 1].1 ∨ A.es[i].1 = A.es[i + d + 1].1 ∧ A.es[i].2.1 < A.es[i + d + 1].2.1
 | 0, i, hd => by
  have := egErr_ord _ _ h.es (i + 1) (by omega) (by omega) (by omega)
  rw [Nat.add_sub_cancel, getD_get (show i < A.es.length by omega), getD_get (show i + 1 < A.es.length from hd)] at this
  unfold egOrd at this
  show A.es[i].1 < A.es[i + 1].1 ∨ A.es[i].1 = A.es[i + 1].1 ∧ A.es[i].2.1 < A.es[i + 1].2.1
  omega
 | d + 1, i, hd => by
  have h1 := AuOk.sorted h d i (by omega)
  have h2 := AuOk.sorted h 0 (i + d + 1) (by omega)
  have e : A.es[i + (d + 1) + 1] = A.es[i + d + 1 + 0 + 1] := by congr 1
  rw [e]
  omega
theorem AuOk.det {A : Au} (h : AuOk A) {x y : Nd} (hx : x ∈ A.es) (hy : y ∈ A.es) (h1 : x.1 = y.1) (h2 : x.2.1 = y.2.1) : x = y := by
 obtain ⟨i, hi, rfl⟩ := List.mem_iff_getElem.1 hx
 obtain ⟨j, hj, rfl⟩ := List.mem_iff_getElem.1 hy
 rcases Nat.lt_trichotomy i j with hl | rfl | hl
 · have := h.sorted (j - i - 1) i (by omega)
   simp only [show i + (j - i - 1) + 1 = j by omega] at this
   omega
 · rfl
 · have := h.sorted (i - j - 1) j (by omega)
   simp only [show j + (i - j - 1) + 1 = i by omega] at this
   omega
theorem auP_fun {A : Au} (h : AuOk A) {e : Int} {x y y' : Nat} (h1 : (x, y) ∈ auP A e) (h2 : (x, y') ∈ auP A e) : y = y' := by
 unfold auP at h1 h2
 by_cases he : e ∈ A.al
 · rw [if_pos he] at h1 h2
   obtain ⟨a, ha, e1⟩ := List.mem_map.1 h1
   obtain ⟨b, hb, e2⟩ := List.mem_map.1 h2
   obtain ⟨ha1, ha2⟩ := List.mem_filter.1 ha
   obtain ⟨hb1, hb2⟩ := List.mem_filter.1 hb
   simp only [List.mem_singleton, decide_eq_true_eq] at ha2 hb2
   simp only [Prod.mk.injEq] at e1 e2
   have k1 := h.edge ha1
   have k2 := h.edge hb1
   have := h.det ha1 hb1 (by omega) (by omega)
   subst this
   omega
 · rw [if_neg he] at h1 h2
   obtain ⟨a, _, e1⟩ := List.mem_map.1 h1
   obtain ⟨b, _, e2⟩ := List.mem_map.1 h2
   simp only [Prod.mk.injEq] at e1 e2
   omega
theorem stepK_get {As : List Au} {e : Int} {k : Nat} {x y : List Nat} (h : stepK As e k x y = true) {i : Nat} (hi : i < k) (hm : i < As.length) : (x.getD i 0, y.getD i 0) ∈ auP As[i] e := by
 unfold stepK at h
 have := List.all_eq_true.1 h i (List.mem_range.2 hi)
 rw [List.getElem?_eq_getElem hm] at this
 exact of_decide_eq_true this
theorem stepB_get {As : List Au} {e : Int} {x y : List Nat} (h : stepB As e x y = true) : stepK As e As.length x y = true ∧ (As.any fun A => A.n.toNat == 0) = false ∧ (∃ A ∈ As, e ∈ A.al) := by
 unfold stepB at h
 simp only [Bool.and_eq_true, Bool.not_eq_true', List.any_eq_true, decide_eq_true_eq] at h
 exact ⟨h.2, h.1.1, h.1.2⟩
theorem cnt_inj {α : Type} [BEq α] [LawfulBEq α] (p : Nat → Bool) (f : Nat → α) (M : Nat) (L : List α) (hL : ∀ i, i < M → p i = true → f i ∈ L) (hinj : ∀ i j, i < M → j < M → p i = true → p j = true → f i = f j → i = j) : ((List.range M).map p).count true ≤ L.length := by
 have e : ((List.range M).map p).count true = (((List.range M).filter p).map f).length := by
  rw [List.length_map, List.count_eq_countP, List.countP_map, List.countP_eq_length_filter]
  congr 1
  refine List.filter_congr (fun x _ => ?_)
  simp only [Function.comp]
  cases p x <;> rfl
 rw [e]
 refine nodup_sub ?_ (fun x hx => ?_)
 · rw [List.nodup_iff_pairwise_ne, List.pairwise_map]
   refine List.Pairwise.imp_of_mem (fun {a b} ha hb hab hf => ?_) ((List.nodup_iff_pairwise_ne.1 List.nodup_range).filter _)
   obtain ⟨a1, a2⟩ := List.mem_filter.1 ha
   obtain ⟨b1, b2⟩ := List.mem_filter.1 hb
   exact hab (hinj a b (List.mem_range.1 a1) (List.mem_range.1 b1) a2 b2 hf)
 · obtain ⟨i, hi, rfl⟩ := List.mem_map.1 hx
   obtain ⟨a1, a2⟩ := List.mem_filter.1 hi
   exact hL i (List.mem_range.1 a1) a2
theorem tups_len : ∀ (ns : List Nat) (c : Nat), (∀ n ∈ ns, n ≤ c) → (tupsF ns).length ≤ c ^ ns.length := by
 have key : ∀ (k : Nat) (ns : List Nat) (c : Nat), ns.length = k → (∀ n ∈ ns, n ≤ c) → (tupsF ns).length ≤ c ^ k := by
  intro k
  induction k with
  | zero =>
   intro ns c h _
   obtain rfl := List.length_eq_zero_iff.1 h
   simp [tupsF]
  | succ k ih =>
   intro ns c h hc
   obtain ⟨ms, n, rfl⟩ : ∃ ms n, ns = ms ++ [n] := by
    rcases List.eq_nil_or_concat ns with rfl | ⟨ms, n, e⟩
    · simp at h
    · exact ⟨ms, n, by rw [e, List.concat_eq_append]⟩
   have h1 := ih ms c (by simpa using h) (fun x hx => hc x (List.mem_append_left _ hx))
   have h2 := hc n (List.mem_append_right _ List.mem_cons_self)
   rw [tups_snoc, List.length_flatMap]
   have e : ((tupsF ms).map fun t => ((List.range n).map fun s => t ++ [s]).length) = (tupsF ms).map fun _ => n := List.map_congr_left (fun t _ => by simp)
   rw [e]
   have e2 : ((tupsF ms).map fun _ => n).sum = (tupsF ms).length * n := by
    rw [List.map_const', List.sum_replicate_nat]
   rw [e2, Nat.pow_succ]
   exact Nat.mul_le_mul h1 h2
 exact fun ns c hc => key ns.length ns c rfl hc
theorem tup_bits {N : Nw} (h : NwOk N) {ρ σ : Nat → Bool} (he : tupA N.bs N.at' N.As.length ρ = tupA N.bs N.at' N.As.length σ) : ∀ v, v < N.all → ρ v = σ v := by
 have h1 := codeL_tup (bs := N.bs) h.pm ρ
 have h2 := codeL_tup (bs := N.bs) h.pm σ
 have e : (tupA N.bs (atB N.bs N.on) N.As.length ρ) = tupA N.bs (atB N.bs N.on) N.As.length σ := he
 rw [e, h2] at h1
 intro v hv
 have h3 := congrArg (fun l : List Bool => l.getD v false) h1
 simp only [colF] at h3
 rw [show sumB N.bs N.on = N.all from rfl] at h3
 simpa [List.getD, hv] using h3.symm
theorem num_bits {n i j : Nat} (hi : i < 2 ^ n) (hj : j < 2 ^ n) (h : ∀ v, v < n → bitF n i v = bitF n j v) : i = j := by
 rw [← place_bit hi, ← place_bit hj]
 exact place_cong n h
theorem step_cnt {N : Nw} (h : NwOk N) (e : Int) : (N.rel (stepB N.As e)).count true ≤ (tupsF N.ns).length := by
 refine cnt_inj _ (fun k => tupA N.bs N.at' N.As.length fun v => bitF (2 * N.all) k (2 * v)) (2 ^ (2 * N.all)) (tupsF N.ns) (fun k _ hp => ?_) (fun i j hi hj hpi hpj hf => ?_)
 · obtain ⟨h1, h2, _⟩ := stepB_get hp
   refine tups_iff.2 ⟨by rw [tupA_len, N.ns_len], okT_iff.2 (fun i hi => ?_)⟩
   rw [N.ns_len] at hi
   have := auP_lt (h.au _ (List.getElem_mem hi)) e _ (stepK_get h1 hi hi)
   rw [N.ns_get hi]
   exact this.1
 · obtain ⟨a1, _, _⟩ := stepB_get hpi
   obtain ⟨b1, _, _⟩ := stepB_get hpj
   have hy : (tupA N.bs N.at' N.As.length fun v => bitF (2 * N.all) i (2 * v + 1)) = tupA N.bs N.at' N.As.length fun v => bitF (2 * N.all) j (2 * v + 1) := by
    refine list_of_getD (tupA_len _ _ _ _) (tupA_len _ _ _ _) (fun q hq => ?_)
    have c1 := stepK_get a1 hq hq
    have c2 := stepK_get b1 hq hq
    rw [hf] at c1
    exact auP_fun (h.au _ (List.getElem_mem hq)) c1 c2
   have e1 := tup_bits h hf
   have e2 := tup_bits h hy
   refine num_bits hi hj (fun v hv => ?_)
   rcases (show v % 2 = 0 ∨ v % 2 = 1 by omega) with hp | hp
   · have := e1 (v / 2) (by omega)
     rwa [show 2 * (v / 2) = v by omega] at this
   · have := e2 (v / 2) (by omega)
     rwa [show 2 * (v / 2) + 1 = v by omega] at this
theorem cnt_or : ∀ (p q : Nat → Bool) (l : List Nat), (l.map fun i => p i || q i).count true ≤ (l.map p).count true + (l.map q).count true
 | p, q, [] => by simp
 | p, q, x :: l => by
  have := cnt_or p q l
  simp only [List.map_cons, List.count_cons]
  cases p x <;> cases q x <;> simp <;> omega
theorem steps_cnt {N : Nw} (h : NwOk N) : ∀ E : List Int, (N.rel (stepsB N.As E)).count true ≤ E.length * (tupsF N.ns).length
 | [] => by
  have : N.rel (stepsB N.As []) = fls (2 * N.all) := by rw [tbF_fls]; rfl
  rw [this]
  unfold fls
  rw [List.count_replicate]
  simp
 | e :: E => by
  have ih := steps_cnt h E
  have h1 := step_cnt h e
  have h2 := cnt_or (fun k => stepB N.As e (tupA N.bs N.at' N.As.length fun v => bitF (2 * N.all) k (2 * v)) (tupA N.bs N.at' N.As.length fun v => bitF (2 * N.all) k (2 * v + 1)))
   (fun k => stepsB N.As E (tupA N.bs N.at' N.As.length fun v => bitF (2 * N.all) k (2 * v)) (tupA N.bs N.at' N.As.length fun v => bitF (2 * N.all) k (2 * v + 1))) (List.range (2 ^ (2 * N.all)))
  have e1 : N.rel (stepsB N.As (e :: E)) = ((List.range (2 ^ (2 * N.all))).map fun k => stepB N.As e (tupA N.bs N.at' N.As.length fun v => bitF (2 * N.all) k (2 * v)) (tupA N.bs N.at' N.As.length fun v => bitF (2 * N.all) k (2 * v + 1)) || stepsB N.As E (tupA N.bs N.at' N.As.length fun v => bitF (2 * N.all) k (2 * v)) (tupA N.bs N.at' N.As.length fun v => bitF (2 * N.all) k (2 * v + 1))) := rfl
  rw [e1, List.length_cons, Nat.add_mul, Nat.one_mul]
  have h3 : (N.rel (stepB N.As e)).count true = ((List.range (2 ^ (2 * N.all))).map fun k => stepB N.As e (tupA N.bs N.at' N.As.length fun v => bitF (2 * N.all) k (2 * v)) (tupA N.bs N.at' N.As.length fun v => bitF (2 * N.all) k (2 * v + 1))).count true := rfl
  have h4 : (N.rel (stepsB N.As E)).count true = ((List.range (2 ^ (2 * N.all))).map fun k => stepsB N.As E (tupA N.bs N.at' N.As.length fun v => bitF (2 * N.all) k (2 * v)) (tupA N.bs N.at' N.As.length fun v => bitF (2 * N.all) k (2 * v + 1))).count true := rfl
  omega
theorem kV_or (V W : Nat → Bool) : ∀ d v, kV (fun u => V u || W u) d v ≤ kV V d v + kV W d v
 | 0, _ => Nat.zero_le _
 | d + 1, v => by
  have := kV_or V W d (v + 1)
  rw [kV, kV, kV]
  cases V v <;> cases W v <;> simp <;> omega
theorem kV_int (a b : Nat) : ∀ d v, kV (fun u => decide (a ≤ u ∧ u < b)) d v ≤ b - (max a v)
 | 0, _ => Nat.zero_le _
 | d + 1, v => by
  have := kV_int a b d (v + 1)
  rw [kV]
  by_cases h : a ≤ v ∧ v < b
  · rw [if_pos (decide_eq_true h)]
    omega
  · rw [if_neg (by simpa using h)]
    omega
theorem kV_cong {V W : Nat → Bool} (h : ∀ u, V u = true → W u = true) : ∀ d v, kV V d v ≤ kV W d v
 | 0, _ => Nat.le_refl _
 | d + 1, v => by
  have := kV_cong h d (v + 1)
  rw [kV, kV]
  by_cases hv : V v = true
  · rw [if_pos hv, if_pos (h v hv)]; omega
  · rw [if_neg hv]; omega
def Nw.vs (N : Nw) (k u : Nat) : Bool := (List.range k).any fun i => decide (2 * N.at' i ≤ u ∧ u < 2 * N.at' i + 2 * N.bs i)
theorem vs_le (N : Nw) (hb : ∀ i, N.bs i ≤ 3) : ∀ k d v, kV (N.vs k) d v ≤ 6 * k
 | 0, d, v => by
  have : kV (N.vs 0) d v ≤ kV (fun _ => false) d v := kV_cong (fun u h => by simp [Nw.vs] at h) d v
  have h2 : ∀ d v, kV (fun _ => false) d v = 0 := by
   intro d
   induction d with
   | zero => intro v; rfl
   | succ d ih => intro v; rw [kV, ih]; rfl
  have := h2 d v
  omega
 | k + 1, d, v => by
  have h1 := vs_le N hb k d v
  have h2 : kV (N.vs (k + 1)) d v ≤ kV (fun u => N.vs k u || decide (2 * N.at' k ≤ u ∧ u < 2 * N.at' k + 2 * N.bs k)) d v := kV_cong (fun u h => by
   unfold Nw.vs at h ⊢
   rw [List.range_succ, List.any_append] at h
   simpa using h) d v
  have h3 := kV_or (N.vs k) (fun u => decide (2 * N.at' k ≤ u ∧ u < 2 * N.at' k + 2 * N.bs k)) d v
  have h4 := kV_int (2 * N.at' k) (2 * N.at' k + 2 * N.bs k) d v
  have := hb k
  omega
theorem stepK_ind {N : Nw} (h : NwOk N) (e : Int) {k : Nat} (hk : k ≤ N.As.length) : indV (N.vs k) (2 * N.all) 0 (N.rel (stepK N.As e k)) := by
 refine indV_ev _ (relN_len _ _ _ _ _) (fun ρ u b hu hV => ?_)
 unfold Nw.rel
 rw [evT_rel (fun j hj => h.le hj), evT_rel (fun j hj => h.le hj)]
 unfold stepK
 rw [Bool.eq_iff_iff, List.all_eq_true, List.all_eq_true]
 have key : ∀ i, i < k → (tupA N.bs N.at' N.As.length fun v => updF ρ u b (2 * v)).getD i 0 = (tupA N.bs N.at' N.As.length fun v => ρ (2 * v)).getD i 0 ∧
  (tupA N.bs N.at' N.As.length fun v => updF ρ u b (2 * v + 1)).getD i 0 = (tupA N.bs N.at' N.As.length fun v => ρ (2 * v + 1)).getD i 0 := by
  intro i hi
  have hn : ¬ (2 * N.at' i ≤ u ∧ u < 2 * N.at' i + 2 * N.bs i) := fun hc => by
   have : N.vs k u = true := by
    unfold Nw.vs
    exact List.any_eq_true.2 ⟨i, List.mem_range.2 hi, decide_eq_true hc⟩
   rw [this] at hV
   exact Bool.noConfusion hV
  rw [tupA_get _ _ _ (by omega), tupA_get _ _ _ (by omega), tupA_get _ _ _ (by omega), tupA_get _ _ _ (by omega)]
  have e0 := fun σ : Nat → Bool => (place_shift σ (N.at' i) (N.bs i) 0).symm
  simp only [Nat.add_zero] at e0
  rw [e0, e0, e0 (fun v => updF ρ u b (2 * v + 1)), e0 (fun v => ρ (2 * v + 1))]
  exact ⟨place_cong _ (fun v hv => upd_ne _ _ (by omega)), place_cong _ (fun v hv => upd_ne _ _ (by omega))⟩
 constructor
 · intro hh i hi
   have := hh i hi
   obtain ⟨k1, k2⟩ := key i (List.mem_range.1 hi)
   revert this
   cases N.As[i]? with
   | none => exact fun _ => rfl
   | some A => simp only [k1, k2]; exact id
 · intro hh i hi
   have := hh i hi
   obtain ⟨k1, k2⟩ := key i (List.mem_range.1 hi)
   revert this
   cases N.As[i]? with
   | none => exact fun _ => rfl
   | some A => simp only [k1, k2]; exact id
structure Grp3 (N : Nw) : Prop where
 ok : NwOk N
 m3 : N.As.length ≤ 3
 n5 : ∀ A ∈ N.As, A.n ≤ 5
 al : ∀ A ∈ N.As, ∀ e ∈ A.al, e < 5
theorem Grp3.ns {N : Nw} (h : Grp3 N) (i : Nat) : N.ns.getD i 0 ≤ 5 := by
 by_cases hi : i < N.As.length
 · rw [N.ns_get hi]
   have := h.n5 _ (List.getElem_mem hi)
   omega
 · simp [List.getD, Nw.ns, show N.As.length ≤ i by omega]
theorem Grp3.bs {N : Nw} (h : Grp3 N) (i : Nat) : N.bs i ≤ 3 := (bitsF_is (n := N.ns.getD i 0) (by have := h.ns i; omega)).bd (by have := h.ns i; omega)
theorem Grp3.all {N : Nw} (h : Grp3 N) : N.all ≤ 9 := by
 have key : ∀ l : List Nat, sumB N.bs l ≤ l.length * 3 := by
  intro l
  induction l with
  | nil => exact Nat.zero_le _
  | cons j l ih => have := h.bs j; rw [sumB, List.length_cons]; omega
 have h1 := key N.on
 have h2 := h.ok.len
 have h3 := h.m3
 unfold Nw.all
 omega
theorem Grp3.tups {N : Nw} (h : Grp3 N) : (tupsF N.ns).length ≤ 125 := by
 have h1 := tups_len N.ns 5 (fun n hn => by
  obtain ⟨i, hi, rfl⟩ := List.mem_iff_getElem.1 hn
  have := h.ns i
  simpa [List.getD, hi] using this)
 have h2 : 5 ^ N.ns.length ≤ 5 ^ 3 := Nat.pow_le_pow_right (by omega) (by rw [N.ns_len]; exact h.m3)
 omega
theorem Thin.of_cnt {n c : Nat} {t : List Bool} (hn : n ≤ 18) (hc : t.count true ≤ 625) : Thin n t := by
 by_cases h : n ≤ 14
 · exact Thin.of14 h t
 · refine ⟨9, by omega, ?_⟩
   have h1 : (n - 9) * t.count true ≤ 9 * 625 := Nat.mul_le_mul (by omega) hc
   have h2 : (2 : Nat) ^ 9 = 512 := by decide
   omega
theorem stepsB_five {As : List Au} (hal : ∀ A ∈ As, ∀ e ∈ A.al, 0 ≤ e ∧ e < 5) (E : List Int) (x y : List Nat) (h : stepsB As E x y = true) : stepsB As [0, 1, 2, 3, 4] x y = true := by
 unfold stepsB at h ⊢
 obtain ⟨e, _, he2⟩ := List.any_eq_true.1 h
 obtain ⟨_, _, A, hA, hm⟩ := stepB_get he2
 have := hal A hA e hm
 refine List.any_eq_true.2 ⟨e, ?_, he2⟩
 simp only [List.mem_cons, List.not_mem_nil, or_false]
 omega
theorem Grp3.fits {N : Nw} (h : Grp3 N) : Fits N := by
 have hall := h.all
 have ht := h.tups
 refine ⟨fun e k hk => ?_, fun E => ?_⟩
 · by_cases h2 : k ≤ 2
   · refine short_var (N.vs k) (by omega) (relN_len _ _ _ _ _) (stepK_ind h.ok e hk) ?_
     have := vs_le N h.bs k (2 * N.all) 0
     omega
   · have hk3 : k = N.As.length := by have := h.m3; omega
     subst hk3
     by_cases he : (∃ A ∈ N.As, e ∈ A.al) ∧ (N.As.any fun A => A.n.toNat == 0) = false
     · have e1 : N.rel (stepK N.As e N.As.length) = N.rel (stepB N.As e) := by
         show tbF _ _ = tbF _ _
         congr 1
         funext q
         refine (stepB_yes he.2 ?_ _ _).symm
         obtain ⟨A, hA, hm⟩ := he.1
         exact List.any_eq_true.2 ⟨A, hA, decide_eq_true hm⟩
       rw [e1]
       have := step_cnt h.ok e
       exact (Thin.of_cnt (c := 0) (by omega) (by omega)).short (by omega) (relN_len _ _ _ _ _)
     · refine (Thin.of_cnt (c := 0) (by omega) ?_).short (by omega) (relN_len _ _ _ _ _)
       refine Nat.le_trans (cnt_inj _ (fun k => tupA N.bs N.at' N.As.length fun v => bitF (2 * N.all) k (2 * v)) (2 ^ (2 * N.all)) (tupsF N.ns) (fun k _ hp => ?_) (fun i j hi hj hpi hpj hf => ?_)) (by omega)
       · refine tups_iff.2 ⟨by rw [tupA_len, N.ns_len], okT_iff.2 (fun i hi => ?_)⟩
         rw [N.ns_len] at hi
         have := auP_lt (h.ok.au _ (List.getElem_mem hi)) e _ (stepK_get hp hi hi)
         rw [N.ns_get hi]
         exact this.1
       · have hy : (tupA N.bs N.at' N.As.length fun v => bitF (2 * N.all) i (2 * v + 1)) = tupA N.bs N.at' N.As.length fun v => bitF (2 * N.all) j (2 * v + 1) := by
           refine list_of_getD (tupA_len _ _ _ _) (tupA_len _ _ _ _) (fun q hq => ?_)
           have c1 := stepK_get hpi hq hq
           have c2 := stepK_get hpj hq hq
           rw [hf] at c1
           exact auP_fun (h.ok.au _ (List.getElem_mem hq)) c1 c2
         have e1 := tup_bits h.ok hf
         have e2 := tup_bits h.ok hy
         refine num_bits hi hj (fun v hv => ?_)
         rcases (show v % 2 = 0 ∨ v % 2 = 1 by omega) with hp | hp
         · have := e1 (v / 2) (by omega)
           rwa [show 2 * (v / 2) = v by omega] at this
         · have := e2 (v / 2) (by omega)
           rwa [show 2 * (v / 2) + 1 = v by omega] at this
 · have hal : ∀ A ∈ N.As, ∀ e ∈ A.al, 0 ≤ e ∧ e < 5 := fun A hA e he => ⟨(al_range (h.ok.au A hA) he).1, h.al A hA e he⟩
   refine Thin.rel (G := stepsB N.As [0, 1, 2, 3, 4]) ?_ (fun x y => stepsB_five hal E x y)
   refine Thin.of_cnt (c := 0) (by omega) ?_
   have := steps_cnt h.ok [0, 1, 2, 3, 4]
   simp only [List.length_cons, List.length_nil] at this
   have h5 : (0 + 1 + 1 + 1 + 1 + 1) * (tupsF N.ns).length ≤ 5 * 125 := Nat.mul_le_mul (by omega) ht
   exact Nat.le_trans this h5
def Nw.T (N : Nw) (k : Nat) : List Nat := tupA N.bs N.at' N.As.length (bitF N.all k)
theorem Nw.T_len (N : Nw) (k : Nat) : (N.T k).length = N.ns.length := by rw [Nw.T, tupA_len, N.ns_len]
theorem NwOk.code {N : Nw} (h : NwOk N) {k : Nat} (hk : k < 2 ^ N.all) (p : List Nat → Bool) : (∃ x ∈ tupsF N.ns, p x = true ∧ numB (codeL N.bs N.on x) = k) ↔ okT N.ns (N.T k) = true ∧ p (N.T k) = true := by
 have hpm := h.pm
 rw [← N.ns_len] at hpm
 have H := code_key (bs := N.bs) (ns := N.ns) hpm (n := N.all) rfl (fun i hi => h.bits (by rw [← N.ns_len]; exact hi)) hk p
 have e : N.T k = tupA N.bs (atB N.bs N.on) N.ns.length (bitF N.all k) := by rw [N.ns_len]; rfl
 rw [e]
 exact H
theorem NwOk.tup_of {N : Nw} (h : NwOk N) {x : List Nat} (hx : x ∈ tupsF N.ns) : ∃ k, k < 2 ^ N.all ∧ N.T k = x ∧ numB (codeL N.bs N.on x) = k := by
 have hk : numB (codeL N.bs N.on x) < 2 ^ N.all := by
  have := numB_lt (codeL N.bs N.on x) _ (Nat.le_refl _)
  rw [List.take_length, codeL_len] at this
  exact this
 have := ((h.code hk (fun t => t == x)).1 ⟨x, hx, by simp, rfl⟩).2
 exact ⟨_, hk, by simpa using this, rfl⟩
theorem NwOk.T_inj {N : Nw} (h : NwOk N) {i j : Nat} (hi : i < 2 ^ N.all) (hj : j < 2 ^ N.all) (e : N.T i = N.T j) : i = j := num_bits hi hj (tup_bits h e)
theorem Nw.T_mem (N : Nw) {k : Nat} (h : okT N.ns (N.T k) = true) : N.T k ∈ tupsF N.ns := tups_iff.2 ⟨N.T_len k, h⟩
theorem Nw.set_eq (N : Nw) (F : List Nat → Bool) : N.set F = tbF N.all fun k => F (N.T k) := rfl
def Sup (ns : List Nat) (F : List Nat → Bool) : Prop := ∀ x, F x = true → okT ns x = true
def extT (t : List Int) (n : Nat) : List (List Int) := (List.range n).map fun (s : Nat) => t ++ [(s : Int)]
theorem extT_zero (t : List Int) : extT t 0 = [] := rfl
theorem extT_succ (t : List Int) (s : Nat) : extT t (s + 1) = extT t s ++ [t ++ [(s : Int)]] := by unfold extT; rw [List.range_succ, List.map_append]; rfl
theorem extT_len (t : List Int) (n : Nat) : (extT t n).length = n := by simp [extT]
def tupI (ns : List Nat) : List (List Int) := (tupsF ns).map natI
theorem tupI_succ {ns : List Nat} {i : Nat} (hi : i < ns.length) : tupI (ns.take (i + 1)) = (tupI (ns.take i)).flatMap fun t => extT t (ns.getD i 0) := by
 have e : ns.getD i 0 = ns[i] := by simp [List.getD, hi]
 rw [List.take_succ_eq_append_getElem hi]
 unfold tupI
 rw [tups_snoc, List.map_flatMap, List.flatMap_map, e]
 congr 1
 funext t
 unfold extT
 rw [List.map_map]
 refine List.map_congr_left (fun s _ => ?_)
 simp [natI, Function.comp]
theorem flatT_take (n : Nat) {L : List (List Int)} {j : Nat} (h : j < L.length) : (L.take (j + 1)).flatMap (fun l => extT l n) = (L.take j).flatMap (fun l => extT l n) ++ extT L[j] n := by
 rw [List.take_succ_eq_append_getElem h, List.flatMap_append]; simp
theorem flatT_len (n : Nat) (L : List (List Int)) : (L.flatMap fun l => extT l n).length = L.length * n := by
 induction L with
 | nil => simp
 | cons x L ih =>
  simp only [List.flatMap_cons, List.length_append, List.length_cons, Nat.add_mul, extT_len, ih]
  omega
theorem tupI_el {ns : List Nat} : ∀ t ∈ tupI ns, t.length = ns.length := fun t ht => by
 obtain ⟨x, hx, rfl⟩ := List.mem_map.1 ht
 rw [natI_len]
 exact (tups_iff.1 hx).1
theorem tupI_len (ns : List Nat) : (tupI ns).length = (tupsF ns).length := by simp [tupI]
def LexN (x y : List Nat) : Prop := ∃ i, i < x.length ∧ i < y.length ∧ (∀ j, j < i → x.getD j 0 = y.getD j 0) ∧ x.getD i 0 < y.getD i 0
theorem LexN.ne {x y : List Nat} (h : LexN x y) : x ≠ y := by
 rintro rfl
 obtain ⟨i, _, _, _, h⟩ := h
 omega
theorem LexN.ext {x y : List Nat} (h : LexN x y) (a b : List Nat) : LexN (x ++ a) (y ++ b) := by
 obtain ⟨i, h1, h2, h3, h4⟩ := h
 have g : ∀ (z c : List Nat) (j : Nat), j < z.length → (z ++ c).getD j 0 = z.getD j 0 := fun z c j hj => by simp [List.getD, List.getElem?_append_left hj]
 refine ⟨i, by simp; omega, by simp; omega, fun j hj => ?_, ?_⟩
 · rw [g _ _ _ (by omega), g _ _ _ (by omega)]; exact h3 j hj
 · rw [g _ _ _ h1, g _ _ _ h2]; exact h4
theorem LexN.last (t : List Nat) {a b : Nat} (h : a < b) : LexN (t ++ [a]) (t ++ [b]) := by
 refine ⟨t.length, by simp, by simp, fun j hj => ?_, ?_⟩
 · simp [List.getD, List.getElem?_append_left hj]
 · simp [List.getD]; exact h
theorem tups_lex : ∀ (k : Nat) (ns : List Nat), ns.length = k → (tupsF ns).Pairwise LexN
 | 0, ns, h => by
  obtain rfl := List.length_eq_zero_iff.1 h
  exact List.pairwise_singleton _ _
 | k + 1, ns, h => by
  obtain ⟨ms, n, rfl⟩ : ∃ ms n, ns = ms ++ [n] := ⟨ns.dropLast, ns.getLast (by intro e; simp [e] at h), (List.dropLast_concat_getLast _).symm⟩
  have ih := tups_lex k ms (by simpa using h)
  rw [tups_snoc]
  refine List.pairwise_flatMap.2 ⟨fun t _ => ?_, ih.imp (fun {x y} hxy a ha b hb => ?_)⟩
  · rw [List.pairwise_map]
    exact List.pairwise_lt_range.imp (fun hab => LexN.last t hab)
  · obtain ⟨s, _, rfl⟩ := List.mem_map.1 ha
    obtain ⟨s', _, rfl⟩ := List.mem_map.1 hb
    exact hxy.ext _ _
theorem tups_nodup (ns : List Nat) : (tupsF ns).Nodup := List.nodup_iff_pairwise_ne.2 ((tups_lex _ ns rfl).imp fun h => h.ne)
structure TG (base : Nat) (w : World) (a : Option Addr) (k c : Nat) (gs : List Grp) : Prop where
 len : gs.length = k
 own : w.ownsRow base 31 1 (.slice a k c) k (gs.map Grp.v)
 el : ∀ g ∈ gs, SliceAt w 3 1 g.v g.l.length (gw g.l)
theorem TG.same {base : Nat} {w w' : World} {a : Option Addr} {k c : Nat} {gs : List Grp} (h : TG base w a k c gs) (hs : Same w w') : TG base w' a k c gs := ⟨h.len, owns_same h.own hs, fun g hg => (h.el g hg).same hs⟩
theorem TG.gs {base : Nat} {w : World} {a : Option Addr} {k c : Nat} {gs : List Grp} (h : TG base w a k c gs) : GsAt w (.slice a k c) k gs := ⟨(SliceAt.of_owns h.own).row, fun g hg => (h.el g hg).row⟩
theorem TG.nil (base : Nat) (w : World) : TG base w none 0 0 [] := ⟨rfl, World.ownsRow_nil _ _ _ _, by simp⟩
theorem TG.down {base base' : Nat} {w : World} {a : Option Addr} {k c : Nat} {gs : List Grp} (h : TG base w a k c gs) (hb : base' ≤ base) : TG base' w a k c gs := ⟨h.len, own_base h.own hb, h.el⟩
theorem TG.push {base : Nat} {w W w' : World} {a a' : Option Addr} {k c c' : Nat} {gs : List Grp} {g : Grp} (h : TG base w a k c gs) (hs : Same w W) (hg : SliceAt W 3 1 g.v g.l.length (gw g.l))
 (ho : w'.ownsRow base 31 1 (.slice a' (k + 1) c') (k + 1) (gs.map Grp.v ++ [g.v])) (hG : Grew (fun _ => False) W w' (.slice a k c) (.slice a' (k + 1) c')) : TG base w' a' (k + 1) c' (gs ++ [g]) := by
 have h2 := h.same hs
 have key : ∀ x : Grp, SliceAt W 3 1 x.v x.l.length (gw x.l) → SliceAt w' 3 1 x.v x.l.length (gw x.l) := fun x hx => hx.fr hG.1 (fun k cur hk hS => by
  rcases hS with hS | hS
  · obtain ⟨cur', e⟩ := own_block h2.own hS
    rw [e] at hk
    simp at hk
  · exact hS)
 refine ⟨by simp [h.len], by simpa using ho, fun x hx => ?_⟩
 rcases List.mem_append.1 hx with hx | hx
 · exact key x (h2.el x hx)
 · simp at hx; subst hx; exact key x hg
theorem info_iiT : (Tryz.prog.info? 31).map (fun i => (i.zero, i.size, i.bytes)) = some (some (.slice none 0 0), 1, 24) := by kernel_rfl
def TupE (base : Nat) (L : List (List Int)) (w : World) (e : Ending) (w' : World) : Prop :=
 ∃ a k c gs, e = .returned (.slice a k c) ∧ TG base w' a k c gs ∧ lst gs = L ∧ k = L.length ∧ Same w w'
theorem ltuples13 (N : Nw) (w : World) (hat : N.at w) (hn : ∀ k (hk : k < N.As.length), ∃ n : Nat, N.As[k].n = n ∧ n ≤ 1000 ∧ N.ns.getD k 0 = n) (hm : N.As.length ≤ 12) (hL : ∀ i, i ≤ N.As.length → (tupsF (N.ns.take i)).length ≤ 100000) :
 Calls Tryz.prog 19 #[.agg #[.slice N.aA N.As.length N.cA, .slice N.aO N.o.length N.cO]] w (TupE w.heap.size (tupI N.ns) w) := by
 obtain ⟨i3, hi3, hi3z, hi3s, hi3b⟩ := info_parts info3
 obtain ⟨j3, hj3, hj3z, hj3s, hj3b⟩ := info_parts info_iiT
 obtain ⟨m, hmm⟩ : ∃ m, m = N.As.length := ⟨_, rfl⟩
 have hlt : ∀ k, k < m → k < N.As.length := fun k h => hmm ▸ h
 have hrow := fun (k : Nat) (hk : k < m) W (hW : Same w W) => (hat.au.same hW).row (hlt k hk)
 obtain ⟨T, hT⟩ : ∃ T : Nat → List (List Int), T = fun i => tupI (N.ns.take i) := ⟨_, rfl⟩
 have hT0 : T 0 = [[]] := by rw [hT]; rfl
 have hTs : ∀ i, i < N.As.length → T (i + 1) = (T i).flatMap fun t => extT t (N.ns.getD i 0) := fun i hi => by rw [hT]; exact tupI_succ (by rw [N.ns_len]; exact hi)
 have hTl : ∀ i, i ≤ N.As.length → (T i).length ≤ 100000 := fun i hi => by rw [hT]; simp only; rw [tupI_len]; exact hL i hi
 have hTe : ∀ i, i ≤ N.As.length → ∀ t ∈ T i, t.length = i := fun i hi t ht => by
  rw [hT] at ht
  have := tupI_el t ht
  rw [List.length_take, N.ns_len] at this
  omega
 have hTm : tupI N.ns = T N.As.length := by rw [hT]; simp only; rw [List.take_of_length_le (by rw [N.ns_len]; exact Nat.le_refl _)]
 have CL := fun (o : List Int) (a : Option Addr) cap q W (hq : o.length = q) (hO : RowAt W (.slice a q cap) q (gw o)) (hl : q ≤ 1000000) => cloneI_any o a cap q W hq hO hl
 rw [hTm]
 clear hTm hT hat hL
 unfold CloneI at CL
 simp only [← hmm] at hrow hm hTs hTl hTe ⊢
 have hn2 : ∀ k (hk : k < m), ∃ n : Nat, (N.As[k]'(hlt k hk)).n = n ∧ n ≤ 1000 ∧ T (k + 1) = (T k).flatMap fun t => extT t n := fun k hk => by
  obtain ⟨n, h1, h2, h3⟩ := hn k (hlt k hk)
  exact ⟨n, h1, h2, by rw [hTs k hk, h3]⟩
 clear hn hTs
 generalize N.aA = aA at *
 generalize N.cA = cA at *
 generalize N.aO = aO at *
 generalize N.cO = cO at *
 generalize N.o.length = qo at *
 generalize N.As = As at *
 clear hmm
 unfold TupE
 replace hrow := gi hrow; replace hT0 := gi hT0; replace hTl := gi hTl; replace hTe := gi hTe; replace CL := gi CL; replace hlt := gi hlt; replace hn2 := gi hn2
 go_enter Tryz.func19, Tryz.ntmps19
 go_upto_region 1 with fail
 have kn := gv w (.cells #[.slice aA m cA, .slice aO qo cO] 36)
 have s0 : Same w (w.alloc (.cells #[.slice aA m cA, .slice aO qo cO] 36)) := fs2
 generalize w.alloc (.cells #[.slice aA m cA, .slice aO qo cO] 36) = W0 at *
 obtain ⟨bn, hbn⟩ : ∃ b, b = w.heap.size := ⟨_, rfl⟩
 rw [← hbn] at kn ⊢
 replace kn := gi kn; replace hbn := gi hbn
 obtain ⟨x0, x1, xl⟩ := g2l kn.out
 have hzn : bn ≤ W0.heap.size := by omega
 go_upto_region 2 with fail
 have h1 : (W0.alloc (.cells #[.slice none 0 0] 31)).ownsRow W0.heap.size 31 1 (.slice (some ⟨W0.heap.size, 0, none⟩) 1 1) 1 [.slice none 0 0] := own_of_block (gv _ _) (Nat.le_refl _) rfl rfl (by unfold maxLen; omega)
 have s1 : Same W0 (W0.alloc (.cells #[.slice none 0 0] 31)) := fs2
 have hT1 : TG bn (W0.alloc (.cells #[.slice none 0 0] 31)) (some ⟨W0.heap.size, 0, none⟩) 1 1 [⟨none, 0, []⟩] := ⟨rfl, own_base h1 hzn, fun g hg => by simp at hg; subst hg; exact SliceAt.nil _ _ _⟩
 generalize W0.heap.size = b0 at *
 generalize W0.alloc (.cells #[.slice none 0 0] 31) = W1 at *
 have hs1 := s0.same s1
 replace kn := gi (s1.at kn.out id)
 clear x0 x1 xl
 obtain ⟨x0, x1, xl⟩ := g2l kn.out
 clear h1 s1 s0
 replace hT1 := gi hT1; replace hs1 := gi hs1
 go_wp2_with fail
 clear x0 x1 xl
 go_loopw [3, 6, 8, 9, 14] (fun v3 _ _ _ v14 wr => ∃ (i k c : Nat) (a : Option Addr) (gs : List Grp), v14 = .int .i64 i ∧ i ≤ m ∧ v3 = .slice a k c ∧ TG bn wr a k c gs ∧ lst gs = T i ∧ Same w wr) (fun _ _ _ _ i _ => m - (intOf i).toNat)
 case atStart => exact ⟨0, 1, 1, _, [⟨none, 0, []⟩], rfl, by omega, rfl, hT1.out, by rw [hT0.out]; rfl, hs1.out⟩
 case round =>
  clear hT1
  obtain ⟨i, k, c, a, gs, rfl, hi, rfl, hG, hlv, hs⟩ := hrel
  have hk3 : k ≤ 100000 := by
   have h1 := hTl.out i hi
   rw [← hlv, lst_len, hG.len] at h1
   exact h1
  have hwo := hs.size
  by_cases him : i < m
  · obtain ⟨b1, off1, rfl, hb1, x0, x1, x2, x3⟩ := hrow.out i him _ hs
    obtain ⟨n, hn1, hn9, hLs⟩ := hn2.out i him
    have hl1 := hTl.out (i + 1) (by omega)
    have hTi := hTe.out i hi
    rw [hn1] at x1
    generalize As[i]'(hlt.out i him) = A at *
    clear hn1
    rw [← hlv] at hLs hTi
    have hgl : (lst gs).length = k := by rw [lst_len, hG.len]
    have hfl := flatT_len n (lst gs)
    rw [← hLs, hgl] at hfl
    rw [hfl] at hl1
    replace hG := gi hG; replace hlv := gi hlv; replace hs := gi hs; replace hLs := gi hLs; replace hgl := gi hgl; replace hTi := gi hTi
    go_upto_region 5 with fail
    have kb := gv wr (.cells #[.slice A.aA A.al.length A.cA, .int .i64 n, .slice A.aM A.ma.length A.cM, .slice A.aE A.es.length A.cE] 44)
    have s2 : Same wr (wr.alloc (.cells #[.slice A.aA A.al.length A.cA, .int .i64 n, .slice A.aM A.ma.length A.cM, .slice A.aE A.es.length A.cE] 44)) := fs2
    generalize wr.alloc (.cells #[.slice A.aA A.al.length A.cA, .int .i64 n, .slice A.aM A.ma.length A.cM, .slice A.aE A.es.length A.cE] 44) = wo at *
    generalize wr.heap.size = bb at *
    replace hG := gi (hG.out.same s2)
    have hs2 := hs.out.same s2
    have hwo := hs2.size
    clear s2 hs x0 x1 x2 x3
    replace kb := gi kb; replace hs2 := gi hs2
    go_wp2_with fail
    go_loopw [6, 8, 9, 20] (fun v6 _ _ v20 wr => ∃ (j k2 c2 : Nat) (a2 : Option Addr) (gs2 : List Grp), v20 = .int .i64 j ∧ j ≤ k ∧ v6 = .slice a2 k2 c2 ∧ TG wo.heap.size wr a2 k2 c2 gs2 ∧ lst gs2 = ((lst gs).take j).flatMap (fun l => extT l n) ∧ k2 = j * n ∧ Same wo wr) (fun _ _ _ j _ => k - (intOf j).toNat)
    case atStart => exact ⟨0, 0, 0, none, [], rfl, by omega, rfl, TG.nil _ _, by simp [lst], by simp, fs2⟩
    case round =>
     obtain ⟨j, k2, c2, a2, gs2, rfl, hj, rfl, hG2, hl2, hkn, hs3⟩ := hrel
     have hwm := hs3.size
     by_cases hjk : j < k
     · obtain ⟨wm, rfl⟩ : ∃ wm, wm = wr := ⟨_, rfl⟩
       have hjl : j < gs.length := by rw [hG.out.len]; exact hjk
       have hjl2 : j < (lst gs).length := by rw [hgl.out]; exact hjk
       have hRo : RowAt wo (.slice gs[j].a gs[j].l.length gs[j].cap) gs[j].l.length (gw gs[j].l) := hG.out.gs.2 _ (List.getElem_mem hjl)
       obtain ⟨b, off, rfl, hbl, c0, hR⟩ := (hG.out.gs.same hs3).get hjl
       have hft := flatT_take n hjl2
       rw [lst_get gs hjl] at hft
       have hk2 : k2 + n ≤ 100000 := by
        have h1 : (j + 1) * n ≤ k * n := Nat.mul_le_mul_right n hjk
        rw [Nat.add_mul] at h1
        omega
       have hll : gs[j].l.length = i := hTi.out _ (by rw [← lst_get gs hjl]; exact List.getElem_mem _)
       generalize gs[j] = g at *
       obtain ⟨ga, gc, gl⟩ := g
       simp only at c0 hR hft hll hRo
       rw [hll] at c0 hR hRo
       have kb2 := hs3.at kb.out id
       have y1 := gn kb2 1
       have yl := gu kb2
       replace hG2 := gi hG2; replace hl2 := gi hl2; replace hs3 := gi hs3; replace hft := gi hft; replace hll := gi hll; replace hR := gi hR; replace hRo := gi hRo; replace kb2 := gi kb2; replace hkn := gi hkn
       go_wp2_with fail
       clear y1 yl c0
       go_loopw [6, 9, 26] (fun v6 _ v26 wr => ∃ (v k3 c3 : Nat) (a3 : Option Addr) (gs3 : List Grp), v26 = .int .i64 v ∧ v ≤ n ∧ v6 = .slice a3 k3 c3 ∧ TG wo.heap.size wr a3 k3 c3 gs3 ∧ lst gs3 = ((lst gs).take j).flatMap (fun l => extT l n) ++ extT gl v ∧ k3 = k2 + v ∧ Same wo wr) (fun _ _ v _ => n - (intOf v).toNat)
       case atStart => exact ⟨0, k2, c2, a2, gs2, rfl, by omega, rfl, hG2.out, by rw [hl2.out, extT_zero, List.append_nil], by omega, hs3.out⟩
       case round =>
        obtain ⟨v, k3, c3, a3, gs3, rfl, hv, rfl, hG3, hl3, hk3', hs4⟩ := hrel
        have hR3 := hRo.out.same hs4
        have hwv := hs4.size
        by_cases hvn : v < n
        · have hss := extT_succ gl v
          have CLk := CL.out gl ga gc i wr hll.out hR3 (by omega)
          replace hG3 := gi hG3; replace hl3 := gi hl3; replace hs4 := gi hs4; replace hR3 := gi hR3; replace hss := gi hss; replace CLk := gi CLk; replace hk3' := gi hk3'
          have hk9 : k3 + 1 ≤ 100000 := by have := hk3'.out; omega
          go_wp2_with fail
          refine CLk.out.mono ?_
          rintro e w4 ⟨a4, c4, rfl, ho4, s4⟩
          have hz4 := s4.size
          replace ho4 := gi ho4; replace s4 := gi s4
          go_wp2_with (first
           | (at_builtin; refine wpList_append1 rfl (.tmp 31) (.tmp 33) 31 rfl wr.heap.size 3 i3 (.int .i64 0) 1 8 Tryz.underlying31 hi3 hi3z hi3s hi3b rfl (by decide) (by decide) a4 i c4 (gw gl) rfl (owns_same ho4.out fs2) (by omega) w4.heap.size [.int .i64 v] rfl rfl (gv _ _) (by simp [Value.oneCell']) (by simp; omega) ?_; intro a5 c5 w5 ho5 hG5; have hs6 : Same wr w5 := grew_fresh (s4.out.same fs2) hG5 (fun k hk => (ho4.out.lt k hk).1); replace ho5 := gi ho5; replace hs6 := gi hs6; clear hG5)
           | (at_builtin; refine wpList_append1 rfl (.tmp 29) (.tmp 35) 51 rfl wo.heap.size 31 j3 (.slice none 0 0) 1 24 Tryz.underlying51 hj3 hj3z hj3s hj3b rfl (by decide) (by decide) a3 k3 c3 (gs3.map Grp.v) rfl (owns_same hG3.out.own (hs6.out.same fs2)) (by omega) w5.heap.size [.slice a5 (i + 1) c5] rfl rfl (gv _ _) (by simp [Value.oneCell']) (by have := hs6.out.size; simp; omega) ?_; intro a6 c6 w6 ho6 hG6; replace ho6 := gi ho6; replace hG6 := gi hG6))
          have hg6 : SliceAt (w5.alloc (.cells #[.slice a5 (i + 1) c5] 31)) 3 1 (Grp.v ⟨a5, c5, gl ++ [(v : Int)]⟩) (gl ++ [(v : Int)]).length (gw (gl ++ [(v : Int)])) := by
           have := (SliceAt.of_owns ho5.out).same (show Same w5 (w5.alloc (.cells #[.slice a5 (i + 1) c5] 31)) from fs2)
           unfold Grp.v
           simp only [List.length_append, List.length_singleton, hll.out]
           simpa [gw] using this
          have hv6 : Grp.v ⟨a5, c5, gl ++ [(v : Int)]⟩ = .slice a5 (i + 1) c5 := by unfold Grp.v; simp [hll.out]
          have hWs : Same wr (w5.alloc (.cells #[.slice a5 (i + 1) c5] 31)) := hs6.out.alloc _
          have hG7 := TG.push (g := ⟨a5, c5, gl ++ [(v : Int)]⟩) hG3.out hWs hg6 (by rw [hv6]; exact ho6.out) hG6.out
          have hs7 : Same wo w6 := grew_fresh (hs4.out.same hWs) hG6.out (fun k hk => (hG3.out.own.lt k hk).1)
          replace hG7 := gi hG7; replace hs7 := gi hs7
          clear ho4 ho5 ho6 hG6 s4 hs6 hg6 hv6 hWs
          go_roundw
          case rel => exact ⟨v + 1, k3 + 1, c6, a6, _, by go_num, by omega, rfl, hG7.out, by rw [lst, List.map_append, ← lst, hl3.out, hss.out, List.append_assoc]; rfl, by have := hk3'.out; omega, hs7.out⟩
          case measure => simp [intOf]; omega
        · obtain rfl : v = n := by omega
          replace hG3 := gi hG3; replace hl3 := gi hl3; replace hs4 := gi hs4; replace hR3 := gi hR3
          go_wp2_with fail
          go_roundw
          case rel => exact ⟨j + 1, k3, c3, a3, gs3, by go_num, by omega, rfl, hG3.out, by rw [hl3.out, hft.out], by rw [hk3', hkn.out, Nat.add_mul]; omega, hs4.out⟩
          case measure => simp [intOf]; omega
     · obtain rfl : j = k := by omega
       rw [List.take_of_length_le (by rw [hgl.out]; exact Nat.le_refl _)] at hl2
       replace hG2 := gi hG2; replace hl2 := gi hl2; replace hs3 := gi hs3
       go_wp2_with fail
       go_roundw
       case rel => exact ⟨i + 1, k2, c2, a2, gs2, by go_num, by omega, rfl, hG2.out.down (by have := hbn.out; omega), by rw [hl2.out, hLs.out], hs2.out.same hs3.out⟩
       case measure => simp [intOf]; omega
  · obtain rfl : i = m := by omega
    replace hG := gi hG; replace hlv := gi hlv; replace hs := gi hs
    go_wp2_with fail
    go_ret
    exact ⟨a, k, c, gs, rfl, by rw [← hbn.out]; exact hG.out, hlv.out, by rw [← hlv.out, lst_len, hG.out.len], hs.out⟩
end Go.Proofs.YtcipnkemnepbaaaGreat
namespace Go.Proofs.YtcipnkemnepbaaaGreat
open Go.Shelf Go.RowKit Go.Lib Go.Sort
end Go.Proofs.YtcipnkemnepbaaaGreat
namespace Go.Proofs
open Go.Shelf
shelf_lay_g SlLaysF.n6 Slsf 6 at Tryz 55 as Tryz.sortLs
end Go.Proofs
namespace Go.Proofs.YtcipnkemnepbaaaGreat
open Go.Shelf Go.RowKit Go.Lib Go.Sort
def cmpL : List Int → List Int → Int
 | [], [] => 0
 | [], _ :: _ => -1
 | _ :: _, [] => 1
 | x :: l, y :: k => if Lib.compareInt x y ≠ 0 then Lib.compareInt x y else cmpL l k
theorem cmp3 (x y : Int) : x < y ∧ Lib.compareInt x y = -1 ∨ x = y ∧ Lib.compareInt x y = 0 ∨ y < x ∧ Lib.compareInt x y = 1 := by
 unfold Lib.compareInt
 rcases (show x < y ∨ x = y ∨ y < x by omega) with h | h | h
 · exact .inl ⟨h, by simp [h]⟩
 · exact .inr (.inl ⟨h, by simp [h]⟩)
 · exact .inr (.inr ⟨h, by simp [h, show ¬ x < y by omega]⟩)
theorem cmpL_self : ∀ x : List Int, cmpL x x = 0
 | [] => rfl
 | x :: l => by
  unfold cmpL
  rw [if_neg (by have := cmp3 x x; omega)]
  exact cmpL_self l
theorem cmpL_neg : ∀ x y : List Int, cmpL y x = - cmpL x y
 | [], [] => rfl
 | [], _ :: _ => rfl
 | _ :: _, [] => rfl
 | x :: l, y :: k => by
  have h := cmpL_neg l k
  unfold cmpL
  have h1 := cmp3 x y
  have h2 := cmp3 y x
  by_cases he : x = y
  · rw [if_neg (by omega), if_neg (by omega), h]
  · rw [if_pos (by omega), if_pos (by omega)]
    omega
theorem cmpL_eq : ∀ x y : List Int, cmpL x y = 0 → x = y
 | [], [], _ => rfl
 | [], _ :: _, h => by simp [cmpL] at h
 | _ :: _, [], h => by simp [cmpL] at h
 | x :: l, y :: k, h => by
  unfold cmpL at h
  have h1 := cmp3 x y
  split at h
  · omega
  · have := cmpL_eq l k h
    rw [this, show x = y by omega]
theorem cmpL_trans : ∀ x y z : List Int, cmpL x y < 0 → cmpL y z < 0 → cmpL x z < 0
 | [], [], _, h, _ => by simp [cmpL] at h
 | [], _ :: _, [], _, h => by simp [cmpL] at h
 | [], _ :: _, _ :: _, _, _ => by simp [cmpL]
 | _ :: _, [], _, h, _ => by simp [cmpL] at h
 | _ :: _, _ :: _, [], _, h => by simp [cmpL] at h
 | x :: l, y :: k, z :: m, h1, h2 => by
  have ih := cmpL_trans l k m
  unfold cmpL at h1 h2 ⊢
  have a1 := cmp3 x y
  have a2 := cmp3 y z
  have a3 := cmp3 x z
  by_cases b1 : x = y
  · by_cases b2 : y = z
    · rw [if_neg (by omega)] at h1 h2 ⊢
      exact ih h1 h2
    · rw [if_neg (by omega)] at h1
      rw [if_pos (by omega)] at h2
      rw [if_pos (by omega)]
      omega
  · rw [if_pos (by omega)] at h1
    by_cases b2 : y = z
    · rw [if_pos (by omega)]
      omega
    · rw [if_pos (by omega)] at h2
      rw [if_pos (by omega)]
      omega
theorem cmpL_step {x y : List Int} {j : Nat} (h1 : j < x.length) (h2 : j < y.length) : cmpL (x.drop j) (y.drop j) = if Lib.compareInt (x.getD j 0) (y.getD j 0) ≠ 0 then Lib.compareInt (x.getD j 0) (y.getD j 0) else cmpL (x.drop (j + 1)) (y.drop (j + 1)) := by
 rw [List.drop_eq_getElem_cons h1, List.drop_eq_getElem_cons h2, cmpL]
 simp [List.getD, h1, h2]
theorem cmpL_more {x y : List Int} {j : Nat} (h1 : j < x.length) (h2 : y.length ≤ j) : cmpL (x.drop j) (y.drop j) = 1 := by
 rw [List.drop_eq_getElem_cons h1, List.drop_of_length_le h2]; rfl
theorem cmpL_less {x y : List Int} {j : Nat} (h1 : x.length ≤ j) (h2 : j < y.length) : cmpL (x.drop j) (y.drop j) = -1 := by
 rw [List.drop_eq_getElem_cons h2, List.drop_of_length_le h1]; rfl
theorem cmpL_end {x y : List Int} {j : Nat} (h1 : x.length ≤ j) (h2 : y.length ≤ j) : cmpL (x.drop j) (y.drop j) = 0 := by
 rw [List.drop_of_length_le h1, List.drop_of_length_le h2]; rfl
theorem lex_cmp : ∀ {x y : List Nat}, LexN x y → cmpL (natI x) (natI y) < 0
 | [], _, h => by obtain ⟨i, h1, _⟩ := h; simp at h1
 | _ :: _, [], h => by obtain ⟨i, _, h1, _⟩ := h; simp at h1
 | a :: x, b :: y, h => by
  obtain ⟨i, h1, h2, h3, h4⟩ := h
  show cmpL ((a : Int) :: natI x) ((b : Int) :: natI y) < 0
  unfold cmpL
  have hc := cmp3 (a : Int) (b : Int)
  cases i with
  | zero =>
   simp only [List.getD_cons_zero] at h4
   rw [if_pos (by omega)]
   omega
  | succ i =>
   have h0 := h3 0 (by omega)
   simp only [List.getD_cons_zero] at h0
   rw [if_neg (by omega)]
   refine lex_cmp ⟨i, by simpa using h1, by simpa using h2, fun j hj => ?_, by simpa using h4⟩
   have := h3 (j + 1) (by omega)
   simpa using this
theorem compareL (x y : List Int) (qx qy : Nat) (hx : x.length = qx) (hy : y.length = qy) (a b : Option Addr) (c d : Nat) (W : World) (k1 : RowAt W (.slice a qx c) qx (gw x)) (k2 : RowAt W (.slice b qy d) qy (gw y)) :
 Calls Tryz.prog 56 #[.slice a qx c, .slice b qy d] W fun e w' => e = .returned (.int .i64 (cmpL x y)) ∧ w' = W := by
 have hx9 : qx ≤ maxLen := by obtain ⟨_, a9, c9, he9, h8, h9, _⟩ := k1; omega
 have hy9 : qy ≤ maxLen := by obtain ⟨_, a9, c9, he9, h8, h9, _⟩ := k2; omega
 unfold maxLen at hx9 hy9
 have X := fun (j : Nat) (hj : j < qx) => (show ∃ b off, a = some ⟨b, off, none⟩ ∧ b < W.heap.size ∧ W.cell? ⟨b, off + j, none⟩ = some (.int .i64 (x.getD j 0)) from k1.ints hj)
 have Y := fun (j : Nat) (hj : j < qy) => (show ∃ b' off, b = some ⟨b', off, none⟩ ∧ b' < W.heap.size ∧ W.cell? ⟨b', off + j, none⟩ = some (.int .i64 (y.getD j 0)) from k2.ints hj)
 have S := fun (j : Nat) (h1 : j < qx) (h2 : j < qy) => cmpL_step (x := x) (y := y) (j := j) (by omega) (by omega)
 have M := fun (j : Nat) (h1 : j < qx) (h2 : qy ≤ j) => cmpL_more (x := x) (y := y) (j := j) (by omega) (by omega)
 have L := fun (h2 : qx < qy) => cmpL_less (x := x) (y := y) (j := qx) (by omega) (by omega)
 have E := fun (h2 : qy ≤ qx) => cmpL_end (x := x) (y := y) (j := qx) (by omega) (by omega)
 have e0 : cmpL x y = cmpL (x.drop 0) (y.drop 0) := by simp
 have CI := fun (u v : Int) W => cmp_int u v W
 rw [e0]
 obtain ⟨R, hR⟩ : ∃ R : Nat → Int, R = fun j => cmpL (x.drop j) (y.drop j) := ⟨_, rfl⟩
 have hR' : ∀ j, cmpL (x.drop j) (y.drop j) = R j := fun j => by rw [hR]
 simp only [hR'] at S M L E ⊢
 clear k1 k2 hR hR' e0
 generalize x.getD = gx at *
 generalize y.getD = gy at *
 clear hx hy
 replace X := gi X; replace Y := gi Y; replace S := gi S; replace M := gi M; replace L := gi L; replace E := gi E; replace CI := gi CI
 go_enter Tryz.func56, Tryz.ntmps56
 go_wp2_with fail
 go_loopw [11] (fun i wr => ∃ j : Nat, i = .int .i64 j ∧ j ≤ qx ∧ j ≤ qy ∧ R j = R 0 ∧ wr = W) (fun i _ => qx - (intOf i).toNat)
 case atStart => exact ⟨0, rfl, by omega, by omega, by trivial, by trivial⟩
 case round =>
  obtain ⟨j, rfl, hj, hj2, hRj, rfl⟩ := hrel
  by_cases h1 : j < qx
  · obtain ⟨b1, o1, rfl, l1, c1⟩ := X.out j h1
    by_cases h2 : j < qy
    · obtain ⟨b2, o2, rfl, l2, c2⟩ := Y.out j h2
      have Sj := S.out j h1 h2
      have CJ := fun W => CI.out (gx j 0) (gy j 0) W
      generalize gx j 0 = u at *
      generalize gy j 0 = v at *
      generalize Lib.compareInt u v = r at *
      have h3 : ((qy : Int) ≤ j) = False := by simp; omega
      have h3' : ¬ qy ≤ j := by omega
      replace Sj := gi Sj; replace CJ := gi CJ; replace hRj := gi hRj
      go_wp2_with fail
      refine (CJ.out _).mono ?_
      rintro e w1 ⟨rfl, rfl⟩
      by_cases h0 : r = 0
      · subst h0
        have S2 := Sj.out
        rw [if_neg (by simp)] at S2
        clear h3 h3'
        go_wp2_with fail
        go_roundw
        case rel => exact ⟨j + 1, by simp, by omega, by omega, by rw [← S2]; exact hRj.out, by trivial⟩
        case measure => simp [intOf]; omega
      · have h0' : (r == 0) = false := by simpa using h0
        have S2 := Sj.out
        rw [if_pos h0, hRj.out] at S2
        replace h0 := gi h0; replace S2 := gi S2
        go_wp2_with fail
        go_ret
        exact ⟨by rw [S2.out]; rfl, rfl⟩
    · have Mj := M.out j h1 (by omega)
      rw [hRj] at Mj
      have h3 : ((qy : Int) ≤ j) = True := by simp; omega
      have h3' : qy ≤ j := by omega
      replace Mj := gi Mj; replace hRj := gi hRj
      go_wp2_with fail
      go_ret
      exact ⟨by rw [Mj.out]; rfl, rfl⟩
  · obtain rfl : j = qx := by omega
    by_cases h2 : j < qy
    · have Lj := L.out h2
      rw [hRj] at Lj
      replace Lj := gi Lj; replace hRj := gi hRj
      go_wp2_with fail
      go_ret
      exact ⟨by rw [Lj.out]; rfl, rfl⟩
    · have Ej := E.out (by omega)
      rw [hRj] at Ej
      replace Ej := gi Ej; replace hRj := gi hRj
      go_wp2_with fail
      go_ret
      exact ⟨by rw [Ej.out]; rfl, rfl⟩
theorem enter_cmpL (args : Array Value) (W : World) : (callFunc 56 args).run Tryz.prog W = .ok (.enter 56 args) W := by kernel_rfl
def cfI (gs : List Grp) (i j : Fin gs.length) : Int := cmpL gs[i].l gs[j].l
def encI (gs : List Grp) (i : Fin gs.length) : Value := gs[i].v
theorem cfI_swo (gs : List Grp) : SWO (ltOf (cfI gs)) where
 irrefl x := by unfold ltOf cfI; rw [cmpL_self]; simp
 trans x y z h1 h2 := by
  unfold ltOf cfI at *
  simp only [decide_eq_true_eq] at *
  exact cmpL_trans _ _ _ h1 h2
 ntrans x y z h1 h2 := by
  unfold ltOf cfI at *
  simp only [decide_eq_false_iff_not] at *
  intro h3
  have n1 := cmpL_neg gs[x].l gs[y].l
  have n2 := cmpL_neg gs[y].l gs[z].l
  have n3 := cmpL_neg gs[x].l gs[z].l
  by_cases e1 : cmpL gs[x].l gs[y].l = 0
  · rw [cmpL_eq _ _ e1] at h3
    exact h2 h3
  · have := cmpL_trans gs[y].l gs[x].l gs[z].l (by omega) h3
    exact h2 this
theorem putI_get {gs : List Grp} (cur : Array Value) (d : Array (Fin gs.length)) [Inhabited (Fin gs.length)] (hd : d.size ≤ cur.size) : (putCells (encI gs) 0 d cur).toList.take d.size = (d.toList.map fun i => gs[i]).map Grp.v := by
 rw [List.map_map]
 apply List.ext_getElem?
 intro j
 by_cases hj : j < d.size
 · rw [List.getElem?_take_of_lt hj, Array.getElem?_toList]
   simp [putCells, hj, show j < cur.size by omega, encI]
 · rw [List.getElem?_take_eq_none (by omega), List.getElem?_eq_none (by simp; omega)]
theorem heapI {gs : List Grp} [Inhabited (Fin gs.length)] {w : World} {g n : Nat} {os : Array Obj} {cur : Array Value} {e : TypeId} (d : Array (Fin gs.length)) (hb : w.heap[g]? = some (.cells cur e (0, 0))) :
 (sortWorld (encI gs) w g 0 n d os).heap[g]? = some (.cells (putCells (encI gs) 0 d cur) e (0, 0)) := by
 have hg : g < w.heap.size := (Array.getElem?_eq_some_iff.1 hb).1
 unfold sortWorld
 rw [heap_grow_old _ _ (by simpa using hg)]
 simp [putRow, mapBlock, Sort.ahead, Array.getElem?_modify, hb, onCells]
theorem grownI {gs : List Grp} [Inhabited (Fin gs.length)] {w : World} {g n : Nat} {os : Array Obj} (d : Array (Fin gs.length)) : w.grownBy (sortWorld (encI gs) w g 0 n d os) (some g) := by
 unfold sortWorld
 refine ⟨rfl, rfl, rfl, by simp, fun k hk hne => ?_⟩
 rw [heap_grow_old _ _ (by simpa using hk)]
 have : g ≠ k := fun e => hne (by rw [e])
 simp [putRow, mapBlock, Sort.ahead, Array.getElem?_modify, this]
theorem frI {gs : List Grp} [Inhabited (Fin gs.length)] {w : World} {g n : Nat} {os : Array Obj} (d : Array (Fin gs.length)) : Fr (fun k => k = g) w (sortWorld (encI gs) w g 0 n d os) := by
 have hs := grownI (w := w) (g := g) (n := n) (os := os) d
 exact ⟨hs.os, hs.tape, hs.output, hs.size, fun k hk hkg => hs.block k hk (by simp; omega)⟩
theorem holdsI {gs : List Grp} [Inhabited (Fin gs.length)] {w : World} {g : Nat} {cur : Array Value} {e : TypeId} (hb : w.heap[g]? = some (.cells cur e (0, 0))) (ht : cur.toList.take gs.length = gs.map Grp.v) : Holds (encI gs) w g 0 (List.finRange gs.length).toArray := by
 intro j hj
 have hj' : j < gs.length := by simpa using hj
 refine ⟨?_, by simp [World.frozen?, hb]⟩
 have h1 : (cur.toList.take gs.length)[j]? = (gs.map Grp.v)[j]? := by rw [ht]
 rw [List.getElem?_take_of_lt hj'] at h1
 simp only [World.cell?, hb, Nat.zero_add]
 simp only [Option.isSome_none, Bool.false_eq_true, if_false]
 rw [← Array.getElem?_toList, h1]
 simp [hj', encI]
theorem grpv_one (g : Grp) : g.v.oneCell' = true := rfl
theorem sort_tg (gs : List Grp) (T : List (List Int)) (base k c : Nat) (a : Option Addr) (w : World) (h : TG base w a k c gs) (hk : k < 1000000) (hp : (lst gs).Perm T) (hT : T.Pairwise fun x y => cmpL x y < 0) :
 Calls Tryz.prog 55 #[.slice a k c, .func (.func 56) #[] #[]] w fun e w' => e = .returned (.tuple #[]) ∧
  ∃ gs', lst gs' = T ∧ TG base w' a k c gs' ∧ Grew (fun _ => False) w w' (.slice a k c) (.slice a k c) := by
 have hlen := h.len
 subst hlen
 rcases h.own.2 with ⟨hnil, hz⟩ | ⟨g, c', cur, he, hbase, hb, h1, h2, h3, h4⟩
 · simp only [Value.slice.injEq] at hnil
   obtain ⟨rfl, _, rfl⟩ := hnil
   have hz0 : gs = [] := List.length_eq_zero_iff.1 hz
   subst hz0
   refine (show Calls Tryz.prog 55 _ w _ from AnyF.slices_SortFunc_none { Tryz.sortLs with } none 0 (.func (.func 56) #[] #[]) w).mono ?_
   rintro e w' ⟨rfl, rfl⟩
   have hT0 : T = [] := by simpa [lst] using hp
   exact ⟨rfl, [], by rw [hT0]; rfl, h, Grew.refl _ _ _⟩
 · cases he
   by_cases hn0 : gs.length = 0
   · have hz0 : gs = [] := List.length_eq_zero_iff.1 hn0
     subst hz0
     refine (show Calls Tryz.prog 55 _ w _ from AnyF.slices_SortFunc_none { Tryz.sortLs with } (some ⟨g, 0, none⟩) c (.func (.func 56) #[] #[]) w).mono ?_
     rintro e w' ⟨rfl, rfl⟩
     have hT0 : T = [] := by simpa [lst] using hp
     exact ⟨rfl, [], by rw [hT0]; rfl, h, Grew.refl _ _ _⟩
   · letI : Inhabited (Fin gs.length) := ⟨⟨0, by omega⟩⟩
     have hd : (List.finRange gs.length).toArray.size = gs.length := by simp
     have hnd : (lst gs).Nodup := hp.nodup_iff.2 (List.nodup_iff_pairwise_ne.2 (hT.imp fun {x y} hxy e => by rw [e, cmpL_self] at hxy; omega))
     have hel : ∀ x ∈ gs, ∀ W, Fr (fun k => k = g) w W → SliceAt W 3 1 x.v x.l.length (gw x.l) := fun x hx W hf => (h.el x hx).fr hf (fun i cur' hi e => by
      rw [show i = g from e, hb] at hi
      simp at hi)
     have hcmp : CmpLays1 Tryz.prog 56 #[] (encI gs) (cfI gs) g 0 (List.finRange gs.length).toArray.size w := by
      intro m os dk hdk x y
      have f := frI (w := w) (g := g) (n := m) (os := os) dk
      have kx := (hel gs[x] (List.getElem_mem _) _ f).row
      have ky := (hel gs[y] (List.getElem_mem _) _ f).row
      refine (compareL gs[x].l gs[y].l _ _ rfl rfl gs[x].a gs[y].a gs[x].cap gs[y].cap _ kx ky).mono ?_
      rintro e w' ⟨rfl, rfl⟩
      exact ⟨rfl, 0, #[], by rw [grow_empty]; rfl⟩
     have SF := Any.slices_SortFunc_total Tryz.sortLs (encI gs) (fun x => grpv_one _) (cfI gs) (cfI_swo gs) 56 #[] g 0 c (List.finRange gs.length).toArray w enter_cmpL hcmp (holdsI hb (by simpa using h4)) (gu hb) (by rw [hd]; omega) (fun x y e1 e2 => by
      unfold ltOf cfI at e1 e2
      simp only [decide_eq_false_iff_not] at e1 e2
      have n1 := cmpL_neg gs[x].l gs[y].l
      have e3 := cmpL_eq gs[x].l gs[y].l (by omega)
      have hne := List.pairwise_iff_getElem.1 (List.nodup_iff_pairwise_ne.1 hnd)
      have key : ∀ u v : Fin gs.length, gs[u].l = gs[v].l → ¬ u.val < v.val := fun u v e hlt => hne u.val v.val (by rw [lst_len]; exact u.isLt) (by rw [lst_len]; exact v.isLt) hlt (by rw [lst_get gs u.isLt, lst_get gs v.isLt]; exact e)
      have k1 := key x y e3
      have k2 := key y x e3.symm
      exact Fin.ext (by omega))
     rw [hd] at SF
     refine SF.mono ?_
     rintro e w' ⟨rfl, n, os, rfl⟩
     obtain ⟨D, hD⟩ : ∃ D, D = (List.finRange gs.length).mergeSort fun x y => !(ltOf (cfI gs)) y x := ⟨_, rfl⟩
     have hDp : D.Perm (List.finRange gs.length) := hD ▸ List.mergeSort_perm _ _
     have hDs : D.Pairwise fun x y => (!(ltOf (cfI gs)) y x) = true := by
      rw [hD]
      refine List.pairwise_mergeSort (fun a b c q1 q2 => ?_) (fun a b => ?_) _
      · simp only [Bool.not_eq_true'] at *
        exact (cfI_swo gs).ntrans _ _ _ q2 q1
      · unfold ltOf cfI
        have n1 := cmpL_neg gs[a].l gs[b].l
        simp only [Bool.or_eq_true, Bool.not_eq_true', decide_eq_false_iff_not]
        omega
     have hDl : D.length = gs.length := by rw [hDp.length_eq]; simp
     have hgp : (D.map fun i => gs[i]).Perm gs := by
      have h5 := hDp.map (fun i : Fin gs.length => gs[i])
      have h6 : ((List.finRange gs.length).map fun i : Fin gs.length => gs[i]) = gs := by
       apply List.ext_getElem
       · simp
       · intro i h1 h2; simp
      rwa [h6] at h5
     have hout : lst (D.map fun i => gs[i]) = T := by
      refine List.Perm.eq_of_pairwise (le := fun x y => cmpL y x ≥ 0) (fun x y _ _ q1 q2 => ?_) ?_ (hT.imp fun {x y} q => by have := cmpL_neg x y; omega) ((hgp.map Grp.l).trans hp)
      · have n1 := cmpL_neg x y
        exact cmpL_eq _ _ (by omega)
      · unfold lst
        rw [List.map_map, List.pairwise_map]
        refine hDs.imp (fun {x y} q => ?_)
        unfold ltOf cfI at q
        simp only [Bool.not_eq_true', decide_eq_false_iff_not] at q
        show cmpL gs[y].l gs[x].l ≥ 0
        omega
     rw [← hD]
     have hcs : gs.length ≤ cur.size := by
      have := congrArg List.length h4
      simp at this
      omega
     have hput := putI_get (gs := gs) cur D.toArray (by simp [hDl]; exact hcs)
     refine ⟨rfl, D.map fun i => gs[i], hout, ⟨by simp [hDl], ⟨by simp [hDl], .inr ⟨g, c, _, rfl, hbase, heapI _ hb, h1, h2, by simp [putCells, h3], ?_⟩⟩, fun x hx => hel x (hgp.mem_iff.1 hx) _ (frI _)⟩, (Fr.refl _ _).grown (grownI _) (fun k hk _ => .inl (by rw [← hk]; rfl)), fun k hk => .inl hk⟩
     simp only [Nat.mul_one]
     rw [← hput]
     simp [hDl]
end Go.Proofs.YtcipnkemnepbaaaGreat
