/- package relation: FromPairs, Identity walked. package relation: checkBoth, Image, Preimage walked. package relation: checkBoth, step, Image, Preimage walked. package relation: gathered walked. Plain: image, preimage, composition on tables; gathered. Plain: tables by assignments; what Exists, Rename and And make of them; the image. Plain: the pairs of a relation's table, in order. -/
import Derived.Test.YtknlkcfnfjchdaaGreatJRelF
namespace Go.Proofs.YtknlkcfnfjchdaaGreat
open Go.RowKit
set_option linter.unusedVariables false
set_option linter.unusedSimpArgs false

def prsT (b : Nat) (p : Nat → Nat → Bool) : List (Nat × Nat) := (List.range b).flatMap fun x => ((List.range b).filter fun y => p x y).map fun y => (x, y)
theorem prs_mem {b : Nat} {p : Nat → Nat → Bool} {q : Nat × Nat} : q ∈ prsT b p ↔ q.1 < b ∧ q.2 < b ∧ p q.1 q.2 = true := by
  unfold prsT
  simp only [List.mem_flatMap, List.mem_range, List.mem_map, List.mem_filter]
  constructor
  · rintro ⟨x, hx, y, ⟨hy, hp⟩, rfl⟩
    exact ⟨hx, hy, hp⟩
  · rintro ⟨h1, h2, h3⟩
    exact ⟨q.1, h1, q.2, ⟨h2, h3⟩, rfl⟩
def lexB (x y : Nat × Nat) : Prop := x.1 < y.1 ∨ x.1 = y.1 ∧ x.2 < y.2
theorem prs_sorted (b : Nat) (p : Nat → Nat → Bool) : (prsT b p).Pairwise lexB := by
  unfold prsT
  rw [List.pairwise_flatMap]
  refine ⟨fun x _ => ?_, ?_⟩
  · rw [List.pairwise_map]
    refine List.Pairwise.imp (fun {a b} h => Or.inr ⟨rfl, h⟩) (List.Pairwise.filter _ (List.pairwise_lt_range))
  · refine List.Pairwise.imp (fun {x y} h => ?_) List.pairwise_lt_range
    intro u hu v hv
    obtain ⟨_, _, rfl⟩ := List.mem_map.1 hu
    obtain ⟨_, _, rfl⟩ := List.mem_map.1 hv
    exact Or.inl h
theorem lex_ne {x y : Nat × Nat} (h : lexB x y) : x ≠ y := by
  rintro rfl
  unfold lexB at h
  omega
theorem prs_nodup (b : Nat) (p : Nat → Nat → Bool) : (prsT b p).Nodup := (prs_sorted b p).imp lex_ne
theorem posT_nodup (t : List Bool) (b : Nat) : (posT t b).Nodup := (posT_sorted t b).imp (fun h => by omega)
theorem prs_perm (b : Nat) {t : List Bool} (ht : t.length = 2 ^ (2 * b)) : ((posT t 0).map fun i => (ux b i, uy b i)).Perm (prsT (2 ^ b) fun x y => t.getD (wv b x y) false) := by
  have hmem : ∀ i, i ∈ posT t 0 ↔ i < 2 ^ (2 * b) ∧ t.getD i false = true := fun i => by rw [posT_mem]; simp [ht]
  rw [List.perm_ext_iff_of_nodup ?_ (prs_nodup _ _)]
  · intro q
    rw [prs_mem, List.mem_map]
    constructor
    · rintro ⟨i, hi, rfl⟩
      obtain ⟨h1, h2⟩ := (hmem i).1 hi
      exact ⟨ux_lt b i, uy_lt b i, by simp only; rw [wv_u b i h1]; exact h2⟩
    · rintro ⟨h1, h2, h3⟩
      exact ⟨wv b q.1 q.2, (hmem _).2 ⟨wv_lt b _ _, h3⟩, by rw [ux_wv b _ _ h1, uy_wv b _ _ h2]⟩
  · unfold List.Nodup
    rw [List.pairwise_map]
    refine List.Pairwise.imp_of_mem (fun {i j} hi hj h e => h ?_) (posT_nodup t 0)
    have e1 := wv_u b i ((hmem i).1 hi).1
    have e2 := wv_u b j ((hmem j).1 hj).1
    rw [Prod.mk.injEq] at e
    rw [← e1, ← e2, e.1, e.2]
/-- A relation within the states' domain has all its pairs below n. -/
theorem prs_dom {b n : Nat} {p : Nat → Nat → Bool} (hn : n ≤ b) (h : ∀ x y, x < b → y < b → p x y = true → x < n ∧ y < n) : prsT b p = prsT n p := by
  refine List.Perm.eq_of_pairwise (le := lexB) (fun x y _ _ h1 h2 => ?_) (prs_sorted _ _) (prs_sorted _ _) ?_
  · unfold lexB at h1 h2; omega
  · rw [List.perm_ext_iff_of_nodup (prs_nodup _ _) (prs_nodup _ _)]
    intro q
    rw [prs_mem, prs_mem]
    constructor
    · rintro ⟨h1, h2, h3⟩
      obtain ⟨h4, h5⟩ := h _ _ h1 h2 h3
      exact ⟨h4, h5, h3⟩
    · rintro ⟨h1, h2, h3⟩
      exact ⟨by omega, by omega, h3⟩
end Go.Proofs.YtknlkcfnfjchdaaGreat
namespace Go.Proofs.YtknlkcfnfjchdaaGreat
open Go.RowKit
set_option linter.unusedVariables false
set_option linter.unusedSimpArgs false

def evT (n : Nat) (t : List Bool) (ρ : Nat → Bool) : Bool := t.getD (placeF ρ n 0) false
theorem place_cong {ρ σ : Nat → Bool} : ∀ n, (∀ v, v < n → ρ v = σ v) → placeF ρ n 0 = placeF σ n 0
  | 0, _ => rfl
  | n + 1, h => by
    rw [placeF_snoc, placeF_snoc, place_cong n (fun v hv => h v (by omega)), Nat.zero_add, h n (by omega)]
theorem evT_cong {n : Nat} {t : List Bool} {ρ σ : Nat → Bool} (h : ∀ v, v < n → ρ v = σ v) : evT n t ρ = evT n t σ := by unfold evT; rw [place_cong n h]
theorem place_bit {n i : Nat} (hi : i < 2 ^ n) : placeF (bitF n i) n 0 = i := by rw [bit_place n 0 n i (by omega), Nat.mod_eq_of_lt hi]
theorem bit_of {ρ : Nat → Bool} : ∀ {n v : Nat}, v < n → bitF n (placeF ρ n 0) v = ρ v
  | 0, v, h => by omega
  | n + 1, v, h => by
    rw [placeF_snoc, Nat.zero_add]
    unfold bitF
    by_cases hv : v = n
    · subst hv
      simp only [Nat.add_sub_cancel, Nat.sub_self, Nat.pow_zero, Nat.div_one]
      by_cases hr : ρ v = true <;> simp [hr] <;> omega
    · have ih := bit_of (ρ := ρ) (n := n) (v := v) (by omega)
      unfold bitF at ih
      rw [← ih]
      have e : n + 1 - 1 - v = (n - 1 - v) + 1 := by omega
      have e2 : (2 * placeF ρ n 0 + if ρ n = true then 1 else 0) / 2 = placeF ρ n 0 := by split <;> omega
      rw [e, Nat.pow_succ, Nat.mul_comm (2 ^ (n - 1 - v)) 2, ← Nat.div_div_eq_div_mul, e2]
theorem evT_get {n : Nat} {t : List Bool} {i : Nat} (hi : i < 2 ^ n) : t.getD i false = evT n t (bitF n i) := by unfold evT; rw [place_bit hi]
theorem evT_ext {n : Nat} {t u : List Bool} (ht : t.length = 2 ^ n) (hu : u.length = 2 ^ n) (h : ∀ ρ, evT n t ρ = evT n u ρ) : t = u :=
  ext_getD ht hu (fun i hi => by rw [evT_get hi, evT_get hi]; exact h _)
theorem evT_tb (n : Nat) (p : Nat → Bool) (ρ : Nat → Bool) : evT n (tbF n p) ρ = p (placeF ρ n 0) := tbF_get n p (placeF_lt ρ n 0)
theorem evT_ren {f : Nat → Int} {n m : Nat} {t : List Bool} (hf : ∀ v, v < n → (f v).toNat < m) (ρ : Nat → Bool) : evT m (renT f n m t) ρ = evT n t (fun v => ρ (f v).toNat) := by
  have e : renT f n m t = tbF m (fun i => t.getD (fromF f m i n) false) := rfl
  rw [e, evT_tb]
  unfold evT fromF
  rw [place_cong n (fun v hv => bit_of (hf v hv))]
theorem evT_one {o : Bool → Bool → Bool} {n u : Nat} {t : List Bool} (hu : u < n) (ρ : Nat → Bool) : evT n (oneT o n u t) ρ = o (evT n t (updF ρ u false)) (evT n t (updF ρ u true)) := by
  have hl := placeF_lt ρ n 0
  show (oneT o n u t).getD _ false = _
  rw [one_get o n u t hl, with_place n _ u false hl hu, with_place n _ u true hl hu]
  unfold evT
  rw [place_cong n (ρ := updF (bitF n (placeF ρ n 0)) u false) (σ := updF ρ u false) (fun v hv => by unfold updF; by_cases h : v = u <;> simp [h, bit_of hv]),
    place_cong n (ρ := updF (bitF n (placeF ρ n 0)) u true) (σ := updF ρ u true) (fun v hv => by unfold updF; by_cases h : v = u <;> simp [h, bit_of hv])]
theorem evT_ex {n : Nat} : ∀ (set : List Nat) (t : List Bool) (ρ : Nat → Bool), (∀ u ∈ set, u < n) → (evT n (quantT (qOp false) n set t) ρ = true ↔ ∃ σ : Nat → Bool, (∀ v, v ∉ set → σ v = ρ v) ∧ evT n t σ = true)
  | [], t, ρ, _ => by
    constructor
    · intro h; exact ⟨ρ, fun _ _ => rfl, h⟩
    · rintro ⟨σ, h1, h2⟩
      rw [show quantT (qOp false) n [] t = t from rfl, ← evT_cong (fun v _ => h1 v (by simp))]
      exact h2
  | u :: set, t, ρ, h => by
    have ih := evT_ex set (oneT (qOp false) n u t) ρ (fun x hx => h x (List.mem_cons_of_mem _ hx))
    have hu := h u List.mem_cons_self
    rw [show quantT (qOp false) n (u :: set) t = quantT (qOp false) n set (oneT (qOp false) n u t) from rfl, ih]
    constructor
    · rintro ⟨σ, h1, h2⟩
      rw [evT_one hu] at h2
      have h3 : evT n t (updF σ u false) = true ∨ evT n t (updF σ u true) = true := by
        revert h2
        generalize evT n t (updF σ u false) = x
        generalize evT n t (updF σ u true) = y
        cases x <;> cases y <;> simp [qOp]
      rcases h3 with h3 | h3
      · exact ⟨_, fun v hv => by unfold updF; rw [if_neg (fun e => hv (by simp [e]))]; exact h1 v (fun hm => hv (List.mem_cons_of_mem _ hm)), h3⟩
      · exact ⟨_, fun v hv => by unfold updF; rw [if_neg (fun e => hv (by simp [e]))]; exact h1 v (fun hm => hv (List.mem_cons_of_mem _ hm)), h3⟩
    · rintro ⟨σ, h1, h2⟩
      refine ⟨fun v => if v ∈ set then σ v else ρ v, fun v hv => if_neg hv, ?_⟩
      rw [evT_one hu]
      have e : evT n t (updF (fun v => if v ∈ set then σ v else ρ v) u (σ u)) = true := by
        rw [← h2]
        refine evT_cong (fun v hv => ?_)
        unfold updF
        split
        · rename_i h; rw [h]
        · rename_i h4
          by_cases h5 : v ∈ set
          · simp [h5]
          · simp only [if_neg h5]
            exact (h1 v (by simp [h4, h5])).symm
      cases hsu : σ u <;> rw [hsu] at e <;> simp [qOp, e]
theorem wv_place (ρ : Nat → Bool) : ∀ b, placeF ρ (2 * b) 0 = wv b (placeF (fun k => ρ (2 * k)) b 0) (placeF (fun k => ρ (2 * k + 1)) b 0)
  | 0 => rfl
  | d + 1 => by
    have ih := wv_place ρ d
    rw [show 2 * (d + 1) = (2 * d + 1) + 1 by omega, placeF_snoc, placeF_snoc, ih, placeF_snoc, placeF_snoc, wv]
    simp only [Nat.zero_add]
    have e1 : (2 * placeF (fun k => ρ (2 * k)) d 0 + if ρ (2 * d) then 1 else 0) / 2 = placeF (fun k => ρ (2 * k)) d 0 := by split <;> omega
    have e2 : (2 * placeF (fun k => ρ (2 * k + 1)) d 0 + if ρ (2 * d + 1) then 1 else 0) / 2 = placeF (fun k => ρ (2 * k + 1)) d 0 := by split <;> omega
    rw [e1, e2]
    split <;> split <;> omega
end Go.Proofs.YtknlkcfnfjchdaaGreat
namespace Go.Proofs.YtknlkcfnfjchdaaGreat
open Go.RowKit
set_option linter.unusedVariables false
set_option linter.unusedSimpArgs false

theorem evT_and {n : Nat} {t u : List Bool} (ht : t.length = 2 ^ n) (hu : u.length = 2 ^ n) (ρ : Nat → Bool) : evT n (ite3 t u (fls n)) ρ = (evT n t ρ && evT n u ρ) := by
  unfold evT
  rw [ite3_get ht hu (fls_len n) (placeF_lt ρ n 0), flsG]
  cases t.getD (placeF ρ n 0) false <;> simp
/-- The states that a relation connects with those of a set. -/
def imT (b s : Nat) (r f : List Bool) : List Bool := tbF b (fun y => (List.range (2 ^ b)).any fun x => r.getD (if s = 0 then wv b x y else wv b y x) false && f.getD x false)
def sideL (b s : Nat) : List Nat := (List.range b).map fun i => 2 * i + s
theorem sideL_mem {b s v : Nat} (hs : s < 2) : v ∈ sideL b s ↔ v % 2 = s ∧ v / 2 < b := by
  unfold sideL
  simp only [List.mem_map, List.mem_range]
  constructor
  · rintro ⟨i, hi, rfl⟩
    omega
  · rintro ⟨h1, h2⟩
    exact ⟨v / 2, h2, by omega⟩
theorem step_tab {b s : Nat} (hs : s < 2) {r f : List Bool} (hr : r.length = 2 ^ (2 * b)) (hf : f.length = 2 ^ b) :
    quantT (qOp false) (2 * b) (sideL b s) (ite3 r (renT (fun i => ((2 * i + s : Nat) : Int)) b (2 * b) f) (fls (2 * b))) = renT (fun i => ((2 * i + (1 - s) : Nat) : Int)) b (2 * b) (imT b s r f) := by
  refine evT_ext (quantT_length _ _ _ _ (ite3_len hr (renT_length _ _ _ _) (fls_len _))) (renT_length _ _ _ _) (fun ρ => ?_)
  rw [Bool.eq_iff_iff, evT_ex _ _ _ (fun u hu => by have := (sideL_mem hs).1 hu; omega), evT_ren (fun v hv => by simp only [Int.toNat_natCast]; omega)]
  simp only [Int.toNat_natCast]
  rw [show imT b s r f = tbF b _ from rfl, evT_tb]
  simp only [List.any_eq_true, List.mem_range, Bool.and_eq_true]
  constructor
  · rintro ⟨σ, h1, h2⟩
    rw [evT_and hr (renT_length _ _ _ _), evT_ren (fun v hv => by simp only [Int.toNat_natCast]; omega), Bool.and_eq_true] at h2
    simp only [Int.toNat_natCast] at h2
    refine ⟨placeF (fun k => σ (2 * k + s)) b 0, placeF_lt _ _ _, ?_, h2.2⟩
    have h3 := h2.1
    unfold evT at h3
    rw [wv_place] at h3
    have e : placeF (fun v => ρ (2 * v + (1 - s))) b 0 = placeF (fun v => σ (2 * v + (1 - s))) b 0 :=
      place_cong b (fun v hv => (h1 _ (fun hm => by have := (sideL_mem hs).1 hm; omega)).symm)
    rw [e]
    rcases (show s = 0 ∨ s = 1 by omega) with rfl | rfl
    · rw [if_pos rfl]; exact h3
    · rw [if_neg (by omega)]; exact h3
  · rintro ⟨x, hx, h1, h2⟩
    refine ⟨fun v => if v % 2 = s ∧ v / 2 < b then bitF b x (v / 2) else ρ v, fun v hv => if_neg (fun h => hv ((sideL_mem hs).2 h)), ?_⟩
    rw [evT_and hr (renT_length _ _ _ _), evT_ren (fun v hv => by simp only [Int.toNat_natCast]; omega), Bool.and_eq_true]
    simp only [Int.toNat_natCast]
    have e1 : placeF (fun k => if (2 * k + s) % 2 = s ∧ (2 * k + s) / 2 < b then bitF b x ((2 * k + s) / 2) else ρ (2 * k + s)) b 0 = x := by
      conv => rhs; rw [← place_bit hx]
      refine place_cong b (fun v hv => ?_)
      rw [if_pos (by omega), show (2 * v + s) / 2 = v by omega]
    have e2 : placeF (fun k => if (2 * k + (1 - s)) % 2 = s ∧ (2 * k + (1 - s)) / 2 < b then bitF b x ((2 * k + (1 - s)) / 2) else ρ (2 * k + (1 - s))) b 0 = placeF (fun v => ρ (2 * v + (1 - s))) b 0 :=
      place_cong b (fun v hv => if_neg (by omega))
    refine ⟨?_, ?_⟩
    · unfold evT
      rw [wv_place]
      rcases (show s = 0 ∨ s = 1 by omega) with rfl | rfl
      · rw [if_pos rfl] at h1
        simp only [Nat.add_zero, Nat.sub_zero] at e1 e2 h1
        rw [e1, e2]; exact h1
      · rw [if_neg (by omega)] at h1
        simp only [Nat.sub_self, Nat.add_zero] at e1 e2 h1
        rw [e1, e2]; exact h1
    · unfold evT
      rw [e1]; exact h2

/-- A diagram over spread variables, gathered. -/
theorem gather_tab {f : Nat → Int} {n m : Nat} {t L' : _} {r : Int} (hu : Up f n m) (hm : m ≤ 40) (hn : n ≤ 12) (ht : t.length = 2 ^ n) (hT : IsTab m (renT f n m t) L' r) {g : Int → Int} (hg : ∀ v : Nat, v < n → g (f v) = v) :
    IsTab n t (L'.map fun x => (g x.1, x.2.1, x.2.2)) r := by
  have T0 := IsTab.of hn ht
  have T1 := ren_tab T0 hu hm
  have e := hT.eq.symm.trans T1.eq
  obtain ⟨e1, e2⟩ := Prod.mk.inj e
  subst e1 e2
  have hO := T0.ord.1
  have : (renN f (tableF n [] 0 t).1).map (fun x => (g x.1, x.2.1, x.2.2)) = (tableF n [] 0 t).1 := by
    unfold renN
    rw [List.map_map]
    conv => rhs; rw [← List.map_id (tableF n [] 0 t).1]
    refine List.map_congr_left (fun x hx => ?_)
    have hv := hO.var x hx
    have hp : 0 ≤ x.1 := by
      obtain ⟨i, hi, rfl⟩ := List.mem_iff_getElem.1 hx
      exact (hO.val i _ (List.getElem?_eq_getElem hi)).1
    have := hg x.1.toNat (by omega)
    simp only [Function.comp, id]
    rw [this]
    obtain ⟨a, b, c⟩ := x
    simp only at hp ⊢
    rw [show ((a.toNat : Nat) : Int) = a by omega]
  rw [this]
  exact T0

/-- The relation of two steps. -/
def coT (b : Nat) (r s : List Bool) : List Bool := tbF (2 * b) (fun i => (List.range (2 ^ b)).any fun z => r.getD (wv b (ux b i) z) false && s.getD (wv b z (uy b i)) false)
def midL (b : Nat) : List Nat := (List.range b).map fun i => 3 * i + 1
theorem midL_mem {b v : Nat} : v ∈ midL b ↔ v % 3 = 1 ∧ v / 3 < b := by
  unfold midL
  simp only [List.mem_map, List.mem_range]
  constructor
  · rintro ⟨i, hi, rfl⟩
    omega
  · rintro ⟨h1, h2⟩
    exact ⟨v / 3, h2, by omega⟩
def plF (c : Nat) (i : Nat) : Nat := 3 * (i / 2) + i % 2 + c
def gaF (i : Nat) : Nat := 3 * (i / 2) + 2 * (i % 2)
theorem comp_tab {b : Nat} {r s : List Bool} (hr : r.length = 2 ^ (2 * b)) (hs : s.length = 2 ^ (2 * b)) :
    quantT (qOp false) (3 * b) (midL b) (ite3 (renT (fun i => ((plF 0 i : Nat) : Int)) (2 * b) (3 * b) r) (renT (fun i => ((plF 1 i : Nat) : Int)) (2 * b) (3 * b) s) (fls (3 * b))) = renT (fun i => ((gaF i : Nat) : Int)) (2 * b) (3 * b) (coT b r s) := by
  refine evT_ext (quantT_length _ _ _ _ (ite3_len (renT_length _ _ _ _) (renT_length _ _ _ _) (fls_len _))) (renT_length _ _ _ _) (fun ρ => ?_)
  rw [Bool.eq_iff_iff, evT_ex _ _ _ (fun u hu => by have := midL_mem.1 hu; omega), evT_ren (fun v hv => by simp only [Int.toNat_natCast, gaF]; omega)]
  simp only [Int.toNat_natCast]
  rw [show coT b r s = tbF (2 * b) _ from rfl, evT_tb]
  simp only [List.any_eq_true, List.mem_range, Bool.and_eq_true]
  have P0 : ∀ k, plF 0 (2 * k) = 3 * k ∧ plF 0 (2 * k + 1) = 3 * k + 1 ∧ plF 1 (2 * k) = 3 * k + 1 ∧ plF 1 (2 * k + 1) = 3 * k + 2 ∧ gaF (2 * k) = 3 * k ∧ gaF (2 * k + 1) = 3 * k + 2 := fun k => by unfold plF gaF; omega
  have EV : ∀ σ : Nat → Bool, evT (3 * b) (ite3 (renT (fun i => ((plF 0 i : Nat) : Int)) (2 * b) (3 * b) r) (renT (fun i => ((plF 1 i : Nat) : Int)) (2 * b) (3 * b) s) (fls (3 * b))) σ = true ↔
      r.getD (wv b (placeF (fun k => σ (3 * k)) b 0) (placeF (fun k => σ (3 * k + 1)) b 0)) false = true ∧ s.getD (wv b (placeF (fun k => σ (3 * k + 1)) b 0) (placeF (fun k => σ (3 * k + 2)) b 0)) false = true := by
    intro σ
    rw [evT_and (renT_length _ _ _ _) (renT_length _ _ _ _), evT_ren (fun v hv => by simp only [Int.toNat_natCast, plF]; omega), evT_ren (fun v hv => by simp only [Int.toNat_natCast, plF]; omega), Bool.and_eq_true]
    unfold evT
    rw [wv_place, wv_place]
    simp only [Int.toNat_natCast, (P0 _).1, (P0 _).2.1, (P0 _).2.2.1, (P0 _).2.2.2.1]
  have EX : ux b (placeF (fun v => ρ (gaF v)) (2 * b) 0) = placeF (fun k => ρ (3 * k)) b 0 := by
    rw [wv_place, ux_wv _ _ _ (placeF_lt _ _ _)]
    simp only [(P0 _).2.2.2.2.1]
  have EY : uy b (placeF (fun v => ρ (gaF v)) (2 * b) 0) = placeF (fun k => ρ (3 * k + 2)) b 0 := by
    rw [wv_place, uy_wv _ _ _ (placeF_lt _ _ _)]
    simp only [(P0 _).2.2.2.2.2]
  rw [EX, EY]
  constructor
  · rintro ⟨σ, h1, h2⟩
    obtain ⟨h3, h4⟩ := (EV σ).1 h2
    refine ⟨placeF (fun k => σ (3 * k + 1)) b 0, placeF_lt _ _ _, ?_, ?_⟩
    · rw [place_cong b (ρ := fun k => ρ (3 * k)) (σ := fun k => σ (3 * k)) (fun v hv => (h1 _ (fun hm => by have := midL_mem.1 hm; omega)).symm)]
      exact h3
    · rw [place_cong b (ρ := fun k => ρ (3 * k + 2)) (σ := fun k => σ (3 * k + 2)) (fun v hv => (h1 _ (fun hm => by have := midL_mem.1 hm; omega)).symm)]
      exact h4
  · rintro ⟨z, hz, h1, h2⟩
    refine ⟨fun v => if v % 3 = 1 ∧ v / 3 < b then bitF b z (v / 3) else ρ v, fun v hv => if_neg (fun h => hv (midL_mem.2 h)), (EV _).2 ?_⟩
    have e1 : placeF (fun k => if (3 * k + 1) % 3 = 1 ∧ (3 * k + 1) / 3 < b then bitF b z ((3 * k + 1) / 3) else ρ (3 * k + 1)) b 0 = z := by
      conv => rhs; rw [← place_bit hz]
      refine place_cong b (fun v hv => ?_)
      rw [if_pos (by omega), show (3 * v + 1) / 3 = v by omega]
    have e2 : placeF (fun k => if (3 * k) % 3 = 1 ∧ (3 * k) / 3 < b then bitF b z ((3 * k) / 3) else ρ (3 * k)) b 0 = placeF (fun k => ρ (3 * k)) b 0 := place_cong b (fun v hv => if_neg (by omega))
    have e3 : placeF (fun k => if (3 * k + 2) % 3 = 1 ∧ (3 * k + 2) / 3 < b then bitF b z ((3 * k + 2) / 3) else ρ (3 * k + 2)) b 0 = placeF (fun k => ρ (3 * k + 2)) b 0 := place_cong b (fun v hv => if_neg (by omega))
    rw [e1, e2, e3]
    exact ⟨h1, h2⟩
end Go.Proofs.YtknlkcfnfjchdaaGreat
namespace Go.Proofs.YtknlkcfnfjchdaaGreat
open Go.RowKit
set_option linter.unusedVariables false
set_option linter.unusedSimpArgs false

theorem step1_any (v : Nat) (W : World) (hv : v < 100) : Calls Tryz.prog 160 #[.int .i64 v] W fun e W' => e = .returned (.int .i64 ((v : Int) / 2)) ∧ Same W W' := by
  have h1 : ((v : Nat) : Int).tdiv 2 = (v : Int) / 2 := Int.tdiv_eq_ediv_of_nonneg (by omega)
  have h2 : IntKind.i64.wrap ((v : Int) / 2) = (v : Int) / 2 := IntWalk.i64_in _ (by omega)
  go_enter Tryz.func160, Tryz.ntmps160
  go_wp2_with fail
  go_ret
  exact ⟨by first | rfl | rw [h1], (by repeat (first | exact Fr.refl _ _ | apply Fr.alloc | apply Fr.drewN | apply Fr.drew | apply Fr.undrew | apply Fr.undrewN))⟩
theorem comp1_any (v : Nat) (W : World) (hv : v < 100) : Calls Tryz.prog 166 #[.int .i64 v] W fun e W' => e = .returned (.int .i64 (2 * ((v : Int) / 3) + (v : Int) % 3 / 2)) ∧ Same W W' := by
  have h1 : ((v : Nat) : Int).tdiv 3 = (v : Int) / 3 := Int.tdiv_eq_ediv_of_nonneg (by omega)
  have h2 : ((v : Nat) : Int).tmod 3 = (v : Int) % 3 := Int.tmod_eq_emod_of_nonneg (by omega)
  have h3 : ((v : Int) % 3).tdiv 2 = (v : Int) % 3 / 2 := Int.tdiv_eq_ediv_of_nonneg (by omega)
  have h4 : IntKind.i64.wrap ((v : Int) / 3) = (v : Int) / 3 := IntWalk.i64_in _ (by omega)
  have h5 : IntKind.i64.wrap ((v : Int) % 3 / 2) = (v : Int) % 3 / 2 := IntWalk.i64_in _ (by omega)
  have h6 : IntKind.i64.wrap (2 * ((v : Int) / 3)) = 2 * ((v : Int) / 3) := IntWalk.i64_in _ (by omega)
  have h7 : IntKind.i64.wrap (2 * ((v : Int) / 3) + (v : Int) % 3 / 2) = 2 * ((v : Int) / 3) + (v : Int) % 3 / 2 := IntWalk.i64_in _ (by omega)
  have h8 : IntKind.i64.wrap ((v : Int) % 3) = (v : Int) % 3 := IntWalk.i64_in _ (by omega)
  go_enter Tryz.func166, Tryz.ntmps166
  go_wp2_with fail
  go_ret
  exact ⟨rfl, (by repeat (first | exact Fr.refl _ _ | apply Fr.alloc | apply Fr.drewN | apply Fr.drew | apply Fr.undrew | apply Fr.undrewN))⟩
theorem enter_step1 (args : Array Value) (W : World) : (callFunc 160 args).run Tryz.prog W = .ok (.enter 160 args) W := by kernel_rfl
theorem enter_comp1 (args : Array Value) (W : World) : (callFunc 166 args).run Tryz.prog W = .ok (.enter 166 args) W := by kernel_rfl

def gaL (g : Int → Int) (L : List Nd) : List Nd := L.map fun x => (g x.1, x.2.1, x.2.2)
theorem gaL_take (g : Int → Int) {L : List Nd} {k : Nat} (h : k < L.length) : gaL g (L.take (k + 1)) = gaL g (L.take k) ++ [(g L[k].1, L[k].2.1, L[k].2.2)] := by
  unfold gaL
  rw [List.take_succ_eq_append_getElem h, List.map_append]; rfl
theorem gaL_len (g : Int → Int) (L : List Nd) (k : Nat) (h : k ≤ L.length) : (gaL g (L.take k)).length = k := by simp [gaL]; omega

/-- gathered's own diagram so far, in box bg. -/
structure GaAt (w : World) (m r : Int) (base br bg k : Nat) (a : Option Addr) (c : Nat) (N : List Nd) (W : World) : Prop where
  bx : W.heap[bg]? = some (.cells #[.int .i64 m, .slice a k c, .int .i64 r] 54 (0, 0))
  own : W.ownsRow base 135 3 (.slice a k c) k (ndCells N)
  same : Same w W
  res : W.heap[br]? = some (.cells #[.int .i64 0, .slice none 0 0, .int .i64 0] 54 (0, 0))
theorem GaAt.sm {w : World} {m r : Int} {base br bg k : Nat} {a : Option Addr} {c : Nat} {N : List Nd} {W W' : World} (h : GaAt w m r base br bg k a c N W) (hs : Same W W') : GaAt w m r base br bg k a c N W' := ⟨hs.at h.bx id, owns_same h.own hs, h.same.same hs, hs.at h.res id⟩
/-- A store into a newer block. -/
theorem GaAt.fresh {w : World} {m r : Int} {base br bg k : Nat} {a : Option Addr} {c : Nat} {N : List Nd} {W W' : World} {b : Nat} (h : GaAt w m r base br bg k a c N W) (hf : Fr (fun i => i = b) W W') (h1 : bg ≠ b) (h0 : br ≠ b) (h2 : w.heap.size ≤ b) (h3 : ∀ i, (Value.slice a k c).ownBlock = some i → i ≠ b) : GaAt w m r base br bg k a c N W' :=
  ⟨hf.at h.bx h1, owns_fr h.own hf h3, h.same.trans hf (fun i hi e => by have : i = b := e; omega), hf.at h.res h0⟩
theorem GaAt.push {w : World} {m r : Int} {base br bg k : Nat} {a a5 : Option Addr} {c c5 : Nat} {N : List Nd} {W W1 w5 : World} {x : Nd} (h : GaAt w m r base br bg k a c N W) (hW : Same W W1) (hbg : bg < base) (hbr : br < base) (hne : br ≠ bg) (hwg : w.heap.size ≤ bg)
    (ho5 : w5.ownsRow base 135 3 (.slice a5 (k + 1) c5) (k + 1) (ndCells N ++ [.int .i64 x.1, .int .i64 x.2.1, .int .i64 x.2.2])) (hG : Grew (fun _ => False) W1 w5 (.slice a k c) (.slice a5 (k + 1) c5)) :
    w5.heap[bg]? = some (.cells #[.int .i64 m, .slice a k c, .int .i64 r] 54 (0, 0)) ∧ GaAt w m r base br bg (k + 1) a5 c5 (N ++ [x]) (w5.setCell ⟨bg, 1, none⟩ (.slice a5 (k + 1) c5)) := by
  have h1 := h.sm hW
  have b5 := hG.1.at h1.bx (by
    rintro (hh | hh)
    · have := (h1.own.lt _ hh).1; omega
    · exact hh)
  have r5 := hG.1.at h1.res (by
    rintro (hh | hh)
    · have := (h1.own.lt _ hh).1; omega
    · exact hh)
  have hS : Fr (fun i => i = bg) w5 (w5.setCell ⟨bg, 1, none⟩ (.slice a5 (k + 1) c5)) := (Fr.refl _ _).setCell _ _ (fun _ => rfl)
  refine ⟨b5, ⟨by rw [heap_setCell_same b5]; rfl, ?_, ?_, hS.at r5 hne⟩⟩
  · rw [ndCells_append]
    exact owns_fr ho5 hS (fun i hi e => by have := (ho5.lt _ hi).1; have : i = bg := e; omega)
  · have h5 : Same w w5 := grew_fresh h1.same hG (fun i hi => by have := (h1.own.lt _ hi).1; omega)
    exact h5.trans hS (fun i hi e => by have : i = bg := e; omega)

set_option maxRecDepth 100000 in
set_option maxHeartbeats 4000000 in
theorem gathered_any (d : Dg) (m : Int) (F : FuncId) (cs : Array Value) (g : Int → Int) (w : World) (hd : d.at w) (hlen : d.L.length ≤ 100000) (hv : ∀ x ∈ d.L, 0 ≤ x.1 ∧ x.1 < 100)
    (ent : ∀ (args : Array Value) (W : World), (callFunc F args).run Tryz.prog W = .ok (.enter F args) W) (HC : ∀ (v : Nat) (W : World), v < 100 → Calls Tryz.prog F (#[.int .i64 v] ++ cs) W fun e W' => e = .returned (.int .i64 (g v)) ∧ Same W W') :
    Calls Tryz.prog 159 #[.agg #[.int .i64 d.n, .slice d.a d.L.length d.cap, .int .i64 d.r], .int .i64 m, .func (.func F) #[] cs] w fun e w' =>
      ∃ a c, e = .returned (.agg #[.int .i64 m, .slice a d.L.length c, .int .i64 d.r]) ∧ SliceAt w' 135 3 (.slice a d.L.length c) d.L.length (ndCells (gaL g d.L)) ∧ Same w w' := by
  unfold Dg.at at hd
  generalize d.n = dn at *
  generalize d.L = L at *
  generalize d.r = r at *
  generalize d.a = a at *
  generalize d.cap = cap at *
  obtain ⟨i0, hy, hy0, hy1, hy2⟩ := info_parts info135
  obtain ⟨q, hq⟩ : ∃ q, q = L.length := ⟨_, rfl⟩
  have hgl := gaL_len g L
  have hgt := fun (k : Nat) (h : k < L.length) => gaL_take g h
  have hnd := fun (k : Nat) (h : k < L.length) (W : World) (hW : Same w W) => (hd.same hW).node h
  have hvk := fun (k : Nat) (h : k < L.length) => hv _ (List.getElem_mem h)
  have hfull : gaL g (L.take q) = gaL g L := by rw [hq, List.take_length]
  rw [← hq] at hlen hgl ⊢
  rw [← hq] at hd
  replace hd := Lib.hid hd; replace hgl := Lib.hid hgl; replace hgt := Lib.hid hgt; replace hnd := Lib.hid hnd; replace hv := Lib.hid hv; replace hvk := Lib.hid hvk; replace HC := Lib.hid HC; replace hfull := Lib.hid hfull; replace hq := Lib.hid hq
  go_enter Tryz.func159, Tryz.ntmps159
  go_upto_region 1 with fail
  have kf := heap_old (heap_new w (.cells #[.int .i64 dn, .slice a q cap, .int .i64 r] 54)) (.cells #[.int .i64 0, .slice none 0 0, .int .i64 0] 54)
  have kr := heap_new (w.alloc (.cells #[.int .i64 dn, .slice a q cap, .int .i64 r] 54)) (.cells #[.int .i64 0, .slice none 0 0, .int .i64 0] 54)
  have hs : Same w ((w.alloc (.cells #[.int .i64 dn, .slice a q cap, .int .i64 r] 54)).alloc (.cells #[.int .i64 0, .slice none 0 0, .int .i64 0] 54)) := (by repeat (first | exact Fr.refl _ _ | apply Fr.alloc | apply Fr.drewN | apply Fr.drew | apply Fr.undrew | apply Fr.undrewN))
  have hz : (w.alloc (.cells #[.int .i64 dn, .slice a q cap, .int .i64 r] 54)).heap.size = w.heap.size + 1 := by simp
  rw [hz] at kr
  generalize (w.alloc (.cells #[.int .i64 dn, .slice a q cap, .int .i64 r] 54)).alloc (.cells #[.int .i64 0, .slice none 0 0, .int .i64 0] 54) = W0 at *
  have hrl := lt_of_heap kr
  replace kf := Lib.hid kf; replace kr := Lib.hid kr; replace hs := Lib.hid hs
  have x0 := cell_at kf.out 0
  have x1 := cell_at kf.out 1
  have x2 := cell_at kf.out 2
  have xl := lt_of_heap kf.out
  go_upto_region 2 with fail
  have kg := heap_new W0 (.cells #[.int .i64 m, .slice none 0 0, .int .i64 r] 54)
  have s1 : Same W0 (W0.alloc (.cells #[.int .i64 m, .slice none 0 0, .int .i64 r] 54)) := (by repeat (first | exact Fr.refl _ _ | apply Fr.alloc | apply Fr.drewN | apply Fr.drew | apply Fr.undrew | apply Fr.undrewN))
  replace kf := Lib.hid (s1.at kf.out id); replace kr := Lib.hid (s1.at kr.out id)
  have hs1 := hs.out.same s1
  clear x0 x1 x2 xl
  have hz1 : (W0.alloc (.cells #[.int .i64 m, .slice none 0 0, .int .i64 r] 54)).heap.size = W0.heap.size + 1 := by simp
  generalize W0.alloc (.cells #[.int .i64 m, .slice none 0 0, .int .i64 r] 54) = W1 at *
  generalize W0.heap.size = bg at *
  clear s1
  have hws := hs1.size
  have hG0 : GaAt w m r W1.heap.size (w.heap.size + 1) bg 0 none 0 [] W1 := ⟨kg, World.ownsRow_nil _ _ _ _, hs1, kr.out⟩
  replace kg := Lib.hid kg; replace hs1 := Lib.hid hs1; replace hG0 := Lib.hid hG0
  have x0 := cell_at kf.out 0
  have x1 := cell_at kf.out 1
  have x2 := cell_at kf.out 2
  have xl := lt_of_heap kf.out
  go_wp2_with fail
  go_loopw [17] (fun i wr => ∃ (k c : Nat) (ag : Option Addr), i = .int .i64 k ∧ k ≤ q ∧ GaAt w m r W1.heap.size (w.heap.size + 1) bg k ag c (gaL g (L.take k)) wr) (fun i _ => q - (intOf i).toNat)
  case atStart => exact ⟨0, 0, none, rfl, by omega, hG0.out⟩
  case round =>
    obtain ⟨k, c, ag, rfl, hkq, hG⟩ := hrel
    by_cases hlt : k < q
    · have hkL : k < L.length := by rw [← hq.out]; exact hlt
      obtain ⟨b, off, ha, hbl, z0, z1, z2⟩ := hnd.out k hkL wr hG.same
      have hv1 := hvk.out k hkL
      have hst := hgt.out k hkL
      have hln := hgl.out k hkq
      generalize L[k] = x at *
      obtain ⟨xv, xl, xh⟩ := x
      simp only at z0 z1 z2 hv1 hst
      subst ha
      obtain ⟨v, rfl⟩ : ∃ v : Nat, xv = v := ⟨xv.toNat, by omega⟩
      have hv100 : v < 100 := by omega
      generalize gaL g (L.take k) = N at *
      clear hv1
      have hwr := hG.same.size
      replace hG := Lib.hid hG; replace hst := Lib.hid hst; replace hln := Lib.hid hln
      go_upto_region 5 with fail
      have kx := heap_new wr (.cells #[.int .i64 v, .int .i64 xl, .int .i64 xh] 135)
      have s2 : Same wr (wr.alloc (.cells #[.int .i64 v, .int .i64 xl, .int .i64 xh] 135)) := (by repeat (first | exact Fr.refl _ _ | apply Fr.alloc | apply Fr.drewN | apply Fr.drew | apply Fr.undrew | apply Fr.undrewN))
      have hG2 := hG.out.sm s2
      have hxo : ∀ i, (Value.slice ag k c).ownBlock = some i → i ≠ wr.heap.size := fun i hi => by have := (hG.out.own.lt _ hi).2; omega
      have hxg : bg ≠ wr.heap.size := by have := lt_of_heap hG.out.bx; omega
      have hxr : w.heap.size + 1 ≠ wr.heap.size := by have := lt_of_heap hG.out.res; omega
      generalize wr.alloc (.cells #[.int .i64 v, .int .i64 xl, .int .i64 xh] 135) = W2 at *
      generalize wr.heap.size = bx at *
      clear s2 z0 z1 z2 hG
      replace kx := Lib.hid kx; replace hG2 := Lib.hid hG2; replace hxo := Lib.hid hxo
      have u0 := cell_at kx.out 0
      have u1 := cell_at kx.out 1
      have u2 := cell_at kx.out 2
      have ul := lt_of_heap kx.out
      go_wp2_with fail
      refine (HC.out v _ hv100).mono ?_
      rintro e w3 ⟨rfl, s3⟩
      clear u0 u1 u2 ul
      replace kx := Lib.hid (s3.at kx.out id)
      have hG3 := hG2.out.sm s3
      clear hG2 s3
      replace hG3 := Lib.hid hG3
      have u0 := cell_at kx.out 0
      have u1 := cell_at kx.out 1
      have u2 := cell_at kx.out 2
      have ul := lt_of_heap kx.out
      have xf := free_at kx.out 0
      go_upto_region 6 with fail
      have k6 : (w3.setCell ⟨bx, 0, none⟩ (.int .i64 (g v))).heap[bx]? = some (.cells #[.int .i64 (g v), .int .i64 xl, .int .i64 xh] 135 (0, 0)) := by have := heap_setCell_same (u := .int .i64 (g v)) kx.out 0; simpa using this
      have hG6 := hG3.out.fresh (W' := w3.setCell ⟨bx, 0, none⟩ (.int .i64 (g v))) ((Fr.refl _ _).setCell _ _ (fun _ => rfl)) hxg hxr (by omega) hxo.out
      clear u0 u1 u2 ul
      clear xf kx hG3 hxo hxg hxr
      generalize w3.setCell ⟨bx, 0, none⟩ (.int .i64 (g v)) = W4 at *
      have kg6 := Lib.hid hG6.bx
      have hg1 : W1.heap.size ≤ W4.heap.size ∨ True := .inr trivial
      clear hg1
      have gf := free_at kg6.out 1
      replace k6 := Lib.hid k6; replace hG6 := Lib.hid hG6
      have u0 := cell_at k6.out 0
      have u1 := cell_at k6.out 1
      have u2 := cell_at k6.out 2
      have ul := lt_of_heap k6.out
      have y0 := cell_at kg6.out 0
      have y1 := cell_at kg6.out 1
      have y2 := cell_at kg6.out 2
      have yl := lt_of_heap kg6.out
      go_upto_region 7 with (at_builtin; go_loud (refine wpList_append1 rfl (.tmp 27) (.tmp 29) 52 rfl W1.heap.size 135 i0 (.agg #[.int .i64 0, .int .i64 0, .int .i64 0]) 3 24 Tryz.underlying52 hy hy0 hy1 hy2 rfl (by decide) (by decide) ag k c (ndCells N) rfl (owns_same hG6.out.own (by repeat (first | exact Fr.refl _ _ | apply Fr.alloc | apply Fr.drewN | apply Fr.drew | apply Fr.undrew | apply Fr.undrewN))) (by omega) W4.heap.size [.int .i64 (g v), .int .i64 xl, .int .i64 xh] rfl rfl (heap_new _ _) (by simp [Value.oneCell']) (by simp; omega) ?_; intro a5 c5 w5 ho5 hG5; have P := hG6.out.push (x := (g v, xl, xh)) (by repeat (first | exact Fr.refl _ _ | apply Fr.alloc | apply Fr.drewN | apply Fr.drew | apply Fr.undrew | apply Fr.undrewN)) (by omega) (by omega) (by omega) (by omega) ho5 hG5; have q0 := cell_at P.1 1; have q1 := free_at P.1 1; have P := P.2; replace P := Lib.hid P; clear ho5 hG5))
      all_goals
        generalize w5.setCell ⟨bg, 1, none⟩ (.slice a5 (k + 1) c5) = W6 at *
        clear q0 q1 gf
        clear u0 u1 u2 ul
        clear y0 y1 y2 yl
        go_wp2_with fail
        go_roundw
        case rel => exact ⟨k + 1, c5, a5, by go_num, by omega, by rw [hst.out]; exact P.out⟩
        case measure => simp [intOf]; omega
    · obtain rfl : k = q := by omega
      rw [hfull.out] at hG
      have kg := Lib.hid hG.bx
      have kr := Lib.hid hG.res
      replace hG := Lib.hid hG
      have y0 := cell_at kg.out 0
      have y1 := cell_at kg.out 1
      have y2 := cell_at kg.out 2
      have yl := lt_of_heap kg.out
      obtain ⟨x0, x1, x2, z0, z1, z2, xl⟩ := box_facts kr.out
      go_wp2_with fail
      obtain ⟨k9, f9⟩ := box_dg (u0 := .int .i64 m) (u1 := .slice ag k c) (u2 := .int .i64 r) kr.out
      have d0 := cell_at k9 0
      have d1 := cell_at k9 1
      have d2 := cell_at k9 2
      have hS := SliceAt.fr (SliceAt.of_owns hG.out.own) f9 (fun i cur hk' e => by
        rw [show i = w.heap.size + 1 from e, kr.out] at hk'
        simp at hk')
      have hF := hG.out.same.trans f9 (fun i hi e => by have : i = w.heap.size + 1 := e; omega)
      refine bodyPost_ret (v := .agg #[.int .i64 m, .slice ag k c, .int .i64 r]) (by simp [results, Tryz.results159, go_sem, d0, d1, d2]) rfl ?_
      exact ⟨ag, c, rfl, hS, hF⟩
end Go.Proofs.YtknlkcfnfjchdaaGreat
namespace Go.Proofs.YtknlkcfnfjchdaaGreat
open Go.RowKit
set_option linter.unusedVariables false
set_option linter.unusedSimpArgs false

theorem And_tab {n : Nat} (hn : n ≤ 12) {d d' : Dg} {t u : List Bool} {w : World} (hd : d.at w) (hd' : d'.at w) (T : d.tab n t) (U : d'.tab n u) : Calls Tryz.prog 100 #[d.v, d'.v] w (DgN n (ite3 t u (fls n)) w) :=
  (and_right n d d' _ _ w hn hd hd' T U).mono fun e w' h => DRet.dgN h (IsTab.of hn (ite3_len T.2.len U.2.len (fls_len n)))
theorem gL_nat (g : Nat → Nat) (n : Nat) : (gL g n).map Int.toNat = (List.range n).map g := by
  unfold gL
  rw [List.map_map]
  exact List.map_congr_left (fun x _ => by simp)
theorem Exists_gL {n k : Nat} (hn : n ≤ 12) {d : Dg} {t : List Bool} {w : World} {g : Nat → Nat} {aQ : Option Addr} {cQ : Nat} (hk : k ≤ 1000) (hg : ∀ i, i < k → g i < n) (hs : ∀ i, i + 1 < k → g i < g (i + 1)) (hd : d.at w) (T : d.tab n t) (hQ : RowAt w (.slice aQ k cQ) k (intCells (gL g k))) :
    Calls Tryz.prog 158 #[d.v, .slice aQ k cQ] w (DgN n (quantT (qOp false) n ((List.range k).map g) t) w) := by
  have h0 := gL_err (m := n) hg hs
  have := exists_any d n t (gL g k) aQ cQ w hn hd T (by rw [gL_len]; exact hk) (by rw [gL_len]; exact hQ)
  rw [h0, gL_nat, gL_len] at this
  exact this.mono fun e w' h => DRet.dgN (QAny.ret h) (IsTab.of hn (quantT_length _ _ _ _ T.2.len))
theorem Gather_dg {n m : Nat} (hn : n ≤ 12) (hm : m ≤ 40) {d : Dg} {t : List Bool} {w : World} {f : Nat → Int} (hu : Up f n m) (ht : t.length = 2 ^ n) (hd : d.at w) (T : d.tab m (renT f n m t)) (F : FuncId) (cs : Array Value) (g : Int → Int) (hg : ∀ v : Nat, v < n → g (f v) = v)
    (ent : ∀ (args : Array Value) (W : World), (callFunc F args).run Tryz.prog W = .ok (.enter F args) W) (HC : ∀ (v : Nat) (W : World), v < 100 → Calls Tryz.prog F (#[.int .i64 v] ++ cs) W fun e W' => e = .returned (.int .i64 (g v)) ∧ Same W W') :
    Calls Tryz.prog 159 #[d.v, .int .i64 n, .func (.func F) #[] cs] w fun e w' => ∃ d' : Dg, e = .returned d'.v ∧ d'.at w' ∧ d'.tab n t ∧ Same w w' := by
  have hO := T.2.ord.1
  refine (gathered_any d n F cs g w hd (by have := T.2.short; omega) (fun x hx => ?_) ent HC).mono ?_
  · obtain ⟨i, hi, rfl⟩ := List.mem_iff_getElem.1 hx
    have h1 := hO.val i _ (List.getElem?_eq_getElem hi)
    have h2 := hO.var _ (List.getElem_mem hi)
    exact ⟨h1.1, by omega⟩
  · rintro e w' ⟨a, c, rfl, h1, h2⟩
    have hl : (gaL g d.L).length = d.L.length := by simp [gaL]
    refine ⟨⟨n, a, c, gaL g d.L, d.r⟩, ?_, ?_, ⟨rfl, gather_tab hu hm hn ht T.2 hg⟩, h2⟩
    · simp [Dg.v, hl]
    · show SliceAt w' _ 3 (.slice a (gaL g d.L).length c) (gaL g d.L).length _
      rw [hl]; exact h1
theorem up2 {b s : Nat} (hs : s < 2) : Up (fun i => ((2 * i + s : Nat) : Int)) b ((2 * b : Nat) : Int) := by
  refine ⟨fun i hi => ?_, fun i j hij hj => ?_⟩ <;> (try simp only) <;> omega
set_option maxRecDepth 100000 in
set_option maxHeartbeats 4000000 in
theorem step_any {b s : Nat} (hb6 : b ≤ 6) (hs2 : s < 2) (dr df : Dg) (t u : List Bool) (w : World) (hr : dr.at w) (hf : df.at w) (T : dr.tab (2 * b) t) (U : df.tab b u) :
    Calls Tryz.prog 107 #[.agg #[.int .i64 dr.n, .slice dr.a dr.L.length dr.cap, .int .i64 dr.r], .agg #[.int .i64 df.n, .slice df.a df.L.length df.cap, .int .i64 df.r], .int .i64 s] w (DgN b (imT b s t u) w) := by
  obtain ⟨m, hm⟩ : ∃ m, m = 2 * b := ⟨_, rfl⟩
  have hstep := step_tab (b := b) hs2 (by simpa using T.2.len) U.2.len
  have hul := U.2.len
  have SP : ∀ W, Same w W → _ := fun W hW => spread_any df b m 2 s u W (by omega) (by omega) (by omega) (by omega) (fun i hi => by omega) (SliceAt.same hf hW) U
  have AN := fun (d' : Dg) (t' : List Bool) (W : World) (hW : Same w W) (h1 : d'.at W) (T' : d'.tab m t') => And_tab (n := m) (by omega) (SliceAt.same hr hW) h1 (hm ▸ T) T'
  have EX := fun (d' : Dg) (t' : List Bool) (W : World) (aQ : Option Addr) (cQ : Nat) (h1 : d'.at W) (T' : d'.tab m t') (hQ : RowAt W (.slice aQ b cQ) b (intCells (gL (fun i => 2 * i + s) b))) =>
    Exists_gL (n := m) (k := b) (by omega) (by omega) (fun i hi => by omega) (fun i hi => by omega) h1 T' hQ
  have GA := fun (d' : Dg) (W : World) (h1 : d'.at W) (T' : d'.tab m (renT (fun i => ((2 * i + (1 - s) : Nat) : Int)) b m (imT b s t u))) =>
    Gather_dg (n := b) (m := m) (by omega) (by omega) (hm ▸ up2 (b := b) (s := 1 - s) (by omega)) (show (imT b s t u).length = 2 ^ b from tbF_len _ _) h1 T' 160 #[] (fun v => v / 2) (fun v hv => by omega) enter_step1 step1_any
  rw [← hm] at hstep
  rw [show (List.range b).map (fun i => 2 * i + s) = sideL b s from rfl] at EX
  simp only [Dg.v] at AN EX GA
  simp only [show ((2 : Nat) : Int) = 2 from rfl] at SP
  have hrn := T.1
  have hfn := U.1
  rw [← hm] at hrn
  rw [hrn] at AN ⊢
  rw [hfn] at SP ⊢
  generalize dr.a = ra at *
  generalize dr.cap = rc at *
  generalize dr.r = rr at *
  generalize dr.L.length = rq at *
  generalize df.a = fa at *
  generalize df.cap = fc at *
  generalize df.r = fr at *
  generalize df.L.length = fq at *
  generalize imT b s t u = R at *
  obtain ⟨i3, hi3, hi3z, hi3s, hi3b⟩ := info_parts info3
  clear T U hr hf hrn hfn hul
  replace SP := Lib.hid SP; replace AN := Lib.hid AN; replace EX := Lib.hid EX; replace GA := Lib.hid GA; replace hstep := Lib.hid hstep; replace hm := Lib.hid hm
  go_enter Tryz.func107, Tryz.ntmps107
  go_upto_region 1 with fail
  have ka := heap_old (heap_old (heap_new w (.cells #[.int .i64 m, .slice ra rq rc, .int .i64 rr] 54)) (.cells #[.int .i64 b, .slice fa fq fc, .int .i64 fr] 54)) (.cells #[.int .i64 0, .slice none 0 0, .int .i64 0] 54)
  have kb := heap_old (heap_new (w.alloc (.cells #[.int .i64 m, .slice ra rq rc, .int .i64 rr] 54)) (.cells #[.int .i64 b, .slice fa fq fc, .int .i64 fr] 54)) (.cells #[.int .i64 0, .slice none 0 0, .int .i64 0] 54)
  have kc := heap_new ((w.alloc (.cells #[.int .i64 m, .slice ra rq rc, .int .i64 rr] 54)).alloc (.cells #[.int .i64 b, .slice fa fq fc, .int .i64 fr] 54)) (.cells #[.int .i64 0, .slice none 0 0, .int .i64 0] 54)
  have hs : Same w (((w.alloc (.cells #[.int .i64 m, .slice ra rq rc, .int .i64 rr] 54)).alloc (.cells #[.int .i64 b, .slice fa fq fc, .int .i64 fr] 54)).alloc (.cells #[.int .i64 0, .slice none 0 0, .int .i64 0] 54)) := (by repeat (first | exact Fr.refl _ _ | apply Fr.alloc | apply Fr.drewN | apply Fr.drew | apply Fr.undrew | apply Fr.undrewN))
  have hz1 : (w.alloc (.cells #[.int .i64 m, .slice ra rq rc, .int .i64 rr] 54)).heap.size = w.heap.size + 1 := by simp
  have hz2 : ((w.alloc (.cells #[.int .i64 m, .slice ra rq rc, .int .i64 rr] 54)).alloc (.cells #[.int .i64 b, .slice fa fq fc, .int .i64 fr] 54)).heap.size = w.heap.size + 1 + 1 := by simp
  rw [hz1] at kb
  rw [hz2] at kc
  generalize ((w.alloc (.cells #[.int .i64 m, .slice ra rq rc, .int .i64 rr] 54)).alloc (.cells #[.int .i64 b, .slice fa fq fc, .int .i64 fr] 54)).alloc (.cells #[.int .i64 0, .slice none 0 0, .int .i64 0] 54) = W0 at *
  clear hz1 hz2
  replace ka := Lib.hid ka; replace kb := Lib.hid kb; replace kc := Lib.hid kc; replace hs := Lib.hid hs
  have x0 := cell_at ka.out 0
  have x1 := cell_at ka.out 1
  have x2 := cell_at ka.out 2
  have xl := lt_of_heap ka.out
  have y0 := cell_at kb.out 0
  have y1 := cell_at kb.out 1
  have y2 := cell_at kb.out 2
  have yl := lt_of_heap kb.out
  go_wp2_with fail
  refine (SP.out _ hs.out).mono ?_
  intro e w1 hM
  obtain ⟨a1, c1, L1, r1, rfl, d1, t1, s1⟩ := hM.open
  clear x0 x1 x2 xl
  clear y0 y1 y2 yl
  replace ka := Lib.hid (s1.at ka.out id); replace kb := Lib.hid (s1.at kb.out id); replace kc := Lib.hid (s1.at kc.out id)
  have hs1 := hs.out.same s1
  replace d1 := Lib.hid d1; replace t1 := Lib.hid t1; replace hs1 := Lib.hid hs1
  clear hM s1
  go_upto_region 2 with fail
  have kg := heap_new w1 (.cells #[.int .i64 m, .slice a1 L1.length c1, .int .i64 r1] 54)
  have s2 : Same w1 (w1.alloc (.cells #[.int .i64 m, .slice a1 L1.length c1, .int .i64 r1] 54)) := (by repeat (first | exact Fr.refl _ _ | apply Fr.alloc | apply Fr.drewN | apply Fr.drew | apply Fr.undrew | apply Fr.undrewN))
  generalize w1.alloc (.cells #[.int .i64 m, .slice a1 L1.length c1, .int .i64 r1] 54) = W1 at *
  have hbg : w.heap.size + 3 ≤ w1.heap.size := by have := lt_of_heap kc.out; simp only [Hid] at *; omega
  replace d1 := Lib.hid (d1.out.same s2); replace ka := Lib.hid (s2.at ka.out id); replace kb := Lib.hid (s2.at kb.out id); replace kc := Lib.hid (s2.at kc.out id)
  have hs2 := hs1.out.same s2
  generalize w1.heap.size = bg at *
  replace kg := Lib.hid kg; replace hs2 := Lib.hid hs2
  have x0 := cell_at ka.out 0
  have x1 := cell_at ka.out 1
  have x2 := cell_at ka.out 2
  have xl := lt_of_heap ka.out
  have y0 := cell_at kg.out 0
  have y1 := cell_at kg.out 1
  have y2 := cell_at kg.out 2
  have yl := lt_of_heap kg.out
  go_upto_region 4 with fail
  go_wp2_with fail
  refine (AN.out ⟨m, a1, c1, L1, r1⟩ _ _ hs2.out d1.out ⟨rfl, t1.out⟩).mono ?_
  intro e w3 hM
  obtain ⟨a2, c2, L2, r2, rfl, d2, t2, s3⟩ := hM.open
  clear x0 x1 x2 xl
  clear y0 y1 y2 yl
  replace ka := Lib.hid (s3.at ka.out id); replace kb := Lib.hid (s3.at kb.out id); replace kc := Lib.hid (s3.at kc.out id); replace kg := Lib.hid (s3.at kg.out id)
  have hs3 := hs2.out.same s3
  replace d2 := Lib.hid d2; replace t2 := Lib.hid t2; replace hs3 := Lib.hid hs3
  clear hM s3 d1
  obtain ⟨y0, y1, y2, yf0, yf1, yf2, yl⟩ := box_facts kg.out
  go_upto_region 5 with fail
  obtain ⟨k4, f4⟩ := box_dg (u0 := .int .i64 m) (u1 := .slice a2 L2.length c2) (u2 := .int .i64 r2) kg.out
  have ka := f4.at ka.out (by omega)
  have kb := f4.at kb.out (by omega)
  have kc := f4.at kc.out (by omega)
  have d2 := SliceAt.fr d2.out f4 (fun i cur hk' e => by rw [show i = bg from e, kg.out] at hk'; simp at hk')
  have hs4 := hs3.out.trans f4 (fun i hi e => by have : i = bg := e; omega)
  clear kg y0 y1 y2 yf0 yf1 yf2 yl
  generalize ((w3.setCell ⟨bg, 0, none⟩ (.int .i64 m)).setCell ⟨bg, 1, none⟩ (.slice a2 L2.length c2)).setCell ⟨bg, 2, none⟩ (.int .i64 r2) = W4 at *
  clear f4 ka
  replace kb := Lib.hid kb; replace kc := Lib.hid kc; replace k4 := Lib.hid k4; replace d2 := Lib.hid d2; replace hs4 := Lib.hid hs4
  have hw4 := hs4.out.size
  have y0 := cell_at kb.out 0
  have y1 := cell_at kb.out 1
  have y2 := cell_at kb.out 2
  have yl := lt_of_heap kb.out
  go_upto_region 8 with fail
  go_wp2_with fail
  go_loopw [10, 36] (fun v i wr => ∃ (k c : Nat) (a : Option Addr), i = .int .i64 k ∧ k ≤ b ∧ v = .slice a k c ∧ wr.ownsRow W4.heap.size 3 1 (.slice a k c) k (intCells (gL (fun i => 2 * i + s) k)) ∧ Same W4 wr) (fun _ i _ => b - (intOf i).toNat)
  case atStart => exact ⟨0, 0, none, rfl, by omega, rfl, World.ownsRow_nil _ _ _ _, Fr.refl _ _⟩
  case round =>
    obtain ⟨k, c, a, rfl, hk, rfl, ho, hs1⟩ := hrel
    have hws := hs1.size
    have hgs := gL_succ (fun i => 2 * i + s) k
    by_cases hkn : k < b
    · have e1 : IntKind.i64.wrap (2 * (k : Int)) = 2 * (k : Int) := IntWalk.i64_in _ (by omega)
      have e2 : IntKind.i64.wrap (2 * (k : Int) + s) = ((2 * k + s : Nat) : Int) := by rw [IntWalk.i64_in _ (by omega)]; omega
      replace ho := Lib.hid ho; replace hs1 := Lib.hid hs1; replace hgs := Lib.hid hgs
      go_wp2_with (at_builtin; refine wpList_append1 rfl (.tmp 39) (.tmp 44) 31 rfl W4.heap.size 3 i3 (.int .i64 0) 1 8 Tryz.underlying31 hi3 hi3z hi3s hi3b rfl (by decide) (by decide) a k c (intCells (gL (fun i => 2 * i + s) k)) rfl (owns_same ho.out (by repeat (first | exact Fr.refl _ _ | apply Fr.alloc | apply Fr.drewN | apply Fr.drew | apply Fr.undrew | apply Fr.undrewN))) (by omega) wr.heap.size [.int .i64 ((2 * k + s : Nat) : Int)] rfl rfl (heap_new _ _) (by simp [Value.oneCell']) (by simp; omega) ?_; intro a5 c5 w5 ho5 hG5)
      have hs5 : Same W4 w5 := grew_fresh (hs1.out.same (by repeat (first | exact Fr.refl _ _ | apply Fr.alloc | apply Fr.drewN | apply Fr.drew | apply Fr.undrew | apply Fr.undrewN))) hG5 (fun k hk => (ho.out.lt k hk).1)
      have ho5' : w5.ownsRow W4.heap.size 3 1 (.slice a5 (k + 1) c5) (k + 1) (intCells (gL (fun i => 2 * i + s) (k + 1))) := by
        rw [hgs.out]; have := ho5; simpa [intCells] using this
      clear ho5 hG5
      go_roundw
      case rel => exact ⟨k + 1, c5, a5, by go_num, by omega, rfl, ho5', hs5⟩
      case measure => simp [intOf]; omega
    · obtain rfl : k = b := by omega
      have hQ := (SliceAt.of_owns ho).row
      clear y0 y1 y2 yl
      replace d2 := Lib.hid (d2.out.same hs1); replace kb := Lib.hid (hs1.at kb.out id); replace kc := Lib.hid (hs1.at kc.out id); replace k4 := Lib.hid (hs1.at k4.out id)
      have hs5 := hs4.out.same hs1
      replace ho := Lib.hid ho; replace hQ := Lib.hid hQ; replace hs5 := Lib.hid hs5
      obtain ⟨y0, y1, y2, yf0, yf1, yf2, yl⟩ := box_facts k4.out
      have x0 := cell_at kb.out 0
      have x1 := cell_at kb.out 1
      have x2 := cell_at kb.out 2
      have xl := lt_of_heap kb.out
      go_upto_region 13 with fail
      go_wp2_with fail
      refine (EX.out ⟨m, a2, c2, L2, r2⟩ _ _ _ _ d2.out ⟨rfl, t2.out⟩ hQ.out).mono ?_
      intro e w6 hM
      obtain ⟨a3, c3, L3, r3, rfl, d3, t3, s6⟩ := hM.open
      clear y0 y1 y2 yf0 yf1 yf2 yl
      clear x0 x1 x2 xl
      replace kb := Lib.hid (s6.at kb.out id); replace kc := Lib.hid (s6.at kc.out id); replace k4 := Lib.hid (s6.at k4.out id)
      have hs6 := hs5.out.same s6
      replace d3 := Lib.hid d3; replace t3 := Lib.hid t3; replace hs6 := Lib.hid hs6
      clear hM s6 hQ ho
      obtain ⟨y0, y1, y2, yf0, yf1, yf2, yl⟩ := box_facts k4.out
      go_upto_region 14 with fail
      obtain ⟨k7, f7⟩ := box_dg (u0 := .int .i64 m) (u1 := .slice a3 L3.length c3) (u2 := .int .i64 r3) k4.out
      have kb := f7.at kb.out (by omega)
      have kc := f7.at kc.out (by omega)
      have d3 := SliceAt.fr d3.out f7 (fun i cur hk' e => by rw [show i = bg from e, k4.out] at hk'; simp at hk')
      have hs7 := hs6.out.trans f7 (fun i hi e => by have : i = bg := e; omega)
      clear k4 y0 y1 y2 yf0 yf1 yf2 yl
      generalize ((w6.setCell ⟨bg, 0, none⟩ (.int .i64 m)).setCell ⟨bg, 1, none⟩ (.slice a3 L3.length c3)).setCell ⟨bg, 2, none⟩ (.int .i64 r3) = W7 at *
      clear f7
      replace kb := Lib.hid kb; replace kc := Lib.hid kc; replace k7 := Lib.hid k7; replace d3 := Lib.hid d3; replace hs7 := Lib.hid hs7
      have x0 := cell_at kb.out 0
      have x1 := cell_at kb.out 1
      have x2 := cell_at kb.out 2
      have xl := lt_of_heap kb.out
      have y0 := cell_at k7.out 0
      have y1 := cell_at k7.out 1
      have y2 := cell_at k7.out 2
      have yl := lt_of_heap k7.out
      go_upto_region 16 with fail
      go_wp2_with fail
      refine (GA.out ⟨m, a3, c3, L3, r3⟩ _ d3.out ⟨rfl, by have := t3.out; rw [hstep.out] at this; exact this⟩).mono ?_
      rintro e w8 ⟨d8, rfl, hd8, t8, s8⟩
      clear x0 x1 x2 xl
      clear y0 y1 y2 yl
      replace kc := Lib.hid (s8.at kc.out id)
      have hs8 := hs7.out.same s8
      replace hd8 := Lib.hid hd8; replace t8 := Lib.hid t8; replace hs8 := Lib.hid hs8
      obtain ⟨x0, x1, x2, z0, z1, z2, xl⟩ := box_facts kc.out
      go_wp2_with fail
      obtain ⟨d0, d1, d2, hdF, hsF⟩ := dg_stored hs8.out (by omega) hd8.out kc.out
      refine bodyPost_ret (v := .tuple #[.agg #[.int .i64 d8.n, .slice d8.a d8.L.length d8.cap, .int .i64 d8.r], .int .i64 0]) (by simp [results, Tryz.results107, go_sem, d0, d1, d2]) rfl ?_
      exact ⟨d8, rfl, hdF, t8.out, hsF⟩
end Go.Proofs.YtknlkcfnfjchdaaGreat
namespace Go.Proofs.YtknlkcfnfjchdaaGreat
open Go.RowKit
set_option linter.unusedVariables false
set_option linter.unusedSimpArgs false

set_option maxRecDepth 100000 in
set_option maxHeartbeats 4000000 in
theorem both_any {m b : Nat} (dr df : Dg) (t u : List Bool) (w : World) (hr : dr.at w) (hf : df.at w) (T : dr.tab m t) (U : df.tab b u) :
    Calls Tryz.prog 106 #[.agg #[.int .i64 dr.n, .slice dr.a dr.L.length dr.cap, .int .i64 dr.r], .agg #[.int .i64 df.n, .slice df.a df.L.length df.cap, .int .i64 df.r]] w
      fun e w' => e = .returned (.int .i64 (if m = 2 * b then 0 else 4)) ∧ Same w w' := by
  have C1 := fun W (hW : Same w W) => check_tab dr m t W (SliceAt.same hr hW) T
  have C2 := fun W (hW : Same w W) => check_tab df b u W (SliceAt.same hf hW) U
  simp only [Dg.v] at C1 C2
  have hb40 : b ≤ 40 := U.2.n40
  have hrn := T.1
  have hfn := U.1
  rw [hrn] at C1 ⊢
  rw [hfn] at C2 ⊢
  generalize dr.a = ra at *
  generalize dr.cap = rc at *
  generalize dr.r = rr at *
  generalize dr.L.length = rq at *
  generalize df.a = fa at *
  generalize df.cap = fc at *
  generalize df.r = fr at *
  generalize df.L.length = fq at *
  have hw : IntKind.i64.wrap (2 * (b : Int)) = 2 * (b : Int) := IntWalk.i64_in _ (by omega)
  obtain ⟨E, hE⟩ : ∃ E : Int, E = if m = 2 * b then 0 else 4 := ⟨_, rfl⟩
  rw [← hE]
  clear T U hr hf hrn hfn
  replace C1 := Lib.hid C1; replace C2 := Lib.hid C2; replace hE := Lib.hid hE
  go_enter Tryz.func106, Tryz.ntmps106
  go_upto_region 1 with fail
  have ka := heap_old (heap_new w (.cells #[.int .i64 m, .slice ra rq rc, .int .i64 rr] 54)) (.cells #[.int .i64 b, .slice fa fq fc, .int .i64 fr] 54)
  have kb := heap_new (w.alloc (.cells #[.int .i64 m, .slice ra rq rc, .int .i64 rr] 54)) (.cells #[.int .i64 b, .slice fa fq fc, .int .i64 fr] 54)
  have hs : Same w ((w.alloc (.cells #[.int .i64 m, .slice ra rq rc, .int .i64 rr] 54)).alloc (.cells #[.int .i64 b, .slice fa fq fc, .int .i64 fr] 54)) := (by repeat (first | exact Fr.refl _ _ | apply Fr.alloc | apply Fr.drewN | apply Fr.drew | apply Fr.undrew | apply Fr.undrewN))
  have hz1 : (w.alloc (.cells #[.int .i64 m, .slice ra rq rc, .int .i64 rr] 54)).heap.size = w.heap.size + 1 := by simp
  rw [hz1] at kb
  generalize (w.alloc (.cells #[.int .i64 m, .slice ra rq rc, .int .i64 rr] 54)).alloc (.cells #[.int .i64 b, .slice fa fq fc, .int .i64 fr] 54) = W0 at *
  clear hz1
  replace ka := Lib.hid ka; replace kb := Lib.hid kb; replace hs := Lib.hid hs
  have x0 := cell_at ka.out 0
  have x1 := cell_at ka.out 1
  have x2 := cell_at ka.out 2
  have xl := lt_of_heap ka.out
  go_wp2_with fail
  refine (C1.out _ hs.out).mono ?_
  rintro e w1 ⟨rfl, s1⟩
  clear x0 x1 x2 xl
  replace ka := Lib.hid (s1.at ka.out id); replace kb := Lib.hid (s1.at kb.out id)
  have hs1 := hs.out.same s1
  replace hs1 := Lib.hid hs1
  have y0 := cell_at kb.out 0
  have y1 := cell_at kb.out 1
  have y2 := cell_at kb.out 2
  have yl := lt_of_heap kb.out
  go_wp2_with fail
  refine (C2.out _ hs1.out).mono ?_
  rintro e w2 ⟨rfl, s2⟩
  clear y0 y1 y2 yl
  replace ka := Lib.hid (s2.at ka.out id); replace kb := Lib.hid (s2.at kb.out id)
  have hs2 := hs1.out.same s2
  replace hs2 := Lib.hid hs2
  have x0 := cell_at ka.out 0
  have x1 := cell_at ka.out 1
  have x2 := cell_at ka.out 2
  have xl := lt_of_heap ka.out
  have y0 := cell_at kb.out 0
  have y1 := cell_at kb.out 1
  have y2 := cell_at kb.out 2
  have yl := lt_of_heap kb.out
  by_cases hmb : m = 2 * b
  · obtain rfl : E = 0 := by rw [hE.out, if_pos hmb]
    have e1 : ((m : Int) == 2 * (b : Int)) = true := by simp; omega
    replace hmb := Lib.hid hmb
    go_wp2_with fail
    go_ret
    exact ⟨rfl, hs2.out.same (by repeat (first | exact Fr.refl _ _ | apply Fr.alloc | apply Fr.drewN | apply Fr.drew | apply Fr.undrew | apply Fr.undrewN))⟩
  · obtain rfl : E = 4 := by rw [hE.out, if_neg hmb]
    have e1 : ((m : Int) == 2 * (b : Int)) = false := by simp; omega
    replace hmb := Lib.hid hmb
    go_wp2_with fail
    go_ret
    exact ⟨rfl, hs2.out.same (by repeat (first | exact Fr.refl _ _ | apply Fr.alloc | apply Fr.drewN | apply Fr.drew | apply Fr.undrew | apply Fr.undrewN))⟩

/-- A diagram, or an error (none of it). -/
def DgE (E : Int) (n : Nat) (t : List Bool) (w : World) (e : Ending) (w' : World) : Prop := (E ≠ 0 ∧ DErr w E e w') ∨ (E = 0 ∧ DgN n t w e w')

set_option maxRecDepth 100000 in
set_option maxHeartbeats 4000000 in
theorem Preimage_any {m b : Nat} (hb6 : m = 2 * b → b ≤ 6) (dr df : Dg) (t u : List Bool) (w : World) (hr : dr.at w) (hf : df.at w) (T : dr.tab m t) (U : df.tab b u) :
    Calls Tryz.prog 38 #[.agg #[.int .i64 dr.n, .slice dr.a dr.L.length dr.cap, .int .i64 dr.r], .agg #[.int .i64 df.n, .slice df.a df.L.length df.cap, .int .i64 df.r]] w (DgE (if m = 2 * b then 0 else 4) b (imT b 1 t u) w) := by
  have CB := fun W (hW : Same w W) => both_any dr df t u W (SliceAt.same hr hW) (SliceAt.same hf hW) T U
  have ST := fun (h : m = 2 * b) W (hW : Same w W) => step_any (s := 1) (hb6 h) (by omega) dr df t u W (SliceAt.same hr hW) (SliceAt.same hf hW) (h ▸ T) U
  have hrn := T.1
  have hfn := U.1
  rw [hrn] at CB ST ⊢
  rw [hfn] at CB ST ⊢
  generalize imT b 1 t u = R at *
  generalize dr.a = ra at *
  generalize dr.cap = rc at *
  generalize dr.r = rr at *
  generalize dr.L.length = rq at *
  generalize df.a = fa at *
  generalize df.cap = fc at *
  generalize df.r = fr at *
  generalize df.L.length = fq at *
  obtain ⟨E, hE⟩ : ∃ E : Int, E = if m = 2 * b then 0 else 4 := ⟨_, rfl⟩
  rw [← hE] at CB ⊢
  clear T U hr hf hrn hfn
  replace CB := Lib.hid CB; replace ST := Lib.hid ST; replace hb6 := Lib.hid hb6; replace hE := Lib.hid hE
  go_enter Tryz.func38, Tryz.ntmps38
  go_upto_region 1 with fail
  have ka := heap_old (heap_old (heap_new w (.cells #[.int .i64 m, .slice ra rq rc, .int .i64 rr] 54)) (.cells #[.int .i64 b, .slice fa fq fc, .int .i64 fr] 54)) (.cells #[.int .i64 0, .slice none 0 0, .int .i64 0] 54)
  have kb := heap_old (heap_new (w.alloc (.cells #[.int .i64 m, .slice ra rq rc, .int .i64 rr] 54)) (.cells #[.int .i64 b, .slice fa fq fc, .int .i64 fr] 54)) (.cells #[.int .i64 0, .slice none 0 0, .int .i64 0] 54)
  have kc := heap_new ((w.alloc (.cells #[.int .i64 m, .slice ra rq rc, .int .i64 rr] 54)).alloc (.cells #[.int .i64 b, .slice fa fq fc, .int .i64 fr] 54)) (.cells #[.int .i64 0, .slice none 0 0, .int .i64 0] 54)
  have hs : Same w (((w.alloc (.cells #[.int .i64 m, .slice ra rq rc, .int .i64 rr] 54)).alloc (.cells #[.int .i64 b, .slice fa fq fc, .int .i64 fr] 54)).alloc (.cells #[.int .i64 0, .slice none 0 0, .int .i64 0] 54)) := (by repeat (first | exact Fr.refl _ _ | apply Fr.alloc | apply Fr.drewN | apply Fr.drew | apply Fr.undrew | apply Fr.undrewN))
  have hz1 : (w.alloc (.cells #[.int .i64 m, .slice ra rq rc, .int .i64 rr] 54)).heap.size = w.heap.size + 1 := by simp
  have hz2 : ((w.alloc (.cells #[.int .i64 m, .slice ra rq rc, .int .i64 rr] 54)).alloc (.cells #[.int .i64 b, .slice fa fq fc, .int .i64 fr] 54)).heap.size = w.heap.size + 1 + 1 := by simp
  rw [hz1] at kb
  rw [hz2] at kc
  generalize ((w.alloc (.cells #[.int .i64 m, .slice ra rq rc, .int .i64 rr] 54)).alloc (.cells #[.int .i64 b, .slice fa fq fc, .int .i64 fr] 54)).alloc (.cells #[.int .i64 0, .slice none 0 0, .int .i64 0] 54) = W0 at *
  clear hz1 hz2
  replace ka := Lib.hid ka; replace kb := Lib.hid kb; replace kc := Lib.hid kc; replace hs := Lib.hid hs
  have x0 := cell_at ka.out 0
  have x1 := cell_at ka.out 1
  have x2 := cell_at ka.out 2
  have xl := lt_of_heap ka.out
  have y0 := cell_at kb.out 0
  have y1 := cell_at kb.out 1
  have y2 := cell_at kb.out 2
  have yl := lt_of_heap kb.out
  go_wp2_with fail
  refine (CB.out _ hs.out).mono ?_
  rintro e w1 ⟨rfl, s1⟩
  clear x0 x1 x2 xl
  clear y0 y1 y2 yl
  replace ka := Lib.hid (s1.at ka.out id); replace kb := Lib.hid (s1.at kb.out id); replace kc := Lib.hid (s1.at kc.out id)
  have hs1 := hs.out.same s1
  replace hs1 := Lib.hid hs1
  by_cases hmb : m = 2 * b
  · obtain rfl : E = 0 := by rw [hE.out, if_pos hmb]
    have hST := ST.out hmb
    replace hmb := Lib.hid hmb; replace hST := Lib.hid hST
    have x0 := cell_at ka.out 0
    have x1 := cell_at ka.out 1
    have x2 := cell_at ka.out 2
    have xl := lt_of_heap ka.out
    have y0 := cell_at kb.out 0
    have y1 := cell_at kb.out 1
    have y2 := cell_at kb.out 2
    have yl := lt_of_heap kb.out
    go_upto_region 4 with fail
    go_wp2_with fail
    refine (hST.out _ hs1.out).mono ?_
    rintro e w2 ⟨d, rfl, hd, ht, s2⟩
    clear x0 x1 x2 xl
    clear y0 y1 y2 yl
    replace kc := Lib.hid (s2.at kc.out id)
    have hs2 := hs1.out.same s2
    replace hd := Lib.hid hd; replace ht := Lib.hid ht; replace hs2 := Lib.hid hs2
    obtain ⟨x0, x1, x2, z0, z1, z2, xl⟩ := box_facts kc.out
    go_wp2_with fail
    obtain ⟨d0, d1, d2, hdF, hsF⟩ := dg_stored hs2.out (by omega) hd.out kc.out
    refine bodyPost_ret (v := .tuple #[.agg #[.int .i64 d.n, .slice d.a d.L.length d.cap, .int .i64 d.r], .int .i64 0]) (by simp [results, Tryz.results38, go_sem, d0, d1, d2]) rfl ?_
    exact .inr ⟨rfl, d, rfl, hdF, ht.out, hsF⟩
  · obtain rfl : E = 4 := by rw [hE.out, if_neg hmb]
    replace hmb := Lib.hid hmb
    obtain ⟨x0, x1, x2, z0, z1, z2, xl⟩ := box_facts kc.out
    go_wp2_with fail
    obtain ⟨d0, d1, d2, hsF⟩ := dg_zeroed hs1.out (by omega) kc.out
    refine bodyPost_ret (v := .tuple #[.agg #[.int .i64 0, .slice none 0 0, .int .i64 0], .int .i64 (4)]) (by simp [results, Tryz.results38, go_sem, d0, d1, d2]) rfl ?_
    exact .inl ⟨by decide, rfl, hsF⟩
end Go.Proofs.YtknlkcfnfjchdaaGreat
namespace Go.Proofs.YtknlkcfnfjchdaaGreat
open Go.RowKit
set_option linter.unusedVariables false
set_option linter.unusedSimpArgs false

/-- A pair of states below n. -/
def inR (n : Nat) (p : Int × Int) : Prop := (0 ≤ p.1 ∧ p.1 < n) ∧ 0 ≤ p.2 ∧ p.2 < n
instance inRdec (n : Nat) (p : Int × Int) : Decidable (inR n p) := by unfold inR; exact inferInstance
def natP (p : Int × Int) : Nat × Nat := (p.1.toNat, p.2.toNat)
theorem natP_ipr (p : Nat × Nat) : natP (ipr p) = p := by simp [natP, ipr]
theorem natP_map (l : List (Nat × Nat)) : (l.map ipr).map natP = l := by
  rw [List.map_map]
  conv => rhs; rw [← List.map_id l]
  exact List.map_congr_left (fun x _ => natP_ipr x)
theorem prC_natP {n : Nat} {l : List (Int × Int)} (h : ∀ p ∈ l, inR n p) : prC (l.map natP) = prI l := by
  rw [← prI_nat, List.map_map]
  congr 1
  conv => rhs; rw [← List.map_id l]
  refine List.map_congr_left (fun p hp => ?_)
  obtain ⟨⟨h1, h2⟩, h3, h4⟩ := h p hp
  exact Prod.ext (by simp [natP, ipr]; omega) (by simp [natP, ipr]; omega)

/-- Each state with itself. -/
def idL (n : Nat) : List (Nat × Nat) := (List.range n).map fun i => (i, i)
theorem idL_succ (n : Nat) : idL (n + 1) = idL n ++ [(n, n)] := by simp [idL, List.range_succ]
theorem idL_len (n : Nat) : (idL n).length = n := by simp [idL]

set_option maxRecDepth 100000 in
set_option maxHeartbeats 4000000 in
theorem Identity_any {n : Nat} (hn : n ≤ 64) (w : World) : Calls Tryz.prog 181 #[.int .i64 n] w (DgN (2 * bitsF n) (relT (bitsF n) (idL n)) w) := by
  have hn4 : n ≤ 4096 := by omega
  have CC := fun W => cc_ok hn4 W
  have FP := fun a cap W (h : SliceAt W 72 2 (.slice a n cap) n (prC (idL n))) => fromPairs_any hn (idL n) a n cap W (idL_len n) (by omega) (fun p hp => by
    obtain ⟨i, hi, rfl⟩ := List.mem_map.1 hp
    have := List.mem_range.1 hi
    exact ⟨this, this⟩) h
  generalize relT (bitsF n) (idL n) = R at *
  generalize 2 * bitsF n = m at *
  obtain ⟨i3, hi3, hi3z, hi3s, hi3b⟩ := info_parts infoP
  replace CC := Lib.hid CC; replace FP := Lib.hid FP
  go_enter Tryz.func181, Tryz.ntmps181
  go_upto_region 1 with fail
  have kr := heap_new w (.cells #[.int .i64 0, .slice none 0 0, .int .i64 0] 54)
  have hs : Same w (w.alloc (.cells #[.int .i64 0, .slice none 0 0, .int .i64 0] 54)) := (by repeat (first | exact Fr.refl _ _ | apply Fr.alloc | apply Fr.drewN | apply Fr.drew | apply Fr.undrew | apply Fr.undrewN))
  have hlt := lt_of_heap kr
  generalize w.alloc (.cells #[.int .i64 0, .slice none 0 0, .int .i64 0] 54) = W0 at *
  replace kr := Lib.hid kr; replace hs := Lib.hid hs
  go_wp2_with fail
  refine (CC.out _).mono ?_
  rintro e w1 ⟨rfl, rfl⟩
  go_wp2_with fail
  go_loopw [5, 14] (fun v i wr => ∃ (k c : Nat) (a : Option Addr), i = .int .i64 k ∧ k ≤ n ∧ v = .slice a k c ∧ wr.ownsRow w1.heap.size 72 2 (.slice a k c) k (prC (idL k)) ∧ Same w1 wr) (fun _ i _ => n - (intOf i).toNat)
  case atStart => exact ⟨0, 0, none, rfl, by omega, rfl, World.ownsRow_nil _ _ _ _, Fr.refl _ _⟩
  case round =>
    obtain ⟨k, c, a, rfl, hk, rfl, ho, hs1⟩ := hrel
    have hws := hs1.size
    have hst : prC (idL (k + 1)) = prC (idL k) ++ [.int .i64 (k : Nat), .int .i64 (k : Nat)] := by rw [idL_succ, prC_append]; rfl
    by_cases hkn : k < n
    · replace ho := Lib.hid ho; replace hs1 := Lib.hid hs1; replace hst := Lib.hid hst
      go_wp2_with (at_builtin; refine wpList_append1 rfl (.tmp 17) (.tmp 21) 101 rfl w1.heap.size 72 i3 (.agg #[.int .i64 0, .int .i64 0]) 2 16 Tryz.underlying101 hi3 hi3z hi3s hi3b rfl (by decide) (by decide) a k c (prC (idL k)) rfl (owns_same ho.out (by repeat (first | exact Fr.refl _ _ | apply Fr.alloc | apply Fr.drewN | apply Fr.drew | apply Fr.undrew | apply Fr.undrewN))) (by omega) wr.heap.size [.int .i64 (k : Nat), .int .i64 (k : Nat)] rfl rfl (heap_new _ _) (by simp [Value.oneCell']) (by simp; omega) ?_; intro a5 c5 w5 ho5 hG5)
      have hs5 : Same w1 w5 := grew_fresh (hs1.out.same (by repeat (first | exact Fr.refl _ _ | apply Fr.alloc | apply Fr.drewN | apply Fr.drew | apply Fr.undrew | apply Fr.undrewN))) hG5 (fun k hk => (ho.out.lt k hk).1)
      have ho5' : w5.ownsRow w1.heap.size 72 2 (.slice a5 (k + 1) c5) (k + 1) (prC (idL (k + 1))) := by
        rw [hst.out]; exact ho5
      clear ho5 hG5
      go_roundw
      case rel => exact ⟨k + 1, c5, a5, by go_num, by omega, rfl, ho5', hs5⟩
      case measure => simp [intOf]; omega
    · obtain rfl : k = n := by omega
      replace kr := Lib.hid (hs1.at kr.out id)
      have hR := SliceAt.of_owns ho
      have hs3 := hs.out.same hs1
      replace ho := Lib.hid ho; replace hs1 := Lib.hid hs1; replace hst := Lib.hid hst; replace hR := Lib.hid hR; replace hs3 := Lib.hid hs3
      go_wp2_with fail
      refine (FP.out _ _ _ hR.out).mono ?_
      rintro e w5 ⟨d, rfl, hd, ht, hF⟩
      have kr5 := hF.at kr.out id
      have hs5 := hs3.out.same hF
      replace hd := Lib.hid hd; replace ht := Lib.hid ht; replace kr5 := Lib.hid kr5; replace hs5 := Lib.hid hs5
      clear hF
      obtain ⟨x0, x1, x2, z0, z1, z2, xl⟩ := box_facts kr5.out
      go_wp2_with fail
      obtain ⟨d0, d1, d2, hdF, hsF⟩ := dg_stored hs5.out (Nat.le_refl _) hd.out kr5.out
      refine bodyPost_ret (v := .tuple #[.agg #[.int .i64 d.n, .slice d.a d.L.length d.cap, .int .i64 d.r], .int .i64 0]) (by simp [results, Tryz.results181, go_sem, d0, d1, d2]) rfl ?_
      exact ⟨d, rfl, hdF, ht.out, hsF⟩
end Go.Proofs.YtknlkcfnfjchdaaGreat
