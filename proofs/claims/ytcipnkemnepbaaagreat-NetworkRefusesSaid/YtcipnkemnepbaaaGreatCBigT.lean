/-  -/
import Derived.Test.YtcipnkemnepbaaaGreatCRelV
import Derived.Test.YtcipnkemnepbaaaGreatCAny
set_option linter.unusedVariables false
set_option linter.unusedSimpArgs false
namespace Go.Proofs.YtcipnkemnepbaaaGreat
open Go.RowKit
theorem owns_mono {w : World} {base base' : Nat} {e : TypeId} {size : Nat} {v : Value} {n : Nat} {xs : List Value} (h : w.ownsRow base e size v n xs) (hb : base' ≤ base) : w.ownsRow base' e size v n xs :=
 ⟨h.1, h.2.imp id fun ⟨g, cap, cur, h1, h2, h3⟩ => ⟨g, cap, cur, h1, Nat.le_trans hb h2, h3⟩⟩
theorem DgN.open {n : Nat} {t : List Bool} {w w' : World} {e : Ending} (h : DgN n t w e w') : ∃ a c L r, e = .returned (.tuple #[.agg #[.int .i64 n, .slice a L.length c, .int .i64 r], .int .i64 0]) ∧ Dg.at w' ⟨n, a, c, L, r⟩ ∧ IsTab n t L r ∧ Same w w' := by
 obtain ⟨⟨dn, a, c, L, r⟩, rfl, h1, h2, h3⟩ := h
 obtain rfl : dn = (n : Int) := h2.1
 exact ⟨a, c, L, r, rfl, h1, h2.2, h3⟩
def prC : List (Nat × Nat) → List Value
 | [] => []
 | p :: l => .int .i64 p.1 :: .int .i64 p.2 :: prC l
theorem infoP : (Tryz.prog.info? 208).map (fun i => (i.zero, i.size, i.bytes)) = some (some (.agg #[.int .i64 0, .int .i64 0]), 2, 16) := by kernel_rfl
theorem prC_append : ∀ (l m : List (Nat × Nat)), prC (l ++ m) = prC l ++ prC m
 | [], m => rfl
 | p :: l, m => by simp [prC, prC_append l m]
def lexB (x y : Nat × Nat) : Prop := x.1 < y.1 ∨ x.1 = y.1 ∧ x.2 < y.2
def evT (n : Nat) (t : List Bool) (ρ : Nat → Bool) : Bool := t.getD (placeF ρ n 0) false
theorem place_cong {ρ σ : Nat → Bool} : ∀ n, (∀ v, v < n → ρ v = σ v) → placeF ρ n 0 = placeF σ n 0
 | 0, _ => rfl
 | n + 1, h => by
  rw [placeF_snoc, placeF_snoc, place_cong n (fun v hv => h v (by omega)), Nat.zero_add, h n (by omega)]
theorem evT_cong {n : Nat} {t : List Bool} {ρ σ : Nat → Bool} (h : ∀ v, v < n → ρ v = σ v) : evT n t ρ = evT n t σ := by unfold evT; rw [place_cong n h]
theorem place_bit {n i : Nat} (hi : i < 2 ^ n) : placeF (bitF n i) n 0 = i := by rw [bit_place n 0 n i (by omega), Nat.mod_eq_of_lt hi]
theorem bit_of {ρ : Nat → Bool} : ∀ {n v : Nat}, v < n → bitF n (placeF ρ n 0) v = ρ v
 | 0, v, h => by omega
 | n + 1, v, h => by
  rw [placeF_snoc, Nat.zero_add]
  unfold bitF
  by_cases hv : v = n
  · subst hv
    simp only [Nat.add_sub_cancel, Nat.sub_self, Nat.pow_zero, Nat.div_one]
    by_cases hr : ρ v = true <;> simp [hr] <;> omega
  · have ih := bit_of (ρ := ρ) (n := n) (v := v) (by omega)
    unfold bitF at ih
    rw [← ih]
    have e : n + 1 - 1 - v = (n - 1 - v) + 1 := by omega
    have e2 : (2 * placeF ρ n 0 + if ρ n = true then 1 else 0) / 2 = placeF ρ n 0 := by split <;> omega
    rw [e, Nat.pow_succ, Nat.mul_comm (2 ^ (n - 1 - v)) 2, ← Nat.div_div_eq_div_mul, e2]
theorem evT_get {n : Nat} {t : List Bool} {i : Nat} (hi : i < 2 ^ n) : t.getD i false = evT n t (bitF n i) := by unfold evT; rw [place_bit hi]
theorem evT_ext {n : Nat} {t u : List Bool} (ht : t.length = 2 ^ n) (hu : u.length = 2 ^ n) (h : ∀ ρ, evT n t ρ = evT n u ρ) : t = u :=
 ext_getD ht hu (fun i hi => by rw [evT_get hi, evT_get hi]; exact h _)
theorem evT_tb (n : Nat) (p : Nat → Bool) (ρ : Nat → Bool) : evT n (tbF n p) ρ = p (placeF ρ n 0) := tbF_get n p (placeF_lt ρ n 0)
theorem evT_ren {f : Nat → Int} {n m : Nat} {t : List Bool} (hf : ∀ v, v < n → (f v).toNat < m) (ρ : Nat → Bool) : evT m (renT f n m t) ρ = evT n t (fun v => ρ (f v).toNat) := by
 have e : renT f n m t = tbF m (fun i => t.getD (fromF f m i n) false) := rfl
 rw [e, evT_tb]
 unfold evT fromF
 rw [place_cong n (fun v hv => bit_of (hf v hv))]
theorem evT_one {o : Bool → Bool → Bool} {n u : Nat} {t : List Bool} (hu : u < n) (ρ : Nat → Bool) : evT n (oneT o n u t) ρ = o (evT n t (updF ρ u false)) (evT n t (updF ρ u true)) := by
 have hl := placeF_lt ρ n 0
 show (oneT o n u t).getD _ false = _
 rw [one_get o n u t hl, with_place n _ u false hl hu, with_place n _ u true hl hu]
 unfold evT
 rw [place_cong n (ρ := updF (bitF n (placeF ρ n 0)) u false) (σ := updF ρ u false) (fun v hv => by unfold updF; by_cases h : v = u <;> simp [h, bit_of hv]),
  place_cong n (ρ := updF (bitF n (placeF ρ n 0)) u true) (σ := updF ρ u true) (fun v hv => by unfold updF; by_cases h : v = u <;> simp [h, bit_of hv])]
theorem evT_ex {n : Nat} : ∀ (set : List Nat) (t : List Bool) (ρ : Nat → Bool), (∀ u ∈ set, u < n) → (evT n (quantT (qOp false) n set t) ρ = true ↔ ∃ σ : Nat → Bool, (∀ v, v ∉ set → σ v = ρ v) ∧ evT n t σ = true)
 | [], t, ρ, _ => by
  constructor
  · intro h; exact ⟨ρ, fun _ _ => rfl, h⟩
  · rintro ⟨σ, h1, h2⟩
    rw [show quantT (qOp false) n [] t = t from rfl, ← evT_cong (fun v _ => h1 v (by simp))]
    exact h2
 | u :: set, t, ρ, h => by
  have ih := evT_ex set (oneT (qOp false) n u t) ρ (fun x hx => h x (List.mem_cons_of_mem _ hx))
  have hu := h u List.mem_cons_self
  rw [show quantT (qOp false) n (u :: set) t = quantT (qOp false) n set (oneT (qOp false) n u t) from rfl, ih]
  constructor
  · rintro ⟨σ, h1, h2⟩
    rw [evT_one hu] at h2
    have h3 : evT n t (updF σ u false) = true ∨ evT n t (updF σ u true) = true := by
     revert h2
     generalize evT n t (updF σ u false) = x
     generalize evT n t (updF σ u true) = y
     cases x <;> cases y <;> simp [qOp]
    rcases h3 with h3 | h3
    · exact ⟨_, fun v hv => by unfold updF; rw [if_neg (fun e => hv (by simp [e]))]; exact h1 v (fun hm => hv (List.mem_cons_of_mem _ hm)), h3⟩
    · exact ⟨_, fun v hv => by unfold updF; rw [if_neg (fun e => hv (by simp [e]))]; exact h1 v (fun hm => hv (List.mem_cons_of_mem _ hm)), h3⟩
  · rintro ⟨σ, h1, h2⟩
    refine ⟨fun v => if v ∈ set then σ v else ρ v, fun v hv => if_neg hv, ?_⟩
    rw [evT_one hu]
    have e : evT n t (updF (fun v => if v ∈ set then σ v else ρ v) u (σ u)) = true := by
     rw [← h2]
     refine evT_cong (fun v hv => ?_)
     unfold updF
     split
     · rename_i h; rw [h]
     · rename_i h4
       by_cases h5 : v ∈ set
       · simp [h5]
       · simp only [if_neg h5]
         exact (h1 v (by simp [h4, h5])).symm
    cases hsu : σ u <;> rw [hsu] at e <;> simp [qOp, e]
theorem wv_place (ρ : Nat → Bool) : ∀ b, placeF ρ (2 * b) 0 = wv b (placeF (fun k => ρ (2 * k)) b 0) (placeF (fun k => ρ (2 * k + 1)) b 0)
 | 0 => rfl
 | d + 1 => by
  have ih := wv_place ρ d
  rw [show 2 * (d + 1) = (2 * d + 1) + 1 by omega, placeF_snoc, placeF_snoc, ih, placeF_snoc, placeF_snoc, wv]
  simp only [Nat.zero_add]
  have e1 : (2 * placeF (fun k => ρ (2 * k)) d 0 + if ρ (2 * d) then 1 else 0) / 2 = placeF (fun k => ρ (2 * k)) d 0 := by split <;> omega
  have e2 : (2 * placeF (fun k => ρ (2 * k + 1)) d 0 + if ρ (2 * d + 1) then 1 else 0) / 2 = placeF (fun k => ρ (2 * k + 1)) d 0 := by split <;> omega
  rw [e1, e2]
  split <;> split <;> omega
def csT : Nat → List Bool → Nat
 | 0, _ => 0
 | d + 1, t => if t.take (2 ^ d) = t.drop (2 ^ d) then csT d (t.take (2 ^ d)) else csT d (t.take (2 ^ d)) + csT d (t.drop (2 ^ d)) + 1
theorem numF_len (N : List Nd) (x : Nd) : (numF N x).1.length ≤ N.length + 1 := by
 unfold numF
 split
 · simp
 · split <;> simp
theorem half_len {d : Nat} {t : List Bool} (h : t.length = 2 ^ (d + 1)) : (t.take (2 ^ d)).length = 2 ^ d ∧ (t.drop (2 ^ d)).length = 2 ^ d := by
 rw [Nat.pow_succ] at h
 rw [List.length_take, List.length_drop]
 omega
theorem table_cs {n : Int} : ∀ (d : Nat) (N : List Nd) (v : Int) (t : List Bool), Ord N n → v + d = n → 0 ≤ v → t.length = 2 ^ d → (tableF d N v t).1.length ≤ N.length + csT d t
 | 0, N, v, t, _, _, _, _ => by simp [tableF]
 | d + 1, N, v, t, hN, hv, h0, ht => by
  obtain ⟨hl1, hl2⟩ := half_len ht
  obtain ⟨a1, a2, a3, a4, a5⟩ := table_ord d N (v + 1) (t.take (2 ^ d)) hN (by omega) (by omega)
  have i1 := table_cs d N (v + 1) (t.take (2 ^ d)) hN (by omega) (by omega) hl1
  rw [tableF_split d N v ht, csT]
  split
  · rename_i he
    have h2 := table_again a1 d (v + 1) _ (by omega) (by omega) a3 a4
    rw [a5 hl1, he] at h2
    rw [← he] at h2
    rw [← he, h2]
    simp only [numF, if_true]
    exact i1
  · have i2 := table_cs d (tableF d N (v + 1) (t.take (2 ^ d))).1 (v + 1) (t.drop (2 ^ d)) a1 (by omega) (by omega) hl2
    refine Nat.le_trans (numF_len _ _) ?_
    omega
def kV (V : Nat → Bool) : Nat → Nat → Nat
 | 0, _ => 0
 | d + 1, v => kV V d (v + 1) + if V v then 1 else 0
def cntV (V : Nat → Bool) : Nat → Nat → List Bool → Nat
 | 0, _, t => if t.headD false then 1 else 0
 | d + 1, v, t => if V v then cntV V d (v + 1) (t.take (2 ^ d)) + cntV V d (v + 1) (t.drop (2 ^ d)) else cntV V d (v + 1) (t.take (2 ^ d))
def indV (V : Nat → Bool) : Nat → Nat → List Bool → Prop
 | 0, _, _ => True
 | d + 1, v, t => (V v = false → t.take (2 ^ d) = t.drop (2 ^ d)) ∧ indV V d (v + 1) (t.take (2 ^ d)) ∧ indV V d (v + 1) (t.drop (2 ^ d))
theorem cntV_zero (V : Nat → Bool) : ∀ (d v : Nat) (t : List Bool), t.length = 2 ^ d → indV V d v t → cntV V d v t = 0 → t = List.replicate (2 ^ d) false
 | 0, v, t, ht, _, h => by
  match t, ht with
  | [b], _ => cases b <;> simp [cntV] at h ⊢
 | d + 1, v, t, ht, hi, h => by
  obtain ⟨hl1, hl2⟩ := half_len ht
  obtain ⟨i0, i1, i2⟩ := hi
  rw [cntV] at h
  have e : t = t.take (2 ^ d) ++ t.drop (2 ^ d) := (List.take_append_drop _ _).symm
  have hp : (2 : Nat) ^ (d + 1) = 2 ^ d + 2 ^ d := by rw [Nat.pow_succ]; omega
  rw [e, hp, ← List.replicate_append_replicate]
  by_cases hV : V v = true
  · rw [if_pos hV] at h
    rw [cntV_zero V d (v + 1) _ hl1 i1 (by omega), cntV_zero V d (v + 1) _ hl2 i2 (by omega)]
  · rw [if_neg hV] at h
    have h1 := cntV_zero V d (v + 1) _ hl1 i1 h
    rw [← i0 (by simpa using hV), h1]
theorem cs_bound (V : Nat → Bool) : ∀ (d v : Nat) (t : List Bool), t.length = 2 ^ d → indV V d v t → ∀ m, m ≤ kV V d v → csT d t + 1 ≤ 2 ^ m + (kV V d v - m) * cntV V d v t
 | 0, v, t, _, _, m, hm => by
  have : m = 0 := by simp [kV] at hm; exact hm
  subst this
  simp [csT]
 | d + 1, v, t, ht, hi, m, hm => by
  obtain ⟨hl1, hl2⟩ := half_len ht
  obtain ⟨i0, i1, i2⟩ := hi
  have hc0 := cntV_zero V d (v + 1) _ hl1 i1
  have hc1 := cntV_zero V d (v + 1) _ hl2 i2
  have ih1 := cs_bound V d (v + 1) _ hl1 i1
  have ih2 := cs_bound V d (v + 1) _ hl2 i2
  rw [csT, cntV, kV] at *
  generalize t.take (2 ^ d) = lo at *
  generalize t.drop (2 ^ d) = hi at *
  generalize kV V d (v + 1) = k at *
  generalize cntV V d (v + 1) lo = c1 at *
  generalize cntV V d (v + 1) hi = c2 at *
  generalize csT d lo = s1 at *
  generalize csT d hi = s2 at *
  by_cases hV : V v = true
  · rw [if_pos hV] at hm ⊢
    rw [if_pos hV]
    by_cases he : lo = hi
    · rw [if_pos he]
      cases m with
      | zero =>
       have h1 := ih1 0 (Nat.zero_le _)
       have h2 : (k - 0) * c1 ≤ (k + 1 - 0) * (c1 + c2) := Nat.mul_le_mul (by omega) (by omega)
       omega
      | succ m =>
       have h1 := ih1 m (by omega)
       have h2 : (k - m) * c1 ≤ (k + 1 - (m + 1)) * (c1 + c2) := Nat.mul_le_mul (by omega) (by omega)
       have h3 : 2 ^ m ≤ 2 ^ (m + 1) := Nat.pow_le_pow_right (by omega) (by omega)
       omega
    · rw [if_neg he]
      cases m with
      | zero =>
       have h1 := ih1 0 (Nat.zero_le _)
       have h2 := ih2 0 (Nat.zero_le _)
       have hne : 1 ≤ c1 + c2 := by
        rcases Nat.eq_zero_or_pos c1 with z1 | z1
        · rcases Nat.eq_zero_or_pos c2 with z2 | z2
          · exact absurd ((hc0 z1).trans (hc1 z2).symm) he
          · omega
        · omega
       have e1 : (k + 1 - 0) * (c1 + c2) = (k - 0) * c1 + (k - 0) * c2 + (c1 + c2) := by
        simp only [Nat.sub_zero, Nat.add_mul, Nat.mul_add, Nat.one_mul]
        omega
       simp only [Nat.pow_zero] at h1 h2 ⊢
       omega
      | succ m =>
       have h1 := ih1 m (by omega)
       have h2 := ih2 m (by omega)
       have e1 : (k + 1 - (m + 1)) * (c1 + c2) = (k - m) * c1 + (k - m) * c2 := by
        rw [Nat.add_sub_add_right, Nat.mul_add]
       rw [Nat.pow_succ]
       omega
  · rw [if_neg hV] at hm ⊢
    rw [if_neg hV, if_pos (i0 (by simpa using hV))]
    exact ih1 m (by omega)
theorem kV_all : ∀ d v, kV (fun _ => true) d v = d
 | 0, _ => rfl
 | d + 1, v => by rw [kV, kV_all d]; rfl
theorem indV_all : ∀ d v t, indV (fun _ => true) d v t
 | 0, _, _ => trivial
 | d + 1, v, t => ⟨fun h => by simp at h, indV_all d _ _, indV_all d _ _⟩
theorem cntV_all : ∀ (d v : Nat) (t : List Bool), t.length = 2 ^ d → cntV (fun _ => true) d v t = t.count true
 | 0, v, t, h => by
  match t, h with
  | [b], _ => cases b <;> rfl
 | d + 1, v, t, h => by
  obtain ⟨hl1, hl2⟩ := half_len h
  rw [cntV, if_pos rfl, cntV_all d _ _ hl1, cntV_all d _ _ hl2, ← List.count_append, List.take_append_drop]
theorem short_cnt {n m c : Nat} {t : List Bool} (h40 : n ≤ 40) (ht : t.length = 2 ^ n) (hm : m ≤ n) (hc : t.count true ≤ c) (hb : 2 ^ m + (n - m) * c ≤ 16385) : (tableF n [] 0 t).1.length ≤ 16384 := by
 have h1 := table_cs (n := n) n [] 0 t (Ord.nil (by omega)) (by omega) (by omega) ht
 have h2 := cs_bound (fun _ => true) n 0 t ht (indV_all _ _ _) m (by rw [kV_all]; exact hm)
 rw [kV_all, cntV_all n 0 t ht] at h2
 have h3 : (n - m) * t.count true ≤ (n - m) * c := Nat.mul_le_mul_left _ hc
 simp only [List.length_nil] at h1
 omega
theorem short_sup {n c m : Nat} {t : List Bool} (V : Nat → Bool) (h40 : n ≤ 40) (ht : t.length = 2 ^ n) (hi : indV V n 0 t) (hm : m ≤ kV V n 0) (hc : cntV V n 0 t ≤ c) (hb : 2 ^ m + (kV V n 0 - m) * c ≤ 16385) : (tableF n [] 0 t).1.length ≤ 16384 := by
 have h1 := table_cs (n := n) n [] 0 t (Ord.nil (by omega)) (by omega) (by omega) ht
 have h2 := cs_bound V n 0 t ht hi m hm
 have h3 : (kV V n 0 - m) * cntV V n 0 t ≤ (kV V n 0 - m) * c := Nat.mul_le_mul_left _ hc
 simp only [List.length_nil] at h1
 omega
theorem short_var {n : Nat} {t : List Bool} (V : Nat → Bool) (h40 : n ≤ 40) (ht : t.length = 2 ^ n) (hi : indV V n 0 t) (hb : kV V n 0 ≤ 14) : (tableF n [] 0 t).1.length ≤ 16384 := by
 refine short_sup V (m := kV V n 0) h40 ht hi (Nat.le_refl _) (Nat.le_refl _) ?_
 have : 2 ^ kV V n 0 ≤ 2 ^ 14 := Nat.pow_le_pow_right (by omega) hb
 simp only [Nat.sub_self, Nat.zero_mul]
 omega
theorem short14 {n : Nat} {t : List Bool} (h : n ≤ 14) (ht : t.length = 2 ^ n) : (tableF n [] 0 t).1.length ≤ 16384 :=
 short_var (fun _ => true) (by omega) ht (indV_all _ _ _) (by rw [kV_all]; exact h)
theorem place_half {d v : Nat} (ρ : Nat → Bool) (t : List Bool) (ht : t.length = 2 ^ (d + 1)) : t.getD (placeF ρ (d + 1) v) false = if ρ v then (t.drop (2 ^ d)).getD (placeF ρ d (v + 1)) false else (t.take (2 ^ d)).getD (placeF ρ d (v + 1)) false := by
 have h1 := placeF_lt ρ d (v + 1)
 rw [placeF]
 simp only [List.getD_eq_getElem?_getD]
 split
 · rw [List.getElem?_drop]
 · rw [Nat.zero_add, List.getElem?_take, if_pos h1]
theorem upd_get (ρ : Nat → Bool) (u : Nat) (b : Bool) : updF ρ u b u = b := by simp [updF]
theorem upd_ne (ρ : Nat → Bool) {u v : Nat} (b : Bool) (h : v ≠ u) : updF ρ u b v = ρ v := by simp [updF, h]
theorem place_upd (ρ : Nat → Bool) (b : Bool) {u : Nat} : ∀ (d v : Nat), u < v → placeF (updF ρ u b) d v = placeF ρ d v
 | 0, _, _ => rfl
 | d + 1, v, h => by rw [placeF, placeF, place_upd ρ b d (v + 1) (by omega), upd_ne ρ b (by omega)]
theorem evV_ext : ∀ (d v : Nat) (t u : List Bool), t.length = 2 ^ d → u.length = 2 ^ d → (∀ ρ, t.getD (placeF ρ d v) false = u.getD (placeF ρ d v) false) → t = u
 | 0, v, t, u, ht, hu, h => by
  match t, u, ht, hu with
  | [a], [b], _, _ => simpa [placeF] using h (fun _ => false)
 | d + 1, v, t, u, ht, hu, h => by
  obtain ⟨hl1, hl2⟩ := half_len ht
  obtain ⟨hu1, hu2⟩ := half_len hu
  have key : ∀ (b : Bool) (ρ : Nat → Bool), placeF (updF ρ v b) d (v + 1) = placeF ρ d (v + 1) := fun b ρ => place_upd ρ b d (v + 1) (by omega)
  have e1 : t.take (2 ^ d) = u.take (2 ^ d) := evV_ext d (v + 1) _ _ hl1 hu1 (fun ρ => by
   have := h (updF ρ v false)
   rw [place_half _ _ ht, place_half _ _ hu] at this
   rw [upd_get, key] at this
   simpa using this)
  have e2 : t.drop (2 ^ d) = u.drop (2 ^ d) := evV_ext d (v + 1) _ _ hl2 hu2 (fun ρ => by
   have := h (updF ρ v true)
   rw [place_half _ _ ht, place_half _ _ hu] at this
   rw [upd_get, key] at this
   simpa using this)
  rw [← List.take_append_drop (2 ^ d) t, e1, e2, List.take_append_drop]
theorem upd_comm (ρ : Nat → Bool) {u v : Nat} (a b : Bool) (h : u ≠ v) : updF (updF ρ u a) v b = updF (updF ρ v b) u a := by
 funext x
 unfold updF
 by_cases h1 : x = v
 · rw [if_pos h1, if_neg (fun e => h (e.symm.trans h1)), if_pos h1]
 · rw [if_neg h1]
   by_cases h2 : x = u
   · rw [if_pos h2, if_pos h2]
   · rw [if_neg h2, if_neg h2, if_neg h1]
theorem indV_of (V : Nat → Bool) : ∀ (d v : Nat) (t : List Bool), t.length = 2 ^ d → (∀ (ρ : Nat → Bool) (u : Nat) (b : Bool), v ≤ u → u < v + d → V u = false → t.getD (placeF (updF ρ u b) d v) false = t.getD (placeF ρ d v) false) → indV V d v t
 | 0, _, _, _, _ => trivial
 | d + 1, v, t, ht, h => by
  obtain ⟨hl1, hl2⟩ := half_len ht
  refine ⟨fun hV => ?_, ?_, ?_⟩
  · refine evV_ext d (v + 1) _ _ hl1 hl2 (fun ρ => ?_)
    have h1 := h (updF ρ v true) v false (Nat.le_refl _) (by omega) hV
    rw [place_half _ _ ht, place_half _ _ ht, upd_get, upd_get] at h1
    simp only [Bool.false_eq_true, if_false, if_true] at h1
    rw [place_upd (u := v) _ _ _ _ (Nat.lt_succ_self v), place_upd (u := v) _ _ _ _ (Nat.lt_succ_self v)] at h1
    exact h1
  · refine indV_of V d (v + 1) _ hl1 (fun ρ u b h1 h2 hV => ?_)
    have h3 := h (updF ρ v false) u b (by omega) (by omega) hV
    rw [place_half _ _ ht, place_half _ _ ht, upd_ne _ _ (by omega), upd_get, upd_comm _ _ _ (by omega)] at h3
    simp only [Bool.false_eq_true, if_false] at h3
    rw [place_upd (u := v) _ _ _ _ (Nat.lt_succ_self v), place_upd (u := v) _ _ _ _ (Nat.lt_succ_self v)] at h3
    exact h3
  · refine indV_of V d (v + 1) _ hl2 (fun ρ u b h1 h2 hV => ?_)
    have h3 := h (updF ρ v true) u b (by omega) (by omega) hV
    rw [place_half _ _ ht, place_half _ _ ht, upd_ne _ _ (by omega), upd_get, upd_comm _ _ _ (by omega)] at h3
    simp only [if_true] at h3
    rw [place_upd (u := v) _ _ _ _ (Nat.lt_succ_self v), place_upd (u := v) _ _ _ _ (Nat.lt_succ_self v)] at h3
    exact h3
theorem indV_ev {n : Nat} {t : List Bool} (V : Nat → Bool) (ht : t.length = 2 ^ n) (h : ∀ (ρ : Nat → Bool) (u : Nat) (b : Bool), u < n → V u = false → evT n t (updF ρ u b) = evT n t ρ) : indV V n 0 t :=
 indV_of V n 0 t ht (fun ρ u b _ h2 hV => h ρ u b (by omega) hV)
end Go.Proofs.YtcipnkemnepbaaaGreat
