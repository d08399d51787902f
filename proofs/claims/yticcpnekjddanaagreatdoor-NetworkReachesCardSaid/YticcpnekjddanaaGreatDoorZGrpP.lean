/-  -/
import Derived.Test.YticcpnekjddanaaGreatDoorZFrom
import Derived.Test.YticcpnekjddanaaGreatDoorZChgP
import Derived.Test.YticcpnekjddanaaGreatDoorZTable
set_option linter.unusedVariables false
set_option linter.unusedSimpArgs false
namespace Go.Proofs.YticcpnekjddanaaGreatDoor
def qdE (f : Nat → Int) (L : List Nd) : List Nd := L.map fun x => (f x.1.toNat, x.2.1, x.2.2)
structure Up (f : Nat → Int) (n m : Int) : Prop where
 pos : ∀ i : Nat, (i : Int) < n → 0 ≤ f i ∧ f i < m
 inc : ∀ i j : Nat, i < j → (j : Int) < n → f i < f j
theorem qdQ (f : Nat → Int) (L : List Nd) : (qdE f L).length = L.length := by simp [qdE]
theorem qfN (f : Nat → Int) {L : List Nd} {k : Int} (h2 : 2 ≤ k) (hk : qaH L k) : qao (qdE f L) k = (f (qao L k).1.toNat, (qao L k).2.1, (qao L k).2.2) := by
 have hlt : (k - 2).toNat < L.length := by have := hk.2; omega
 simp [qao, qdE, hlt]
theorem qhb {f : Nat → Int} {L : List Nd} {k : Int} (hk : qaH L k) : qaH (qdE f L) k := ⟨hk.1, by rw [qdQ]; exact hk.2⟩
theorem qoP (f : Nat → Int) {L : List Nd} {k : Int} (hk : qaH L k) : qav (qdE f L) k = if k < 2 then 40 else f (qav L k).toNat := by
 by_cases h : k < 2
 · rw [qaM h, if_pos h]
 · rw [qaO (by omega), qfN f (by omega) hk, if_neg h, qaO (by omega)]
theorem Up.inj {f : Nat → Int} {n m : Int} (h : Up f n m) {i j : Nat} (hi : (i : Int) < n) (hj : (j : Int) < n) (e : f i = f j) : i = j := by
 rcases Nat.lt_trichotomy i j with h1 | h1 | h1
 · have := h.inc i j h1 hj; omega
 · exact h1
 · have := h.inc j i h1 hi; omega
theorem qmL {f : Nat → Int} {n m : Int} {L : List Nd} (h : Ord L n) (hu : Up f n m) (hm : m ≤ 40) : Ord (qdE f L) m := by
 have hval : ∀ x ∈ L, 0 ≤ x.1 ∧ x.1 < n := fun x hx => by
  obtain ⟨i, hi, he⟩ := List.mem_iff_getElem.1 hx
  have := h.val i x (by rw [← he]; exact List.getElem?_eq_getElem hi)
  exact ⟨this.1, h.var x hx⟩
 have hkid : ∀ x ∈ L, qaH L x.2.1 ∧ qaH L x.2.2 := fun x hx => by
  obtain ⟨i, hi, he⟩ := List.mem_iff_getElem.1 hx
  have := h.val i x (by rw [← he]; exact List.getElem?_eq_getElem hi)
  exact ⟨⟨this.2.2.1, by omega⟩, ⟨this.2.2.2.2.1, by omega⟩⟩
 have hup : ∀ x ∈ L, 0 ≤ f x.1.toNat ∧ f x.1.toNat < m := fun x hx => hu.pos _ (by have := hval x hx; omega)
 have htop : ∀ x ∈ L, ∀ k, qaH L k → x.1 < qav L k → f x.1.toNat < qav (qdE f L) k := by
  intro x hx k hk ht
  rw [qoP f hk]
  split
  · have := hup x hx; omega
  · rename_i h2
    have hn := h.top_lt (by omega) hk
    have := hval x hx
    exact hu.inc _ _ (by omega) (by omega)
 refine ⟨hm, ?_, ?_, ?_, ?_, ?_⟩
 · intro i x hx
   simp only [qdE, List.getElem?_map, Option.map_eq_some_iff] at hx
   obtain ⟨y, hy, rfl⟩ := hx
   have h1 := h.val i y hy
   have h2 := hup y (List.mem_of_getElem? hy)
   exact ⟨h2.1, by simp only; omega, h1.2.2⟩
 · intro x hx
   simp only [qdE, List.mem_map] at hx
   obtain ⟨y, hy, rfl⟩ := hx
   exact (hup y hy).2
 · intro x hx
   simp only [qdE, List.mem_map] at hx
   obtain ⟨y, hy, rfl⟩ := hx
   exact h.red y hy
 · intro x hx
   simp only [qdE, List.mem_map] at hx
   obtain ⟨y, hy, rfl⟩ := hx
   have hk := hkid y hy
   have ho := h.ord y hy
   exact ⟨htop y hy _ hk.1 ho.1, htop y hy _ hk.2 ho.2⟩
 · have hp := h.nodup
   unfold qdE
   rw [List.Nodup, List.pairwise_map]
   refine hp.imp_of_mem ?_
   intro x y hx hy hne he
   simp only [Prod.mk.injEq] at he
   have h1 := hval x hx
   have h2 := hval y hy
   have := hu.inj (by omega) (by omega) he.1
   exact hne (Prod.ext (by omega) (Prod.ext he.2.1 he.2.2))
theorem ren_ev {f : Nat → Int} {n : Int} {L : List Nd} (h : VNd L) (h' : VNd (qdE f L)) (ρ : Nat → Bool) : ∀ (c : Nat) (k : Int), qaH L k → k.toNat ≤ c → ev (qdE f L) k ρ = ev L k (fun v => ρ (f v).toNat) := by
 intro c
 induction c with
 | zero =>
  intro k hk hc
  rw [qdw (by have := hk.1; omega), qdw (by have := hk.1; omega)]
 | succ c ih =>
  intro k hk hc
  by_cases h2 : k < 2
  · rw [qdw h2, qdw h2]
  · have hv := qa7 h (by omega) hk.2
    rw [qg4 h' (qhb hk) (by omega), qg4 h hk (by omega), qfN f (by omega) hk]
    simp only
    rw [ih _ hv.2.2.2.1 (by omega), ih _ hv.2.2.1 (by omega)]
theorem qmM {f : Nat → Int} {L : List Nd} (h : VNd L) : ∀ (fuel : Nat) (s s' : Vs) (k q : Int), qaH L k → qa0 s.2 0 ≠ none → qa0 s.2 1 ≠ none → qaW L fuel s k = some (s', q) →
 qaW (qdE f L) fuel (qdE f s.1, s.2) k = some ((qdE f s'.1, s'.2), q) ∧ qa0 s'.2 0 ≠ none ∧ qa0 s'.2 1 ≠ none := by
 intro fuel
 induction fuel with
 | zero => intro s s' k q _ _ _ hv; simp [qaW] at hv
 | succ fuel ih =>
  intro s s' k q hk h0 h1 hv
  simp only [qaW] at hv ⊢
  cases hm : qa0 s.2 k with
  | some r =>
   rw [hm] at hv
   simp only [Option.some.injEq, Prod.mk.injEq] at hv ⊢
   obtain ⟨rfl, rfl⟩ := hv
   exact ⟨⟨⟨rfl, rfl⟩, rfl⟩, h0, h1⟩
  | none =>
   rw [hm] at hv
   simp only at hv ⊢
   have h2 : 2 ≤ k := by
    rcases Int.lt_or_le k 2 with hc | hc
    · have := hk.1
      have : k = 0 ∨ k = 1 := by omega
      rcases this with rfl | rfl
      · exact absurd hm h0
      · exact absurd hm h1
    · exact hc
   have hn := qa7 h h2 hk.2
   cases e1 : qaW L fuel s (qao L k).2.1 with
   | none => rw [e1] at hv; simp at hv
   | some p1 =>
    obtain ⟨s1, l1⟩ := p1
    rw [e1] at hv
    simp only at hv
    obtain ⟨g1, g2, g3⟩ := ih s s1 _ _ hn.2.2.1 h0 h1 e1
    cases e2 : qaW L fuel s1 (qao L k).2.2 with
    | none => rw [e2] at hv; simp at hv
    | some p2 =>
     obtain ⟨s2, l2⟩ := p2
     rw [e2] at hv
     simp only [Option.some.injEq, Prod.mk.injEq] at hv
     obtain ⟨rfl, rfl⟩ := hv
     obtain ⟨q1, q2, q3⟩ := ih s1 s2 _ _ hn.2.2.2.1 g2 g3 e2
     rw [qfN f h2 hk]
     simp only [g1, q1]
     refine ⟨?_, ?_, ?_⟩
     · simp [qdE]
     · rw [qbn]; split <;> simp [q2]
     · rw [qbn]; split <;> simp [q3]
theorem qfO {N : List Nd} : ∀ (a : Nat) (s : Vs) (k : Int) (p : Vs × Int), qaW N a s k = some p → ∀ b, a ≤ b → qaW N b s k = some p := by
 intro a
 induction a with
 | zero => intro s k p h; simp [qaW] at h
 | succ a ih =>
  intro s k p h b hb
  obtain ⟨c, rfl⟩ : ∃ c, b = c + 1 := ⟨b - 1, by omega⟩
  simp only [qaW] at h ⊢
  cases hm : qa0 s.2 k with
  | some r => rw [hm] at h; exact h
  | none =>
   rw [hm] at h
   simp only at h ⊢
   cases e1 : qaW N a s (qao N k).2.1 with
   | none => rw [e1] at h; simp at h
   | some p1 =>
    obtain ⟨s1, l1⟩ := p1
    rw [e1] at h
    rw [ih _ _ _ e1 c (by omega)]
    simp only at h ⊢
    cases e2 : qaW N a s1 (qao N k).2.2 with
    | none => rw [e2] at h; simp at h
    | some p2 =>
     obtain ⟨s2, l2⟩ := p2
     rw [e2] at h
     rw [ih _ _ _ e2 c (by omega)]
     exact h
theorem qjo {N : List Nd} {a b : Nat} {s : Vs} {k : Int} {p q : Vs × Int} (h : qaW N a s k = some p) (h' : qaW N b s k = some q) : p = q := by
 have h1 := qfO a s k p h (a + b) (by omega)
 have h2 := qfO b s k q h' (a + b) (by omega)
 rw [h1] at h2
 exact Option.some.inj h2
theorem qmN {f : Nat → Int} {n m : Nat} {t : List Bool} {L : List Nd} {r : Int} (h : qbN n t L r) (hu : Up f n m) (hm : m ≤ 40) : qbN m (tab (qdE f L) m 0 r) (qdE f L) r := by
 obtain ⟨ho, hv, ht⟩ := h.ord
 have ho' := qmL ho hu (by omega)
 have hv' := qhb (f := f) hv
 refine ⟨hm, qax _ _ _ _, ?_, by rw [qdQ]; exact h.short⟩
 obtain ⟨s1, a1, a2⟩ := qb7 ho hv
 obtain ⟨s2, b1, b2⟩ := qb7 ho' hv'
 rw [ht, h.eq] at a1 a2
 have hx := (qmM (f := f) ho.val (n + 1) ([], [(0, 0), (1, 1)]) s1 r r hv (by simp [qa0]) (by simp [qa0]) a1).1
 have e1 := qjo hx b1
 obtain ⟨e2, e3⟩ : (qdE f s1.1, s1.2) = s2 ∧ r = (qal m [] 0 (tab (qdE f L) m 0 r)).2 := by simpa using e1
 rw [← e2] at b2
 simp only at b2 a2
 rw [a2] at b2
 exact Prod.ext b2.symm e3.symm
theorem qbA (ρ : Nat → Bool) : ∀ (d v : Nat), qam ρ (d + 1) v = 2 * qam ρ d v + if ρ (v + d) then 1 else 0 := by
 intro d
 induction d with
 | zero => intro v; simp [qam]
 | succ d ih =>
  intro v
  rw [qam, ih (v + 1), qam]
  have e : v + 1 + d = v + (d + 1) := by omega
  rw [e, Nat.pow_succ]
  split <;> omega
def qmO (f : Nat → Int) (m i d : Nat) : Nat := qam (fun v => qaY m i (f v).toNat) d 0
def qhc (f : Nat → Int) (n m : Nat) (t : List Bool) : List Bool := (List.range (2 ^ m)).map fun i => t.getD (qmO f m i n) false
theorem qbB (f : Nat → Int) (n m : Nat) (t : List Bool) : (qhc f n m t).length = 2 ^ m := by simp [qhc]
theorem tab_ren {f : Nat → Int} {n m : Nat} {t : List Bool} {L : List Nd} {r : Int} (h : qbN n t L r) (hu : Up f n m) (hm : m ≤ 40) : tab (qdE f L) m 0 r = qhc f n m t := by
 obtain ⟨ho, hv, ht⟩ := h.ord
 have ho' := qmL ho hu (by omega)
 have hv' := qhb (f := f) hv
 refine List.ext_getElem (by rw [qax, qbB]) (fun i h1 h2 => ?_)
 rw [qax] at h1
 have e1 := tab_bit ho' hv' h1
 rw [ren_ev (n := 0) ho.val ho'.val _ r.toNat r hv (Nat.le_refl _)] at e1
 have e2 := qmm ho (fun v => qaY m i (f v).toNat) n 0 r (by omega) hv (qaE ho.val hv).1
 have : ((0 : Nat) : Int) = 0 := rfl
 rw [this, ht] at e2
 simp only [List.getD_eq_getElem?_getD] at e1
 rw [List.getElem?_eq_getElem (by rw [qax]; exact h1), Option.getD_some] at e1
 rw [e1, ← e2]
 simp [qhc, qmO]
theorem qjp {f : Nat → Int} {n m : Nat} {t : List Bool} {L : List Nd} {r : Int} (h : qbN n t L r) (hu : Up f n m) (hm : m ≤ 40) : qbN m (qhc f n m t) (qdE f L) r := by
 have := qmN h hu hm
 rwa [tab_ren h hu hm] at this
def toF (qs : List Int) (i : Nat) : Int := qs.getD i 0
def qaw (m : Int) (qs : List Int) : Nat → Nat → Int
 | 0, _ => 0
 | k + 1, i => if toF qs i < 0 ∨ m ≤ toF qs i then 2 else if 0 < i ∧ toF qs i ≤ toF qs (i - 1) then 5 else qaw m qs k (i + 1)
def qmP (n m : Int) (qs : List Int) : Int := if m < 0 ∨ 40 < m then 2 else if (qs.length : Int) ≠ n then 4 else qaw m qs qs.length 0
theorem qbT {m : Int} {qs : List Int} : ∀ (k i : Nat), qaw m qs k i = 0 → (∀ j, i ≤ j → j < i + k → 0 ≤ toF qs j ∧ toF qs j < m ∧ (0 < j → toF qs (j - 1) < toF qs j)) := by
 intro k
 induction k with
 | zero => intro i _ j h1 h2; omega
 | succ k ih =>
  intro i h j h1 h2
  simp only [qaw] at h
  split at h
  · omega
  · split at h
    · omega
    · rcases Nat.lt_or_eq_of_le h1 with hlt | rfl
      · exact ih (i + 1) h j (by omega) (by omega)
      · exact ⟨by omega, by omega, fun h0 => by omega⟩
theorem up_of {n m : Nat} {qs : List Int} (h : qaw m qs qs.length 0 = 0) (hl : qs.length = n) : Up (toF qs) n m := by
 have H := qbT qs.length 0 h
 refine ⟨fun i hi => ⟨(H i (by omega) (by omega)).1, (H i (by omega) (by omega)).2.1⟩, ?_⟩
 intro i j hij hj
 induction j with
 | zero => omega
 | succ j ih =>
  have h1 := (H (j + 1) (by omega) (by omega)).2.2 (by omega)
  rw [Nat.add_sub_cancel] at h1
  rcases Nat.lt_or_eq_of_le (Nat.lt_succ_iff.1 hij) with hlt | rfl
  · have := ih hlt (by omega); omega
  · exact h1
end Go.Proofs.YticcpnekjddanaaGreatDoor
namespace Go.Proofs.YticcpnekjddanaaGreatDoor
theorem qii {m : Int} {qs : List Int} (h : qaw m qs qs.length 0 = 0) : ∀ x ∈ qs, 0 ≤ x ∧ x < m := by
 intro x hx
 obtain ⟨j, hj, rfl⟩ := List.mem_iff_getElem.1 hx
 have := qbT qs.length 0 h j (by omega) (by omega)
 unfold toF at this
 simp [List.getD, hj] at this
 exact ⟨this.1, this.2.1⟩
end Go.Proofs.YticcpnekjddanaaGreatDoor
