/-  -/
import Derived.Test.YtcipnkemnepbaaaGreatCFrom
import Derived.Test.YtcipnkemnepbaaaGreatCChgP
import Derived.Test.YtcipnkemnepbaaaGreatCOrdO
set_option linter.unusedVariables false
set_option linter.unusedSimpArgs false
namespace Go.Proofs.YtcipnkemnepbaaaGreat
def renN (f : Nat → Int) (L : List Nd) : List Nd := L.map fun x => (f x.1.toNat, x.2.1, x.2.2)
structure Up (f : Nat → Int) (n m : Int) : Prop where
 pos : ∀ i : Nat, (i : Int) < n → 0 ≤ f i ∧ f i < m
 inc : ∀ i j : Nat, i < j → (j : Int) < n → f i < f j
theorem renN_length (f : Nat → Int) (L : List Nd) : (renN f L).length = L.length := by simp [renN]
theorem renN_node (f : Nat → Int) {L : List Nd} {k : Int} (h2 : 2 ≤ k) (hk : VNum L k) : nodeF (renN f L) k = (f (nodeF L k).1.toNat, (nodeF L k).2.1, (nodeF L k).2.2) := by
 have hlt : (k - 2).toNat < L.length := by have := hk.2; omega
 simp [nodeF, renN, hlt]
theorem renN_num {f : Nat → Int} {L : List Nd} {k : Int} (hk : VNum L k) : VNum (renN f L) k := ⟨hk.1, by rw [renN_length]; exact hk.2⟩
theorem renN_top (f : Nat → Int) {L : List Nd} {k : Int} (hk : VNum L k) : topF (renN f L) k = if k < 2 then 40 else f (topF L k).toNat := by
 by_cases h : k < 2
 · rw [topF_const h, if_pos h]
 · rw [topF_node (by omega), renN_node f (by omega) hk, if_neg h, topF_node (by omega)]
theorem Up.inj {f : Nat → Int} {n m : Int} (h : Up f n m) {i j : Nat} (hi : (i : Int) < n) (hj : (j : Int) < n) (e : f i = f j) : i = j := by
 rcases Nat.lt_trichotomy i j with h1 | h1 | h1
 · have := h.inc i j h1 hj; omega
 · exact h1
 · have := h.inc j i h1 hi; omega
theorem ren_ord {f : Nat → Int} {n m : Int} {L : List Nd} (h : Ord L n) (hu : Up f n m) (hm : m ≤ 40) : Ord (renN f L) m := by
 have hval : ∀ x ∈ L, 0 ≤ x.1 ∧ x.1 < n := fun x hx => by
  obtain ⟨i, hi, he⟩ := List.mem_iff_getElem.1 hx
  have := h.val i x (by rw [← he]; exact List.getElem?_eq_getElem hi)
  exact ⟨this.1, h.var x hx⟩
 have hkid : ∀ x ∈ L, VNum L x.2.1 ∧ VNum L x.2.2 := fun x hx => by
  obtain ⟨i, hi, he⟩ := List.mem_iff_getElem.1 hx
  have := h.val i x (by rw [← he]; exact List.getElem?_eq_getElem hi)
  exact ⟨⟨this.2.2.1, by omega⟩, ⟨this.2.2.2.2.1, by omega⟩⟩
 have hup : ∀ x ∈ L, 0 ≤ f x.1.toNat ∧ f x.1.toNat < m := fun x hx => hu.pos _ (by have := hval x hx; omega)
 have htop : ∀ x ∈ L, ∀ k, VNum L k → x.1 < topF L k → f x.1.toNat < topF (renN f L) k := by
  intro x hx k hk ht
  rw [renN_top f hk]
  split
  · have := hup x hx; omega
  · rename_i h2
    have hn := h.top_lt (by omega) hk
    have := hval x hx
    exact hu.inc _ _ (by omega) (by omega)
 refine ⟨hm, ?_, ?_, ?_, ?_, ?_⟩
 · intro i x hx
   simp only [renN, List.getElem?_map, Option.map_eq_some_iff] at hx
   obtain ⟨y, hy, rfl⟩ := hx
   have h1 := h.val i y hy
   have h2 := hup y (List.mem_of_getElem? hy)
   exact ⟨h2.1, by simp only; omega, h1.2.2⟩
 · intro x hx
   simp only [renN, List.mem_map] at hx
   obtain ⟨y, hy, rfl⟩ := hx
   exact (hup y hy).2
 · intro x hx
   simp only [renN, List.mem_map] at hx
   obtain ⟨y, hy, rfl⟩ := hx
   exact h.red y hy
 · intro x hx
   simp only [renN, List.mem_map] at hx
   obtain ⟨y, hy, rfl⟩ := hx
   have hk := hkid y hy
   have ho := h.ord y hy
   exact ⟨htop y hy _ hk.1 ho.1, htop y hy _ hk.2 ho.2⟩
 · have hp := h.nodup
   unfold renN
   rw [List.Nodup, List.pairwise_map]
   refine hp.imp_of_mem ?_
   intro x y hx hy hne he
   simp only [Prod.mk.injEq] at he
   have h1 := hval x hx
   have h2 := hval y hy
   have := hu.inj (by omega) (by omega) he.1
   exact hne (Prod.ext (by omega) (Prod.ext he.2.1 he.2.2))
theorem ren_ev {f : Nat → Int} {n : Int} {L : List Nd} (h : VNd L) (h' : VNd (renN f L)) (ρ : Nat → Bool) : ∀ (c : Nat) (k : Int), VNum L k → k.toNat ≤ c → ev (renN f L) k ρ = ev L k (fun v => ρ (f v).toNat) := by
 intro c
 induction c with
 | zero =>
  intro k hk hc
  rw [ev_const (by have := hk.1; omega), ev_const (by have := hk.1; omega)]
 | succ c ih =>
  intro k hk hc
  by_cases h2 : k < 2
  · rw [ev_const h2, ev_const h2]
  · have hv := nodeF_valid h (by omega) hk.2
    rw [ev_node h' (renN_num hk) (by omega), ev_node h hk (by omega), renN_node f (by omega) hk]
    simp only
    rw [ih _ hv.2.2.2.1 (by omega), ih _ hv.2.2.1 (by omega)]
theorem ren_visit {f : Nat → Int} {L : List Nd} (h : VNd L) : ∀ (fuel : Nat) (s s' : Vs) (k q : Int), VNum L k → mget s.2 0 ≠ none → mget s.2 1 ≠ none → visitF L fuel s k = some (s', q) →
 visitF (renN f L) fuel (renN f s.1, s.2) k = some ((renN f s'.1, s'.2), q) ∧ mget s'.2 0 ≠ none ∧ mget s'.2 1 ≠ none := by
 intro fuel
 induction fuel with
 | zero => intro s s' k q _ _ _ hv; simp [visitF] at hv
 | succ fuel ih =>
  intro s s' k q hk h0 h1 hv
  simp only [visitF] at hv ⊢
  cases hm : mget s.2 k with
  | some r =>
   rw [hm] at hv
   simp only [Option.some.injEq, Prod.mk.injEq] at hv ⊢
   obtain ⟨rfl, rfl⟩ := hv
   exact ⟨⟨⟨rfl, rfl⟩, rfl⟩, h0, h1⟩
  | none =>
   rw [hm] at hv
   simp only at hv ⊢
   have h2 : 2 ≤ k := by
    rcases Int.lt_or_le k 2 with hc | hc
    · have := hk.1
      have : k = 0 ∨ k = 1 := by omega
      rcases this with rfl | rfl
      · exact absurd hm h0
      · exact absurd hm h1
    · exact hc
   have hn := nodeF_valid h h2 hk.2
   cases e1 : visitF L fuel s (nodeF L k).2.1 with
   | none => rw [e1] at hv; simp at hv
   | some p1 =>
    obtain ⟨s1, l1⟩ := p1
    rw [e1] at hv
    simp only at hv
    obtain ⟨g1, g2, g3⟩ := ih s s1 _ _ hn.2.2.1 h0 h1 e1
    cases e2 : visitF L fuel s1 (nodeF L k).2.2 with
    | none => rw [e2] at hv; simp at hv
    | some p2 =>
     obtain ⟨s2, l2⟩ := p2
     rw [e2] at hv
     simp only [Option.some.injEq, Prod.mk.injEq] at hv
     obtain ⟨rfl, rfl⟩ := hv
     obtain ⟨q1, q2, q3⟩ := ih s1 s2 _ _ hn.2.2.2.1 g2 g3 e2
     rw [renN_node f h2 hk]
     simp only [g1, q1]
     refine ⟨?_, ?_, ?_⟩
     · simp [renN]
     · rw [mget_put]; split <;> simp [q2]
     · rw [mget_put]; split <;> simp [q3]
theorem visitF_more {N : List Nd} : ∀ (a : Nat) (s : Vs) (k : Int) (p : Vs × Int), visitF N a s k = some p → ∀ b, a ≤ b → visitF N b s k = some p := by
 intro a
 induction a with
 | zero => intro s k p h; simp [visitF] at h
 | succ a ih =>
  intro s k p h b hb
  obtain ⟨c, rfl⟩ : ∃ c, b = c + 1 := ⟨b - 1, by omega⟩
  simp only [visitF] at h ⊢
  cases hm : mget s.2 k with
  | some r => rw [hm] at h; exact h
  | none =>
   rw [hm] at h
   simp only at h ⊢
   cases e1 : visitF N a s (nodeF N k).2.1 with
   | none => rw [e1] at h; simp at h
   | some p1 =>
    obtain ⟨s1, l1⟩ := p1
    rw [e1] at h
    rw [ih _ _ _ e1 c (by omega)]
    simp only at h ⊢
    cases e2 : visitF N a s1 (nodeF N k).2.2 with
    | none => rw [e2] at h; simp at h
    | some p2 =>
     obtain ⟨s2, l2⟩ := p2
     rw [e2] at h
     rw [ih _ _ _ e2 c (by omega)]
     exact h
theorem visitF_fuel {N : List Nd} {a b : Nat} {s : Vs} {k : Int} {p q : Vs × Int} (h : visitF N a s k = some p) (h' : visitF N b s k = some q) : p = q := by
 have h1 := visitF_more a s k p h (a + b) (by omega)
 have h2 := visitF_more b s k q h' (a + b) (by omega)
 rw [h1] at h2
 exact Option.some.inj h2
theorem ren_isTab {f : Nat → Int} {n m : Nat} {t : List Bool} {L : List Nd} {r : Int} (h : IsTab n t L r) (hu : Up f n m) (hm : m ≤ 40) : IsTab m (tab (renN f L) m 0 r) (renN f L) r := by
 obtain ⟨ho, hv, ht⟩ := h.ord
 have ho' := ren_ord ho hu (by omega)
 have hv' := renN_num (f := f) hv
 refine ⟨hm, tab_length _ _ _ _, ?_, by rw [renN_length]; exact h.short⟩
 obtain ⟨s1, a1, a2⟩ := finish_table ho hv
 obtain ⟨s2, b1, b2⟩ := finish_table ho' hv'
 rw [ht, h.eq] at a1 a2
 have hx := (ren_visit (f := f) ho.val (n + 1) ([], [(0, 0), (1, 1)]) s1 r r hv (by simp [mget]) (by simp [mget]) a1).1
 have e1 := visitF_fuel hx b1
 obtain ⟨e2, e3⟩ : (renN f s1.1, s1.2) = s2 ∧ r = (tableF m [] 0 (tab (renN f L) m 0 r)).2 := by simpa using e1
 rw [← e2] at b2
 simp only at b2 a2
 rw [a2] at b2
 exact Prod.ext b2.symm e3.symm
theorem placeF_snoc (ρ : Nat → Bool) : ∀ (d v : Nat), placeF ρ (d + 1) v = 2 * placeF ρ d v + if ρ (v + d) then 1 else 0 := by
 intro d
 induction d with
 | zero => intro v; simp [placeF]
 | succ d ih =>
  intro v
  rw [placeF, ih (v + 1), placeF]
  have e : v + 1 + d = v + (d + 1) := by omega
  rw [e, Nat.pow_succ]
  split <;> omega
def fromF (f : Nat → Int) (m i d : Nat) : Nat := placeF (fun v => bitF m i (f v).toNat) d 0
def renT (f : Nat → Int) (n m : Nat) (t : List Bool) : List Bool := (List.range (2 ^ m)).map fun i => t.getD (fromF f m i n) false
theorem renT_length (f : Nat → Int) (n m : Nat) (t : List Bool) : (renT f n m t).length = 2 ^ m := by simp [renT]
theorem tab_ren {f : Nat → Int} {n m : Nat} {t : List Bool} {L : List Nd} {r : Int} (h : IsTab n t L r) (hu : Up f n m) (hm : m ≤ 40) : tab (renN f L) m 0 r = renT f n m t := by
 obtain ⟨ho, hv, ht⟩ := h.ord
 have ho' := ren_ord ho hu (by omega)
 have hv' := renN_num (f := f) hv
 refine List.ext_getElem (by rw [tab_length, renT_length]) (fun i h1 h2 => ?_)
 rw [tab_length] at h1
 have e1 := tab_bit ho' hv' h1
 rw [ren_ev (n := 0) ho.val ho'.val _ r.toNat r hv (Nat.le_refl _)] at e1
 have e2 := tab_ev ho (fun v => bitF m i (f v).toNat) n 0 r (by omega) hv (topF_range ho.val hv).1
 have : ((0 : Nat) : Int) = 0 := rfl
 rw [this, ht] at e2
 simp only [List.getD_eq_getElem?_getD] at e1
 rw [List.getElem?_eq_getElem (by rw [tab_length]; exact h1), Option.getD_some] at e1
 rw [e1, ← e2]
 simp [renT, fromF]
theorem ren_tab {f : Nat → Int} {n m : Nat} {t : List Bool} {L : List Nd} {r : Int} (h : IsTab n t L r) (hu : Up f n m) (hm : m ≤ 40) : IsTab m (renT f n m t) (renN f L) r := by
 have := ren_isTab h hu hm
 rwa [tab_ren h hu hm] at this
def toF (qs : List Int) (i : Nat) : Int := qs.getD i 0
def renErr (m : Int) (qs : List Int) : Nat → Nat → Int
 | 0, _ => 0
 | k + 1, i => if toF qs i < 0 ∨ m ≤ toF qs i then 2 else if 0 < i ∧ toF qs i ≤ toF qs (i - 1) then 5 else renErr m qs k (i + 1)
def renW (n m : Int) (qs : List Int) : Int := if m < 0 ∨ 40 < m then 2 else if (qs.length : Int) ≠ n then 4 else renErr m qs qs.length 0
theorem renErr_up {m : Int} {qs : List Int} : ∀ (k i : Nat), renErr m qs k i = 0 → (∀ j, i ≤ j → j < i + k → 0 ≤ toF qs j ∧ toF qs j < m ∧ (0 < j → toF qs (j - 1) < toF qs j)) := by
 intro k
 induction k with
 | zero => intro i _ j h1 h2; omega
 | succ k ih =>
  intro i h j h1 h2
  simp only [renErr] at h
  split at h
  · omega
  · split at h
    · omega
    · rcases Nat.lt_or_eq_of_le h1 with hlt | rfl
      · exact ih (i + 1) h j (by omega) (by omega)
      · exact ⟨by omega, by omega, fun h0 => by omega⟩
theorem up_of {n m : Nat} {qs : List Int} (h : renErr m qs qs.length 0 = 0) (hl : qs.length = n) : Up (toF qs) n m := by
 have H := renErr_up qs.length 0 h
 refine ⟨fun i hi => ⟨(H i (by omega) (by omega)).1, (H i (by omega) (by omega)).2.1⟩, ?_⟩
 intro i j hij hj
 induction j with
 | zero => omega
 | succ j ih =>
  have h1 := (H (j + 1) (by omega) (by omega)).2.2 (by omega)
  rw [Nat.add_sub_cancel] at h1
  rcases Nat.lt_or_eq_of_le (Nat.lt_succ_iff.1 hij) with hlt | rfl
  · have := ih hlt (by omega); omega
  · exact h1
end Go.Proofs.YtcipnkemnepbaaaGreat
namespace Go.Proofs.YtcipnkemnepbaaaGreat
theorem renErr_range {m : Int} {qs : List Int} (h : renErr m qs qs.length 0 = 0) : ∀ x ∈ qs, 0 ≤ x ∧ x < m := by
 intro x hx
 obtain ⟨j, hj, rfl⟩ := List.mem_iff_getElem.1 hx
 have := renErr_up qs.length 0 h j (by omega) (by omega)
 unfold toF at this
 simp [List.getD, hj] at this
 exact ⟨this.1, this.2.1⟩
end Go.Proofs.YtcipnkemnepbaaaGreat
