/- BddChecks, plain: the reference's Order against finish. No program in sight. -/
import Derived.Test.YtmmjijmmocabhaaJFrom
namespace Go.Proofs.Ytmmjijmmocabhaa
set_option linter.unusedVariables false
set_option linter.unusedSimpArgs false

/-- What the reference's Order does. -/
def ordF (N : List Nd) : Nat → List Int → Int → List Int
  | 0, done, _ => done
  | f + 1, done, k => if k < 2 ∨ k ∈ done then done else ordF N f (ordF N f done (nodeF N k).2.1) (nodeF N k).2.2 ++ [k]

theorem ordF_fuel {N : List Nd} (h : VNd N) : ∀ (f g : Nat) (done : List Int) (k : Int), VNum N k → k.toNat ≤ f → k.toNat ≤ g → ordF N f done k = ordF N g done k := by
  intro f
  induction f with
  | zero =>
    intro g done k hk hf hg
    cases g with
    | zero => rfl
    | succ g => simp only [ordF]; rw [if_pos (.inl (by omega))]
  | succ f ih =>
    intro g done k hk hf hg
    cases g with
    | zero => simp only [ordF]; rw [if_pos (.inl (by omega))]
    | succ g =>
      simp only [ordF]
      by_cases h2 : k < 2 ∨ k ∈ done
      · rw [if_pos h2, if_pos h2]
      · rw [if_neg h2, if_neg h2]
        have hk2 : 2 ≤ k := by have := fun e => h2 (.inl e); omega
        have hv := nodeF_valid h hk2 hk.2
        rw [ih g _ _ hv.2.2.1 (by omega) (by omega), ih g _ _ hv.2.2.2.1 (by omega) (by omega)]

def ordV (N : List Nd) (done : List Int) (k : Int) : List Int := ordF N k.toNat done k

theorem ordV_done {N : List Nd} {done : List Int} {k : Int} (h : k < 2 ∨ k ∈ done) : ordV N done k = done := by
  unfold ordV
  cases k.toNat with
  | zero => rfl
  | succ f => simp only [ordF]; rw [if_pos h]

theorem ordV_node {N : List Nd} (hN : VNd N) {done : List Int} {k : Int} (hk : VNum N k) (h2 : 2 ≤ k) (hd : k ∉ done) : ordV N done k = ordV N (ordV N done (nodeF N k).2.1) (nodeF N k).2.2 ++ [k] := by
  have hv := nodeF_valid hN h2 hk.2
  obtain ⟨f, hf⟩ : ∃ f, k.toNat = f + 1 := ⟨k.toNat - 1, by omega⟩
  unfold ordV
  rw [hf, ordF, if_neg (by rintro (h | h); omega; exact hd h), ordF_fuel hN f _ _ _ hv.2.2.1 (by omega) (Nat.le_refl _), ordF_fuel hN f _ _ _ hv.2.2.2.1 (by omega) (Nat.le_refl _)]

theorem ordV_all {N : List Nd} (hN : VNd N) : ∀ (m : Nat) (k : Int) (done : List Int), k.toNat ≤ m → VNum N k → (∀ x, x ∈ ordV N done k → x ∈ done ∨ (2 ≤ x ∧ x ≤ k)) ∧ (done.Nodup → (ordV N done k).Nodup) ∧ (∀ x, x ∈ done → x ∈ ordV N done k) := by
  intro m
  induction m with
  | zero =>
    intro k done hm hk
    rw [ordV_done (.inl (by omega))]
    exact ⟨fun x h => .inl h, id, fun x h => h⟩
  | succ m ih =>
    intro k done hm hk
    by_cases h : k < 2 ∨ k ∈ done
    · rw [ordV_done h]
      exact ⟨fun x h => .inl h, id, fun x h => h⟩
    · have h2 : 2 ≤ k := by have := fun e => h (.inl e); omega
      have hd : k ∉ done := fun e => h (.inr e)
      have hv := nodeF_valid hN h2 hk.2
      obtain ⟨a1, a2, a3⟩ := ih (nodeF N k).2.1 done (by omega) hv.2.2.1
      obtain ⟨b1, b2, b3⟩ := ih (nodeF N k).2.2 (ordV N done (nodeF N k).2.1) (by omega) hv.2.2.2.1
      rw [ordV_node hN hk h2 hd]
      refine ⟨fun x hx => ?_, fun hn => ?_, fun x hx => List.mem_append_left _ (b3 x (a3 x hx))⟩
      · rcases List.mem_append.1 hx with hx | hx
        · rcases b1 x hx with hx | hx
          · rcases a1 x hx with hx | hx
            · exact .inl hx
            · exact .inr (by omega)
          · exact .inr (by omega)
        · rw [List.mem_singleton.1 hx]; exact .inr (by omega)
      · rw [List.nodup_append]
        refine ⟨b2 (a2 hn), by simp, fun a ha b hb => ?_⟩
        rw [List.mem_singleton.1 hb]
        rintro rfl
        rcases b1 _ ha with hx | hx
        · rcases a1 _ hx with hx | hx
          · exact hd hx
          · omega
        · omega

theorem ordV_not {N : List Nd} (hN : VNd N) {k : Int} {done : List Int} (hk : VNum N k) (h2 : 2 ≤ k) (hd : k ∉ done) : k ∉ ordV N (ordV N done (nodeF N k).2.1) (nodeF N k).2.2 := by
  have hv := nodeF_valid hN h2 hk.2
  intro h
  rcases (ordV_all hN _ _ _ (Nat.le_refl _) hv.2.2.2.1).1 _ h with h | h
  · rcases (ordV_all hN _ _ _ (Nat.le_refl _) hv.2.2.1).1 _ h with h | h
    · exact hd h
    · omega
  · omega

/-! ### the map of finish -/
def kf : List Int → Int → List (Int × Int)
  | [], _ => []
  | x :: l, c => (x, c) :: kf l (c + 1)

theorem kf_snoc : ∀ (l : List Int) (x c : Int), kf (l ++ [x]) c = kf l c ++ [(x, c + l.length)]
  | [], x, c => by simp [kf]
  | y :: l, x, c => by
    simp only [List.cons_append, kf, kf_snoc l x (c + 1), List.length_cons]
    congr 3
    simp
    omega

theorem kf_none : ∀ (l : List Int) (x c : Int), x ∉ l → mget (kf l c) x = none
  | [], x, c, _ => rfl
  | y :: l, x, c, h => by
    simp only [kf, mget]
    rw [if_neg (fun e => h (by rw [e]; simp))]
    exact kf_none l x (c + 1) (fun e => h (List.mem_cons_of_mem _ e))

theorem kf_some : ∀ (l : List Int) (x c j : Int), mget (kf l c) x = some j → x ∈ l := by
  intro l x c j h
  apply Classical.byContradiction
  intro hn
  rw [kf_none l x c hn] at h
  cases h

theorem kf_get : ∀ (l : List Int) (c : Int) (i : Nat) (h : i < l.length), l.Nodup → mget (kf l c) l[i] = some (c + i)
  | [], c, i, h, _ => by simp at h
  | y :: l, c, 0, h, _ => by simp [kf, mget]
  | y :: l, c, i + 1, h, hn => by
    have hn' := List.nodup_cons.1 hn
    simp only [kf, mget, List.getElem_cons_succ]
    rw [if_neg (fun e => hn'.1 (by rw [← e]; exact List.getElem_mem _)), kf_get l (c + 1) i (by simpa using h) hn'.2]
    congr 1
    simp
    omega

theorem mput_end {M : List (Int × Int)} {k v : Int} (h : mget M k = none) : mput M k v = M ++ [(k, v)] := by
  induction M with
  | nil => rfl
  | cons p M ih =>
    obtain ⟨x, u⟩ := p
    simp only [mget] at h
    split at h
    · cases h
    · rename_i hne
      simp only [mput]
      rw [if_neg hne, ih h]
      rfl

def startM (done : List Int) : List (Int × Int) := (0, 0) :: (1, 1) :: kf done 2

theorem startM_get {done : List Int} {k : Int} (h2 : 2 ≤ k) : mget (startM done) k = mget (kf done 2) k := by
  simp only [startM, mget]
  rw [if_neg (by omega), if_neg (by omega)]

theorem visit_ord {N : List Nd} (hN : VNd N) : ∀ (fuel : Nat) (s s' : Vs) (done : List Int) (k j : Int), visitF N fuel s k = some (s', j) → VNum N k → s.2 = startM done → s.1.length = done.length →
    s'.2 = startM (ordV N done k) ∧ s'.1.length = (ordV N done k).length := by
  intro fuel
  induction fuel with
  | zero => intro s s' done k j h; simp [visitF] at h
  | succ fuel ih =>
    intro s s' done k j h hk hs hl
    unfold visitF at h
    by_cases hc : k < 2 ∨ k ∈ done
    · have hm : ∃ u, mget s.2 k = some u := by
        rw [hs]
        rcases Int.lt_or_le k 2 with h2 | h2
        · have : k = 0 ∨ k = 1 := by have := hk.1; omega
          rcases this with rfl | rfl
          · exact ⟨0, rfl⟩
          · exact ⟨1, rfl⟩
        · rw [startM_get h2]
          cases hg : mget (kf done 2) k with
          | some u => exact ⟨u, rfl⟩
          | none =>
            exfalso
            rcases hc with hc | hc
            · omega
            · -- a member is found
              have : ∀ (l : List Int) (c : Int), k ∈ l → mget (kf l c) k ≠ none := by
                intro l
                induction l with
                | nil => intro c h; simp at h
                | cons y l ih2 =>
                  intro c h
                  simp only [kf, mget]
                  split
                  · simp
                  · rename_i hne
                    rcases List.mem_cons.1 h with h | h
                    · exact absurd h hne
                    · exact ih2 _ h
              exact this done 2 hc hg
      obtain ⟨u, hu⟩ := hm
      rw [hu] at h
      simp only [Option.some.injEq, Prod.mk.injEq] at h
      obtain ⟨rfl, _⟩ := h
      rw [ordV_done hc]
      exact ⟨hs, hl⟩
    · have h2 : 2 ≤ k := by have := fun e => hc (.inl e); omega
      have hd : k ∉ done := fun e => hc (.inr e)
      have hn : mget s.2 k = none := by rw [hs, startM_get h2, kf_none _ _ _ hd]
      rw [hn] at h
      simp only at h
      have hv := nodeF_valid hN h2 hk.2
      split at h
      · cases h
      · rename_i s1 low e1
        split at h
        · cases h
        · rename_i s2 high e2
          simp only [Option.some.injEq, Prod.mk.injEq] at h
          obtain ⟨rfl, _⟩ := h
          obtain ⟨a1, a2⟩ := ih _ _ _ _ _ e1 hv.2.2.1 hs hl
          obtain ⟨b1, b2⟩ := ih _ _ _ _ _ e2 hv.2.2.2.1 a1 a2
          have hnot := ordV_not hN hk h2 hd
          rw [ordV_node hN hk h2 hd]
          refine ⟨?_, by simp only [List.length_append, b2]; rfl⟩
          simp only
          rw [mput_end (by rw [b1, startM_get h2, kf_none _ _ _ hnot]), b1, b2]
          unfold startM
          rw [kf_snoc]
          simp only [List.cons_append]
          congr 5
          omega

def twos (m : Nat) : List Int := (List.range m).map fun (i : Nat) => (i : Int) + 2

theorem nodup_len : ∀ (m : Nat) (l : List Int), l.Nodup → (∀ x ∈ l, 2 ≤ x ∧ x < (m : Int) + 2) → l.length ≤ m := by
  intro m
  induction m with
  | zero =>
    intro l _ h
    cases l with
    | nil => exact Nat.le_refl _
    | cons x l => have := h x (by simp); omega
  | succ m ih =>
    intro l hn h
    by_cases hm : ((m : Int) + 2) ∈ l
    · have h1 := ih (l.erase ((m : Int) + 2)) (hn.erase _) (fun x hx => by
        have h3 := (List.Nodup.mem_erase_iff hn).1 hx
        have h4 := h x h3.2
        have h5 := h3.1
        omega)
      rw [List.length_erase_of_mem hm] at h1
      omega
    · have := ih l hn (fun x hx => by
        have h4 := h x hx
        have h5 : x ≠ (m : Int) + 2 := fun e => hm (e ▸ hx)
        omega)
      omega

/-- The reference's Order is the identity exactly if finish changes nothing. -/
theorem ord_check {L : List Nd} {n : Nat} {r : Int} (hO : Ord L n) (hr : VNum L r) :
    (ordV L [] r = twos L.length ↔ (r = (tableF n [] 0 (tab L n 0 r)).2 ∧ L = (tableF n [] 0 (tab L n 0 r)).1)) ∧ (tableF n [] 0 (tab L n 0 r)).1.length ≤ L.length := by
  have ht := topF_range hO.val hr
  obtain ⟨s', j, h1, h2, h3, h4, _⟩ := visit_table hO n 0 r ([], [(0, 0), (1, 1)]) (n + 1) (coh_start hO.n40) hr ht.1 (by omega) (by omega) (by omega)
  simp only at h2
  rw [h2]
  simp only
  obtain ⟨g1, g2⟩ := visit_ord hO.val _ _ _ [] _ _ h1 hr rfl rfl
  obtain ⟨o1, o2, _⟩ := ordV_all hO.val _ r [] (Nat.le_refl _) hr
  have hnd := o2 (by simp)
  have hel : ∀ x ∈ ordV L [] r, 2 ≤ x ∧ x < (L.length : Int) + 2 := fun x hx => by
    rcases o1 x hx with h | h
    · simp at h
    · have := hr.2; omega
  have hlen := nodup_len _ _ hnd hel
  obtain ⟨D, hD⟩ : ∃ D, D = ordV L [] r := ⟨_, rfl⟩
  rw [← hD] at g1 g2 hnd hel hlen ⊢
  refine ⟨⟨fun he => ?_, fun he => ?_⟩, by omega⟩
  · have hid : ∀ k, VNum L k → mget s'.2 k = some k := by
      intro k hk
      rw [g1]
      rcases Int.lt_or_le k 2 with hk2 | hk2
      · have : k = 0 ∨ k = 1 := by have := hk.1; omega
        rcases this with rfl | rfl <;> rfl
      · rw [startM_get hk2]
        have hi : (k - 2).toNat < D.length := by rw [he]; simp [twos]; have := hk.2; omega
        have := kf_get D 2 (k - 2).toNat hi hnd
        have e1 : D[(k - 2).toNat] = k := by
          simp only [he, twos, List.getElem_map, List.getElem_range]
          omega
        rw [e1] at this
        rw [this]
        congr 1
        omega
    refine ⟨?_, ?_⟩
    · rw [hid r hr] at h4
      exact Option.some.inj h4
    · have hll : s'.1.length = L.length := by rw [g2, he]; simp [twos]
      refine List.ext_getElem hll.symm (fun i hi1 hi2 => ?_)
      have hk : VNum L ((i : Int) + 2) := ⟨by omega, by omega⟩
      obtain ⟨_, p2, p3, p4⟩ := h3.img _ _ (hid _ hk)
      have hkN : (2 : Int) ≤ (i : Int) + 2 := by omega
      have eL : nodeF L ((i : Int) + 2) = L[i] := by
        have e : ((i : Int) + 2 - 2).toNat = i := by omega
        unfold nodeF; rw [e]; simp [List.getD, hi1]
      have eO : nodeF s'.1 ((i : Int) + 2) = s'.1[i] := by
        have e : ((i : Int) + 2 - 2).toNat = i := by omega
        unfold nodeF; rw [e]; simp [List.getD, hi2]
      have lL := hO.low hkN hk
      have lO := h3.ord.low hkN p2
      have tl := hO.top_lt hkN hk
      have t0 := (topF_range hO.val hk).1
      obtain ⟨d, hd⟩ : ∃ d : Nat, topF L ((i : Int) + 2) + 1 + d = n := ⟨(n - topF L ((i : Int) + 2) - 1).toNat, by omega⟩
      have hT := p4 (d + 1) (topF L ((i : Int) + 2)) (by omega) t0 (Int.le_refl _)
      rw [tab, tab, partF_low p3, partF_high p3, partF_low rfl, partF_high rfl] at hT
      have hl := List.append_inj hT (by rw [tab_length, tab_length])
      have q0 := h3.img _ _ (hid _ lL.1)
      have q1 := h3.img _ _ (hid _ lL.2.1)
      have e0 : (nodeF s'.1 ((i : Int) + 2)).2.1 = (nodeF L ((i : Int) + 2)).2.1 := by
        refine tab_inj h3.ord d (topF L ((i : Int) + 2) + 1) _ _ (by omega) lO.1 q0.2.1 (by have := lO.2.2.1; omega) (by rw [q0.2.2.1]; have := lL.2.2.1; omega) ?_
        rw [hl.1, q0.2.2.2 d _ (by omega) (by omega) (by have := lL.2.2.1; omega)]
      have e1 : (nodeF s'.1 ((i : Int) + 2)).2.2 = (nodeF L ((i : Int) + 2)).2.2 := by
        refine tab_inj h3.ord d (topF L ((i : Int) + 2) + 1) _ _ (by omega) lO.2.1 q1.2.1 (by have := lO.2.2.2.1; omega) (by rw [q1.2.2.1]; have := lL.2.2.2.1; omega) ?_
        rw [hl.2, q1.2.2.2 d _ (by omega) (by omega) (by have := lL.2.2.2.1; omega)]
      have ev : (nodeF s'.1 ((i : Int) + 2)).1 = (nodeF L ((i : Int) + 2)).1 := by rw [← topF_node hkN, ← topF_node hkN, p3]
      rw [← eL, ← eO]
      exact (Prod.ext ev (Prod.ext e0 e1)).symm
  · obtain ⟨rfl, hLO⟩ := he
    have hDl : D.length = L.length := by rw [← g2, ← hLO]
    refine List.ext_getElem (by rw [hDl]; simp [twos]) (fun i hi1 hi2 => ?_)
    have hx := hel D[i] (List.getElem_mem hi1)
    have hm : mget s'.2 D[i] = some (2 + i) := by rw [g1, startM_get hx.1]; exact kf_get D 2 i hi1 hnd
    obtain ⟨p1, p2, p3, p4⟩ := h3.img _ _ hm
    have := p4 n 0 (by omega) (by omega) (topF_range hO.val p1).1
    rw [← hLO] at this p2
    have he := tab_inj hO n 0 _ _ (by omega) p2 p1 (topF_range hO.val p2).1 (topF_range hO.val p1).1 this
    simp only [twos, List.getElem_map, List.getElem_range]
    omega

/-! ### from Check's first loop to Ord -/
theorem ord_of_first {n : Int} {L : List Nd} (h : firstErr n L L.length 0 = 0) (hn : n ≤ 40) : Ord L (n.toNat : Nat) := by
  have hz := firstErr_zero L.length 0 (by omega) h
  have hnode : ∀ (j : Nat) (hj : j < L.length), (0 ≤ L[j].1 ∧ L[j].1 < n ∧ 0 ≤ L[j].2.1 ∧ L[j].2.1 ≤ (j : Int) + 1 ∧ 0 ≤ L[j].2.2 ∧ L[j].2.2 ≤ (j : Int) + 1) ∧ L[j].2.1 ≠ L[j].2.2 ∧ L[j] ∉ L.take j ∧
      (1 < L[j].2.1 → L[j].1 < (nodeF L L[j].2.1).1) ∧ (1 < L[j].2.2 → L[j].1 < (nodeF L L[j].2.2).1) := by
    intro j hj
    have h0 := hz j hj (by omega)
    unfold checkNodeF at h0
    split at h0
    · omega
    · rename_i c1
      split at h0
      · omega
      · rename_i c2
        split at h0
        · omega
        · rename_i c3
          refine ⟨by omega, fun e => c2 (.inl e), fun e => c2 (.inr (by simpa using e)), fun h1 => ?_, fun h1 => ?_⟩
          · have := fun h2 => c3 (.inl ⟨h1, h2⟩); omega
          · have := fun h2 => c3 (.inr ⟨h1, h2⟩); omega
  have hmem : ∀ x ∈ L, ∃ j, ∃ hj : j < L.length, x = L[j] := fun x hx => by
    obtain ⟨j, hj, e⟩ := List.mem_iff_getElem.1 hx
    exact ⟨j, hj, e.symm⟩
  refine ⟨by omega, ?_, ?_, ?_, ?_, ?_⟩
  · intro i x hx
    obtain ⟨hi, rfl⟩ := List.getElem?_eq_some_iff.1 hx
    have := (hnode i hi).1
    omega
  · intro x hx
    obtain ⟨j, hj, rfl⟩ := hmem x hx
    have := (hnode j hj).1
    omega
  · intro x hx
    obtain ⟨j, hj, rfl⟩ := hmem x hx
    exact (hnode j hj).2.1
  · intro x hx
    obtain ⟨j, hj, rfl⟩ := hmem x hx
    have hj2 := hnode j hj
    have top : ∀ k, 0 ≤ k → (1 < k → L[j].1 < (nodeF L k).1) → L[j].1 < topF L k := by
      intro k hk hc
      rcases Int.lt_or_le k 2 with h2 | h2
      · rw [topF_const h2]; omega
      · rw [topF_node h2]; exact hc (by omega)
    exact ⟨top _ (by omega) hj2.2.2.2.1, top _ (by omega) hj2.2.2.2.2⟩
  · rw [List.Nodup, List.pairwise_iff_getElem]
    intro i j hi hj hij he
    refine (hnode j hj).2.2.1 ?_
    rw [← he]
    have hlt : i < (L.take j).length := by simp; omega
    have := List.getElem_mem hlt
    rwa [List.getElem_take] at this

theorem add_self {L : List Nd} {n : Int} (hO : Ord L n) : ∀ i, i ≤ L.length → addF (L.take i) ([], [0, 1]) = (L.take i, (List.range (i + 2)).map fun (j : Nat) => (j : Int)) := by
  intro i
  induction i with
  | zero => intro _; rfl
  | succ i ih =>
    intro hi
    have hlt : i < L.length := by omega
    have hv := hO.val i L[i] (List.getElem?_eq_getElem hlt)
    have hm : L[i] ∈ L := List.getElem_mem _
    rw [List.take_succ_eq_append_getElem hlt, addF_end, ih (by omega)]
    simp only
    have g : ∀ k : Int, 0 ≤ k → k < (i : Int) + 2 → (((List.range (i + 2)).map fun (j : Nat) => (j : Int))[k.toNat]?).getD 0 = k := by
      intro k h0 hk
      have : k.toNat < i + 2 := by omega
      simp [this]
      omega
    rw [g _ hv.2.2.1 hv.2.2.2.1, g _ hv.2.2.2.2.1 hv.2.2.2.2.2]
    have hnf : findFrom (L.take i) L[i] 2 = 0 := by
      by_cases hc : findFrom (L.take i) L[i] 2 = 0
      · exact hc
      · exfalso
        have hg := findFrom_get (L.take i) L[i] 2 (by omega) hc
        obtain ⟨hi1, hi2⟩ := List.getElem?_eq_some_iff.1 hg
        rw [List.getElem_take] at hi2
        have hi3 : (findFrom (L.take i) L[i] 2 - 2).toNat < i := by have := hi1; simp at this; omega
        have := nodup_inj hO.nodup (by omega) hlt hi2
        omega
    have en : numF (L.take i) (L[i].1, L[i].2.1, L[i].2.2) = (L.take i ++ [L[i]], (i : Int) + 2) := by
      have e : (L[i].1, L[i].2.1, L[i].2.2) = L[i] := rfl
      rw [e]
      unfold numF
      rw [if_neg (hO.red _ hm), if_pos hnf]
      congr 1
      simp
      omega
    rw [en]
    refine Prod.ext rfl ?_
    simp only
    have e3 : List.range (i + 1 + 2) = List.range (i + 2) ++ [i + 2] := by
      rw [show i + 1 + 2 = (i + 2) + 1 by omega, List.range_succ]
    rw [e3, List.map_append]
    rfl

/-- Finish answers for nodes that pass the first loop. -/
theorem check_vis {n : Int} {L : List Nd} {r : Int} (hn : n ≤ 40) (hf : firstErr n L L.length 0 = 0) (h0 : 0 ≤ r) (h1 : r < L.length + 2) (hl : L.length ≤ 16384) :
    ∃ fuel s', visitF (addF L ([], [0, 1])).1 fuel ([], [(0, 0), (1, 1)]) ((addF L ([], [0, 1])).2.getD r.toNat 0) = some (s', (tableF n.toNat [] 0 (tab L n.toNat 0 r)).2) ∧ s'.1 = (tableF n.toNat [] 0 (tab L n.toNat 0 r)).1 ∧ (tableF n.toNat [] 0 (tab L n.toNat 0 r)).1.length ≤ 16384 := by
  have hO := ord_of_first hf hn
  have hr : VNum L r := ⟨h0, by omega⟩
  have ha := add_self hO L.length (Nat.le_refl _)
  rw [List.take_length] at ha
  rw [ha]
  simp only
  have hg : ((List.range (L.length + 2)).map fun (j : Nat) => (j : Int)).getD r.toNat 0 = r := by
    have : r.toNat < L.length + 2 := by omega
    simp [List.getD, this]
    omega
  rw [hg]
  obtain ⟨s', a1, a2⟩ := finish_table hO hr
  exact ⟨_, s', a1, a2, by have := (ord_check hO hr).2; omega⟩

/-- What Check answers, by the reference's Order. -/
theorem checkF_ord {n : Int} {L : List Nd} {r : Int} (h0 : 0 ≤ n) (hn : n ≤ 40) (hl : L.length ≤ 16384) (hf : firstErr n L L.length 0 = 0) (hr0 : 0 ≤ r) (hr1 : r < L.length + 2) :
    checkF n L r (tableF n.toNat [] 0 (tab L n.toNat 0 r)).1 (tableF n.toNat [] 0 (tab L n.toNat 0 r)).2 = if ordV L [] r = twos L.length then 0 else 6 := by
  have hO := ord_of_first hf hn
  have hc := (ord_check hO (r := r) ⟨hr0, by omega⟩).1
  unfold checkF
  rw [if_neg (by omega), if_neg (by omega), if_neg (by simpa using hf), if_neg (by omega)]
  by_cases h : ordV L [] r = twos L.length
  · rw [if_pos h, if_pos (hc.1 h)]
  · rw [if_neg h, if_neg (fun e => h (hc.2 e))]
end Go.Proofs.Ytmmjijmmocabhaa
