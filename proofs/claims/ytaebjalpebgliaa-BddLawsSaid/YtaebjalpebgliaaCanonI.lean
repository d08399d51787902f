/- What add and ite make of reduced ordered nodes, by tables. No program in sight. -/
import Derived.Test.YtaebjalpebgliaaCanon
namespace Go.Proofs.Ytaebjalpebgliaa

theorem addF_end (L : List Nd) (x : Nd) (s : List Nd × List Int) : addF (L ++ [x]) s = ((numF (addF L s).1 (x.1, (addF L s).2[x.2.1.toNat]?.getD 0, (addF L s).2[x.2.2.toNat]?.getD 0)).1, (addF L s).2 ++ [(numF (addF L s).1 (x.1, (addF L s).2[x.2.1.toNat]?.getD 0, (addF L s).2[x.2.2.toNat]?.getD 0)).2]) := by
  induction L generalizing s with
  | nil => rfl
  | cons y L ih => simp only [List.cons_append, addF]; exact ih _

/-- The numbers nums of the first k nodes of L stand in N for the same functions. -/
structure Added (L N : List Nd) (n : Int) (k : Nat) (nums : List Int) : Prop where
  len : nums.length = k + 2
  num : ∀ i, i < k + 2 → VNum N (nums[i]?.getD 0) ∧ topF N (nums[i]?.getD 0) = topF L i ∧ ∀ (d : Nat) (v : Int), v + d = n → v ≤ topF L i → tab N d v (nums[i]?.getD 0) = tab L d v i

theorem Added.mono {L N N' : List Nd} {n : Int} {k : Nat} {nums : List Int} (h : Added L N n k nums) (hN : Ord N n) (hp : N <+: N') : Added L N' n k nums :=
  ⟨h.len, fun i hi => by
    obtain ⟨a, b, c⟩ := h.num i hi
    exact ⟨a.ext hp, by rw [topF_ext hp a, b], fun d v hd hv => by rw [tab_ext hN hp d v _ hd a (by omega), c d v hd hv]⟩⟩

theorem add_ord {L N : List Nd} {n : Int} (hL : Ord L n) (hN : Ord N n) : ∀ k, k ≤ L.length →
    Ord (addF (L.take k) (N, [0, 1])).1 n ∧ N <+: (addF (L.take k) (N, [0, 1])).1 ∧ Added L (addF (L.take k) (N, [0, 1])).1 n k (addF (L.take k) (N, [0, 1])).2 := by
  intro k
  have h40 := hN.n40
  induction k with
  | zero =>
    intro _
    refine ⟨hN, List.prefix_refl _, rfl, fun i hi => ?_⟩
    have : i = 0 ∨ i = 1 := by omega
    rcases this with rfl | rfl
    · exact ⟨⟨by simp [addF], by simp [addF]; omega⟩, by simp [addF, topF], fun d v hd _ => by simp only [List.take_zero, addF, List.getElem?_cons_zero, Option.getD_some]; rw [tab_zero _ _ _ (by omega)]; exact (tab_zero _ _ _ (by omega)).symm⟩
    · exact ⟨⟨by simp [addF], by simp [addF]; omega⟩, by simp [addF, topF], fun d v hd _ => by simp only [List.take_zero, addF, List.getElem?_cons_zero, List.getElem?_cons_succ, Option.getD_some]; rw [tab_one _ _ _ (by omega)]; exact (tab_one _ _ _ (by omega)).symm⟩
  | succ k ih =>
    intro hk
    obtain ⟨i1, i2, i3⟩ := ih (by omega)
    rw [List.take_succ_eq_append_getElem (by omega), addF_end]
    generalize addF (L.take k) (N, [0, 1]) = S at *
    obtain ⟨N1, nums⟩ := S
    simp only at *
    obtain ⟨x, hx⟩ : ∃ x, x = L[k] := ⟨_, rfl⟩
    rw [← hx]
    have hxm : x ∈ L := hx ▸ List.getElem_mem _
    have hval := hL.val k x (by rw [hx]; exact List.getElem?_eq_getElem _)
    have hvar := hL.var x hxm
    have hred := hL.red x hxm
    have hord := hL.ord x hxm
    have nd : nodeF L ((k : Int) + 2) = x := by
      have e : ((k : Int) + 2 - 2).toNat = k := by omega
      unfold nodeF
      rw [e, List.getD_eq_getElem?_getD, List.getElem?_eq_getElem (by omega), hx]; rfl
    have vl : VNum L x.2.1 := ⟨hval.2.2.1, by omega⟩
    have vh : VNum L x.2.2 := ⟨hval.2.2.2.2.1, by omega⟩
    obtain ⟨a1, a2, a3⟩ := i3.num x.2.1.toNat (by omega)
    obtain ⟨b1, b2, b3⟩ := i3.num x.2.2.toNat (by omega)
    rw [show ((x.2.1.toNat : Nat) : Int) = x.2.1 by omega] at a2 a3
    rw [show ((x.2.2.toNat : Nat) : Int) = x.2.2 by omega] at b2 b3
    generalize hlo : nums[x.2.1.toNat]?.getD 0 = lo at *
    generalize hhi : nums[x.2.2.toNat]?.getD 0 = hi at *
    obtain ⟨d0, hd0⟩ : ∃ d0 : Nat, x.1 + 1 + d0 = n := ⟨(n - x.1 - 1).toNat, by omega⟩
    have hne : lo ≠ hi := by
      rintro rfl
      refine hred (tab_inj hL d0 (x.1 + 1) _ _ hd0 vl vh (by omega) (by omega) ?_)
      rw [← a3 d0 _ hd0 (by omega), b3 d0 _ hd0 (by omega)]
    obtain ⟨c1, c2, c3, c4, c5⟩ := num_ord i1 (v := x.1) (l := lo) (r := hi) ⟨hval.1, hvar⟩ a1 b1 (by omega) (by omega)
    have hp := numF_prefix N1 (x.1, lo, hi)
    have i3' := i3.mono i1 hp
    refine ⟨c1, i2.trans hp, by simp [i3.len], fun i hi' => ?_⟩
    by_cases hik : i < k + 2
    · rw [List.getElem?_append_left (by have := i3.len; omega)]
      exact i3'.num i hik
    · have : i = k + 2 := by omega
      subst this
      have hg : (nums ++ [(numF N1 (x.1, lo, hi)).2])[k + 2]?.getD 0 = (numF N1 (x.1, lo, hi)).2 := by
        rw [List.getElem?_append_right (by have := i3.len; omega)]
        have : k + 2 - nums.length = 0 := by have := i3.len; omega
        simp [this]
      rw [hg]
      have tx : topF L (((k + 2 : Nat) : Int)) = x.1 := by
        rw [topF_node (by omega)]; rw [show (((k + 2 : Nat) : Int)) = (k : Int) + 2 by omega, nd]
      refine ⟨c2, by rw [tx]; exact c4 hne, fun d v hd hv => ?_⟩
      have base := c5 d0 (by omega)
      have base' : tab (numF N1 (x.1, lo, hi)).1 (d0 + 1) x.1 (numF N1 (x.1, lo, hi)).2 = tab L (d0 + 1) x.1 ((k : Int) + 2) := by
        have tx' : topF L ((k : Int) + 2) = x.1 := by rw [← tx]; congr 1
        rw [base, tab, partF_low tx', partF_high tx', nd, a3 d0 _ (by omega) (by omega), b3 d0 _ (by omega) (by omega)]
      rw [tx] at hv
      have := tab_down (N := L) (N' := (numF N1 (x.1, lo, hi)).1) (j := (numF N1 (x.1, lo, hi)).2) (k := (k : Int) + 2) (by rw [c4 hne, ← tx]; congr 1) (d0 + 1) x.1 (by rw [← tx]; apply Int.le_of_eq; congr 1) base' (x.1 - v).toNat
      rw [show d0 + 1 + (x.1 - v).toNat = d by omega, show x.1 - ((x.1 - v).toNat : Int) = v by omega] at this
      exact this

/-- A diagram that is added: its root stands for its function. -/
theorem add_root {L N : List Nd} {n : Int} (hL : Ord L n) (hN : Ord N n) {r : Int} (hr : VNum L r) :
    Ord (addF L (N, [0, 1])).1 n ∧ N <+: (addF L (N, [0, 1])).1 ∧ VNum (addF L (N, [0, 1])).1 ((addF L (N, [0, 1])).2.getD r.toNat 0) ∧ topF (addF L (N, [0, 1])).1 ((addF L (N, [0, 1])).2.getD r.toNat 0) = topF L r ∧
    ∀ (d : Nat) (v : Int), v + d = n → v ≤ topF L r → tab (addF L (N, [0, 1])).1 d v ((addF L (N, [0, 1])).2.getD r.toNat 0) = tab L d v r := by
  obtain ⟨a, b, c⟩ := add_ord hL hN L.length (Nat.le_refl _)
  rw [List.take_length] at a b c
  have := c.num r.toNat (by have := hr.1; have := hr.2; omega)
  rw [show ((r.toNat : Nat) : Int) = r by have := hr.1; omega] at this
  simp only [List.getD_eq_getElem?_getD]
  exact ⟨a, b, this.1, this.2.1, this.2.2⟩

/-! ### ite -/
def ite3 : List Bool → List Bool → List Bool → List Bool
  | a :: f, b :: g, c :: h => (if a then b else c) :: ite3 f g h
  | _, _, _ => []

theorem ite3_append : ∀ (f f' g g' h h' : List Bool), f.length = g.length → g.length = h.length → ite3 (f ++ f') (g ++ g') (h ++ h') = ite3 f g h ++ ite3 f' g' h'
  | [], _, [], _, [], _, _, _ => rfl
  | a :: f, f', b :: g, g', c :: h, h', e1, e2 => by simp only [List.cons_append, ite3]; rw [ite3_append f f' g g' h h' (by simpa using e1) (by simpa using e2)]

theorem ite3_true : ∀ (n : Nat) (g h : List Bool), g.length = n → h.length = n → ite3 (List.replicate n true) g h = g
  | 0, [], [], _, _ => rfl
  | n + 1, b :: g, c :: h, e1, e2 => by simp only [List.replicate_succ, ite3, if_true]; rw [ite3_true n g h (by simpa using e1) (by simpa using e2)]

theorem ite3_false : ∀ (n : Nat) (g h : List Bool), g.length = n → h.length = n → ite3 (List.replicate n false) g h = h
  | 0, [], [], _, _ => rfl
  | n + 1, b :: g, c :: h, e1, e2 => by simp only [List.replicate_succ, ite3]; rw [ite3_false n g h (by simpa using e1) (by simpa using e2)]; rfl

theorem ite3_same : ∀ (f g : List Bool), f.length = g.length → ite3 f g g = g
  | [], [], _ => rfl
  | a :: f, b :: g, e => by simp only [ite3, ite_self]; rw [ite3_same f g (by simpa using e)]

def Memo (N : List Nd) (n : Int) (M : List (Nd × Int)) : Prop :=
  ∀ f g h k, mget M (f, g, h) = some k → VNum N f ∧ VNum N g ∧ VNum N h ∧ VNum N k ∧
    ∀ (d : Nat) (v : Int), v + d = n → 0 ≤ v → v = min3 (topF N f) (topF N g) (topF N h) → v ≤ topF N k ∧ tab N d v k = ite3 (tab N d v f) (tab N d v g) (tab N d v h)

theorem min3_le (a b c : Int) : min3 a b c ≤ a ∧ min3 a b c ≤ b ∧ min3 a b c ≤ c := by
  unfold min3; omega

theorem min3_eq {a b c v : Int} (h1 : v ≤ a) (h2 : v ≤ b) (h3 : v ≤ c) (h : v = a ∨ v = b ∨ v = c) : min3 a b c = v := by
  unfold min3; omega

theorem Memo.ext {N N' : List Nd} {n : Int} {M : List (Nd × Int)} (h : Memo N n M) (hN : Ord N n) (hp : N <+: N') : Memo N' n M := by
  intro f g q k hm
  obtain ⟨a, b, c, e, x⟩ := h f g q k hm
  refine ⟨a.ext hp, b.ext hp, c.ext hp, e.ext hp, fun d v hd h0 hv => ?_⟩
  rw [topF_ext hp a, topF_ext hp b, topF_ext hp c] at hv
  obtain ⟨x1, x2⟩ := x d v hd h0 hv
  have hm := min3_le (topF N f) (topF N g) (topF N q)
  rw [topF_ext hp e, tab_ext hN hp d v _ hd e x1, tab_ext hN hp d v _ hd a (by omega), tab_ext hN hp d v _ hd b (by omega), tab_ext hN hp d v _ hd c (by omega)]
  exact ⟨x1, x2⟩

theorem iteF_eq' (m : Nat) (s : Is) (f g h : Int) (h1 : ¬ (f = 1 ∨ g = h)) (h0 : ¬ f = 0) (hm : mget s.2 (f, g, h) = none) :
    iteF (m + 1) s f g h =
      match iteF m s (partF s.1 f (min3 (topF s.1 f) (topF s.1 g) (topF s.1 h)) false) (partF s.1 g (min3 (topF s.1 f) (topF s.1 g) (topF s.1 h)) false) (partF s.1 h (min3 (topF s.1 f) (topF s.1 g) (topF s.1 h)) false) with
      | none => none
      | some (s1, low) =>
        match iteF m s1 (partF s1.1 f (min3 (topF s.1 f) (topF s.1 g) (topF s.1 h)) true) (partF s1.1 g (min3 (topF s.1 f) (topF s.1 g) (topF s.1 h)) true) (partF s1.1 h (min3 (topF s.1 f) (topF s.1 g) (topF s.1 h)) true) with
        | none => none
        | some (s2, high) => some (((numF s2.1 (min3 (topF s.1 f) (topF s.1 g) (topF s.1 h), low, high)).1, mput s2.2 (f, g, h) (numF s2.1 (min3 (topF s.1 f) (topF s.1 g) (topF s.1 h), low, high)).2), (numF s2.1 (min3 (topF s.1 f) (topF s.1 g) (topF s.1 h), low, high)).2) := by
  rw [iteF, if_neg h1, if_neg h0]
  simp only [hm]
  rfl

theorem ite_right {n : Int} : ∀ (d : Nat) (v f g h : Int) (s : Is) (fuel : Nat), Ord s.1 n → Memo s.1 n s.2 → VNum s.1 f → VNum s.1 g → VNum s.1 h →
    v ≤ topF s.1 f → v ≤ topF s.1 g → v ≤ topF s.1 h → v + d = n → 0 ≤ v → d < fuel →
    ∃ s' k, iteF fuel s f g h = some (s', k) ∧ Ord s'.1 n ∧ Memo s'.1 n s'.2 ∧ s.1 <+: s'.1 ∧ VNum s'.1 k ∧ v ≤ topF s'.1 k ∧
      tab s'.1 d v k = ite3 (tab s.1 d v f) (tab s.1 d v g) (tab s.1 d v h) ∧ s'.1.length + 1 ≤ s.1.length + 2 ^ d := by
  intro d
  induction d with
  | zero =>
    intro v f g h s fuel hN hM hf hg hh tf tg th hv h0 hfu
    obtain ⟨fuel, rfl⟩ : ∃ q, fuel = q + 1 := ⟨fuel - 1, by omega⟩
    rcases hN.const hf (by omega) with rfl | rfl
    · by_cases e : g = h
      · subst e
        exact ⟨s, g, by simp [iteF], hN, hM, List.prefix_refl _, hg, tg, by simp [tab, ite3], by simp⟩
      · exact ⟨s, h, by simp [iteF, e], hN, hM, List.prefix_refl _, hh, th, by simp [tab, ite3], by simp⟩
    · exact ⟨s, g, by simp [iteF], hN, hM, List.prefix_refl _, hg, tg, by simp [tab, ite3], by simp⟩
  | succ d ih =>
    intro v f g h s fuel hN hM hf hg hh tf tg th hv h0 hfu
    have h40 := hN.n40
    by_cases hskip : v < topF s.1 f ∧ v < topF s.1 g ∧ v < topF s.1 h
    · obtain ⟨s', k, a1, a2, a3, a4, a5, a6, a7, a8⟩ := ih (v + 1) f g h s fuel hN hM hf hg hh (by omega) (by omega) (by omega) (by omega) (by omega) (by omega)
      refine ⟨s', k, a1, a2, a3, a4, a5, by omega, ?_, by have := Nat.two_pow_pos d; omega⟩
      rw [tab_skip (by omega), tab_skip hskip.1, tab_skip hskip.2.1, tab_skip hskip.2.2, ite3_append _ _ _ _ _ _ (by simp [tab_length]) (by simp [tab_length]), a7]
    · have hmin : min3 (topF s.1 f) (topF s.1 g) (topF s.1 h) = v := min3_eq tf tg th (by omega)
      obtain ⟨fuel, rfl⟩ : ∃ q, fuel = q + 1 := ⟨fuel - 1, by omega⟩
      have h2d := Nat.two_pow_pos d
      by_cases c1 : f = 1 ∨ g = h
      · refine ⟨s, g, by simp [iteF, c1], hN, hM, List.prefix_refl _, hg, tg, ?_, by omega⟩
        rcases c1 with rfl | rfl
        · rw [tab_one _ _ _ (by omega), ite3_true _ _ _ (tab_length _ _ _ _) (tab_length _ _ _ _)]
        · rw [ite3_same _ _ (by simp [tab_length])]
      · by_cases c2 : f = 0
        · subst c2
          refine ⟨s, h, by rw [iteF, if_neg c1, if_pos rfl], hN, hM, List.prefix_refl _, hh, th, ?_, by omega⟩
          rw [tab_zero _ _ _ (by omega), ite3_false _ _ _ (tab_length _ _ _ _) (tab_length _ _ _ _)]
        · cases hm : mget s.2 (f, g, h) with
          | some k =>
            obtain ⟨_, _, _, m4, m5⟩ := hM f g h k hm
            obtain ⟨x1, x2⟩ := m5 (d + 1) v (by omega) h0 hmin.symm
            exact ⟨s, k, by simp [iteF, c1, c2, hm], hN, hM, List.prefix_refl _, m4, x1, x2, by omega⟩
          | none =>
            have pf0 := hN.part false hf tf (by omega)
            have pg0 := hN.part false hg tg (by omega)
            have ph0 := hN.part false hh th (by omega)
            obtain ⟨s1, lo, a1, a2, a3, a4, a5, a6, a7, a8⟩ := ih (v + 1) _ _ _ s fuel hN hM pf0.1 pg0.1 ph0.1 pf0.2 pg0.2 ph0.2 (by omega) (by omega) (by omega)
            have pf1 := hN.part true hf tf (by omega)
            have pg1 := hN.part true hg tg (by omega)
            have ph1 := hN.part true hh th (by omega)
            obtain ⟨s2, hi, b1, b2, b3, b4, b5, b6, b7, b8⟩ := ih (v + 1) (partF s.1 f v true) (partF s.1 g v true) (partF s.1 h v true) s1 fuel a2 a3 (pf1.1.ext a4) (pg1.1.ext a4) (ph1.1.ext a4)
              (by rw [topF_ext a4 pf1.1]; exact pf1.2) (by rw [topF_ext a4 pg1.1]; exact pg1.2) (by rw [topF_ext a4 ph1.1]; exact ph1.2) (by omega) (by omega) (by omega)
            obtain ⟨n1, n2, n3, n4, n5⟩ := num_ord b2 (v := v) (l := lo) (r := hi) ⟨h0, by omega⟩ (a5.ext b4) b5 (by rw [topF_ext b4 a5]; omega) (by omega)
            have hp := numF_prefix s2.1 (v, lo, hi)
            have hall := a4.trans (b4.trans hp)
            have ev := iteF_eq' fuel s f g h c1 c2 hm
            have hlen := (numF_grows s2.1 (v, lo, hi)).2
            have htab : tab (numF s2.1 (v, lo, hi)).1 (d + 1) v (numF s2.1 (v, lo, hi)).2 = ite3 (tab s.1 (d + 1) v f) (tab s.1 (d + 1) v g) (tab s.1 (d + 1) v h) := by
              rw [n5 d (by omega), tab_ext a2 b4 d _ _ (by omega) a5 a6, a7, b7]
              rw [tab_ext hN a4 d _ _ (by omega) pf1.1 pf1.2, tab_ext hN a4 d _ _ (by omega) pg1.1 pg1.2, tab_ext hN a4 d _ _ (by omega) ph1.1 ph1.2]
              rw [tab, tab, tab, ite3_append _ _ _ _ _ _ (by simp [tab_length]) (by simp [tab_length])]
            refine ⟨((numF s2.1 (v, lo, hi)).1, mput s2.2 (f, g, h) (numF s2.1 (v, lo, hi)).2), (numF s2.1 (v, lo, hi)).2, ?_, n1, ?_, hall, n2, n3, htab, by simp only; omega⟩
            · rw [ev, hmin, a1]
              simp only
              rw [partF_ext a4 (by omega) hf, partF_ext a4 (by omega) hg, partF_ext a4 (by omega) hh, b1]
            · intro f' g' h' k' hk'
              simp only [mget_put] at hk'
              split at hk'
              · rename_i e
                simp only [Prod.mk.injEq] at e
                obtain ⟨rfl, rfl, rfl⟩ := e
                cases hk'
                refine ⟨hf.ext hall, hg.ext hall, hh.ext hall, n2, fun d' v' hd' h0' hv' => ?_⟩
                rw [topF_ext hall hf, topF_ext hall hg, topF_ext hall hh, hmin] at hv'
                subst hv'
                have : d' = d + 1 := by omega
                subst this
                refine ⟨n3, ?_⟩
                simp only
                rw [htab, tab_ext hN hall _ _ _ (by omega) hf tf, tab_ext hN hall _ _ _ (by omega) hg tg, tab_ext hN hall _ _ _ (by omega) hh th]
              · exact (b3.ext b2 hp) f' g' h' k' hk'

theorem Memo.nil (N : List Nd) (n : Int) : Memo N n [] := fun _ _ _ _ h => by simp [mget] at h

end Go.Proofs.Ytaebjalpebgliaa
