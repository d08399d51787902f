/- change: nodes that ask some variables are replaced by what is made of their successors. Plain. -/
import Derived.Test.YtaebjalpebgliaaCanon
namespace Go.Proofs.Ytaebjalpebgliaa
set_option linter.unusedVariables false
set_option linter.unusedSimpArgs false

abbrev Cs := Is × List (Int × Int)

def changeF (wn : Int → Bool) (dof : Is → Int → Int → Option (Is × Int)) : Nat → Cs → Int → Option (Cs × Int)
  | 0, _, _ => none
  | f + 1, s, k =>
    if k < 2 then some (s, k) else
    match mget s.2 k with
    | some r => some (s, r)
    | none =>
      match changeF wn dof f s (nodeF s.1.1 k).2.1 with
      | none => none
      | some (s1, low) =>
        match changeF wn dof f s1 (nodeF s.1.1 k).2.2 with
        | none => none
        | some (s2, high) =>
          if wn (nodeF s.1.1 k).1 then
            match dof s2.1 low high with
            | none => none
            | some (s3, r) => some ((s3, mput s2.2 k r), r)
          else some ((((numF s2.1.1 ((nodeF s.1.1 k).1, low, high)).1, s2.1.2), mput s2.2 k (numF s2.1.1 ((nodeF s.1.1 k).1, low, high)).2), (numF s2.1.1 ((nodeF s.1.1 k).1, low, high)).2)

/-- What becomes of a table of d variables from v on. -/
def chT (wn : Int → Bool) (o : Bool → Bool → Bool) : Nat → Int → List Bool → List Bool
  | 0, _, t => t
  | d + 1, v, t =>
    if wn v then List.zipWith o (chT wn o d (v + 1) (t.take (2 ^ d))) (chT wn o d (v + 1) (t.drop (2 ^ d))) ++ List.zipWith o (chT wn o d (v + 1) (t.take (2 ^ d))) (chT wn o d (v + 1) (t.drop (2 ^ d)))
    else chT wn o d (v + 1) (t.take (2 ^ d)) ++ chT wn o d (v + 1) (t.drop (2 ^ d))

def Idem (o : Bool → Bool → Bool) : Prop := ∀ x, o x x = x

theorem zip_same {o : Bool → Bool → Bool} (ho : Idem o) : ∀ l : List Bool, List.zipWith o l l = l
  | [] => rfl
  | a :: l => by rw [List.zipWith_cons_cons, ho a, zip_same ho l]

theorem chT_append (wn : Int → Bool) (o : Bool → Bool → Bool) (d : Nat) (v : Int) (a b : List Bool) (ha : a.length = 2 ^ d) :
    chT wn o (d + 1) v (a ++ b) = if wn v then List.zipWith o (chT wn o d (v + 1) a) (chT wn o d (v + 1) b) ++ List.zipWith o (chT wn o d (v + 1) a) (chT wn o d (v + 1) b) else chT wn o d (v + 1) a ++ chT wn o d (v + 1) b := by
  rw [chT, List.take_append_of_le_length (by omega), List.drop_append_of_le_length (by omega)]
  rw [List.take_of_length_le (by omega), List.drop_of_length_le (by omega), List.nil_append]

theorem chT_length (wn : Int → Bool) (o : Bool → Bool → Bool) : ∀ (d : Nat) (v : Int) (t : List Bool), t.length = 2 ^ d → (chT wn o d v t).length = 2 ^ d := by
  intro d
  induction d with
  | zero => intro v t h; exact h
  | succ d ih =>
    intro v t h
    have h1 := ih (v + 1) (t.take (2 ^ d)) (by rw [List.length_take, h, Nat.pow_succ]; omega)
    have h2 := ih (v + 1) (t.drop (2 ^ d)) (by rw [List.length_drop, h, Nat.pow_succ]; omega)
    rw [chT]
    split
    · simp only [List.length_append, List.length_zipWith, h1, h2, Nat.pow_succ]; omega
    · simp only [List.length_append, h1, h2, Nat.pow_succ]; omega

theorem chT_twice {wn : Int → Bool} {o : Bool → Bool → Bool} (ho : Idem o) (d : Nat) (v : Int) (a : List Bool) (ha : a.length = 2 ^ d) :
    chT wn o (d + 1) v (a ++ a) = chT wn o d (v + 1) a ++ chT wn o d (v + 1) a := by
  rw [chT_append wn o d v a a ha, zip_same ho]
  split <;> rfl

theorem chT_const {wn : Int → Bool} {o : Bool → Bool → Bool} (ho : Idem o) (x : Bool) : ∀ (d : Nat) (v : Int), chT wn o d v (List.replicate (2 ^ d) x) = List.replicate (2 ^ d) x := by
  intro d
  induction d with
  | zero => intro v; rfl
  | succ d ih =>
    intro v
    have e : List.replicate (2 ^ (d + 1)) x = List.replicate (2 ^ d) x ++ List.replicate (2 ^ d) x := by
      rw [List.replicate_append_replicate, Nat.pow_succ]; congr 1; omega
    rw [e, chT_twice ho d v _ (by simp), ih]

theorem chT_lift {N N' : List Nd} {wn : Int → Bool} {o : Bool → Bool → Bool} (ho : Idem o) {k r v : Int} {d : Nat} (hk : v ≤ topF N k) (hr : v ≤ topF N' r) (h : tab N' d v r = chT wn o d v (tab N d v k)) :
    ∀ (d' : Nat) (v' : Int), v' + d' = v + d → v' ≤ v → tab N' d' v' r = chT wn o d' v' (tab N d' v' k) := by
  intro d'
  induction d' with
  | zero =>
    intro v' h1 h2
    obtain rfl : v' = v := by omega
    obtain rfl : d = 0 := by omega
    exact h
  | succ d' ih =>
    intro v' h1 h2
    by_cases e : v' = v
    · subst e
      obtain rfl : d = d' + 1 := by omega
      exact h
    · rw [tab_skip (by omega), tab_skip (by omega), ih (v' + 1) (by omega) (by omega), chT_twice ho d' v' _ (tab_length _ _ _ _)]

/-- The numbers in the memory are right. -/
def CMemo (wn : Int → Bool) (o : Bool → Bool → Bool) (n : Int) (N : List Nd) (C : List (Int × Int)) : Prop :=
  ∀ k r, mget C k = some r → VNum N k ∧ VNum N r ∧ topF N k ≤ topF N r ∧ ∀ (d : Nat) (v : Int), v + d = n → 0 ≤ v → v ≤ topF N k → tab N d v r = chT wn o d v (tab N d v k)

theorem CMemo.ext {wn : Int → Bool} {o : Bool → Bool → Bool} {n : Int} {N N' : List Nd} {C : List (Int × Int)} (h : CMemo wn o n N C) (hN : Ord N n) (hp : N <+: N') : CMemo wn o n N' C := by
  intro k r hm
  obtain ⟨a, b, c, e⟩ := h k r hm
  refine ⟨a.ext hp, b.ext hp, by rw [topF_ext hp a, topF_ext hp b]; exact c, fun d v hd h0 hv => ?_⟩
  rw [topF_ext hp a] at hv
  rw [tab_ext hN hp d v _ hd b (by omega), tab_ext hN hp d v _ hd a hv]
  exact e d v hd h0 hv

theorem CMemo.nil (wn : Int → Bool) (o : Bool → Bool → Bool) (n : Int) (N : List Nd) : CMemo wn o n N [] := fun _ _ h => by simp [mget] at h

/-- What do makes of two numbers. -/
def DoOk (n : Int) (o : Bool → Bool → Bool) (dof : Is → Int → Int → Option (Is × Int)) : Prop :=
  ∀ (d : Nat) (v l h : Int) (s : Is), Ord s.1 n → Memo s.1 n s.2 → VNum s.1 l → VNum s.1 h → v ≤ topF s.1 l → v ≤ topF s.1 h → v + d = n → 0 ≤ v →
    ∃ s' k, dof s l h = some (s', k) ∧ Ord s'.1 n ∧ Memo s'.1 n s'.2 ∧ s.1 <+: s'.1 ∧ VNum s'.1 k ∧ v ≤ topF s'.1 k ∧ tab s'.1 d v k = List.zipWith o (tab s.1 d v l) (tab s.1 d v h) ∧ s'.1.length + 1 ≤ s.1.length + 2 ^ d

theorem changeF_node (wn : Int → Bool) (dof : Is → Int → Int → Option (Is × Int)) (f : Nat) (s s1 s2 : Cs) (k low high : Int) (h2 : 2 ≤ k) (hm : mget s.2 k = none) (e1 : changeF wn dof f s (nodeF s.1.1 k).2.1 = some (s1, low)) (e2 : changeF wn dof f s1 (nodeF s.1.1 k).2.2 = some (s2, high)) :
    changeF wn dof (f + 1) s k = if wn (nodeF s.1.1 k).1 then (match dof s2.1 low high with
            | none => none
            | some (s3, r) => some ((s3, mput s2.2 k r), r))
          else some ((((numF s2.1.1 ((nodeF s.1.1 k).1, low, high)).1, s2.1.2), mput s2.2 k (numF s2.1.1 ((nodeF s.1.1 k).1, low, high)).2), (numF s2.1.1 ((nodeF s.1.1 k).1, low, high)).2) := by
  rw [changeF, if_neg (by omega)]
  simp only [hm, e1, e2]

theorem change_right {n : Int} {wn : Int → Bool} {o : Bool → Bool → Bool} {dof : Is → Int → Int → Option (Is × Int)} (ho : Idem o) (hdo : DoOk n o dof) : ∀ (d : Nat) (v k : Int) (s : Cs) (fuel : Nat),
    Ord s.1.1 n → Memo s.1.1 n s.1.2 → CMemo wn o n s.1.1 s.2 → VNum s.1.1 k → v ≤ topF s.1.1 k → v + d = n → 0 ≤ v → d < fuel →
    ∃ s' r, changeF wn dof fuel s k = some (s', r) ∧ Ord s'.1.1 n ∧ Memo s'.1.1 n s'.1.2 ∧ CMemo wn o n s'.1.1 s'.2 ∧ s.1.1 <+: s'.1.1 ∧ VNum s'.1.1 r ∧ topF s.1.1 k ≤ topF s'.1.1 r ∧
      tab s'.1.1 d v r = chT wn o d v (tab s.1.1 d v k) ∧ s'.1.1.length ≤ s.1.1.length + d * 2 ^ d := by
  intro d
  induction d with
  | zero =>
    intro v k s fuel hN hM hC hk tk hv h0 hfu
    obtain ⟨fuel, rfl⟩ : ∃ q, fuel = q + 1 := ⟨fuel - 1, by omega⟩
    have := hN.const hk (by omega)
    exact ⟨s, k, by rw [changeF, if_pos (by omega)], hN, hM, hC, List.prefix_refl _, hk, by omega, rfl, by omega⟩
  | succ d ih =>
    intro v k s fuel hN hM hC hk tk hv h0 hfu
    have h40 := hN.n40
    have h2d := Nat.two_pow_pos d
    have hgrow : d * 2 ^ d + d * 2 ^ d + 2 ^ d ≤ (d + 1) * 2 ^ (d + 1) := by
      rw [Nat.pow_succ, Nat.succ_mul, ← Nat.mul_assoc]
      omega
    by_cases hskip : v < topF s.1.1 k
    · obtain ⟨s', r, a1, a2, a3, a4, a5, a6, a7, a8, a9⟩ := ih (v + 1) k s fuel hN hM hC hk (by omega) (by omega) (by omega) (by omega)
      refine ⟨s', r, a1, a2, a3, a4, a5, a6, a7, ?_, by omega⟩
      rw [tab_skip (by omega), tab_skip hskip, chT_twice ho d v _ (tab_length _ _ _ _), a8]
    · have htop : topF s.1.1 k = v := by omega
      have h2 : 2 ≤ k := by
        rcases Int.lt_or_le k 2 with h | h
        · rw [topF_const h] at htop; omega
        · exact h
      obtain ⟨fuel, rfl⟩ : ∃ q, fuel = q + 1 := ⟨fuel - 1, by omega⟩
      cases hm : mget s.2 k with
      | some r =>
        obtain ⟨m1, m2, m3, m4⟩ := hC k r hm
        exact ⟨s, r, by rw [changeF, if_neg (by omega)]; simp only [hm], hN, hM, hC, List.prefix_refl _, m2, m3, m4 (d + 1) v hv h0 (by omega), by omega⟩
      | none =>
        have pl := hN.part false hk tk (by omega)
        have ph := hN.part true hk tk (by omega)
        have nv : (nodeF s.1.1 k).1 = v := by rw [← topF_node h2]; exact htop
        have htab : tab s.1.1 (d + 1) v k = tab s.1.1 d (v + 1) (nodeF s.1.1 k).2.1 ++ tab s.1.1 d (v + 1) (nodeF s.1.1 k).2.2 := by rw [tab, partF_low htop, partF_high htop]
        rw [partF_low htop] at pl
        rw [partF_high htop] at ph
        obtain ⟨s1, lo, a1, a2, a3, a4, a5, a6, a7, a8, a9⟩ := ih (v + 1) _ s fuel hN hM hC pl.1 pl.2 (by omega) (by omega) (by omega)
        obtain ⟨s2, hi, b1, b2, b3, b4, b5, b6, b7, b8, b9⟩ := ih (v + 1) (nodeF s.1.1 k).2.2 s1 fuel a2 a3 a4 (ph.1.ext a5) (by rw [topF_ext a5 ph.1]; exact ph.2) (by omega) (by omega) (by omega)
        have hlo : VNum s2.1.1 lo := a6.ext b5
        have tlo : v + 1 ≤ topF s2.1.1 lo := by rw [topF_ext b5 a6]; omega
        have thi : v + 1 ≤ topF s2.1.1 hi := by rw [topF_ext a5 ph.1] at b7; omega
        have elo : tab s2.1.1 d (v + 1) lo = chT wn o d (v + 1) (tab s.1.1 d (v + 1) (nodeF s.1.1 k).2.1) := by
          rw [tab_ext a2 b5 d _ _ (by omega) a6 (by omega), a8]
        have ehi : tab s2.1.1 d (v + 1) hi = chT wn o d (v + 1) (tab s.1.1 d (v + 1) (nodeF s.1.1 k).2.2) := by
          rw [b8, tab_ext hN a5 d _ _ (by omega) ph.1 ph.2]
        have ev := changeF_node wn dof fuel s s1 s2 k lo hi h2 hm a1 b1
        rw [nv] at ev
        have hadd : ∀ (N' : List Nd) (r : Int), s2.1.1 <+: N' → VNum N' r → v ≤ topF N' r → tab N' (d + 1) v r = chT wn o (d + 1) v (tab s.1.1 (d + 1) v k) → CMemo wn o n N' (mput s2.2 k r) := by
          intro N' r hp hr tr hT k' r' hk'
          have hall := a5.trans (b5.trans hp)
          simp only [mget_put] at hk'
          split at hk'
          · rename_i e
            subst e
            cases hk'
            refine ⟨hk.ext hall, hr, by rw [topF_ext hall hk]; omega, fun d' v' hd' h0' hv' => ?_⟩
            rw [topF_ext hall hk, htop] at hv'
            refine chT_lift ho (v := v) (d := d + 1) (by rw [topF_ext hall hk]; omega) tr ?_ d' v' (by omega) hv'
            rw [hT, tab_ext hN hall _ _ _ hv hk tk]
          · exact (b4.ext b2 hp) k' r' hk'
        by_cases hw : wn v = true
        · obtain ⟨s3, r, c1, c2, c3, c4, c5, c6, c7, c8⟩ := hdo d (v + 1) lo hi s2.1 b2 b3 hlo b6 tlo thi (by omega) (by omega)
          rw [if_pos hw, c1] at ev
          have hT : tab s3.1 (d + 1) v r = chT wn o (d + 1) v (tab s.1.1 (d + 1) v k) := by
            rw [tab_skip (by omega), htab, chT_append wn o d v _ _ (tab_length _ _ _ _), if_pos hw, c7, elo, ehi]
          exact ⟨(s3, mput s2.2 k r), r, ev, c2, c3, hadd s3.1 r c4 c5 (by omega) hT, a5.trans (b5.trans c4), c5, by rw [htop]; simp only; omega, hT, by simp only; omega⟩
        · rw [if_neg hw] at ev
          obtain ⟨n1, n2, n3, n4, n5⟩ := num_ord b2 (v := v) (l := lo) (r := hi) ⟨h0, by omega⟩ hlo b6 (by omega) (by omega)
          have hp := numF_prefix s2.1.1 (v, lo, hi)
          have hlen := (numF_grows s2.1.1 (v, lo, hi)).2
          have hT : tab (numF s2.1.1 (v, lo, hi)).1 (d + 1) v (numF s2.1.1 (v, lo, hi)).2 = chT wn o (d + 1) v (tab s.1.1 (d + 1) v k) := by
            rw [n5 d (by omega), htab, chT_append wn o d v _ _ (tab_length _ _ _ _), if_neg hw, elo, ehi]
          exact ⟨_, _, ev, n1, b3.ext b2 hp, hadd _ _ hp n2 n3 hT, a5.trans (b5.trans hp), n2, by rw [htop]; exact n3, hT, by simp only; omega⟩

/-- An assignment with another value of a variable. -/
def updF (ρ : Nat → Bool) (u : Nat) (b : Bool) : Nat → Bool := fun x => if x = u then b else ρ x

theorem updF_same {ρ : Nat → Bool} {u : Nat} {b : Bool} (h : ρ u = b) : updF ρ u b = ρ := by
  funext x; unfold updF; split
  · rename_i e; rw [e, h]
  · rfl

theorem placeF_upd_low (ρ : Nat → Bool) (u : Nat) (b : Bool) : ∀ (d v : Nat), u < v → placeF (updF ρ u b) d v = placeF ρ d v := by
  intro d
  induction d with
  | zero => intro v _; rfl
  | succ d ih =>
    intro v h
    rw [placeF, placeF, ih (v + 1) (by omega)]
    have : updF ρ u b v = ρ v := by unfold updF; rw [if_neg (by omega)]
    rw [this]

theorem placeF_up (ρ : Nat → Bool) (u : Nat) (h : ρ u = false) : ∀ (d v : Nat), v ≤ u → u < v + d → placeF (updF ρ u true) d v = placeF ρ d v + 2 ^ (v + d - 1 - u) := by
  intro d
  induction d with
  | zero => intro v h1 h2; omega
  | succ d ih =>
    intro v h1 h2
    rw [placeF, placeF]
    by_cases e : v = u
    · subst e
      rw [placeF_upd_low _ _ _ _ _ (by omega)]
      have e1 : updF ρ v true v = true := by simp [updF]
      rw [e1, h]
      have : v + (d + 1) - 1 - v = d := by omega
      rw [this]
      simp; omega
    · have e1 : updF ρ u true v = ρ v := by simp [updF, e]
      rw [e1, ih (v + 1) (by omega) (by omega)]
      have : v + 1 + d - 1 - u = v + (d + 1) - 1 - u := by omega
      rw [this]
      omega

theorem placeF_down (ρ : Nat → Bool) (u : Nat) (h : ρ u = true) (d v : Nat) (h1 : v ≤ u) (h2 : u < v + d) : placeF (updF ρ u false) d v = placeF ρ d v - 2 ^ (v + d - 1 - u) := by
  have e := placeF_up (updF ρ u false) u (by simp [updF]) d v h1 h2
  have e2 : updF (updF ρ u false) u true = ρ := by
    funext x; unfold updF; split
    · rename_i e; rw [e, h]
    · rfl
  rw [e2] at e
  omega

/-- The reference's With. -/
def withF (n i v : Nat) (b : Bool) : Nat := if bitF n i v = b then i else if b then i + 2 ^ (n - 1 - v) else i - 2 ^ (n - 1 - v)

theorem with_place (n i v : Nat) (b : Bool) (hi : i < 2 ^ n) (hv : v < n) : withF n i v b = placeF (updF (bitF n i) v b) n 0 := by
  have hp : placeF (bitF n i) n 0 = i := by rw [bit_place n 0 n i (by omega), Nat.mod_eq_of_lt hi]
  unfold withF
  by_cases h : bitF n i v = b
  · rw [if_pos h, updF_same h, hp]
  · rw [if_neg h]
    cases b
    · have := placeF_down (bitF n i) v (by simpa using h) n 0 (by omega) (by omega)
      rw [hp, Nat.zero_add] at this
      rw [this]
      rfl
    · have := placeF_up (bitF n i) v (by simpa using h) n 0 (by omega) (by omega)
      rw [hp, Nat.zero_add] at this
      rw [this]
      rfl

theorem with_lt (n i v : Nat) (b : Bool) (hi : i < 2 ^ n) (hv : v < n) : withF n i v b < 2 ^ n := by
  rw [with_place n i v b hi hv]; exact placeF_lt _ _ _

/-! ### one variable -/
def oneV (u : Nat) : Int → Bool := fun x => decide (x = (u : Int))

theorem chT_none {wn : Int → Bool} (o : Bool → Bool → Bool) : ∀ (d : Nat) (v : Int) (t : List Bool), (∀ x, v ≤ x → wn x = false) → chT wn o d v t = t := by
  intro d
  induction d with
  | zero => intro v t _; rfl
  | succ d ih =>
    intro v t h
    rw [chT, h v (Int.le_refl _), ih (v + 1) _ (fun x hx => h x (by omega)), ih (v + 1) _ (fun x hx => h x (by omega))]
    simp

theorem getD_left {a b : List Bool} {i : Nat} (h : i < a.length) : (a ++ b).getD i false = a.getD i false := by
  simp only [List.getD_eq_getElem?_getD, List.getElem?_append_left h]
theorem getD_right {a b : List Bool} {m i : Nat} (h : a.length = m) : (a ++ b).getD (m + i) false = b.getD i false := by
  subst h
  simp only [List.getD_eq_getElem?_getD]
  rw [List.getElem?_append_right (by omega)]
  congr 2; omega

theorem getD_zip (o : Bool → Bool → Bool) {a b : List Bool} {i : Nat} (ha : i < a.length) (hb : i < b.length) : (List.zipWith o a b).getD i false = o (a.getD i false) (b.getD i false) := by
  simp only [List.getD_eq_getElem?_getD]
  rw [List.getElem?_eq_getElem (by rw [List.length_zipWith]; omega), List.getElem?_eq_getElem ha, List.getElem?_eq_getElem hb]
  simp

theorem chT_one (o : Bool → Bool → Bool) (u : Nat) (ρ : Nat → Bool) : ∀ (d v : Nat) (t : List Bool), t.length = 2 ^ d → v ≤ u → u < v + d →
    (chT (oneV u) o d v t).getD (placeF ρ d v) false = o (t.getD (placeF (updF ρ u false) d v) false) (t.getD (placeF (updF ρ u true) d v) false) := by
  intro d
  induction d with
  | zero => intro v t _ h1 h2; omega
  | succ d ih =>
    intro v t ht h1 h2
    obtain ⟨a, b, rfl, ha, hb⟩ : ∃ a b, t = a ++ b ∧ a.length = 2 ^ d ∧ b.length = 2 ^ d := ⟨t.take (2 ^ d), t.drop (2 ^ d), (List.take_append_drop _ _).symm, by rw [List.length_take, ht, Nat.pow_succ]; omega, by rw [List.length_drop, ht, Nat.pow_succ]; omega⟩
    rw [chT_append _ _ _ _ _ _ ha]
    have hp := placeF_lt ρ d (v + 1)
    have c : ((v : Int) + 1) = ((v + 1 : Nat) : Int) := by omega
    by_cases e : v = u
    · subst e
      rw [if_pos (by simp [oneV]), chT_none o d _ a (fun x hx => by simp [oneV]; omega), chT_none o d _ b (fun x hx => by simp [oneV]; omega)]
      rw [placeF, placeF, placeF, placeF_upd_low _ _ _ _ _ (by omega), placeF_upd_low _ _ _ _ _ (by omega)]
      have e1 : updF ρ v true v = true := by simp [updF]
      have e0 : updF ρ v false v = false := by simp [updF]
      rw [e1, e0]
      simp only [if_true, Bool.false_eq_true, if_false, Nat.zero_add]
      rw [getD_left (a := a) (by omega), getD_right ha]
      cases ρ v
      · simp only [Bool.false_eq_true, if_false, Nat.zero_add]
        rw [getD_left (by rw [List.length_zipWith]; omega), getD_zip o (by omega) (by omega)]
      · simp only [if_true]
        rw [getD_right (by rw [List.length_zipWith]; omega), getD_zip o (by omega) (by omega)]
    · have hla := chT_length (oneV u) o d (v + 1) a ha
      rw [if_neg (by simp [oneV]; omega), placeF, placeF, placeF]
      have e1 : updF ρ u true v = ρ v := by simp [updF, e]
      have e0 : updF ρ u false v = ρ v := by simp [updF, e]
      have p0 := placeF_lt (updF ρ u false) d (v + 1)
      have p1 := placeF_lt (updF ρ u true) d (v + 1)
      rw [e1, e0]
      cases ρ v
      · simp only [Bool.false_eq_true, if_false, Nat.zero_add]
        rw [getD_left (by omega), getD_left (by omega), getD_left (by omega), c, ih (v + 1) a ha (by omega) (by omega)]
      · simp only [if_true]
        rw [getD_right hla, getD_right ha, getD_right ha, c, ih (v + 1) b hb (by omega) (by omega)]

/-- One variable, as the reference says it. -/
def oneT (o : Bool → Bool → Bool) (n u : Nat) (t : List Bool) : List Bool := (List.range (2 ^ n)).map fun i => o (t.getD (withF n i u false) false) (t.getD (withF n i u true) false)

theorem oneT_chT (o : Bool → Bool → Bool) {n u : Nat} {t : List Bool} (ht : t.length = 2 ^ n) (hu : u < n) : oneT o n u t = chT (oneV u) o n 0 t := by
  have hl := chT_length (oneV u) o n 0 t ht
  refine List.ext_getElem (by rw [hl]; simp [oneT]) (fun i h1 h2 => ?_)
  have hi : i < 2 ^ n := by rw [hl] at h2; exact h2
  have e := chT_one o u (bitF n i) n 0 t ht (by omega) (by omega)
  rw [bit_place n 0 n i (by omega), Nat.mod_eq_of_lt hi, ← with_place n i u false hi hu, ← with_place n i u true hi hu] at e
  have c : ((0 : Nat) : Int) = 0 := rfl
  rw [c] at e
  simp only [List.getD_eq_getElem?_getD] at e
  rw [List.getElem?_eq_getElem h2, Option.getD_some] at e
  rw [e]
  simp [oneT]

/-! ### many -/
def Inter (o : Bool → Bool → Bool) : Prop := ∀ a b c d, o (o a b) (o c d) = o (o a c) (o b d)

theorem zip_inter {o : Bool → Bool → Bool} (h : Inter o) : ∀ a b c d : List Bool, List.zipWith o (List.zipWith o a b) (List.zipWith o c d) = List.zipWith o (List.zipWith o a c) (List.zipWith o b d)
  | [], _, _, _ => by simp
  | _ :: _, [], _, _ => by simp
  | _ :: _, _ :: _, [], _ => by simp
  | _ :: _, _ :: _, _ :: _, [] => by simp
  | x :: a, y :: b, z :: c, w :: d => by simp [h x y z w, zip_inter h a b c d]

theorem zip_append' {o : Bool → Bool → Bool} {a b c d : List Bool} (h : a.length = c.length) : List.zipWith o (a ++ b) (c ++ d) = List.zipWith o a c ++ List.zipWith o b d := by
  exact List.zipWith_append h

theorem split2 {d : Nat} {t : List Bool} (ht : t.length = 2 ^ (d + 1)) : ∃ a b, t = a ++ b ∧ a.length = 2 ^ d ∧ b.length = 2 ^ d :=
  ⟨t.take (2 ^ d), t.drop (2 ^ d), (List.take_append_drop _ _).symm, by rw [List.length_take, ht, Nat.pow_succ]; omega, by rw [List.length_drop, ht, Nat.pow_succ]; omega⟩

theorem chT_zip {wn : Int → Bool} {o : Bool → Bool → Bool} (h : Inter o) : ∀ (d : Nat) (v : Int) (s t : List Bool), s.length = 2 ^ d → t.length = 2 ^ d → chT wn o d v (List.zipWith o s t) = List.zipWith o (chT wn o d v s) (chT wn o d v t) := by
  intro d
  induction d with
  | zero => intro v s t _ _; rfl
  | succ d ih =>
    intro v s t hs ht
    obtain ⟨a, b, rfl, ha, hb⟩ := split2 hs
    obtain ⟨a', b', rfl, ha', hb'⟩ := split2 ht
    have la := chT_length wn o d (v + 1) a ha
    have lb := chT_length wn o d (v + 1) b hb
    have la' := chT_length wn o d (v + 1) a' ha'
    have lb' := chT_length wn o d (v + 1) b' hb'
    rw [zip_append' (by omega), chT_append _ _ _ _ _ _ (by rw [List.length_zipWith]; omega), chT_append _ _ _ _ _ _ ha, chT_append _ _ _ _ _ _ ha', ih (v + 1) a a' ha ha', ih (v + 1) b b' hb hb']
    split
    · rw [zip_append' (by simp only [List.length_zipWith]; omega), zip_inter h]
    · rw [zip_append' (by omega)]

theorem chT_union {S S' : Int → Bool} {o : Bool → Bool → Bool} (ho : Idem o) (h : Inter o) (u : Nat) (hS : S u = false) (hS' : ∀ x, S' x = (S x || oneV u x)) : ∀ (d : Nat) (v : Int) (t : List Bool), t.length = 2 ^ d →
    chT S' o d v t = chT (oneV u) o d v (chT S o d v t) := by
  intro d
  induction d with
  | zero => intro v t _; rfl
  | succ d ih =>
    intro v t ht
    obtain ⟨a, b, rfl, ha, hb⟩ := split2 ht
    have la := chT_length S o d (v + 1) a ha
    have lb := chT_length S o d (v + 1) b hb
    rw [chT_append _ _ _ _ _ _ ha, chT_append _ _ _ _ _ _ ha, ih (v + 1) a ha, ih (v + 1) b hb]
    by_cases e : v = (u : Int)
    · subst e
      have h1 : oneV u (u : Int) = true := by simp [oneV]
      rw [if_pos (by rw [hS', hS, h1]; rfl), if_neg (by simp [hS]), chT_append _ _ _ _ _ _ la, if_pos h1]
    · have h1 : oneV u v = false := by simp [oneV, e]
      by_cases hv : S v = true
      · rw [if_pos (by rw [hS', hv]; rfl), if_pos hv, chT_append _ _ _ _ _ _ (by rw [List.length_zipWith]; omega), if_neg (by simp [h1]), chT_zip h d (v + 1) _ _ la lb]
      · rw [if_neg (by rw [hS', h1]; simpa using hv), if_neg hv, chT_append _ _ _ _ _ _ la, if_neg (by simp [h1])]

def inV (set : List Nat) : Int → Bool := fun x => set.any fun u => oneV u x

/-- The reference's Quantify: one variable after another. -/
def quantT (o : Bool → Bool → Bool) (n : Nat) : List Nat → List Bool → List Bool
  | [], t => t
  | u :: set, t => quantT o n set (oneT o n u t)

theorem oneT_length (o : Bool → Bool → Bool) (n u : Nat) (t : List Bool) : (oneT o n u t).length = 2 ^ n := by simp [oneT]

theorem quantT_snoc (o : Bool → Bool → Bool) (n u : Nat) : ∀ (set : List Nat) (t : List Bool), quantT o n (set ++ [u]) t = oneT o n u (quantT o n set t) := by
  intro set
  induction set with
  | nil => intro t; rfl
  | cons x set ih => intro t; exact ih _

theorem quantT_length (o : Bool → Bool → Bool) (n : Nat) : ∀ (set : List Nat) (t : List Bool), t.length = 2 ^ n → (quantT o n set t).length = 2 ^ n := by
  intro set
  induction set with
  | nil => intro t h; exact h
  | cons u set ih => intro t h; exact ih _ (oneT_length o n u t)

theorem quant_chT {o : Bool → Bool → Bool} (ho : Idem o) (h : Inter o) (n : Nat) (t : List Bool) (ht : t.length = 2 ^ n) : ∀ (k : Nat) (set : List Nat), set.length = k → set.Nodup → (∀ u ∈ set, u < n) → quantT o n set t = chT (inV set) o n 0 t := by
  intro k
  induction k with
  | zero =>
    intro set hl _ _
    obtain rfl := List.length_eq_zero_iff.1 hl
    exact (chT_none o n 0 t (fun x _ => by simp [inV])).symm
  | succ k ih =>
    intro set hl hn hu
    rcases List.eq_nil_or_concat set with rfl | ⟨s, u, rfl⟩
    · simp at hl
    · rw [List.concat_eq_append] at *
      have hn' := List.nodup_append.1 hn
      rw [quantT_snoc, ih s (by simpa using hl) hn'.1 (fun x hx => hu x (by simp [hx])), oneT_chT o (chT_length _ _ _ _ _ ht) (hu u (by simp))]
      refine (chT_union ho h u ?_ ?_ n 0 t ht).symm
      · simp only [inV, oneV, List.any_eq_false, decide_eq_true_eq]
        intro x hx e
        have : x = u := by omega
        subst this
        exact hn'.2.2 x hx x (by simp) rfl
      · intro x; simp [inV]
end Go.Proofs.Ytaebjalpebgliaa
