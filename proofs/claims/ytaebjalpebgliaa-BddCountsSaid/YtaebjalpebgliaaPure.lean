/- The functions of package bdd on plain lists. No program in sight. -/
namespace Go.Proofs.Ytaebjalpebgliaa

/-- A node of a diagram: variable, low, high. -/
abbrev Nd := Int × Int × Int

/-- The number of a node among those of a list, counted from c on; or 0. -/
def findFrom : List Nd → Nd → Int → Int
  | [], _, _ => 0
  | y :: l, x, k => if y = x then k else findFrom l x (k + 1)

def mget {K V : Type} [DecidableEq K] : List (K × V) → K → Option V
  | [], _ => none
  | (x, v) :: M, k => if k = x then some v else mget M k

def mput {K V : Type} [DecidableEq K] : List (K × V) → K → V → List (K × V)
  | [], k, v => [(k, v)]
  | (x, u) :: M, k, v => if k = x then (x, v) :: M else (x, u) :: mput M k v

/-- What number does. -/
def numF (N : List Nd) (x : Nd) : List Nd × Int :=
  if x.2.1 = x.2.2 then (N, x.2.1) else if findFrom N x 2 = 0 then (N ++ [x], N.length + 2) else (N, findFrom N x 2)

/-- The node of a number. -/
def nodeF (N : List Nd) (k : Int) : Nd := N.getD (k - 2).toNat (0, 0, 0)
def topF (N : List Nd) (k : Int) : Int := if k < 2 then 40 else (nodeF N k).1
def partF (N : List Nd) (k v : Int) (b : Bool) : Int := if topF N k ≠ v then k else if b then (nodeF N k).2.2 else (nodeF N k).2.1

/-- What add does with the nodes of a diagram. -/
def addF : List Nd → List Nd × List Int → List Nd × List Int
  | [], s => s
  | x :: L, s => addF L ((numF s.1 (x.1, s.2[x.2.1.toNat]?.getD 0, s.2[x.2.2.toNat]?.getD 0)).1, s.2 ++ [(numF s.1 (x.1, s.2[x.2.1.toNat]?.getD 0, s.2[x.2.2.toNat]?.getD 0)).2])

/-- What table does; it is what the reference's Build does. -/
def tableF : Nat → List Nd → Int → List Bool → List Nd × Int
  | 0, N, _, t => (N, if t.headD false then 1 else 0)
  | d + 1, N, v, t => numF (tableF d (tableF d N (v + 1) (t.take (t.length / 2))).1 (v + 1) (t.drop (t.length / 2))).1
      (v, (tableF d N (v + 1) (t.take (t.length / 2))).2, (tableF d (tableF d N (v + 1) (t.take (t.length / 2))).1 (v + 1) (t.drop (t.length / 2))).2)

/-- The state of finish: the nodes that are finished, and the numbers of those that were gone through. -/
abbrev Vs := List Nd × List (Int × Int)

def visitF (N : List Nd) : Nat → Vs → Int → Option (Vs × Int)
  | 0, _, _ => none
  | f + 1, s, k =>
    match mget s.2 k with
    | some n => some (s, n)
    | none =>
      match visitF N f s (nodeF N k).2.1 with
      | none => none
      | some (s1, low) =>
        match visitF N f s1 (nodeF N k).2.2 with
        | none => none
        | some (s2, high) => some ((s2.1 ++ [((nodeF N k).1, low, high)], mput s2.2 k (s2.1.length + 2)), s2.1.length + 2)

/-- The state of ite: the builder's nodes, and the memory. -/
abbrev Is := List Nd × List (Nd × Int)

def min3 (a b c : Int) : Int := if c < (if b < a then b else a) then c else (if b < a then b else a)

def iteF : Nat → Is → Int → Int → Int → Option (Is × Int)
  | 0, _, _, _, _ => none
  | n + 1, s, f, g, h =>
    if f = 1 ∨ g = h then some (s, g) else if f = 0 then some (s, h) else
    match mget s.2 (f, g, h) with
    | some k => some (s, k)
    | none =>
      let v := min3 (topF s.1 f) (topF s.1 g) (topF s.1 h)
      match iteF n s (partF s.1 f v false) (partF s.1 g v false) (partF s.1 h v false) with
      | none => none
      | some (s1, low) =>
        match iteF n s1 (partF s1.1 f v true) (partF s1.1 g v true) (partF s1.1 h v true) with
        | none => none
        | some (s2, high) => some (((numF s2.1 (v, low, high)).1, mput s2.2 (f, g, h) (numF s2.1 (v, low, high)).2), (numF s2.1 (v, low, high)).2)

/-! ### valid nodes -/
/-- The nodes have variables, and their children stand ahead of them. -/
def VNd (N : List Nd) : Prop := ∀ (i : Nat) (x : Nd), N[i]? = some x → 0 ≤ x.1 ∧ x.1 < 40 ∧ 0 ≤ x.2.1 ∧ x.2.1 < (i : Int) + 2 ∧ 0 ≤ x.2.2 ∧ x.2.2 < (i : Int) + 2
/-- A number of N. -/
def VNum (N : List Nd) (k : Int) : Prop := 0 ≤ k ∧ k < (N.length : Int) + 2
def VM {K : Type} [DecidableEq K] (N : List Nd) (M : List (K × Int)) : Prop := ∀ key k, mget M key = some k → VNum N k

theorem VNum.mono {N N' : List Nd} {k : Int} (h : VNum N k) (hl : N.length ≤ N'.length) : VNum N' k := ⟨h.1, by have := h.2; omega⟩
theorem VM.mono {K : Type} [DecidableEq K] {N N' : List Nd} {M : List (K × Int)} (h : VM N M) (hl : N.length ≤ N'.length) : VM N' M := fun key k hk => (h key k hk).mono hl

theorem nodeF_valid {N : List Nd} (hN : VNd N) {k : Int} (h2 : 2 ≤ k) (hk : k < (N.length : Int) + 2) : 0 ≤ (nodeF N k).1 ∧ (nodeF N k).1 < 40 ∧ VNum N (nodeF N k).2.1 ∧ VNum N (nodeF N k).2.2 ∧ (nodeF N k).2.1 < k ∧ (nodeF N k).2.2 < k := by
  have hlt : (k - 2).toNat < N.length := by omega
  have h := hN (k - 2).toNat (nodeF N k) (by simp [nodeF, hlt])
  exact ⟨h.1, h.2.1, ⟨h.2.2.1, by omega⟩, ⟨h.2.2.2.2.1, by omega⟩, by omega, by omega⟩

theorem partF_valid {N : List Nd} (hN : VNd N) {k v : Int} {b : Bool} (hk : VNum N k) (hv : v < 40) : VNum N (partF N k v b) := by
  unfold partF
  split
  · exact hk
  · rename_i h
    have h2 : 2 ≤ k := by
      rcases Int.lt_or_le k 2 with h' | h'
      · simp [topF, h'] at h; omega
      · exact h'
    have := nodeF_valid hN h2 hk.2
    split
    · exact this.2.2.2.1
    · exact this.2.2.1

theorem topF_range {N : List Nd} (hN : VNd N) {k : Int} (hk : VNum N k) : 0 ≤ topF N k ∧ topF N k ≤ 40 ∧ (2 ≤ k → topF N k < 40) := by
  unfold topF
  split
  · exact ⟨by omega, by omega, fun h => by omega⟩
  · have := nodeF_valid hN (by omega) hk.2
    exact ⟨this.1, by omega, fun _ => this.2.1⟩

theorem findFrom_range : ∀ (N : List Nd) (x : Nd) (c : Int), 0 < c → findFrom N x c = 0 ∨ (c ≤ findFrom N x c ∧ findFrom N x c < c + N.length)
  | [], _, _, _ => .inl rfl
  | y :: N, x, c, hc => by
    unfold findFrom
    split
    · right; simp; omega
    · rcases findFrom_range N x (c + 1) (by omega) with h | h
      · exact .inl h
      · right; simp; omega

theorem numF_grows (N : List Nd) (x : Nd) : N.length ≤ (numF N x).1.length ∧ (numF N x).1.length ≤ N.length + 1 := by
  unfold numF; split
  · exact ⟨Nat.le_refl _, Nat.le_succ _⟩
  · split <;> simp

theorem numF_valid {N : List Nd} (hN : VNd N) {v l h : Int} (hv : 0 ≤ v ∧ v < 40) (hl : VNum N l) (hh : VNum N h) : VNd (numF N (v, l, h)).1 ∧ VNum (numF N (v, l, h)).1 (numF N (v, l, h)).2 := by
  unfold numF
  split
  · exact ⟨hN, hl⟩
  · split
    · refine ⟨fun i x hx => ?_, ⟨by omega, by simp; omega⟩⟩
      rw [List.getElem?_append] at hx
      split at hx
      · exact hN i x hx
      · rename_i hi
        have hi0 : i = N.length := by
          rcases Nat.lt_or_ge (i - N.length) 1 with h' | h'
          · omega
          · rw [List.getElem?_eq_none (by simpa using h')] at hx; cases hx
        subst hi0
        simp at hx
        subst hx
        exact ⟨hv.1, hv.2, hl.1, hl.2, hh.1, hh.2⟩
    · rename_i h0
      rcases findFrom_range N (v, l, h) 2 (by omega) with h' | h'
      · exact absurd h' h0
      · exact ⟨hN, by simp only; omega, by simp only; omega⟩

theorem mget_put {K V : Type} [DecidableEq K] (M : List (K × V)) (k j : K) (v : V) : mget (mput M k v) j = if j = k then some v else mget M j := by
  induction M with
  | nil => simp [mput, mget]
  | cons p M ih =>
    obtain ⟨x, u⟩ := p
    by_cases h : k = x
    · subst h
      by_cases hj : j = k <;> simp [mput, mget, hj]
    · by_cases hj : j = k
      · subst hj; simp [mput, mget, h, ih]
      · by_cases hx : j = x <;> simp [mput, mget, h, hj, ih, hx]
        · subst hx; simp [hj]

/-- What ite leaves is valid. -/
theorem iteF_valid : ∀ (n : Nat) (s s' : Is) (f g h k : Int), iteF n s f g h = some (s', k) → VNd s.1 → VM s.1 s.2 → VNum s.1 f → VNum s.1 g → VNum s.1 h → VNd s'.1 ∧ VM s'.1 s'.2 ∧ VNum s'.1 k ∧ s.1.length ≤ s'.1.length := by
  intro n
  induction n with
  | zero => intro s s' f g h k he; simp [iteF] at he
  | succ n ih =>
    intro s s' f g h k he hN hM hf hg hh
    unfold iteF at he
    split at he
    · simp only [Option.some.injEq, Prod.mk.injEq] at he
      obtain ⟨rfl, rfl⟩ := he
      exact ⟨hN, hM, hg, Nat.le_refl _⟩
    · rename_i hc1
      split at he
      · simp only [Option.some.injEq, Prod.mk.injEq] at he
        obtain ⟨rfl, rfl⟩ := he
        exact ⟨hN, hM, hh, Nat.le_refl _⟩
      · rename_i hc2
        split at he
        · rename_i u hm
          simp only [Option.some.injEq, Prod.mk.injEq] at he
          obtain ⟨rfl, rfl⟩ := he
          exact ⟨hN, hM, hM _ _ hm, Nat.le_refl _⟩
        · simp only at he
          have hf2 : 2 ≤ f := by have := hf.1; omega
          have hv : min3 (topF s.1 f) (topF s.1 g) (topF s.1 h) < 40 := by
            have := (topF_range hN hf).2.2 hf2
            unfold min3; omega
          have hv0 : 0 ≤ min3 (topF s.1 f) (topF s.1 g) (topF s.1 h) := by
            have := (topF_range hN hf).1
            have := (topF_range hN hg).1
            have := (topF_range hN hh).1
            unfold min3; omega
          split at he
          · cases he
          rename_i s1 low h1
          split at he
          · cases he
          rename_i s2 high h2
          simp only [Option.some.injEq, Prod.mk.injEq] at he
          obtain ⟨rfl, rfl⟩ := he
          obtain ⟨a1, a2, a3, a4⟩ := ih _ _ _ _ _ _ h1 hN hM (partF_valid hN hf hv) (partF_valid hN hg hv) (partF_valid hN hh hv)
          obtain ⟨b1, b2, b3, b4⟩ := ih _ _ _ _ _ _ h2 a1 a2 (partF_valid a1 (hf.mono a4) hv) (partF_valid a1 (hg.mono a4) hv) (partF_valid a1 (hh.mono a4) hv)
          obtain ⟨c1, c2⟩ := numF_valid b1 ⟨hv0, hv⟩ (a3.mono b4) b3
          have c3 := (numF_grows s2.1 (min3 (topF s.1 f) (topF s.1 g) (topF s.1 h), low, high)).1
          refine ⟨c1, fun key k hk => ?_, c2, by simp only; omega⟩
          simp only [mget_put] at hk
          split at hk
          · cases hk; exact c2
          · exact (b2 key k hk).mono c3

end Go.Proofs.Ytaebjalpebgliaa
