/-  -/

set_option linter.unusedVariables false
set_option linter.unusedSimpArgs false
namespace Go.Proofs.YtcipnkemnepbaaaGreat
abbrev Nd := Int × Int × Int
def findFrom : List Nd → Nd → Int → Int
 | [], _, _ => 0
 | y :: l, x, k => if y = x then k else findFrom l x (k + 1)
def mget {K V : Type} [DecidableEq K] : List (K × V) → K → Option V
 | [], _ => none
 | (x, v) :: M, k => if k = x then some v else mget M k
def mput {K V : Type} [DecidableEq K] : List (K × V) → K → V → List (K × V)
 | [], k, v => [(k, v)]
 | (x, u) :: M, k, v => if k = x then (x, v) :: M else (x, u) :: mput M k v
def numF (N : List Nd) (x : Nd) : List Nd × Int :=
 if x.2.1 = x.2.2 then (N, x.2.1) else if findFrom N x 2 = 0 then (N ++ [x], N.length + 2) else (N, findFrom N x 2)
def nodeF (N : List Nd) (k : Int) : Nd := N.getD (k - 2).toNat (0, 0, 0)
def topF (N : List Nd) (k : Int) : Int := if k < 2 then 40 else (nodeF N k).1
def partF (N : List Nd) (k v : Int) (b : Bool) : Int := if topF N k ≠ v then k else if b then (nodeF N k).2.2 else (nodeF N k).2.1
def addF : List Nd → List Nd × List Int → List Nd × List Int
 | [], s => s
 | x :: L, s => addF L ((numF s.1 (x.1, s.2[x.2.1.toNat]?.getD 0, s.2[x.2.2.toNat]?.getD 0)).1, s.2 ++ [(numF s.1 (x.1, s.2[x.2.1.toNat]?.getD 0, s.2[x.2.2.toNat]?.getD 0)).2])
def tableF : Nat → List Nd → Int → List Bool → List Nd × Int
 | 0, N, _, t => (N, if t.headD false then 1 else 0)
 | d + 1, N, v, t => numF (tableF d (tableF d N (v + 1) (t.take (t.length / 2))).1 (v + 1) (t.drop (t.length / 2))).1
  (v, (tableF d N (v + 1) (t.take (t.length / 2))).2, (tableF d (tableF d N (v + 1) (t.take (t.length / 2))).1 (v + 1) (t.drop (t.length / 2))).2)
abbrev Vs := List Nd × List (Int × Int)
def visitF (N : List Nd) : Nat → Vs → Int → Option (Vs × Int)
 | 0, _, _ => none
 | f + 1, s, k =>
  match mget s.2 k with
  | some n => some (s, n)
  | none =>
   match visitF N f s (nodeF N k).2.1 with
   | none => none
   | some (s1, low) =>
    match visitF N f s1 (nodeF N k).2.2 with
    | none => none
    | some (s2, high) => some ((s2.1 ++ [((nodeF N k).1, low, high)], mput s2.2 k (s2.1.length + 2)), s2.1.length + 2)
abbrev Is := List Nd × List (Nd × Int)
def min3 (a b c : Int) : Int := if c < (if b < a then b else a) then c else (if b < a then b else a)
def iteF : Nat → Is → Int → Int → Int → Option (Is × Int)
 | 0, _, _, _, _ => none
 | n + 1, s, f, g, h =>
  if f = 1 ∨ g = h then some (s, g) else if f = 0 then some (s, h) else
  match mget s.2 (f, g, h) with
  | some k => some (s, k)
  | none =>
   let v := min3 (topF s.1 f) (topF s.1 g) (topF s.1 h)
   match iteF n s (partF s.1 f v false) (partF s.1 g v false) (partF s.1 h v false) with
   | none => none
   | some (s1, low) =>
    match iteF n s1 (partF s1.1 f v true) (partF s1.1 g v true) (partF s1.1 h v true) with
    | none => none
    | some (s2, high) => some (((numF s2.1 (v, low, high)).1, mput s2.2 (f, g, h) (numF s2.1 (v, low, high)).2), (numF s2.1 (v, low, high)).2)
def VNd (N : List Nd) : Prop := ∀ (i : Nat) (x : Nd), N[i]? = some x → 0 ≤ x.1 ∧ x.1 < 40 ∧ 0 ≤ x.2.1 ∧ x.2.1 < (i : Int) + 2 ∧ 0 ≤ x.2.2 ∧ x.2.2 < (i : Int) + 2
def VNum (N : List Nd) (k : Int) : Prop := 0 ≤ k ∧ k < (N.length : Int) + 2
def VM {K : Type} [DecidableEq K] (N : List Nd) (M : List (K × Int)) : Prop := ∀ key k, mget M key = some k → VNum N k
theorem VNum.mono {N N' : List Nd} {k : Int} (h : VNum N k) (hl : N.length ≤ N'.length) : VNum N' k := ⟨h.1, by have := h.2; omega⟩
theorem VM.mono {K : Type} [DecidableEq K] {N N' : List Nd} {M : List (K × Int)} (h : VM N M) (hl : N.length ≤ N'.length) : VM N' M := fun key k hk => (h key k hk).mono hl
theorem nodeF_valid {N : List Nd} (hN : VNd N) {k : Int} (h2 : 2 ≤ k) (hk : k < (N.length : Int) + 2) : 0 ≤ (nodeF N k).1 ∧ (nodeF N k).1 < 40 ∧ VNum N (nodeF N k).2.1 ∧ VNum N (nodeF N k).2.2 ∧ (nodeF N k).2.1 < k ∧ (nodeF N k).2.2 < k := by
 have hlt : (k - 2).toNat < N.length := by omega
 have h := hN (k - 2).toNat (nodeF N k) (by simp [nodeF, hlt])
 exact ⟨h.1, h.2.1, ⟨h.2.2.1, by omega⟩, ⟨h.2.2.2.2.1, by omega⟩, by omega, by omega⟩
theorem partF_valid {N : List Nd} (hN : VNd N) {k v : Int} {b : Bool} (hk : VNum N k) (hv : v < 40) : VNum N (partF N k v b) := by
 unfold partF
 split
 · exact hk
 · rename_i h
   have h2 : 2 ≤ k := by
    rcases Int.lt_or_le k 2 with h' | h'
    · simp [topF, h'] at h; omega
    · exact h'
   have := nodeF_valid hN h2 hk.2
   split
   · exact this.2.2.2.1
   · exact this.2.2.1
theorem topF_range {N : List Nd} (hN : VNd N) {k : Int} (hk : VNum N k) : 0 ≤ topF N k ∧ topF N k ≤ 40 ∧ (2 ≤ k → topF N k < 40) := by
 unfold topF
 split
 · exact ⟨by omega, by omega, fun h => by omega⟩
 · have := nodeF_valid hN (by omega) hk.2
   exact ⟨this.1, by omega, fun _ => this.2.1⟩
theorem findFrom_range : ∀ (N : List Nd) (x : Nd) (c : Int), 0 < c → findFrom N x c = 0 ∨ (c ≤ findFrom N x c ∧ findFrom N x c < c + N.length)
 | [], _, _, _ => .inl rfl
 | y :: N, x, c, hc => by
  unfold findFrom
  split
  · right; simp; omega
  · rcases findFrom_range N x (c + 1) (by omega) with h | h
    · exact .inl h
    · right; simp; omega
theorem numF_grows (N : List Nd) (x : Nd) : N.length ≤ (numF N x).1.length ∧ (numF N x).1.length ≤ N.length + 1 := by
 unfold numF; split
 · exact ⟨Nat.le_refl _, Nat.le_succ _⟩
 · split <;> simp
theorem numF_valid {N : List Nd} (hN : VNd N) {v l h : Int} (hv : 0 ≤ v ∧ v < 40) (hl : VNum N l) (hh : VNum N h) : VNd (numF N (v, l, h)).1 ∧ VNum (numF N (v, l, h)).1 (numF N (v, l, h)).2 := by
 unfold numF
 split
 · exact ⟨hN, hl⟩
 · split
   · refine ⟨fun i x hx => ?_, ⟨by omega, by simp; omega⟩⟩
     rw [List.getElem?_append] at hx
     split at hx
     · exact hN i x hx
     · rename_i hi
       have hi0 : i = N.length := by
        rcases Nat.lt_or_ge (i - N.length) 1 with h' | h'
        · omega
        · rw [List.getElem?_eq_none (by simpa using h')] at hx; cases hx
       subst hi0
       simp at hx
       subst hx
       exact ⟨hv.1, hv.2, hl.1, hl.2, hh.1, hh.2⟩
   · rename_i h0
     rcases findFrom_range N (v, l, h) 2 (by omega) with h' | h'
     · exact absurd h' h0
     · exact ⟨hN, by simp only; omega, by simp only; omega⟩
theorem mget_put {K V : Type} [DecidableEq K] (M : List (K × V)) (k j : K) (v : V) : mget (mput M k v) j = if j = k then some v else mget M j := by
 induction M with
 | nil => simp [mput, mget]
 | cons p M ih =>
  obtain ⟨x, u⟩ := p
  by_cases h : k = x
  · subst h
    by_cases hj : j = k <;> simp [mput, mget, hj]
  · by_cases hj : j = k
    · subst hj; simp [mput, mget, h, ih]
    · by_cases hx : j = x <;> simp [mput, mget, h, hj, ih, hx]
      · subst hx; simp [hj]
theorem iteF_valid : ∀ (n : Nat) (s s' : Is) (f g h k : Int), iteF n s f g h = some (s', k) → VNd s.1 → VM s.1 s.2 → VNum s.1 f → VNum s.1 g → VNum s.1 h → VNd s'.1 ∧ VM s'.1 s'.2 ∧ VNum s'.1 k ∧ s.1.length ≤ s'.1.length := by
 intro n
 induction n with
 | zero => intro s s' f g h k he; simp [iteF] at he
 | succ n ih =>
  intro s s' f g h k he hN hM hf hg hh
  unfold iteF at he
  split at he
  · simp only [Option.some.injEq, Prod.mk.injEq] at he
    obtain ⟨rfl, rfl⟩ := he
    exact ⟨hN, hM, hg, Nat.le_refl _⟩
  · rename_i hc1
    split at he
    · simp only [Option.some.injEq, Prod.mk.injEq] at he
      obtain ⟨rfl, rfl⟩ := he
      exact ⟨hN, hM, hh, Nat.le_refl _⟩
    · rename_i hc2
      split at he
      · rename_i u hm
        simp only [Option.some.injEq, Prod.mk.injEq] at he
        obtain ⟨rfl, rfl⟩ := he
        exact ⟨hN, hM, hM _ _ hm, Nat.le_refl _⟩
      · simp only at he
        have hf2 : 2 ≤ f := by have := hf.1; omega
        have hv : min3 (topF s.1 f) (topF s.1 g) (topF s.1 h) < 40 := by
         have := (topF_range hN hf).2.2 hf2
         unfold min3; omega
        have hv0 : 0 ≤ min3 (topF s.1 f) (topF s.1 g) (topF s.1 h) := by
         have := (topF_range hN hf).1
         have := (topF_range hN hg).1
         have := (topF_range hN hh).1
         unfold min3; omega
        split at he
        · cases he
        rename_i s1 low h1
        split at he
        · cases he
        rename_i s2 high h2
        simp only [Option.some.injEq, Prod.mk.injEq] at he
        obtain ⟨rfl, rfl⟩ := he
        obtain ⟨a1, a2, a3, a4⟩ := ih _ _ _ _ _ _ h1 hN hM (partF_valid hN hf hv) (partF_valid hN hg hv) (partF_valid hN hh hv)
        obtain ⟨b1, b2, b3, b4⟩ := ih _ _ _ _ _ _ h2 a1 a2 (partF_valid a1 (hf.mono a4) hv) (partF_valid a1 (hg.mono a4) hv) (partF_valid a1 (hh.mono a4) hv)
        obtain ⟨c1, c2⟩ := numF_valid b1 ⟨hv0, hv⟩ (a3.mono b4) b3
        have c3 := (numF_grows s2.1 (min3 (topF s.1 f) (topF s.1 g) (topF s.1 h), low, high)).1
        refine ⟨c1, fun key k hk => ?_, c2, by simp only; omega⟩
        simp only [mget_put] at hk
        split at hk
        · cases hk; exact c2
        · exact (b2 key k hk).mono c3
theorem nodup_inj {α : Type} {l : List α} (h : l.Nodup) {i j : Nat} (hi : i < l.length) (hj : j < l.length) (e : l[i] = l[j]) : i = j := by
 rcases Nat.lt_trichotomy i j with h' | h' | h'
 · exact absurd e (List.pairwise_iff_getElem.1 h i j hi hj h')
 · exact h'
 · exact absurd e.symm (List.pairwise_iff_getElem.1 h j i hj hi h')
def tab (N : List Nd) : Nat → Int → Int → List Bool
 | 0, _, k => [decide (k = 1)]
 | d + 1, v, k => tab N d (v + 1) (partF N k v false) ++ tab N d (v + 1) (partF N k v true)
theorem tab_length (N : List Nd) (d : Nat) : ∀ (v k : Int), (tab N d v k).length = 2 ^ d := by
 induction d with
 | zero => intro v k; rfl
 | succ d ih => intro v k; simp [tab, ih]; omega
structure Ord (N : List Nd) (n : Int) : Prop where
 n40 : n ≤ 40
 val : VNd N
 var : ∀ x ∈ N, x.1 < n
 red : ∀ x ∈ N, x.2.1 ≠ x.2.2
 ord : ∀ x ∈ N, x.1 < topF N x.2.1 ∧ x.1 < topF N x.2.2
 nodup : N.Nodup
theorem nodeF_mem {N : List Nd} {k : Int} (h2 : 2 ≤ k) (hk : k < (N.length : Int) + 2) : nodeF N k ∈ N := by
 have hlt : (k - 2).toNat < N.length := by omega
 simp [nodeF, hlt]
theorem topF_const {N : List Nd} {k : Int} (h : k < 2) : topF N k = 40 := by simp [topF, h]
theorem topF_node {N : List Nd} {k : Int} (h : 2 ≤ k) : topF N k = (nodeF N k).1 := by simp [topF, Int.not_lt.2 h]
theorem Ord.top_lt {N : List Nd} {n : Int} (h : Ord N n) {k : Int} (h2 : 2 ≤ k) (hk : VNum N k) : topF N k < n := by
 rw [topF_node h2]; exact h.var _ (nodeF_mem h2 hk.2)
theorem Ord.const {N : List Nd} {n : Int} (h : Ord N n) {k : Int} (hk : VNum N k) (ht : n ≤ topF N k) : k = 0 ∨ k = 1 := by
 rcases Int.lt_or_le k 2 with h2 | h2
 · have := hk.1; omega
 · have := h.top_lt h2 hk; omega
theorem Ord.low {N : List Nd} {n : Int} (h : Ord N n) {k : Int} (h2 : 2 ≤ k) (hk : VNum N k) :
 VNum N (nodeF N k).2.1 ∧ VNum N (nodeF N k).2.2 ∧ topF N k < topF N (nodeF N k).2.1 ∧ topF N k < topF N (nodeF N k).2.2 ∧ (nodeF N k).2.1 ≠ (nodeF N k).2.2 := by
 have hv := nodeF_valid h.val h2 hk.2
 have hm := nodeF_mem h2 hk.2
 rw [topF_node h2]
 exact ⟨hv.2.2.1, hv.2.2.2.1, (h.ord _ hm).1, (h.ord _ hm).2, h.red _ hm⟩
theorem partF_skip {N : List Nd} {k v : Int} {b : Bool} (h : v < topF N k) : partF N k v b = k := by
 unfold partF; rw [if_pos (by omega)]
theorem partF_low {N : List Nd} {k v : Int} (h : topF N k = v) : partF N k v false = (nodeF N k).2.1 := by
 unfold partF; simp [h]
theorem partF_high {N : List Nd} {k v : Int} (h : topF N k = v) : partF N k v true = (nodeF N k).2.2 := by
 unfold partF; simp [h]
theorem Ord.part {N : List Nd} {n : Int} (h : Ord N n) {k v : Int} (b : Bool) (hk : VNum N k) (hv : v ≤ topF N k) (hn : v < n) : VNum N (partF N k v b) ∧ v + 1 ≤ topF N (partF N k v b) := by
 by_cases ht : topF N k = v
 · have h2 : 2 ≤ k := by
     rcases Int.lt_or_le k 2 with h' | h'
     · rw [topF_const h'] at ht; have := h.n40; omega
     · exact h'
   have := h.low h2 hk
   cases b
   · rw [partF_low ht]; exact ⟨this.1, by omega⟩
   · rw [partF_high ht]; exact ⟨this.2.1, by omega⟩
 · rw [partF_skip (by omega)]; exact ⟨hk, by omega⟩
theorem tab_skip {N : List Nd} {d : Nat} {v k : Int} (h : v < topF N k) : tab N (d + 1) v k = tab N d (v + 1) k ++ tab N d (v + 1) k := by
 rw [tab, partF_skip h, partF_skip h]
theorem tab_inj {N : List Nd} {n : Int} (h : Ord N n) : ∀ (d : Nat) (v j k : Int), v + d = n → VNum N j → VNum N k → v ≤ topF N j → v ≤ topF N k → tab N d v j = tab N d v k → j = k := by
 intro d
 induction d with
 | zero =>
  intro v j k hv hj hk tj tk he
  have a := h.const hj (by omega)
  have b := h.const hk (by omega)
  simp [tab] at he
  omega
 | succ d ih =>
  intro v j k hv hj hk tj tk he
  have hn : v < n := by omega
  rw [tab, tab] at he
  obtain ⟨e1, e2⟩ := List.append_inj he (by simp [tab_length])
  have j0 := h.part false hj tj hn
  have j1 := h.part true hj tj hn
  have k0 := h.part false hk tk hn
  have k1 := h.part true hk tk hn
  have e1 := ih (v + 1) _ _ (by omega) j0.1 k0.1 j0.2 k0.2 e1
  have e2 := ih (v + 1) _ _ (by omega) j1.1 k1.1 j1.2 k1.2 e2
  have two : ∀ i, VNum N i → topF N i = v → 2 ≤ i := by
   intro i hi ht
   rcases Int.lt_or_le i 2 with h' | h'
   · rw [topF_const h'] at ht; have := h.n40; omega
   · exact h'
  by_cases hj' : topF N j = v
  · by_cases hk' : topF N k = v
    · rw [partF_low hj', partF_low hk'] at e1
      rw [partF_high hj', partF_high hk'] at e2
      have a2 := two j hj hj'
      have b2 := two k hk hk'
      have t1 := topF_node (N := N) a2
      have t2 := topF_node (N := N) b2
      have en : nodeF N j = nodeF N k := Prod.ext (by omega) (Prod.ext e1 e2)
      have la : (j - 2).toNat < N.length := by have := hj.2; omega
      have lb : (k - 2).toNat < N.length := by have := hk.2; omega
      have en' : N[(j - 2).toNat] = N[(k - 2).toNat] := by simpa [nodeF, la, lb] using en
      have := nodup_inj h.nodup la lb en'
      omega
    · rw [partF_low hj', partF_skip (by omega)] at e1
      rw [partF_high hj', partF_skip (by omega)] at e2
      exact absurd (e1.trans e2.symm) (h.low (two j hj hj') hj).2.2.2.2
  · by_cases hk' : topF N k = v
    · rw [partF_low hk', partF_skip (by omega)] at e1
      rw [partF_high hk', partF_skip (by omega)] at e2
      exact absurd (e1.symm.trans e2) (h.low (two k hk hk') hk).2.2.2.2
    · rw [partF_skip (by omega), partF_skip (by omega)] at e1
      exact e1
theorem nodeF_ext {N N' : List Nd} (h : N <+: N') {k : Int} (h2 : 2 ≤ k) (hk : VNum N k) : nodeF N' k = nodeF N k := by
 obtain ⟨M, rfl⟩ := h
 have hlt : (k - 2).toNat < N.length := by have := hk.2; omega
 simp [nodeF, List.getElem?_append, hlt]
theorem topF_ext {N N' : List Nd} (h : N <+: N') {k : Int} (hk : VNum N k) : topF N' k = topF N k := by
 rcases Int.lt_or_le k 2 with h2 | h2
 · rw [topF_const h2, topF_const h2]
 · rw [topF_node h2, topF_node h2, nodeF_ext h h2 hk]
theorem VNum.ext {N N' : List Nd} {k : Int} (hk : VNum N k) (h : N <+: N') : VNum N' k := hk.mono h.length_le
theorem partF_ext {N N' : List Nd} (h : N <+: N') {k v : Int} {b : Bool} (hv : v < 40) (hk : VNum N k) : partF N' k v b = partF N k v b := by
 unfold partF
 rw [topF_ext h hk]
 rcases Int.lt_or_le k 2 with h2 | h2
 · rw [topF_const h2, if_pos (by omega), if_pos (by omega)]
 · rw [nodeF_ext h h2 hk]
theorem tab_ext {N N' : List Nd} {n : Int} (hN : Ord N n) (h : N <+: N') : ∀ (d : Nat) (v k : Int), v + d = n → VNum N k → v ≤ topF N k → tab N' d v k = tab N d v k := by
 intro d
 induction d with
 | zero => intro v k _ _ _; rfl
 | succ d ih =>
  intro v k hv hk ht
  have hn : v < n := by omega
  have h40 : v < 40 := by have := hN.n40; omega
  have p0 := hN.part false hk ht hn
  have p1 := hN.part true hk ht hn
  rw [tab, tab, partF_ext h h40 hk, partF_ext h h40 hk, ih _ _ (by omega) p0.1 p0.2, ih _ _ (by omega) p1.1 p1.2]
theorem findFrom_zero : ∀ (N : List Nd) (x : Nd) (c : Int), 0 < c → findFrom N x c = 0 → x ∉ N
 | [], _, _, _, _ => by simp
 | y :: N, x, c, hc, h => by
  unfold findFrom at h
  split at h
  · omega
  · rename_i hne
    have := findFrom_zero N x (c + 1) (by omega) h
    simp only [List.mem_cons, not_or]
    exact ⟨fun e => hne e.symm, this⟩
theorem findFrom_get : ∀ (N : List Nd) (x : Nd) (c : Int), 0 < c → findFrom N x c ≠ 0 → N[(findFrom N x c - c).toNat]? = some x
 | [], _, _, _, h => by simp [findFrom] at h
 | y :: N, x, c, hc, h => by
  unfold findFrom at h ⊢
  split
  · rename_i e
    simp [e]
  · rename_i hne
    rw [if_neg hne] at h
    have hg := findFrom_get N x (c + 1) (by omega) h
    have hr := (findFrom_range N x (c + 1) (by omega)).resolve_left h
    rw [show (findFrom N x (c + 1) - c).toNat = (findFrom N x (c + 1) - (c + 1)).toNat + 1 by omega]
    simpa using hg
theorem nodeF_find {N : List Nd} {x : Nd} (h : findFrom N x 2 ≠ 0) : nodeF N (findFrom N x 2) = x := by
 have := findFrom_get N x 2 (by omega) h
 simp [nodeF, List.getD, this]
theorem find_node {N : List Nd} {n : Int} (h : Ord N n) {k : Int} (h2 : 2 ≤ k) (hk : VNum N k) : findFrom N (nodeF N k) 2 = k := by
 have hm := nodeF_mem h2 hk.2
 have h0 : findFrom N (nodeF N k) 2 ≠ 0 := fun e => findFrom_zero N _ 2 (by omega) e hm
 have hg := findFrom_get N _ 2 (by omega) h0
 have hr := (findFrom_range N (nodeF N k) 2 (by omega)).resolve_left h0
 have la : (k - 2).toNat < N.length := by have := hk.2; omega
 have lb : (findFrom N (nodeF N k) 2 - 2).toNat < N.length := by omega
 rw [List.getElem?_eq_getElem lb] at hg
 have en : N[(findFrom N (nodeF N k) 2 - 2).toNat] = N[(k - 2).toNat] := by
  rw [Option.some.inj hg]; simp [nodeF, la]
 have := nodup_inj h.nodup lb la en
 omega
theorem numF_prefix (N : List Nd) (x : Nd) : N <+: (numF N x).1 := by
 unfold numF; split
 · exact List.prefix_refl _
 · split
   · exact List.prefix_append _ _
   · exact List.prefix_refl _
theorem num_ord {N : List Nd} {n : Int} (h : Ord N n) {v l r : Int} (hv : 0 ≤ v ∧ v < n) (hl : VNum N l) (hr : VNum N r) (tl : v < topF N l) (tr : v < topF N r) :
 Ord (numF N (v, l, r)).1 n ∧ VNum (numF N (v, l, r)).1 (numF N (v, l, r)).2 ∧ v ≤ topF (numF N (v, l, r)).1 (numF N (v, l, r)).2 ∧
 (l ≠ r → topF (numF N (v, l, r)).1 (numF N (v, l, r)).2 = v) ∧
 ∀ d : Nat, v + 1 + d = n → tab (numF N (v, l, r)).1 (d + 1) v (numF N (v, l, r)).2 = tab N d (v + 1) l ++ tab N d (v + 1) r := by
 have h40 := h.n40
 have hval := numF_valid h.val (v := v) (l := l) (h := r) ⟨hv.1, by omega⟩ hl hr
 have hpre := numF_prefix N (v, l, r)
 unfold numF at hval hpre ⊢
 by_cases e : l = r
 · subst e
   simp only [if_true]
   exact ⟨h, hl, by omega, fun c => absurd rfl c, fun d hd => tab_skip tl⟩
 · simp only [if_neg e] at hval hpre ⊢
   by_cases h0 : findFrom N (v, l, r) 2 = 0
   · simp only [if_pos h0] at hval hpre ⊢
     have hnm := findFrom_zero N _ 2 (by omega) h0
     have nd : nodeF (N ++ [(v, l, r)]) ((N.length : Int) + 2) = (v, l, r) := by simp [nodeF]
     have tp : topF (N ++ [(v, l, r)]) ((N.length : Int) + 2) = v := by rw [topF_node (by omega), nd]
     have ho : Ord (N ++ [(v, l, r)]) n := by
      refine ⟨h40, hval.1, fun x hx => ?_, fun x hx => ?_, fun x hx => ?_, ?_⟩
      · rcases List.mem_append.1 hx with hx | hx
        · exact h.var x hx
        · rw [List.mem_singleton.1 hx]; exact hv.2
      · rcases List.mem_append.1 hx with hx | hx
        · exact h.red x hx
        · rw [List.mem_singleton.1 hx]; exact e
      · rcases List.mem_append.1 hx with hx | hx
        · obtain ⟨i, hi, rfl⟩ := List.mem_iff_getElem.1 hx
          have hvi := h.val i N[i] (List.getElem?_eq_getElem hi)
          rw [topF_ext hpre ⟨hvi.2.2.1, by omega⟩, topF_ext hpre ⟨hvi.2.2.2.2.1, by omega⟩]
          exact h.ord _ hx
        · rw [List.mem_singleton.1 hx]
          rw [topF_ext hpre hl, topF_ext hpre hr]
          exact ⟨tl, tr⟩
      · rw [List.nodup_append]
        refine ⟨h.nodup, by simp, fun a ha b hb => ?_⟩
        rw [List.mem_singleton.1 hb]
        rintro rfl
        exact hnm ha
     refine ⟨ho, hval.2, by rw [tp]; omega, fun _ => tp, fun d hd => ?_⟩
     rw [tab, partF_low tp, partF_high tp, nd]
     rw [tab_ext h hpre d _ _ (by omega) hl (by omega), tab_ext h hpre d _ _ (by omega) hr (by omega)]
   · simp only [if_neg h0] at hval hpre ⊢
     have h2 := (findFrom_range N (v, l, r) 2 (by omega)).resolve_left h0
     have nd := nodeF_find h0
     have tp : topF N (findFrom N (v, l, r) 2) = v := by rw [topF_node h2.1, nd]
     refine ⟨h, hval.2, by omega, fun _ => tp, fun d hd => ?_⟩
     rw [tab, partF_low tp, partF_high tp, nd]
theorem Ord.nil {n : Int} (h : n ≤ 40) : Ord [] n := ⟨h, fun i x hx => by simp at hx, by simp, by simp, by simp, by simp⟩
theorem table_ord {n : Int} : ∀ (d : Nat) (N : List Nd) (v : Int) (t : List Bool), Ord N n → v + d = n → 0 ≤ v →
 Ord (tableF d N v t).1 n ∧ N <+: (tableF d N v t).1 ∧ VNum (tableF d N v t).1 (tableF d N v t).2 ∧ v ≤ topF (tableF d N v t).1 (tableF d N v t).2 ∧
 (t.length = 2 ^ d → tab (tableF d N v t).1 d v (tableF d N v t).2 = t) := by
 intro d
 induction d with
 | zero =>
  intro N v t hN hv h0
  have h40 := hN.n40
  simp only [tableF]
  refine ⟨hN, List.prefix_refl _, ?_, ?_, fun hl => ?_⟩
  · split <;> exact ⟨by omega, by omega⟩
  · split <;> rw [topF_const (by omega)] <;> omega
  · match t, hl with
    | [b], _ => cases b <;> simp [tab]
 | succ d ih =>
  intro N v t hN hv h0
  obtain ⟨a1, a2, a3, a4, a5⟩ := ih N (v + 1) (t.take (t.length / 2)) hN (by omega) (by omega)
  obtain ⟨b1, b2, b3, b4, b5⟩ := ih (tableF d N (v + 1) (t.take (t.length / 2))).1 (v + 1) (t.drop (t.length / 2)) a1 (by omega) (by omega)
  obtain ⟨c1, c2, c3, _, c5⟩ := num_ord b1 (v := v) ⟨h0, by omega⟩ (a3.ext b2) b3 (by rw [topF_ext b2 a3]; omega) (by omega)
  rw [tableF]
  refine ⟨c1, a2.trans (b2.trans (numF_prefix _ _)), c2, c3, fun hl => ?_⟩
  have hh : t.length / 2 = 2 ^ d := by rw [hl]; omega
  rw [c5 d (by omega), tab_ext a1 b2 d _ _ (by omega) a3 (by omega), a5 (by simp; omega), b5 (by simp; omega), List.take_append_drop]
theorem half_append {α : Type} (a b : List α) (h : a.length = b.length) : (a ++ b).take ((a ++ b).length / 2) = a ∧ (a ++ b).drop ((a ++ b).length / 2) = b := by
 have e : (a ++ b).length / 2 = a.length := by simp; omega
 rw [e]; simp
theorem table_again {n : Int} {N : List Nd} (hN : Ord N n) : ∀ (d : Nat) (v k : Int), v + d = n → 0 ≤ v → VNum N k → v ≤ topF N k → tableF d N v (tab N d v k) = (N, k) := by
 intro d
 induction d with
 | zero =>
  intro v k hv h0 hk ht
  rcases hN.const hk (by omega) with rfl | rfl <;> simp [tableF, tab]
 | succ d ih =>
  intro v k hv h0 hk ht
  have p0 := hN.part false hk ht (by omega)
  have p1 := hN.part true hk ht (by omega)
  obtain ⟨e1, e2⟩ := half_append (tab N d (v + 1) (partF N k v false)) (tab N d (v + 1) (partF N k v true)) (by simp [tab_length])
  rw [tableF, tab, e1, e2, ih _ _ (by omega) (by omega) p0.1 p0.2]
  simp only
  rw [ih _ _ (by omega) (by omega) p1.1 p1.2]
  simp only
  by_cases hv' : topF N k = v
  · have h2 : 2 ≤ k := by
      rcases Int.lt_or_le k 2 with h' | h'
      · rw [topF_const h'] at hv'; have := hN.n40; omega
      · exact h'
    have hne := (hN.low h2 hk).2.2.2.2
    rw [partF_low hv', partF_high hv']
    have en : (v, (nodeF N k).2.1, (nodeF N k).2.2) = nodeF N k := by rw [← hv', topF_node h2]
    unfold numF
    rw [en, find_node hN h2 hk, if_neg hne, if_neg (by omega)]
  · rw [partF_skip (by omega), partF_skip (by omega)]
    simp [numF]
structure Coh (N : List Nd) (n : Int) (s : Vs) : Prop where
 ord : Ord s.1 n
 m0 : mget s.2 0 = some 0
 m1 : mget s.2 1 = some 1
 img : ∀ k j, mget s.2 k = some j → VNum N k ∧ VNum s.1 j ∧ topF s.1 j = topF N k ∧ ∀ (d : Nat) (v : Int), v + d = n → 0 ≤ v → v ≤ topF N k → tab s.1 d v j = tab N d v k
 onto : ∀ j, 2 ≤ j → VNum s.1 j → ∃ k, mget s.2 k = some j
theorem tab_zero (N : List Nd) (d : Nat) : ∀ v, v + (d : Int) ≤ 40 → tab N d v 0 = List.replicate (2 ^ d) false := by
 induction d with
 | zero => intro v _; rfl
 | succ d ih =>
  intro v h
  rw [tab_skip (by rw [topF_const (by omega)]; omega), ih _ (by omega), List.replicate_append_replicate]
  congr 1; omega
theorem tab_one (N : List Nd) (d : Nat) : ∀ v, v + (d : Int) ≤ 40 → tab N d v 1 = List.replicate (2 ^ d) true := by
 induction d with
 | zero => intro v _; rfl
 | succ d ih =>
  intro v h
  rw [tab_skip (by rw [topF_const (by omega)]; omega), ih _ (by omega), List.replicate_append_replicate]
  congr 1; omega
theorem tab_down {N N' : List Nd} {j k : Int} (ht : topF N' j = topF N k) (d0 : Nat) (v0 : Int) (h0 : v0 ≤ topF N k) (he : tab N' d0 v0 j = tab N d0 v0 k) :
 ∀ (i : Nat), tab N' (d0 + i) (v0 - i) j = tab N (d0 + i) (v0 - i) k := by
 intro i
 induction i with
 | zero => simpa using he
 | succ i ih =>
  have e : v0 - (i + 1 : Nat) + 1 = v0 - i := by omega
  rw [← Nat.add_assoc, tab_skip (by omega), tab_skip (by omega), e, ih]
theorem coh_start {N : List Nd} {n : Int} (h : n ≤ 40) : Coh N n ([], [(0, 0), (1, 1)]) := by
 refine ⟨Ord.nil h, rfl, rfl, fun k j hk => ?_, fun j h2 hj => ?_⟩
 · simp only [mget] at hk
   split at hk
   · rename_i e; subst e; cases hk
     exact ⟨⟨by omega, by omega⟩, ⟨by omega, by simp⟩, by rw [topF_const (by omega), topF_const (by omega)], fun d v hv _ _ => by rw [tab_zero _ _ _ (by omega), tab_zero _ _ _ (by omega)]⟩
   · split at hk
     · rename_i e; subst e; cases hk
       exact ⟨⟨by omega, by omega⟩, ⟨by omega, by simp⟩, by rw [topF_const (by omega), topF_const (by omega)], fun d v hv _ _ => by rw [tab_one _ _ _ (by omega), tab_one _ _ _ (by omega)]⟩
     · cases hk
 · have := hj.2; simp at this; omega
theorem visit_table {N : List Nd} {n : Int} (hN : Ord N n) : ∀ (d : Nat) (v k : Int) (s : Vs) (fuel : Nat), Coh N n s → VNum N k → v ≤ topF N k → v + d = n → 0 ≤ v → d < fuel →
 ∃ s' j, visitF N fuel s k = some (s', j) ∧ tableF d s.1 v (tab N d v k) = (s'.1, j) ∧ Coh N n s' ∧ mget s'.2 k = some j ∧ s.1 <+: s'.1 ∧ (∀ i j, mget s.2 i = some j → mget s'.2 i = some j) ∧
  (∀ i j, mget s'.2 i = some j → mget s.2 i = some j ∨ v ≤ topF N i) := by
 intro d
 induction d with
 | zero =>
  intro v k s fuel hs hk ht hv h0 hf
  obtain ⟨fuel, rfl⟩ : ∃ f, fuel = f + 1 := ⟨fuel - 1, by omega⟩
  rcases hN.const hk (by omega) with rfl | rfl
  · exact ⟨s, 0, by simp [visitF, hs.m0], by simp [tableF, tab], hs, hs.m0, List.prefix_refl _, fun _ _ h => h, fun _ _ h => .inl h⟩
  · exact ⟨s, 1, by simp [visitF, hs.m1], by simp [tableF, tab], hs, hs.m1, List.prefix_refl _, fun _ _ h => h, fun _ _ h => .inl h⟩
 | succ d ih =>
  intro v k s fuel hs hk ht hv h0 hf
  cases hm : mget s.2 k with
  | some j =>
   obtain ⟨fuel, rfl⟩ : ∃ f, fuel = f + 1 := ⟨fuel - 1, by omega⟩
   obtain ⟨_, i2, i3, i4⟩ := hs.img k j hm
   refine ⟨s, j, by simp [visitF, hm], ?_, hs, hm, List.prefix_refl _, fun _ _ h => h, fun _ _ h => .inl h⟩
   rw [← i4 (d + 1) v (by omega) h0 ht]
   exact table_again hs.ord _ _ _ (by omega) h0 i2 (by omega)
  | none =>
   have h2 : 2 ≤ k := by
    rcases Int.lt_or_le k 2 with h' | h'
    · have : k = 0 ∨ k = 1 := by have := hk.1; omega
      rcases this with rfl | rfl
      · rw [hs.m0] at hm; cases hm
      · rw [hs.m1] at hm; cases hm
    · exact h'
   by_cases hv' : topF N k = v
   · obtain ⟨fuel, rfl⟩ : ∃ f, fuel = f + 1 := ⟨fuel - 1, by omega⟩
     obtain ⟨l1, l2, l3, l4, l5⟩ := hN.low h2 hk
     obtain ⟨s1, lo, a1, a2, a3, a4, a5, a6, a7⟩ := ih (v + 1) (nodeF N k).2.1 s fuel hs l1 (by omega) (by omega) (by omega) (by omega)
     obtain ⟨s2, hi, b1, b2, b3, b4, b5, b6, b7⟩ := ih (v + 1) (nodeF N k).2.2 s1 fuel a3 l2 (by omega) (by omega) (by omega) (by omega)
     have lo' := b6 _ _ a4
     obtain ⟨_, p2, p3, p4⟩ := b3.img _ _ lo'
     obtain ⟨_, q2, q3, q4⟩ := b3.img _ _ b4
     have hne : lo ≠ hi := by
      rintro rfl
      refine l5 (tab_inj hN d (v + 1) _ _ (by omega) l1 l2 (by omega) (by omega) ?_)
      rw [← p4 d (v + 1) (by omega) (by omega) (by omega), q4 d (v + 1) (by omega) (by omega) (by omega)]
     -- the node is new
     have hv1 := nodeF_valid hN.val h2 hk.2
     have e1 : (nodeF N k).1 = v := by rw [← topF_node h2]; exact hv'
     have hnew : findFrom s2.1 (v, lo, hi) 2 = 0 := by
      by_cases hc : findFrom s2.1 (v, lo, hi) 2 = 0
      · exact hc
      exfalso
      have hr := (findFrom_range s2.1 (v, lo, hi) 2 (by omega)).resolve_left hc
      have nd := nodeF_find hc
      have vj : VNum s2.1 (findFrom s2.1 (v, lo, hi) 2) := ⟨by omega, by omega⟩
      obtain ⟨k', hk'⟩ := b3.onto _ hr.1 vj
      obtain ⟨r1, r2, r3, r4⟩ := b3.img _ _ hk'
      have tp : topF s2.1 (findFrom s2.1 (v, lo, hi) 2) = v := by rw [topF_node hr.1, nd]
      have hkk : k' = k := by
       refine tab_inj hN (d + 1) v _ _ (by omega) r1 hk (by omega) (by omega) ?_
       rw [← r4 (d + 1) v (by omega) h0 (by omega), tab, tab, partF_low tp, partF_high tp, nd, partF_low hv', partF_high hv']
       rw [p4 d (v + 1) (by omega) (by omega) (by omega), q4 d (v + 1) (by omega) (by omega) (by omega)]
      subst hkk
      rcases b7 _ _ hk' with h' | h'
      · rcases a7 _ _ h' with h'' | h''
        · rw [hm] at h''; cases h''
        · omega
      · omega
     obtain ⟨c1, c2, c3, c4, c5⟩ := num_ord b3.ord (v := v) (l := lo) (r := hi) ⟨h0, by omega⟩ p2 q2 (by omega) (by omega)
     have en : numF s2.1 (v, lo, hi) = (s2.1 ++ [(v, lo, hi)], (s2.1.length : Int) + 2) := by simp [numF, hne, hnew]
     rw [en] at c1 c2 c3 c4 c5
     simp only at c1 c2 c3 c4 c5
     have tp := c4 hne
     have hpre : s2.1 <+: s2.1 ++ [(v, lo, hi)] := List.prefix_append _ _
     refine ⟨(s2.1 ++ [(v, lo, hi)], mput s2.2 k (s2.1.length + 2)), s2.1.length + 2, ?_, ?_, ⟨c1, ?_, ?_, ?_, ?_⟩, ?_, a5.trans (b5.trans hpre), ?_, ?_⟩
     · simp [visitF, hm, a1, b1, e1]
     · obtain ⟨f1, f2⟩ := half_append (tab N d (v + 1) (nodeF N k).2.1) (tab N d (v + 1) (nodeF N k).2.2) (by simp [tab_length])
       rw [tableF, tab, partF_low hv', partF_high hv', f1, f2, a2]
       simp only
       rw [b2]
       simp only
       exact en
     · simp only [mget_put]; rw [if_neg (by omega)]; exact b3.m0
     · simp only [mget_put]; rw [if_neg (by omega)]; exact b3.m1
     · intro k1 j1 h1
       simp only [mget_put] at h1
       split at h1
       · rename_i e; subst e; cases h1
         refine ⟨hk, c2, by simp only; omega, fun d' v' hd' hv0 ht' => ?_⟩
         have base := c5 d (by omega)
         have base' : tab (s2.1 ++ [(v, lo, hi)]) (d + 1) v (s2.1.length + 2) = tab N (d + 1) v k1 := by
          rw [base, tab, partF_low hv', partF_high hv', p4 d (v + 1) (by omega) (by omega) (by omega), q4 d (v + 1) (by omega) (by omega) (by omega)]
         have := tab_down (N := N) (N' := s2.1 ++ [(v, lo, hi)]) (j := s2.1.length + 2) (k := k1) (by omega) (d + 1) v (by omega) base' (v - v').toNat
         rw [show d + 1 + (v - v').toNat = d' by omega, show v - ((v - v').toNat : Int) = v' by omega] at this
         exact this
       · obtain ⟨g1, g2, g3, g4⟩ := b3.img _ _ h1
         refine ⟨g1, g2.ext hpre, by rw [topF_ext hpre g2, g3], fun d' v' hd' hv0 ht' => ?_⟩
         rw [tab_ext b3.ord hpre d' v' _ (by omega) g2 (by omega)]
         exact g4 d' v' hd' hv0 ht'
     · intro j h2j hj
       simp only [mget_put]
       by_cases e : j = s2.1.length + 2
       · exact ⟨k, by simp [e]⟩
       · have hj' : VNum s2.1 j := ⟨hj.1, by have := hj.2; simp at this; omega⟩
         obtain ⟨k1, hk1⟩ := b3.onto j h2j hj'
         refine ⟨k1, ?_⟩
         rw [if_neg]
         · exact hk1
         · rintro rfl
           rcases b7 _ _ hk1 with h' | h'
           · rcases a7 _ _ h' with h'' | h''
             · rw [hm] at h''; cases h''
             · omega
           · omega
     · simp only [mget_put]; simp
     · intro i j hi'
       simp only [mget_put]
       rw [if_neg]
       · exact b6 _ _ (a6 _ _ hi')
       · rintro rfl; rw [hm] at hi'; cases hi'
     · intro i j hi'
       simp only [mget_put] at hi'
       split at hi'
       · rename_i e; subst e; exact .inr (by omega)
       · rcases b7 _ _ hi' with h' | h'
         · exact (a7 _ _ h').imp id (fun h => by omega)
         · exact .inr (by omega)
   · obtain ⟨s1, j, a1, a2, a3, a4, a5, a6, a7⟩ := ih (v + 1) k s fuel hs hk (by omega) (by omega) (by omega) (by omega)
     refine ⟨s1, j, a1, ?_, a3, a4, a5, a6, fun i j h => (a7 i j h).imp id (fun h => by omega)⟩
     obtain ⟨_, i2, i3, i4⟩ := a3.img _ _ a4
     rw [tab_skip (by omega), tableF]
     obtain ⟨e1, e2⟩ := half_append (tab N d (v + 1) k) (tab N d (v + 1) k) rfl
     rw [e1, e2, a2]
     simp only
     rw [← i4 d (v + 1) (by omega) (by omega) (by omega), table_again a3.ord _ _ _ (by omega) (by omega) i2 (by omega)]
     simp [numF]
theorem finish_table {N : List Nd} {n : Nat} {k : Int} (hN : Ord N n) (hk : VNum N k) : ∃ s', visitF N (n + 1) ([], [(0, 0), (1, 1)]) k = some (s', (tableF n [] 0 (tab N n 0 k)).2) ∧ s'.1 = (tableF n [] 0 (tab N n 0 k)).1 := by
 have ht := topF_range hN.val hk
 obtain ⟨s', j, h1, h2, _⟩ := visit_table hN n 0 k ([], [(0, 0), (1, 1)]) (n + 1) (coh_start hN.n40) hk ht.1 (by omega) (by omega) (by omega)
 simp only at h2
 exact ⟨s', by rw [h1, h2], by rw [h2]⟩
theorem addF_end (L : List Nd) (x : Nd) (s : List Nd × List Int) : addF (L ++ [x]) s = ((numF (addF L s).1 (x.1, (addF L s).2[x.2.1.toNat]?.getD 0, (addF L s).2[x.2.2.toNat]?.getD 0)).1, (addF L s).2 ++ [(numF (addF L s).1 (x.1, (addF L s).2[x.2.1.toNat]?.getD 0, (addF L s).2[x.2.2.toNat]?.getD 0)).2]) := by
 induction L generalizing s with
 | nil => rfl
 | cons y L ih => simp only [List.cons_append, addF]; exact ih _
structure Added (L N : List Nd) (n : Int) (k : Nat) (nums : List Int) : Prop where
 len : nums.length = k + 2
 num : ∀ i, i < k + 2 → VNum N (nums[i]?.getD 0) ∧ topF N (nums[i]?.getD 0) = topF L i ∧ ∀ (d : Nat) (v : Int), v + d = n → v ≤ topF L i → tab N d v (nums[i]?.getD 0) = tab L d v i
theorem Added.mono {L N N' : List Nd} {n : Int} {k : Nat} {nums : List Int} (h : Added L N n k nums) (hN : Ord N n) (hp : N <+: N') : Added L N' n k nums :=
 ⟨h.len, fun i hi => by
  obtain ⟨a, b, c⟩ := h.num i hi
  exact ⟨a.ext hp, by rw [topF_ext hp a, b], fun d v hd hv => by rw [tab_ext hN hp d v _ hd a (by omega), c d v hd hv]⟩⟩
theorem add_ord {L N : List Nd} {n : Int} (hL : Ord L n) (hN : Ord N n) : ∀ k, k ≤ L.length →
 Ord (addF (L.take k) (N, [0, 1])).1 n ∧ N <+: (addF (L.take k) (N, [0, 1])).1 ∧ Added L (addF (L.take k) (N, [0, 1])).1 n k (addF (L.take k) (N, [0, 1])).2 := by
 intro k
 have h40 := hN.n40
 induction k with
 | zero =>
  intro _
  refine ⟨hN, List.prefix_refl _, rfl, fun i hi => ?_⟩
  have : i = 0 ∨ i = 1 := by omega
  rcases this with rfl | rfl
  · exact ⟨⟨by simp [addF], by simp [addF]; omega⟩, by simp [addF, topF], fun d v hd _ => by simp only [List.take_zero, addF, List.getElem?_cons_zero, Option.getD_some]; rw [tab_zero _ _ _ (by omega)]; exact (tab_zero _ _ _ (by omega)).symm⟩
  · exact ⟨⟨by simp [addF], by simp [addF]; omega⟩, by simp [addF, topF], fun d v hd _ => by simp only [List.take_zero, addF, List.getElem?_cons_zero, List.getElem?_cons_succ, Option.getD_some]; rw [tab_one _ _ _ (by omega)]; exact (tab_one _ _ _ (by omega)).symm⟩
 | succ k ih =>
  intro hk
  obtain ⟨i1, i2, i3⟩ := ih (by omega)
  rw [List.take_succ_eq_append_getElem (by omega), addF_end]
  generalize addF (L.take k) (N, [0, 1]) = S at *
  obtain ⟨N1, nums⟩ := S
  simp only at *
  obtain ⟨x, hx⟩ : ∃ x, x = L[k] := ⟨_, rfl⟩
  rw [← hx]
  have hxm : x ∈ L := hx ▸ List.getElem_mem _
  have hval := hL.val k x (by rw [hx]; exact List.getElem?_eq_getElem _)
  have hvar := hL.var x hxm
  have hred := hL.red x hxm
  have hord := hL.ord x hxm
  have nd : nodeF L ((k : Int) + 2) = x := by
   have e : ((k : Int) + 2 - 2).toNat = k := by omega
   unfold nodeF
   rw [e, List.getD_eq_getElem?_getD, List.getElem?_eq_getElem (by omega), hx]; rfl
  have vl : VNum L x.2.1 := ⟨hval.2.2.1, by omega⟩
  have vh : VNum L x.2.2 := ⟨hval.2.2.2.2.1, by omega⟩
  obtain ⟨a1, a2, a3⟩ := i3.num x.2.1.toNat (by omega)
  obtain ⟨b1, b2, b3⟩ := i3.num x.2.2.toNat (by omega)
  rw [show ((x.2.1.toNat : Nat) : Int) = x.2.1 by omega] at a2 a3
  rw [show ((x.2.2.toNat : Nat) : Int) = x.2.2 by omega] at b2 b3
  generalize hlo : nums[x.2.1.toNat]?.getD 0 = lo at *
  generalize hhi : nums[x.2.2.toNat]?.getD 0 = hi at *
  obtain ⟨d0, hd0⟩ : ∃ d0 : Nat, x.1 + 1 + d0 = n := ⟨(n - x.1 - 1).toNat, by omega⟩
  have hne : lo ≠ hi := by
   rintro rfl
   refine hred (tab_inj hL d0 (x.1 + 1) _ _ hd0 vl vh (by omega) (by omega) ?_)
   rw [← a3 d0 _ hd0 (by omega), b3 d0 _ hd0 (by omega)]
  obtain ⟨c1, c2, c3, c4, c5⟩ := num_ord i1 (v := x.1) (l := lo) (r := hi) ⟨hval.1, hvar⟩ a1 b1 (by omega) (by omega)
  have hp := numF_prefix N1 (x.1, lo, hi)
  have i3' := i3.mono i1 hp
  refine ⟨c1, i2.trans hp, by simp [i3.len], fun i hi' => ?_⟩
  by_cases hik : i < k + 2
  · rw [List.getElem?_append_left (by have := i3.len; omega)]
    exact i3'.num i hik
  · have : i = k + 2 := by omega
    subst this
    have hg : (nums ++ [(numF N1 (x.1, lo, hi)).2])[k + 2]?.getD 0 = (numF N1 (x.1, lo, hi)).2 := by
     rw [List.getElem?_append_right (by have := i3.len; omega)]
     have : k + 2 - nums.length = 0 := by have := i3.len; omega
     simp [this]
    rw [hg]
    have tx : topF L (((k + 2 : Nat) : Int)) = x.1 := by
     rw [topF_node (by omega)]; rw [show (((k + 2 : Nat) : Int)) = (k : Int) + 2 by omega, nd]
    refine ⟨c2, by rw [tx]; exact c4 hne, fun d v hd hv => ?_⟩
    have base := c5 d0 (by omega)
    have base' : tab (numF N1 (x.1, lo, hi)).1 (d0 + 1) x.1 (numF N1 (x.1, lo, hi)).2 = tab L (d0 + 1) x.1 ((k : Int) + 2) := by
     have tx' : topF L ((k : Int) + 2) = x.1 := by rw [← tx]; congr 1
     rw [base, tab, partF_low tx', partF_high tx', nd, a3 d0 _ (by omega) (by omega), b3 d0 _ (by omega) (by omega)]
    rw [tx] at hv
    have := tab_down (N := L) (N' := (numF N1 (x.1, lo, hi)).1) (j := (numF N1 (x.1, lo, hi)).2) (k := (k : Int) + 2) (by rw [c4 hne, ← tx]; congr 1) (d0 + 1) x.1 (by rw [← tx]; apply Int.le_of_eq; congr 1) base' (x.1 - v).toNat
    rw [show d0 + 1 + (x.1 - v).toNat = d by omega, show x.1 - ((x.1 - v).toNat : Int) = v by omega] at this
    exact this
theorem add_root {L N : List Nd} {n : Int} (hL : Ord L n) (hN : Ord N n) {r : Int} (hr : VNum L r) :
 Ord (addF L (N, [0, 1])).1 n ∧ N <+: (addF L (N, [0, 1])).1 ∧ VNum (addF L (N, [0, 1])).1 ((addF L (N, [0, 1])).2.getD r.toNat 0) ∧ topF (addF L (N, [0, 1])).1 ((addF L (N, [0, 1])).2.getD r.toNat 0) = topF L r ∧
 ∀ (d : Nat) (v : Int), v + d = n → v ≤ topF L r → tab (addF L (N, [0, 1])).1 d v ((addF L (N, [0, 1])).2.getD r.toNat 0) = tab L d v r := by
 obtain ⟨a, b, c⟩ := add_ord hL hN L.length (Nat.le_refl _)
 rw [List.take_length] at a b c
 have := c.num r.toNat (by have := hr.1; have := hr.2; omega)
 rw [show ((r.toNat : Nat) : Int) = r by have := hr.1; omega] at this
 simp only [List.getD_eq_getElem?_getD]
 exact ⟨a, b, this.1, this.2.1, this.2.2⟩
def ite3 : List Bool → List Bool → List Bool → List Bool
 | a :: f, b :: g, c :: h => (if a then b else c) :: ite3 f g h
 | _, _, _ => []
theorem ite3_append : ∀ (f f' g g' h h' : List Bool), f.length = g.length → g.length = h.length → ite3 (f ++ f') (g ++ g') (h ++ h') = ite3 f g h ++ ite3 f' g' h'
 | [], _, [], _, [], _, _, _ => rfl
 | a :: f, f', b :: g, g', c :: h, h', e1, e2 => by simp only [List.cons_append, ite3]; rw [ite3_append f f' g g' h h' (by simpa using e1) (by simpa using e2)]
theorem ite3_true : ∀ (n : Nat) (g h : List Bool), g.length = n → h.length = n → ite3 (List.replicate n true) g h = g
 | 0, [], [], _, _ => rfl
 | n + 1, b :: g, c :: h, e1, e2 => by simp only [List.replicate_succ, ite3, if_true]; rw [ite3_true n g h (by simpa using e1) (by simpa using e2)]
theorem ite3_false : ∀ (n : Nat) (g h : List Bool), g.length = n → h.length = n → ite3 (List.replicate n false) g h = h
 | 0, [], [], _, _ => rfl
 | n + 1, b :: g, c :: h, e1, e2 => by simp only [List.replicate_succ, ite3]; rw [ite3_false n g h (by simpa using e1) (by simpa using e2)]; rfl
theorem ite3_same : ∀ (f g : List Bool), f.length = g.length → ite3 f g g = g
 | [], [], _ => rfl
 | a :: f, b :: g, e => by simp only [ite3, ite_self]; rw [ite3_same f g (by simpa using e)]
def Memo (N : List Nd) (n : Int) (M : List (Nd × Int)) : Prop :=
 ∀ f g h k, mget M (f, g, h) = some k → VNum N f ∧ VNum N g ∧ VNum N h ∧ VNum N k ∧
  ∀ (d : Nat) (v : Int), v + d = n → 0 ≤ v → v = min3 (topF N f) (topF N g) (topF N h) → v ≤ topF N k ∧ tab N d v k = ite3 (tab N d v f) (tab N d v g) (tab N d v h)
theorem min3_le (a b c : Int) : min3 a b c ≤ a ∧ min3 a b c ≤ b ∧ min3 a b c ≤ c := by
 unfold min3; omega
theorem min3_eq {a b c v : Int} (h1 : v ≤ a) (h2 : v ≤ b) (h3 : v ≤ c) (h : v = a ∨ v = b ∨ v = c) : min3 a b c = v := by
 unfold min3; omega
theorem Memo.ext {N N' : List Nd} {n : Int} {M : List (Nd × Int)} (h : Memo N n M) (hN : Ord N n) (hp : N <+: N') : Memo N' n M := by
 intro f g q k hm
 obtain ⟨a, b, c, e, x⟩ := h f g q k hm
 refine ⟨a.ext hp, b.ext hp, c.ext hp, e.ext hp, fun d v hd h0 hv => ?_⟩
 rw [topF_ext hp a, topF_ext hp b, topF_ext hp c] at hv
 obtain ⟨x1, x2⟩ := x d v hd h0 hv
 have hm := min3_le (topF N f) (topF N g) (topF N q)
 rw [topF_ext hp e, tab_ext hN hp d v _ hd e x1, tab_ext hN hp d v _ hd a (by omega), tab_ext hN hp d v _ hd b (by omega), tab_ext hN hp d v _ hd c (by omega)]
 exact ⟨x1, x2⟩
theorem iteF_eq' (m : Nat) (s : Is) (f g h : Int) (h1 : ¬ (f = 1 ∨ g = h)) (h0 : ¬ f = 0) (hm : mget s.2 (f, g, h) = none) :
 iteF (m + 1) s f g h =
  match iteF m s (partF s.1 f (min3 (topF s.1 f) (topF s.1 g) (topF s.1 h)) false) (partF s.1 g (min3 (topF s.1 f) (topF s.1 g) (topF s.1 h)) false) (partF s.1 h (min3 (topF s.1 f) (topF s.1 g) (topF s.1 h)) false) with
  | none => none
  | some (s1, low) =>
   match iteF m s1 (partF s1.1 f (min3 (topF s.1 f) (topF s.1 g) (topF s.1 h)) true) (partF s1.1 g (min3 (topF s.1 f) (topF s.1 g) (topF s.1 h)) true) (partF s1.1 h (min3 (topF s.1 f) (topF s.1 g) (topF s.1 h)) true) with
   | none => none
   | some (s2, high) => some (((numF s2.1 (min3 (topF s.1 f) (topF s.1 g) (topF s.1 h), low, high)).1, mput s2.2 (f, g, h) (numF s2.1 (min3 (topF s.1 f) (topF s.1 g) (topF s.1 h), low, high)).2), (numF s2.1 (min3 (topF s.1 f) (topF s.1 g) (topF s.1 h), low, high)).2) := by
 rw [iteF, if_neg h1, if_neg h0]
 simp only [hm] <;> rfl
theorem ite_right {n : Int} : ∀ (d : Nat) (v f g h : Int) (s : Is) (fuel : Nat), Ord s.1 n → Memo s.1 n s.2 → VNum s.1 f → VNum s.1 g → VNum s.1 h →
 v ≤ topF s.1 f → v ≤ topF s.1 g → v ≤ topF s.1 h → v + d = n → 0 ≤ v → d < fuel →
 ∃ s' k, iteF fuel s f g h = some (s', k) ∧ Ord s'.1 n ∧ Memo s'.1 n s'.2 ∧ s.1 <+: s'.1 ∧ VNum s'.1 k ∧ v ≤ topF s'.1 k ∧
  tab s'.1 d v k = ite3 (tab s.1 d v f) (tab s.1 d v g) (tab s.1 d v h) ∧ s'.1.length + 1 ≤ s.1.length + 2 ^ d := by
 intro d
 induction d with
 | zero =>
  intro v f g h s fuel hN hM hf hg hh tf tg th hv h0 hfu
  obtain ⟨fuel, rfl⟩ : ∃ q, fuel = q + 1 := ⟨fuel - 1, by omega⟩
  rcases hN.const hf (by omega) with rfl | rfl
  · by_cases e : g = h
    · subst e
      exact ⟨s, g, by simp [iteF], hN, hM, List.prefix_refl _, hg, tg, by simp [tab, ite3], by simp⟩
    · exact ⟨s, h, by simp [iteF, e], hN, hM, List.prefix_refl _, hh, th, by simp [tab, ite3], by simp⟩
  · exact ⟨s, g, by simp [iteF], hN, hM, List.prefix_refl _, hg, tg, by simp [tab, ite3], by simp⟩
 | succ d ih =>
  intro v f g h s fuel hN hM hf hg hh tf tg th hv h0 hfu
  have h40 := hN.n40
  by_cases hskip : v < topF s.1 f ∧ v < topF s.1 g ∧ v < topF s.1 h
  · obtain ⟨s', k, a1, a2, a3, a4, a5, a6, a7, a8⟩ := ih (v + 1) f g h s fuel hN hM hf hg hh (by omega) (by omega) (by omega) (by omega) (by omega) (by omega)
    refine ⟨s', k, a1, a2, a3, a4, a5, by omega, ?_, by have := Nat.two_pow_pos d; omega⟩
    rw [tab_skip (by omega), tab_skip hskip.1, tab_skip hskip.2.1, tab_skip hskip.2.2, ite3_append _ _ _ _ _ _ (by simp [tab_length]) (by simp [tab_length]), a7]
  · have hmin : min3 (topF s.1 f) (topF s.1 g) (topF s.1 h) = v := min3_eq tf tg th (by omega)
    obtain ⟨fuel, rfl⟩ : ∃ q, fuel = q + 1 := ⟨fuel - 1, by omega⟩
    have h2d := Nat.two_pow_pos d
    by_cases c1 : f = 1 ∨ g = h
    · refine ⟨s, g, by simp [iteF, c1], hN, hM, List.prefix_refl _, hg, tg, ?_, by omega⟩
      rcases c1 with rfl | rfl
      · rw [tab_one _ _ _ (by omega), ite3_true _ _ _ (tab_length _ _ _ _) (tab_length _ _ _ _)]
      · rw [ite3_same _ _ (by simp [tab_length])]
    · by_cases c2 : f = 0
      · subst c2
        refine ⟨s, h, by rw [iteF, if_neg c1, if_pos rfl], hN, hM, List.prefix_refl _, hh, th, ?_, by omega⟩
        rw [tab_zero _ _ _ (by omega), ite3_false _ _ _ (tab_length _ _ _ _) (tab_length _ _ _ _)]
      · cases hm : mget s.2 (f, g, h) with
        | some k =>
         obtain ⟨_, _, _, m4, m5⟩ := hM f g h k hm
         obtain ⟨x1, x2⟩ := m5 (d + 1) v (by omega) h0 hmin.symm
         exact ⟨s, k, by simp [iteF, c1, c2, hm], hN, hM, List.prefix_refl _, m4, x1, x2, by omega⟩
        | none =>
         have pf0 := hN.part false hf tf (by omega)
         have pg0 := hN.part false hg tg (by omega)
         have ph0 := hN.part false hh th (by omega)
         obtain ⟨s1, lo, a1, a2, a3, a4, a5, a6, a7, a8⟩ := ih (v + 1) _ _ _ s fuel hN hM pf0.1 pg0.1 ph0.1 pf0.2 pg0.2 ph0.2 (by omega) (by omega) (by omega)
         have pf1 := hN.part true hf tf (by omega)
         have pg1 := hN.part true hg tg (by omega)
         have ph1 := hN.part true hh th (by omega)
         obtain ⟨s2, hi, b1, b2, b3, b4, b5, b6, b7, b8⟩ := ih (v + 1) (partF s.1 f v true) (partF s.1 g v true) (partF s.1 h v true) s1 fuel a2 a3 (pf1.1.ext a4) (pg1.1.ext a4) (ph1.1.ext a4)
          (by rw [topF_ext a4 pf1.1]; exact pf1.2) (by rw [topF_ext a4 pg1.1]; exact pg1.2) (by rw [topF_ext a4 ph1.1]; exact ph1.2) (by omega) (by omega) (by omega)
         obtain ⟨n1, n2, n3, n4, n5⟩ := num_ord b2 (v := v) (l := lo) (r := hi) ⟨h0, by omega⟩ (a5.ext b4) b5 (by rw [topF_ext b4 a5]; omega) (by omega)
         have hp := numF_prefix s2.1 (v, lo, hi)
         have hall := a4.trans (b4.trans hp)
         have ev := iteF_eq' fuel s f g h c1 c2 hm
         have hlen := (numF_grows s2.1 (v, lo, hi)).2
         have htab : tab (numF s2.1 (v, lo, hi)).1 (d + 1) v (numF s2.1 (v, lo, hi)).2 = ite3 (tab s.1 (d + 1) v f) (tab s.1 (d + 1) v g) (tab s.1 (d + 1) v h) := by
          rw [n5 d (by omega), tab_ext a2 b4 d _ _ (by omega) a5 a6, a7, b7]
          rw [tab_ext hN a4 d _ _ (by omega) pf1.1 pf1.2, tab_ext hN a4 d _ _ (by omega) pg1.1 pg1.2, tab_ext hN a4 d _ _ (by omega) ph1.1 ph1.2]
          rw [tab, tab, tab, ite3_append _ _ _ _ _ _ (by simp [tab_length]) (by simp [tab_length])]
         refine ⟨((numF s2.1 (v, lo, hi)).1, mput s2.2 (f, g, h) (numF s2.1 (v, lo, hi)).2), (numF s2.1 (v, lo, hi)).2, ?_, n1, ?_, hall, n2, n3, htab, by simp only; omega⟩
         · rw [ev, hmin, a1]
           simp only
           rw [partF_ext a4 (by omega) hf, partF_ext a4 (by omega) hg, partF_ext a4 (by omega) hh, b1]
         · intro f' g' h' k' hk'
           simp only [mget_put] at hk'
           split at hk'
           · rename_i e
             simp only [Prod.mk.injEq] at e
             obtain ⟨rfl, rfl, rfl⟩ := e
             cases hk'
             refine ⟨hf.ext hall, hg.ext hall, hh.ext hall, n2, fun d' v' hd' h0' hv' => ?_⟩
             rw [topF_ext hall hf, topF_ext hall hg, topF_ext hall hh, hmin] at hv'
             subst hv'
             have : d' = d + 1 := by omega
             subst this
             refine ⟨n3, ?_⟩
             simp only
             rw [htab, tab_ext hN hall _ _ _ (by omega) hf tf, tab_ext hN hall _ _ _ (by omega) hg tg, tab_ext hN hall _ _ _ (by omega) hh th]
           · exact (b3.ext b2 hp) f' g' h' k' hk'
theorem Memo.nil (N : List Nd) (n : Int) : Memo N n [] := fun _ _ _ _ h => by simp [mget] at h
def evF (N : List Nd) : Nat → Int → (Nat → Bool) → Bool
 | 0, k, _ => decide (k = 1)
 | f + 1, k, ρ => if k < 2 then decide (k = 1) else if ρ (nodeF N k).1.toNat then evF N f (nodeF N k).2.2 ρ else evF N f (nodeF N k).2.1 ρ
theorem evF_fuel {N : List Nd} (h : VNd N) : ∀ (f g : Nat) (k : Int) (ρ : Nat → Bool), VNum N k → k.toNat ≤ f → k.toNat ≤ g → evF N f k ρ = evF N g k ρ := by
 intro f
 induction f with
 | zero =>
  intro g k ρ hk hf hg
  cases g with
  | zero => rfl
  | succ g => simp only [evF]; rw [if_pos (by omega)]
 | succ f ih =>
  intro g k ρ hk hf hg
  cases g with
  | zero => simp only [evF]; rw [if_pos (by omega)]
  | succ g =>
   simp only [evF]
   by_cases h2 : k < 2
   · rw [if_pos h2, if_pos h2]
   · rw [if_neg h2, if_neg h2]
     have hv := nodeF_valid h (by omega) hk.2
     rw [ih g _ _ hv.2.2.2.1 (by omega) (by omega), ih g _ _ hv.2.2.1 (by omega) (by omega)]
def ev (N : List Nd) (k : Int) (ρ : Nat → Bool) : Bool := evF N k.toNat k ρ
theorem ev_const {N : List Nd} {k : Int} (h : k < 2) (ρ : Nat → Bool) : ev N k ρ = decide (k = 1) := by
 unfold ev
 cases k.toNat with
 | zero => rfl
 | succ f => simp only [evF]; rw [if_pos h]
theorem ev_node {N : List Nd} (h : VNd N) {k : Int} (hk : VNum N k) (h2 : 2 ≤ k) (ρ : Nat → Bool) :
 ev N k ρ = if ρ (nodeF N k).1.toNat then ev N (nodeF N k).2.2 ρ else ev N (nodeF N k).2.1 ρ := by
 have hv := nodeF_valid h h2 hk.2
 obtain ⟨f, hf⟩ : ∃ f, k.toNat = f + 1 := ⟨k.toNat - 1, by omega⟩
 unfold ev
 rw [hf, evF, if_neg (by omega), evF_fuel h f _ _ _ hv.2.2.2.1 (by omega) (Nat.le_refl _), evF_fuel h f _ _ _ hv.2.2.1 (by omega) (Nat.le_refl _)]
theorem ev_part {N : List Nd} {n : Int} (h : Ord N n) {k : Int} (hk : VNum N k) {v : Nat} (hv : (v : Int) < n) (ρ : Nat → Bool) : ev N k ρ = ev N (partF N k v (ρ v)) ρ := by
 by_cases ht : topF N k = v
 · have h2 : 2 ≤ k := by
     rcases Int.lt_or_le k 2 with h' | h'
     · rw [topF_const h'] at ht; have := h.n40; omega
     · exact h'
   have e : (nodeF N k).1.toNat = v := by rw [← topF_node h2, ht]; omega
   rw [ev_node h.val hk h2, e]
   cases hρ : ρ v
   · rw [partF_low ht]; rfl
   · rw [partF_high ht]; rfl
 · unfold partF; rw [if_pos ht]
def placeF (ρ : Nat → Bool) : Nat → Nat → Nat
 | 0, _ => 0
 | d + 1, v => (if ρ v then 2 ^ d else 0) + placeF ρ d (v + 1)
theorem placeF_lt (ρ : Nat → Bool) : ∀ d v, placeF ρ d v < 2 ^ d := by
 intro d
 induction d with
 | zero => intro v; simp [placeF]
 | succ d ih => intro v; have := ih (v + 1); simp only [placeF]; split <;> omega
theorem tab_ev {N : List Nd} {n : Int} (h : Ord N n) (ρ : Nat → Bool) : ∀ (d v : Nat) (k : Int), (v : Int) + d = n → VNum N k → (v : Int) ≤ topF N k → (tab N d v k).getD (placeF ρ d v) false = ev N k ρ := by
 intro d
 induction d with
 | zero =>
  intro v k hv hk ht
  have := h.const hk (by omega)
  rw [ev_const (by omega)]
  simp [tab, placeF]
 | succ d ih =>
  intro v k hv hk ht
  have p := fun b => h.part b hk ht (by omega)
  have hlt := placeF_lt ρ d (v + 1)
  rw [ev_part h hk (v := v) (by omega), tab, placeF]
  have e := ih (v + 1) (partF N k v (ρ v)) (by omega) (p _).1 (by have := (p (ρ v)).2; omega)
  have l0 := tab_length N d ((v : Int) + 1) (partF N k v false)
  have c : ((v + 1 : Nat) : Int) = (v : Int) + 1 := by omega
  rw [c] at e
  rw [← e]
  cases hρ : ρ v
  · simp only [Bool.false_eq_true, if_false, Nat.zero_add]
    simp only [List.getD_eq_getElem?_getD]
    rw [List.getElem?_append_left (by omega)]
  · simp only [if_true]
    simp only [List.getD_eq_getElem?_getD]
    rw [List.getElem?_append_right (by omega)]
    congr 2
    omega
theorem placeF_congr {ρ σ : Nat → Bool} : ∀ {d v : Nat}, (∀ u, u < v + d → ρ u = σ u) → placeF ρ d v = placeF σ d v := by
 intro d
 induction d with
 | zero => intro v _; rfl
 | succ d ih =>
  intro v h
  rw [placeF, placeF, h v (by omega), ih (fun u hu => h u (by omega))]
def bitF (n i v : Nat) : Bool := decide (i / 2 ^ (n - 1 - v) % 2 = 1)
theorem bit_place : ∀ (d v n i : Nat), v + d = n → placeF (bitF n i) d v = i % 2 ^ d := by
 intro d
 induction d with
 | zero => intro v n i _; simp [placeF, Nat.mod_one]
 | succ d ih =>
  intro v n i hv
  rw [placeF, ih (v + 1) n i (by omega)]
  have e : n - 1 - v = d := by omega
  have key : i % 2 ^ (d + 1) = i % 2 ^ d + 2 ^ d * (i / 2 ^ d % 2) := by
   rw [Nat.pow_succ, Nat.mod_mul]
  rw [key]
  unfold bitF
  rw [e]
  have := Nat.mod_two_eq_zero_or_one (i / 2 ^ d)
  rcases this with h | h <;> simp [h] <;> omega
theorem tab_bit {N : List Nd} {n : Nat} (h : Ord N n) {k : Int} (hk : VNum N k) {i : Nat} (hi : i < 2 ^ n) : (tab N n 0 k).getD i false = ev N k (bitF n i) := by
 have := tab_ev h (bitF n i) n 0 k (by omega) hk (topF_range h.val hk).1
 rw [bit_place n 0 n i (by omega), Nat.mod_eq_of_lt hi] at this
 exact this
theorem table_const {n : Nat} (h : n ≤ 40) (b : Bool) : tableF n [] 0 (List.replicate (2 ^ n) b) = ([], if b then 1 else 0) := by
 have hN : Ord [] (n : Int) := Ord.nil (by omega)
 cases b
 · have := table_again hN n 0 0 (by omega) (by omega) ⟨by omega, by simp⟩ (by simp [topF])
   rw [tab_zero _ _ _ (by omega)] at this
   exact this
 · have := table_again hN n 0 1 (by omega) (by omega) ⟨by omega, by simp⟩ (by simp [topF])
   rw [tab_one _ _ _ (by omega)] at this
   exact this
def varT (n i : Nat) : List Bool := (List.range (2 ^ n)).map fun k => bitF n k i
theorem varT_length (n i : Nat) : (varT n i).length = 2 ^ n := by simp [varT]
theorem ord_var {n i : Nat} (h : n ≤ 40) (hi : i < n) : Ord [((i : Int), 0, 1)] (n : Int) := by
 refine ⟨by omega, fun j x hx => ?_, fun x hx => ?_, fun x hx => ?_, fun x hx => ?_, by simp⟩
 · cases j with
   | zero => simp at hx; subst hx; simp; omega
   | succ j => simp at hx
 · simp at hx; subst hx; simp; omega
 · simp at hx; subst hx; simp
 · simp at hx; subst hx; simp [topF]; omega
theorem table_var {n i : Nat} (h : n ≤ 40) (hi : i < n) : tableF n [] 0 (varT n i) = ([((i : Int), 0, 1)], 2) := by
 have hN := ord_var h hi
 have hk : VNum [((i : Int), 0, 1)] 2 := ⟨by omega, by simp⟩
 have ht : tab [((i : Int), 0, 1)] n 0 2 = varT n i := by
  refine List.ext_getElem (by rw [tab_length, varT_length]) (fun j h1 h2 => ?_)
  have hj : j < 2 ^ n := by rw [tab_length] at h1; exact h1
  have e := tab_bit hN hk hj
  rw [List.getD_eq_getElem?_getD, List.getElem?_eq_getElem h1] at e
  simp only [Option.getD_some] at e
  rw [e, ev_node hN.val hk (by omega)]
  have e2 : nodeF [((i : Int), 0, 1)] 2 = ((i : Int), 0, 1) := rfl
  rw [e2]
  simp only [Int.toNat_natCast]
  rw [ev_const (by omega), ev_const (by omega)]
  simp only [varT, List.getElem_map, List.getElem_range]
  cases bitF n j i <;> rfl
 obtain ⟨s', h1, h2⟩ := finish_table hN hk
 rw [ht] at h1 h2
 -- finishing one node gives it back
 have hv : visitF [((i : Int), 0, 1)] (n + 1) ([], [(0, 0), (1, 1)]) 2 = some (([((i : Int), 0, 1)], [(0, 0), (1, 1), (2, 2)]), 2) := by
  obtain ⟨m, rfl⟩ : ∃ m, n = m + 1 := ⟨n - 1, by omega⟩
  simp [visitF, mget, nodeF, mput]
 rw [hv] at h1
 simp only [Option.some.injEq, Prod.mk.injEq] at h1
 obtain ⟨rfl, h3⟩ := h1
 exact Prod.ext h2.symm h3.symm
def lev (L : List Nd) (n : Nat) (k : Int) : Int := if k < 2 then n else (nodeF L k).1
def cnt (L : List Nd) (n : Nat) (k : Int) : Nat := (tab L (n - (lev L n k).toNat) (lev L n k) k).count true
theorem lev_range {L : List Nd} {n : Nat} (h : Ord L n) {k : Int} (hk : VNum L k) : 0 ≤ lev L n k ∧ lev L n k ≤ n ∧ lev L n k ≤ topF L k := by
 unfold lev
 have := h.n40
 split
 · rename_i h2; rw [topF_const h2]; omega
 · have h1 := (topF_range h.val hk).1
   have h2 := h.top_lt (by omega) hk
   rw [topF_node (by omega)] at h1 h2 ⊢
   omega
theorem count_down {L : List Nd} {k : Int} (d0 : Nat) (v0 : Int) (h0 : v0 ≤ topF L k) : ∀ i : Nat, (tab L (d0 + i) (v0 - i) k).count true = 2 ^ i * (tab L d0 v0 k).count true := by
 intro i
 induction i with
 | zero => simp
 | succ i ih =>
  have e : v0 - (i + 1 : Nat) + 1 = v0 - i := by omega
  rw [← Nat.add_assoc, tab_skip (by omega), e, List.count_append, ih, Nat.pow_succ, ← Nat.add_mul]
  congr 1
  omega
theorem cnt_at {L : List Nd} {n : Nat} (h : Ord L n) {k : Int} (hk : VNum L k) (v : Int) (h0 : 0 ≤ v) (hv : v ≤ lev L n k) : (tab L (n - v.toNat) v k).count true = cnt L n k * 2 ^ (lev L n k - v).toNat := by
 have hr := lev_range h hk
 have := count_down (L := L) (k := k) (n - (lev L n k).toNat) (lev L n k) hr.2.2 (lev L n k - v).toNat
 rw [show n - (lev L n k).toNat + (lev L n k - v).toNat = n - v.toNat by omega, show lev L n k - ((lev L n k - v).toNat : Int) = v by omega] at this
 rw [this, Nat.mul_comm]; rfl
theorem cnt_node {L : List Nd} {n : Nat} (h : Ord L n) {k : Int} (h2 : 2 ≤ k) (hk : VNum L k) :
 cnt L n k = cnt L n (nodeF L k).2.1 * 2 ^ (lev L n (nodeF L k).2.1 - lev L n k - 1).toNat + cnt L n (nodeF L k).2.2 * 2 ^ (lev L n (nodeF L k).2.2 - lev L n k - 1).toNat ∧
 lev L n k + 1 ≤ lev L n (nodeF L k).2.1 ∧ lev L n k + 1 ≤ lev L n (nodeF L k).2.2 := by
 have hlow := h.low h2 hk
 have hr := lev_range h hk
 have h40 := h.n40
 have e : lev L n k = topF L k := by unfold lev; rw [if_neg (by omega), topF_node h2]
 have hlt := h.top_lt h2 hk
 have g : ∀ j, VNum L j → topF L k < topF L j → lev L n k + 1 ≤ lev L n j := by
  intro j hj hjt
  rw [e]
  have : lev L n j = if j < 2 then (n : Int) else (nodeF L j).1 := rfl
  rw [this]
  split
  · omega
  · rw [topF_node (k := j) (by omega)] at hjt; omega
 have g1 := g _ hlow.1 hlow.2.2.1
 have g2 := g _ hlow.2.1 hlow.2.2.2.1
 refine ⟨?_, g1, g2⟩
 have e1 := cnt_at h hlow.1 (lev L n k + 1) (by omega) g1
 have e2 := cnt_at h hlow.2.1 (lev L n k + 1) (by omega) g2
 rw [show lev L n (nodeF L k).2.1 - (lev L n k + 1) = lev L n (nodeF L k).2.1 - lev L n k - 1 by omega] at e1
 rw [show lev L n (nodeF L k).2.2 - (lev L n k + 1) = lev L n (nodeF L k).2.2 - lev L n k - 1 by omega] at e2
 rw [← e1, ← e2]
 unfold cnt
 rw [show n - (lev L n k).toNat = (n - (lev L n k + 1).toNat) + 1 by omega, tab, partF_low e.symm, partF_high e.symm, List.count_append]
theorem cnt_root {L : List Nd} {n : Nat} (h : Ord L n) {k : Int} (hk : VNum L k) : cnt L n k * 2 ^ (lev L n k).toNat = (tab L n 0 k).count true := by
 have hr := lev_range h hk
 have := cnt_at h hk 0 (Int.le_refl _) hr.1
 simpa using this.symm
def belowL (L : List Nd) (n : Nat) (m : Nat) : List Int := (List.range (m + 2)).map fun (i : Nat) => ((cnt L n (i : Int) : Nat) : Int)
theorem belowL_length (L : List Nd) (n m : Nat) : (belowL L n m).length = m + 2 := by simp [belowL]
theorem belowL_get (L : List Nd) (n m : Nat) {i : Nat} (h : i < m + 2) : (belowL L n m)[i]? = some (cnt L n (i : Int) : Int) := by
 simp [belowL, h]
theorem belowL_succ (L : List Nd) (n m : Nat) : belowL L n (m + 1) = belowL L n m ++ [(cnt L n ((m : Int) + 2) : Int)] := by
 simp only [belowL, List.range_succ, List.map_append, List.map_cons, List.map_nil]
 congr 2
theorem belowL_zero (L : List Nd) (n : Nat) : belowL L n 0 = [0, 1] := by
 have e0 : cnt L n 0 = 0 := by simp [cnt, lev, tab]
 have e1 : cnt L n 1 = 1 := by simp [cnt, lev, tab]
 simp [belowL, List.range_succ, e0, e1]
theorem cnt_shift {L : List Nd} {n : Nat} (h : Ord L n) {k : Int} (hk : VNum L k) (v : Int) (h0 : 0 ≤ v) (hv : v ≤ lev L n k) : cnt L n k * 2 ^ (lev L n k - v).toNat ≤ 2 ^ (n - v.toNat) := by
 rw [← cnt_at h hk v h0 hv]
 have := List.count_le_length (a := true) (l := tab L (n - v.toNat) v k)
 rwa [tab_length] at this
end Go.Proofs.YtcipnkemnepbaaaGreat
namespace Go.Proofs.YtcipnkemnepbaaaGreat
abbrev Cs := Is × List (Int × Int)
def changeF (wn : Int → Bool) (dof : Is → Int → Int → Option (Is × Int)) : Nat → Cs → Int → Option (Cs × Int)
 | 0, _, _ => none
 | f + 1, s, k =>
  if k < 2 then some (s, k) else
  match mget s.2 k with
  | some r => some (s, r)
  | none =>
   match changeF wn dof f s (nodeF s.1.1 k).2.1 with
   | none => none
   | some (s1, low) =>
    match changeF wn dof f s1 (nodeF s.1.1 k).2.2 with
    | none => none
    | some (s2, high) =>
     if wn (nodeF s.1.1 k).1 then
      match dof s2.1 low high with
      | none => none
      | some (s3, r) => some ((s3, mput s2.2 k r), r)
     else some ((((numF s2.1.1 ((nodeF s.1.1 k).1, low, high)).1, s2.1.2), mput s2.2 k (numF s2.1.1 ((nodeF s.1.1 k).1, low, high)).2), (numF s2.1.1 ((nodeF s.1.1 k).1, low, high)).2)
def chT (wn : Int → Bool) (o : Bool → Bool → Bool) : Nat → Int → List Bool → List Bool
 | 0, _, t => t
 | d + 1, v, t =>
  if wn v then List.zipWith o (chT wn o d (v + 1) (t.take (2 ^ d))) (chT wn o d (v + 1) (t.drop (2 ^ d))) ++ List.zipWith o (chT wn o d (v + 1) (t.take (2 ^ d))) (chT wn o d (v + 1) (t.drop (2 ^ d)))
  else chT wn o d (v + 1) (t.take (2 ^ d)) ++ chT wn o d (v + 1) (t.drop (2 ^ d))
def Idem (o : Bool → Bool → Bool) : Prop := ∀ x, o x x = x
theorem zip_same {o : Bool → Bool → Bool} (ho : Idem o) : ∀ l : List Bool, List.zipWith o l l = l
 | [] => rfl
 | a :: l => by rw [List.zipWith_cons_cons, ho a, zip_same ho l]
theorem chT_append (wn : Int → Bool) (o : Bool → Bool → Bool) (d : Nat) (v : Int) (a b : List Bool) (ha : a.length = 2 ^ d) :
 chT wn o (d + 1) v (a ++ b) = if wn v then List.zipWith o (chT wn o d (v + 1) a) (chT wn o d (v + 1) b) ++ List.zipWith o (chT wn o d (v + 1) a) (chT wn o d (v + 1) b) else chT wn o d (v + 1) a ++ chT wn o d (v + 1) b := by
 rw [chT, List.take_append_of_le_length (by omega), List.drop_append_of_le_length (by omega)]
 rw [List.take_of_length_le (by omega), List.drop_of_length_le (by omega), List.nil_append]
theorem chT_length (wn : Int → Bool) (o : Bool → Bool → Bool) : ∀ (d : Nat) (v : Int) (t : List Bool), t.length = 2 ^ d → (chT wn o d v t).length = 2 ^ d := by
 intro d
 induction d with
 | zero => intro v t h; exact h
 | succ d ih =>
  intro v t h
  have h1 := ih (v + 1) (t.take (2 ^ d)) (by rw [List.length_take, h, Nat.pow_succ]; omega)
  have h2 := ih (v + 1) (t.drop (2 ^ d)) (by rw [List.length_drop, h, Nat.pow_succ]; omega)
  rw [chT]
  split
  · simp only [List.length_append, List.length_zipWith, h1, h2, Nat.pow_succ]; omega
  · simp only [List.length_append, h1, h2, Nat.pow_succ]; omega
theorem chT_twice {wn : Int → Bool} {o : Bool → Bool → Bool} (ho : Idem o) (d : Nat) (v : Int) (a : List Bool) (ha : a.length = 2 ^ d) :
 chT wn o (d + 1) v (a ++ a) = chT wn o d (v + 1) a ++ chT wn o d (v + 1) a := by
 rw [chT_append wn o d v a a ha, zip_same ho]
 split <;> rfl
theorem chT_lift {N N' : List Nd} {wn : Int → Bool} {o : Bool → Bool → Bool} (ho : Idem o) {k r v : Int} {d : Nat} (hk : v ≤ topF N k) (hr : v ≤ topF N' r) (h : tab N' d v r = chT wn o d v (tab N d v k)) :
 ∀ (d' : Nat) (v' : Int), v' + d' = v + d → v' ≤ v → tab N' d' v' r = chT wn o d' v' (tab N d' v' k) := by
 intro d'
 induction d' with
 | zero =>
  intro v' h1 h2
  obtain rfl : v' = v := by omega
  obtain rfl : d = 0 := by omega
  exact h
 | succ d' ih =>
  intro v' h1 h2
  by_cases e : v' = v
  · subst e
    obtain rfl : d = d' + 1 := by omega
    exact h
  · rw [tab_skip (by omega), tab_skip (by omega), ih (v' + 1) (by omega) (by omega), chT_twice ho d' v' _ (tab_length _ _ _ _)]
def CMemo (wn : Int → Bool) (o : Bool → Bool → Bool) (n : Int) (N : List Nd) (C : List (Int × Int)) : Prop :=
 ∀ k r, mget C k = some r → VNum N k ∧ VNum N r ∧ topF N k ≤ topF N r ∧ ∀ (d : Nat) (v : Int), v + d = n → 0 ≤ v → v ≤ topF N k → tab N d v r = chT wn o d v (tab N d v k)
theorem CMemo.ext {wn : Int → Bool} {o : Bool → Bool → Bool} {n : Int} {N N' : List Nd} {C : List (Int × Int)} (h : CMemo wn o n N C) (hN : Ord N n) (hp : N <+: N') : CMemo wn o n N' C := by
 intro k r hm
 obtain ⟨a, b, c, e⟩ := h k r hm
 refine ⟨a.ext hp, b.ext hp, by rw [topF_ext hp a, topF_ext hp b]; exact c, fun d v hd h0 hv => ?_⟩
 rw [topF_ext hp a] at hv
 rw [tab_ext hN hp d v _ hd b (by omega), tab_ext hN hp d v _ hd a hv]
 exact e d v hd h0 hv
theorem CMemo.nil (wn : Int → Bool) (o : Bool → Bool → Bool) (n : Int) (N : List Nd) : CMemo wn o n N [] := fun _ _ h => by simp [mget] at h
def DoOk (n : Int) (o : Bool → Bool → Bool) (dof : Is → Int → Int → Option (Is × Int)) : Prop :=
 ∀ (d : Nat) (v l h : Int) (s : Is), Ord s.1 n → Memo s.1 n s.2 → VNum s.1 l → VNum s.1 h → v ≤ topF s.1 l → v ≤ topF s.1 h → v + d = n → 0 ≤ v →
  ∃ s' k, dof s l h = some (s', k) ∧ Ord s'.1 n ∧ Memo s'.1 n s'.2 ∧ s.1 <+: s'.1 ∧ VNum s'.1 k ∧ v ≤ topF s'.1 k ∧ tab s'.1 d v k = List.zipWith o (tab s.1 d v l) (tab s.1 d v h) ∧ s'.1.length + 1 ≤ s.1.length + 2 ^ d
theorem changeF_node (wn : Int → Bool) (dof : Is → Int → Int → Option (Is × Int)) (f : Nat) (s s1 s2 : Cs) (k low high : Int) (h2 : 2 ≤ k) (hm : mget s.2 k = none) (e1 : changeF wn dof f s (nodeF s.1.1 k).2.1 = some (s1, low)) (e2 : changeF wn dof f s1 (nodeF s.1.1 k).2.2 = some (s2, high)) :
 changeF wn dof (f + 1) s k = if wn (nodeF s.1.1 k).1 then (match dof s2.1 low high with
         | none => none
         | some (s3, r) => some ((s3, mput s2.2 k r), r))
       else some ((((numF s2.1.1 ((nodeF s.1.1 k).1, low, high)).1, s2.1.2), mput s2.2 k (numF s2.1.1 ((nodeF s.1.1 k).1, low, high)).2), (numF s2.1.1 ((nodeF s.1.1 k).1, low, high)).2) := by
 rw [changeF, if_neg (by omega)]
 simp only [hm, e1, e2]
theorem change_right {n : Int} {wn : Int → Bool} {o : Bool → Bool → Bool} {dof : Is → Int → Int → Option (Is × Int)} (ho : Idem o) (hdo : DoOk n o dof) : ∀ (d : Nat) (v k : Int) (s : Cs) (fuel : Nat),
 Ord s.1.1 n → Memo s.1.1 n s.1.2 → CMemo wn o n s.1.1 s.2 → VNum s.1.1 k → v ≤ topF s.1.1 k → v + d = n → 0 ≤ v → d < fuel →
 ∃ s' r, changeF wn dof fuel s k = some (s', r) ∧ Ord s'.1.1 n ∧ Memo s'.1.1 n s'.1.2 ∧ CMemo wn o n s'.1.1 s'.2 ∧ s.1.1 <+: s'.1.1 ∧ VNum s'.1.1 r ∧ topF s.1.1 k ≤ topF s'.1.1 r ∧
  tab s'.1.1 d v r = chT wn o d v (tab s.1.1 d v k) ∧ s'.1.1.length ≤ s.1.1.length + d * 2 ^ d := by
 intro d
 induction d with
 | zero =>
  intro v k s fuel hN hM hC hk tk hv h0 hfu
  obtain ⟨fuel, rfl⟩ : ∃ q, fuel = q + 1 := ⟨fuel - 1, by omega⟩
  have := hN.const hk (by omega)
  exact ⟨s, k, by rw [changeF, if_pos (by omega)], hN, hM, hC, List.prefix_refl _, hk, by omega, rfl, by omega⟩
 | succ d ih =>
  intro v k s fuel hN hM hC hk tk hv h0 hfu
  have h40 := hN.n40
  have h2d := Nat.two_pow_pos d
  have hgrow : d * 2 ^ d + d * 2 ^ d + 2 ^ d ≤ (d + 1) * 2 ^ (d + 1) := by
   rw [Nat.pow_succ, Nat.succ_mul, ← Nat.mul_assoc]
   omega
  by_cases hskip : v < topF s.1.1 k
  · obtain ⟨s', r, a1, a2, a3, a4, a5, a6, a7, a8, a9⟩ := ih (v + 1) k s fuel hN hM hC hk (by omega) (by omega) (by omega) (by omega)
    refine ⟨s', r, a1, a2, a3, a4, a5, a6, a7, ?_, by omega⟩
    rw [tab_skip (by omega), tab_skip hskip, chT_twice ho d v _ (tab_length _ _ _ _), a8]
  · have htop : topF s.1.1 k = v := by omega
    have h2 : 2 ≤ k := by
     rcases Int.lt_or_le k 2 with h | h
     · rw [topF_const h] at htop; omega
     · exact h
    obtain ⟨fuel, rfl⟩ : ∃ q, fuel = q + 1 := ⟨fuel - 1, by omega⟩
    cases hm : mget s.2 k with
    | some r =>
     obtain ⟨m1, m2, m3, m4⟩ := hC k r hm
     exact ⟨s, r, by rw [changeF, if_neg (by omega)]; simp only [hm], hN, hM, hC, List.prefix_refl _, m2, m3, m4 (d + 1) v hv h0 (by omega), by omega⟩
    | none =>
     have pl := hN.part false hk tk (by omega)
     have ph := hN.part true hk tk (by omega)
     have nv : (nodeF s.1.1 k).1 = v := by rw [← topF_node h2]; exact htop
     have htab : tab s.1.1 (d + 1) v k = tab s.1.1 d (v + 1) (nodeF s.1.1 k).2.1 ++ tab s.1.1 d (v + 1) (nodeF s.1.1 k).2.2 := by rw [tab, partF_low htop, partF_high htop]
     rw [partF_low htop] at pl
     rw [partF_high htop] at ph
     obtain ⟨s1, lo, a1, a2, a3, a4, a5, a6, a7, a8, a9⟩ := ih (v + 1) _ s fuel hN hM hC pl.1 pl.2 (by omega) (by omega) (by omega)
     obtain ⟨s2, hi, b1, b2, b3, b4, b5, b6, b7, b8, b9⟩ := ih (v + 1) (nodeF s.1.1 k).2.2 s1 fuel a2 a3 a4 (ph.1.ext a5) (by rw [topF_ext a5 ph.1]; exact ph.2) (by omega) (by omega) (by omega)
     have hlo : VNum s2.1.1 lo := a6.ext b5
     have tlo : v + 1 ≤ topF s2.1.1 lo := by rw [topF_ext b5 a6]; omega
     have thi : v + 1 ≤ topF s2.1.1 hi := by rw [topF_ext a5 ph.1] at b7; omega
     have elo : tab s2.1.1 d (v + 1) lo = chT wn o d (v + 1) (tab s.1.1 d (v + 1) (nodeF s.1.1 k).2.1) := by
      rw [tab_ext a2 b5 d _ _ (by omega) a6 (by omega), a8]
     have ehi : tab s2.1.1 d (v + 1) hi = chT wn o d (v + 1) (tab s.1.1 d (v + 1) (nodeF s.1.1 k).2.2) := by
      rw [b8, tab_ext hN a5 d _ _ (by omega) ph.1 ph.2]
     have ev := changeF_node wn dof fuel s s1 s2 k lo hi h2 hm a1 b1
     rw [nv] at ev
     have hadd : ∀ (N' : List Nd) (r : Int), s2.1.1 <+: N' → VNum N' r → v ≤ topF N' r → tab N' (d + 1) v r = chT wn o (d + 1) v (tab s.1.1 (d + 1) v k) → CMemo wn o n N' (mput s2.2 k r) := by
      intro N' r hp hr tr hT k' r' hk'
      have hall := a5.trans (b5.trans hp)
      simp only [mget_put] at hk'
      split at hk'
      · rename_i e
        subst e
        cases hk'
        refine ⟨hk.ext hall, hr, by rw [topF_ext hall hk]; omega, fun d' v' hd' h0' hv' => ?_⟩
        rw [topF_ext hall hk, htop] at hv'
        refine chT_lift ho (v := v) (d := d + 1) (by rw [topF_ext hall hk]; omega) tr ?_ d' v' (by omega) hv'
        rw [hT, tab_ext hN hall _ _ _ hv hk tk]
      · exact (b4.ext b2 hp) k' r' hk'
     by_cases hw : wn v = true
     · obtain ⟨s3, r, c1, c2, c3, c4, c5, c6, c7, c8⟩ := hdo d (v + 1) lo hi s2.1 b2 b3 hlo b6 tlo thi (by omega) (by omega)
       rw [if_pos hw, c1] at ev
       have hT : tab s3.1 (d + 1) v r = chT wn o (d + 1) v (tab s.1.1 (d + 1) v k) := by
        rw [tab_skip (by omega), htab, chT_append wn o d v _ _ (tab_length _ _ _ _), if_pos hw, c7, elo, ehi]
       exact ⟨(s3, mput s2.2 k r), r, ev, c2, c3, hadd s3.1 r c4 c5 (by omega) hT, a5.trans (b5.trans c4), c5, by rw [htop]; simp only; omega, hT, by simp only; omega⟩
     · rw [if_neg hw] at ev
       obtain ⟨n1, n2, n3, n4, n5⟩ := num_ord b2 (v := v) (l := lo) (r := hi) ⟨h0, by omega⟩ hlo b6 (by omega) (by omega)
       have hp := numF_prefix s2.1.1 (v, lo, hi)
       have hlen := (numF_grows s2.1.1 (v, lo, hi)).2
       have hT : tab (numF s2.1.1 (v, lo, hi)).1 (d + 1) v (numF s2.1.1 (v, lo, hi)).2 = chT wn o (d + 1) v (tab s.1.1 (d + 1) v k) := by
        rw [n5 d (by omega), htab, chT_append wn o d v _ _ (tab_length _ _ _ _), if_neg hw, elo, ehi]
       exact ⟨_, _, ev, n1, b3.ext b2 hp, hadd _ _ hp n2 n3 hT, a5.trans (b5.trans hp), n2, by rw [htop]; exact n3, hT, by simp only; omega⟩
def updF (ρ : Nat → Bool) (u : Nat) (b : Bool) : Nat → Bool := fun x => if x = u then b else ρ x
theorem updF_same {ρ : Nat → Bool} {u : Nat} {b : Bool} (h : ρ u = b) : updF ρ u b = ρ := by
 funext x; unfold updF; split
 · rename_i e; rw [e, h]
 · rfl
theorem placeF_upd_low (ρ : Nat → Bool) (u : Nat) (b : Bool) : ∀ (d v : Nat), u < v → placeF (updF ρ u b) d v = placeF ρ d v := by
 intro d
 induction d with
 | zero => intro v _; rfl
 | succ d ih =>
  intro v h
  rw [placeF, placeF, ih (v + 1) (by omega)]
  have : updF ρ u b v = ρ v := by unfold updF; rw [if_neg (by omega)]
  rw [this]
theorem placeF_up (ρ : Nat → Bool) (u : Nat) (h : ρ u = false) : ∀ (d v : Nat), v ≤ u → u < v + d → placeF (updF ρ u true) d v = placeF ρ d v + 2 ^ (v + d - 1 - u) := by
 intro d
 induction d with
 | zero => intro v h1 h2; omega
 | succ d ih =>
  intro v h1 h2
  rw [placeF, placeF]
  by_cases e : v = u
  · subst e
    rw [placeF_upd_low _ _ _ _ _ (by omega)]
    have e1 : updF ρ v true v = true := by simp [updF]
    rw [e1, h]
    have : v + (d + 1) - 1 - v = d := by omega
    rw [this]
    simp; omega
  · have e1 : updF ρ u true v = ρ v := by simp [updF, e]
    rw [e1, ih (v + 1) (by omega) (by omega)]
    have : v + 1 + d - 1 - u = v + (d + 1) - 1 - u := by omega
    rw [this]
    omega
theorem placeF_down (ρ : Nat → Bool) (u : Nat) (h : ρ u = true) (d v : Nat) (h1 : v ≤ u) (h2 : u < v + d) : placeF (updF ρ u false) d v = placeF ρ d v - 2 ^ (v + d - 1 - u) := by
 have e := placeF_up (updF ρ u false) u (by simp [updF]) d v h1 h2
 have e2 : updF (updF ρ u false) u true = ρ := by
  funext x; unfold updF; split
  · rename_i e; rw [e, h]
  · rfl
 rw [e2] at e
 omega
def withF (n i v : Nat) (b : Bool) : Nat := if bitF n i v = b then i else if b then i + 2 ^ (n - 1 - v) else i - 2 ^ (n - 1 - v)
theorem with_place (n i v : Nat) (b : Bool) (hi : i < 2 ^ n) (hv : v < n) : withF n i v b = placeF (updF (bitF n i) v b) n 0 := by
 have hp : placeF (bitF n i) n 0 = i := by rw [bit_place n 0 n i (by omega), Nat.mod_eq_of_lt hi]
 unfold withF
 by_cases h : bitF n i v = b
 · rw [if_pos h, updF_same h, hp]
 · rw [if_neg h]
   cases b
   · have := placeF_down (bitF n i) v (by simpa using h) n 0 (by omega) (by omega)
     rw [hp, Nat.zero_add] at this
     rw [this]
     rfl
   · have := placeF_up (bitF n i) v (by simpa using h) n 0 (by omega) (by omega)
     rw [hp, Nat.zero_add] at this
     rw [this]
     rfl
def oneV (u : Nat) : Int → Bool := fun x => decide (x = (u : Int))
theorem chT_none {wn : Int → Bool} (o : Bool → Bool → Bool) : ∀ (d : Nat) (v : Int) (t : List Bool), (∀ x, v ≤ x → wn x = false) → chT wn o d v t = t := by
 intro d
 induction d with
 | zero => intro v t _; rfl
 | succ d ih =>
  intro v t h
  rw [chT, h v (Int.le_refl _), ih (v + 1) _ (fun x hx => h x (by omega)), ih (v + 1) _ (fun x hx => h x (by omega))]
  simp
theorem getD_left {a b : List Bool} {i : Nat} (h : i < a.length) : (a ++ b).getD i false = a.getD i false := by
 simp only [List.getD_eq_getElem?_getD, List.getElem?_append_left h]
theorem getD_right {a b : List Bool} {m i : Nat} (h : a.length = m) : (a ++ b).getD (m + i) false = b.getD i false := by
 subst h
 simp only [List.getD_eq_getElem?_getD]
 rw [List.getElem?_append_right (by omega)]
 congr 2; omega
theorem getD_zip (o : Bool → Bool → Bool) {a b : List Bool} {i : Nat} (ha : i < a.length) (hb : i < b.length) : (List.zipWith o a b).getD i false = o (a.getD i false) (b.getD i false) := by
 simp only [List.getD_eq_getElem?_getD]
 rw [List.getElem?_eq_getElem (by rw [List.length_zipWith]; omega), List.getElem?_eq_getElem ha, List.getElem?_eq_getElem hb]
 simp
theorem chT_one (o : Bool → Bool → Bool) (u : Nat) (ρ : Nat → Bool) : ∀ (d v : Nat) (t : List Bool), t.length = 2 ^ d → v ≤ u → u < v + d →
 (chT (oneV u) o d v t).getD (placeF ρ d v) false = o (t.getD (placeF (updF ρ u false) d v) false) (t.getD (placeF (updF ρ u true) d v) false) := by
 intro d
 induction d with
 | zero => intro v t _ h1 h2; omega
 | succ d ih =>
  intro v t ht h1 h2
  obtain ⟨a, b, rfl, ha, hb⟩ : ∃ a b, t = a ++ b ∧ a.length = 2 ^ d ∧ b.length = 2 ^ d := ⟨t.take (2 ^ d), t.drop (2 ^ d), (List.take_append_drop _ _).symm, by rw [List.length_take, ht, Nat.pow_succ]; omega, by rw [List.length_drop, ht, Nat.pow_succ]; omega⟩
  rw [chT_append _ _ _ _ _ _ ha]
  have hp := placeF_lt ρ d (v + 1)
  have c : ((v : Int) + 1) = ((v + 1 : Nat) : Int) := by omega
  by_cases e : v = u
  · subst e
    rw [if_pos (by simp [oneV]), chT_none o d _ a (fun x hx => by simp [oneV]; omega), chT_none o d _ b (fun x hx => by simp [oneV]; omega)]
    rw [placeF, placeF, placeF, placeF_upd_low _ _ _ _ _ (by omega), placeF_upd_low _ _ _ _ _ (by omega)]
    have e1 : updF ρ v true v = true := by simp [updF]
    have e0 : updF ρ v false v = false := by simp [updF]
    rw [e1, e0]
    simp only [if_true, Bool.false_eq_true, if_false, Nat.zero_add]
    rw [getD_left (a := a) (by omega), getD_right ha]
    cases ρ v
    · simp only [Bool.false_eq_true, if_false, Nat.zero_add]
      rw [getD_left (by rw [List.length_zipWith]; omega), getD_zip o (by omega) (by omega)]
    · simp only [if_true]
      rw [getD_right (by rw [List.length_zipWith]; omega), getD_zip o (by omega) (by omega)]
  · have hla := chT_length (oneV u) o d (v + 1) a ha
    rw [if_neg (by simp [oneV]; omega), placeF, placeF, placeF]
    have e1 : updF ρ u true v = ρ v := by simp [updF, e]
    have e0 : updF ρ u false v = ρ v := by simp [updF, e]
    have p0 := placeF_lt (updF ρ u false) d (v + 1)
    have p1 := placeF_lt (updF ρ u true) d (v + 1)
    rw [e1, e0]
    cases ρ v
    · simp only [Bool.false_eq_true, if_false, Nat.zero_add]
      rw [getD_left (by omega), getD_left (by omega), getD_left (by omega), c, ih (v + 1) a ha (by omega) (by omega)]
    · simp only [if_true]
      rw [getD_right hla, getD_right ha, getD_right ha, c, ih (v + 1) b hb (by omega) (by omega)]
def oneT (o : Bool → Bool → Bool) (n u : Nat) (t : List Bool) : List Bool := (List.range (2 ^ n)).map fun i => o (t.getD (withF n i u false) false) (t.getD (withF n i u true) false)
theorem oneT_chT (o : Bool → Bool → Bool) {n u : Nat} {t : List Bool} (ht : t.length = 2 ^ n) (hu : u < n) : oneT o n u t = chT (oneV u) o n 0 t := by
 have hl := chT_length (oneV u) o n 0 t ht
 refine List.ext_getElem (by rw [hl]; simp [oneT]) (fun i h1 h2 => ?_)
 have hi : i < 2 ^ n := by rw [hl] at h2; exact h2
 have e := chT_one o u (bitF n i) n 0 t ht (by omega) (by omega)
 rw [bit_place n 0 n i (by omega), Nat.mod_eq_of_lt hi, ← with_place n i u false hi hu, ← with_place n i u true hi hu] at e
 have c : ((0 : Nat) : Int) = 0 := rfl
 rw [c] at e
 simp only [List.getD_eq_getElem?_getD] at e
 rw [List.getElem?_eq_getElem h2, Option.getD_some] at e
 rw [e]
 simp [oneT]
def Inter (o : Bool → Bool → Bool) : Prop := ∀ a b c d, o (o a b) (o c d) = o (o a c) (o b d)
theorem zip_inter {o : Bool → Bool → Bool} (h : Inter o) : ∀ a b c d : List Bool, List.zipWith o (List.zipWith o a b) (List.zipWith o c d) = List.zipWith o (List.zipWith o a c) (List.zipWith o b d)
 | [], _, _, _ => by simp
 | _ :: _, [], _, _ => by simp
 | _ :: _, _ :: _, [], _ => by simp
 | _ :: _, _ :: _, _ :: _, [] => by simp
 | x :: a, y :: b, z :: c, w :: d => by simp [h x y z w, zip_inter h a b c d]
theorem zip_append' {o : Bool → Bool → Bool} {a b c d : List Bool} (h : a.length = c.length) : List.zipWith o (a ++ b) (c ++ d) = List.zipWith o a c ++ List.zipWith o b d := by
 exact List.zipWith_append h
theorem split2 {d : Nat} {t : List Bool} (ht : t.length = 2 ^ (d + 1)) : ∃ a b, t = a ++ b ∧ a.length = 2 ^ d ∧ b.length = 2 ^ d :=
 ⟨t.take (2 ^ d), t.drop (2 ^ d), (List.take_append_drop _ _).symm, by rw [List.length_take, ht, Nat.pow_succ]; omega, by rw [List.length_drop, ht, Nat.pow_succ]; omega⟩
theorem chT_zip {wn : Int → Bool} {o : Bool → Bool → Bool} (h : Inter o) : ∀ (d : Nat) (v : Int) (s t : List Bool), s.length = 2 ^ d → t.length = 2 ^ d → chT wn o d v (List.zipWith o s t) = List.zipWith o (chT wn o d v s) (chT wn o d v t) := by
 intro d
 induction d with
 | zero => intro v s t _ _; rfl
 | succ d ih =>
  intro v s t hs ht
  obtain ⟨a, b, rfl, ha, hb⟩ := split2 hs
  obtain ⟨a', b', rfl, ha', hb'⟩ := split2 ht
  have la := chT_length wn o d (v + 1) a ha
  have lb := chT_length wn o d (v + 1) b hb
  have la' := chT_length wn o d (v + 1) a' ha'
  have lb' := chT_length wn o d (v + 1) b' hb'
  rw [zip_append' (by omega), chT_append _ _ _ _ _ _ (by rw [List.length_zipWith]; omega), chT_append _ _ _ _ _ _ ha, chT_append _ _ _ _ _ _ ha', ih (v + 1) a a' ha ha', ih (v + 1) b b' hb hb']
  split
  · rw [zip_append' (by simp only [List.length_zipWith]; omega), zip_inter h]
  · rw [zip_append' (by omega)]
theorem chT_union {S S' : Int → Bool} {o : Bool → Bool → Bool} (ho : Idem o) (h : Inter o) (u : Nat) (hS : S u = false) (hS' : ∀ x, S' x = (S x || oneV u x)) : ∀ (d : Nat) (v : Int) (t : List Bool), t.length = 2 ^ d →
 chT S' o d v t = chT (oneV u) o d v (chT S o d v t) := by
 intro d
 induction d with
 | zero => intro v t _; rfl
 | succ d ih =>
  intro v t ht
  obtain ⟨a, b, rfl, ha, hb⟩ := split2 ht
  have la := chT_length S o d (v + 1) a ha
  have lb := chT_length S o d (v + 1) b hb
  rw [chT_append _ _ _ _ _ _ ha, chT_append _ _ _ _ _ _ ha, ih (v + 1) a ha, ih (v + 1) b hb]
  by_cases e : v = (u : Int)
  · subst e
    have h1 : oneV u (u : Int) = true := by simp [oneV]
    rw [if_pos (by rw [hS', hS, h1]; rfl), if_neg (by simp [hS]), chT_append _ _ _ _ _ _ la, if_pos h1]
  · have h1 : oneV u v = false := by simp [oneV, e]
    by_cases hv : S v = true
    · rw [if_pos (by rw [hS', hv]; rfl), if_pos hv, chT_append _ _ _ _ _ _ (by rw [List.length_zipWith]; omega), if_neg (by simp [h1]), chT_zip h d (v + 1) _ _ la lb]
    · rw [if_neg (by rw [hS', h1]; simpa using hv), if_neg hv, chT_append _ _ _ _ _ _ la, if_neg (by simp [h1])]
def inV (set : List Nat) : Int → Bool := fun x => set.any fun u => oneV u x
def quantT (o : Bool → Bool → Bool) (n : Nat) : List Nat → List Bool → List Bool
 | [], t => t
 | u :: set, t => quantT o n set (oneT o n u t)
theorem oneT_length (o : Bool → Bool → Bool) (n u : Nat) (t : List Bool) : (oneT o n u t).length = 2 ^ n := by simp [oneT]
theorem quantT_snoc (o : Bool → Bool → Bool) (n u : Nat) : ∀ (set : List Nat) (t : List Bool), quantT o n (set ++ [u]) t = oneT o n u (quantT o n set t) := by
 intro set
 induction set with
 | nil => intro t; rfl
 | cons x set ih => intro t; exact ih _
theorem quantT_length (o : Bool → Bool → Bool) (n : Nat) : ∀ (set : List Nat) (t : List Bool), t.length = 2 ^ n → (quantT o n set t).length = 2 ^ n := by
 intro set
 induction set with
 | nil => intro t h; exact h
 | cons u set ih => intro t h; exact ih _ (oneT_length o n u t)
theorem quant_chT {o : Bool → Bool → Bool} (ho : Idem o) (h : Inter o) (n : Nat) (t : List Bool) (ht : t.length = 2 ^ n) : ∀ (k : Nat) (set : List Nat), set.length = k → set.Nodup → (∀ u ∈ set, u < n) → quantT o n set t = chT (inV set) o n 0 t := by
 intro k
 induction k with
 | zero =>
  intro set hl _ _
  obtain rfl := List.length_eq_zero_iff.1 hl
  exact (chT_none o n 0 t (fun x _ => by simp [inV])).symm
 | succ k ih =>
  intro set hl hn hu
  rcases List.eq_nil_or_concat set with rfl | ⟨s, u, rfl⟩
  · simp at hl
  · rw [List.concat_eq_append] at *
    have hn' := List.nodup_append.1 hn
    rw [quantT_snoc, ih s (by simpa using hl) hn'.1 (fun x hx => hu x (by simp [hx])), oneT_chT o (chT_length _ _ _ _ _ ht) (hu u (by simp))]
    refine (chT_union ho h u ?_ ?_ n 0 t ht).symm
    · simp only [inV, oneV, List.any_eq_false, decide_eq_true_eq]
      intro x hx e
      have : x = u := by omega
      subst this
      exact hn'.2.2 x hx x (by simp) rfl
    · intro x; simp [inV]
end Go.Proofs.YtcipnkemnepbaaaGreat
