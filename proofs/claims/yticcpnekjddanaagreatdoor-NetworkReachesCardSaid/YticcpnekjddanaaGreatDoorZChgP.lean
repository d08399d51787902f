/-  -/

set_option linter.unusedVariables false
set_option linter.unusedSimpArgs false
namespace Go.Proofs.YticcpnekjddanaaGreatDoor
abbrev Nd := Int × Int × Int
def qaq : List Nd → Nd → Int → Int
 | [], _, _ => 0
 | y :: l, x, k => if y = x then k else qaq l x (k + 1)
def qa0 {K V : Type} [DecidableEq K] : List (K × V) → K → Option V
 | [], _ => none
 | (x, v) :: M, k => if k = x then some v else qa0 M k
def qbW {K V : Type} [DecidableEq K] : List (K × V) → K → V → List (K × V)
 | [], k, v => [(k, v)]
 | (x, u) :: M, k, v => if k = x then (x, v) :: M else (x, u) :: qbW M k v
def qa2 (N : List Nd) (x : Nd) : List Nd × Int :=
 if x.2.1 = x.2.2 then (N, x.2.1) else if qaq N x 2 = 0 then (N ++ [x], N.length + 2) else (N, qaq N x 2)
def qao (N : List Nd) (k : Int) : Nd := N.getD (k - 2).toNat (0, 0, 0)
def qav (N : List Nd) (k : Int) : Int := if k < 2 then 40 else (qao N k).1
def qaV (N : List Nd) (k v : Int) (b : Bool) : Int := if qav N k ≠ v then k else if b then (qao N k).2.2 else (qao N k).2.1
def qa5 : List Nd → List Nd × List Int → List Nd × List Int
 | [], s => s
 | x :: L, s => qa5 L ((qa2 s.1 (x.1, s.2[x.2.1.toNat]?.getD 0, s.2[x.2.2.toNat]?.getD 0)).1, s.2 ++ [(qa2 s.1 (x.1, s.2[x.2.1.toNat]?.getD 0, s.2[x.2.2.toNat]?.getD 0)).2])
def qal : Nat → List Nd → Int → List Bool → List Nd × Int
 | 0, N, _, t => (N, if t.headD false then 1 else 0)
 | d + 1, N, v, t => qa2 (qal d (qal d N (v + 1) (t.take (t.length / 2))).1 (v + 1) (t.drop (t.length / 2))).1
  (v, (qal d N (v + 1) (t.take (t.length / 2))).2, (qal d (qal d N (v + 1) (t.take (t.length / 2))).1 (v + 1) (t.drop (t.length / 2))).2)
abbrev Vs := List Nd × List (Int × Int)
def qaW (N : List Nd) : Nat → Vs → Int → Option (Vs × Int)
 | 0, _, _ => none
 | f + 1, s, k =>
  match qa0 s.2 k with
  | some n => some (s, n)
  | none =>
   match qaW N f s (qao N k).2.1 with
   | none => none
   | some (s1, low) =>
    match qaW N f s1 (qao N k).2.2 with
    | none => none
    | some (s2, high) => some ((s2.1 ++ [((qao N k).1, low, high)], qbW s2.2 k (s2.1.length + 2)), s2.1.length + 2)
abbrev Is := List Nd × List (Nd × Int)
def qc2 (a b c : Int) : Int := if c < (if b < a then b else a) then c else (if b < a then b else a)
def qdY : Nat → Is → Int → Int → Int → Option (Is × Int)
 | 0, _, _, _, _ => none
 | n + 1, s, f, g, h =>
  if f = 1 ∨ g = h then some (s, g) else if f = 0 then some (s, h) else
  match qa0 s.2 (f, g, h) with
  | some k => some (s, k)
  | none =>
   let v := qc2 (qav s.1 f) (qav s.1 g) (qav s.1 h)
   match qdY n s (qaV s.1 f v false) (qaV s.1 g v false) (qaV s.1 h v false) with
   | none => none
   | some (s1, low) =>
    match qdY n s1 (qaV s1.1 f v true) (qaV s1.1 g v true) (qaV s1.1 h v true) with
    | none => none
    | some (s2, high) => some (((qa2 s2.1 (v, low, high)).1, qbW s2.2 (f, g, h) (qa2 s2.1 (v, low, high)).2), (qa2 s2.1 (v, low, high)).2)
def VNd (N : List Nd) : Prop := ∀ (i : Nat) (x : Nd), N[i]? = some x → 0 ≤ x.1 ∧ x.1 < 40 ∧ 0 ≤ x.2.1 ∧ x.2.1 < (i : Int) + 2 ∧ 0 ≤ x.2.2 ∧ x.2.2 < (i : Int) + 2
def qaH (N : List Nd) (k : Int) : Prop := 0 ≤ k ∧ k < (N.length : Int) + 2
def VM {K : Type} [DecidableEq K] (N : List Nd) (M : List (K × Int)) : Prop := ∀ key k, qa0 M key = some k → qaH N k
theorem qaH.mono {N N' : List Nd} {k : Int} (h : qaH N k) (hl : N.length ≤ N'.length) : qaH N' k := ⟨h.1, by have := h.2; omega⟩
theorem VM.mono {K : Type} [DecidableEq K] {N N' : List Nd} {M : List (K × Int)} (h : VM N M) (hl : N.length ≤ N'.length) : VM N' M := fun key k hk => (h key k hk).mono hl
theorem qa7 {N : List Nd} (hN : VNd N) {k : Int} (h2 : 2 ≤ k) (hk : k < (N.length : Int) + 2) : 0 ≤ (qao N k).1 ∧ (qao N k).1 < 40 ∧ qaH N (qao N k).2.1 ∧ qaH N (qao N k).2.2 ∧ (qao N k).2.1 < k ∧ (qao N k).2.2 < k := by
 have hlt : (k - 2).toNat < N.length := by omega
 have h := hN (k - 2).toNat (qao N k) (by simp [qao, hlt])
 exact ⟨h.1, h.2.1, ⟨h.2.2.1, by omega⟩, ⟨h.2.2.2.2.1, by omega⟩, by omega, by omega⟩
theorem qaD {N : List Nd} (hN : VNd N) {k v : Int} {b : Bool} (hk : qaH N k) (hv : v < 40) : qaH N (qaV N k v b) := by
 unfold qaV
 split
 · exact hk
 · rename_i h
   have h2 : 2 ≤ k := by
    rcases Int.lt_or_le k 2 with h' | h'
    · simp [qav, h'] at h; omega
    · exact h'
   have := qa7 hN h2 hk.2
   split
   · exact this.2.2.2.1
   · exact this.2.2.1
theorem qaE {N : List Nd} (hN : VNd N) {k : Int} (hk : qaH N k) : 0 ≤ qav N k ∧ qav N k ≤ 40 ∧ (2 ≤ k → qav N k < 40) := by
 unfold qav
 split
 · exact ⟨by omega, by omega, fun h => by omega⟩
 · have := qa7 hN (by omega) hk.2
   exact ⟨this.1, by omega, fun _ => this.2.1⟩
theorem qbt : ∀ (N : List Nd) (x : Nd) (c : Int), 0 < c → qaq N x c = 0 ∨ (c ≤ qaq N x c ∧ qaq N x c < c + N.length)
 | [], _, _, _ => .inl rfl
 | y :: N, x, c, hc => by
  unfold qaq
  split
  · right; simp; omega
  · rcases qbt N x (c + 1) (by omega) with h | h
    · exact .inl h
    · right; simp; omega
theorem qbX (N : List Nd) (x : Nd) : N.length ≤ (qa2 N x).1.length ∧ (qa2 N x).1.length ≤ N.length + 1 := by
 unfold qa2; split
 · exact ⟨Nat.le_refl _, Nat.le_succ _⟩
 · split <;> simp
theorem qdu {N : List Nd} (hN : VNd N) {v l h : Int} (hv : 0 ≤ v ∧ v < 40) (hl : qaH N l) (hh : qaH N h) : VNd (qa2 N (v, l, h)).1 ∧ qaH (qa2 N (v, l, h)).1 (qa2 N (v, l, h)).2 := by
 unfold qa2
 split
 · exact ⟨hN, hl⟩
 · split
   · refine ⟨fun i x hx => ?_, ⟨by omega, by simp; omega⟩⟩
     rw [List.getElem?_append] at hx
     split at hx
     · exact hN i x hx
     · rename_i hi
       have hi0 : i = N.length := by
        rcases Nat.lt_or_ge (i - N.length) 1 with h' | h'
        · omega
        · rw [List.getElem?_eq_none (by simpa using h')] at hx; cases hx
       subst hi0
       simp at hx
       subst hx
       exact ⟨hv.1, hv.2, hl.1, hl.2, hh.1, hh.2⟩
   · rename_i h0
     rcases qbt N (v, l, h) 2 (by omega) with h' | h'
     · exact absurd h' h0
     · exact ⟨hN, by simp only; omega, by simp only; omega⟩
theorem qbn {K V : Type} [DecidableEq K] (M : List (K × V)) (k j : K) (v : V) : qa0 (qbW M k v) j = if j = k then some v else qa0 M j := by
 induction M with
 | nil => simp [qbW, qa0]
 | cons p M ih =>
  obtain ⟨x, u⟩ := p
  by_cases h : k = x
  · subst h
    by_cases hj : j = k <;> simp [qbW, qa0, hj]
  · by_cases hj : j = k
    · subst hj; simp [qbW, qa0, h, ih]
    · by_cases hx : j = x <;> simp [qbW, qa0, h, hj, ih, hx]
      · subst hx; simp [hj]
theorem qeA : ∀ (n : Nat) (s s' : Is) (f g h k : Int), qdY n s f g h = some (s', k) → VNd s.1 → VM s.1 s.2 → qaH s.1 f → qaH s.1 g → qaH s.1 h → VNd s'.1 ∧ VM s'.1 s'.2 ∧ qaH s'.1 k ∧ s.1.length ≤ s'.1.length := by
 intro n
 induction n with
 | zero => intro s s' f g h k he; simp [qdY] at he
 | succ n ih =>
  intro s s' f g h k he hN hM hf hg hh
  unfold qdY at he
  split at he
  · simp only [Option.some.injEq, Prod.mk.injEq] at he
    obtain ⟨rfl, rfl⟩ := he
    exact ⟨hN, hM, hg, Nat.le_refl _⟩
  · rename_i hc1
    split at he
    · simp only [Option.some.injEq, Prod.mk.injEq] at he
      obtain ⟨rfl, rfl⟩ := he
      exact ⟨hN, hM, hh, Nat.le_refl _⟩
    · rename_i hc2
      split at he
      · rename_i u hm
        simp only [Option.some.injEq, Prod.mk.injEq] at he
        obtain ⟨rfl, rfl⟩ := he
        exact ⟨hN, hM, hM _ _ hm, Nat.le_refl _⟩
      · simp only at he
        have hf2 : 2 ≤ f := by have := hf.1; omega
        have hv : qc2 (qav s.1 f) (qav s.1 g) (qav s.1 h) < 40 := by
         have := (qaE hN hf).2.2 hf2
         unfold qc2; omega
        have hv0 : 0 ≤ qc2 (qav s.1 f) (qav s.1 g) (qav s.1 h) := by
         have := (qaE hN hf).1
         have := (qaE hN hg).1
         have := (qaE hN hh).1
         unfold qc2; omega
        split at he
        · cases he
        rename_i s1 low h1
        split at he
        · cases he
        rename_i s2 high h2
        simp only [Option.some.injEq, Prod.mk.injEq] at he
        obtain ⟨rfl, rfl⟩ := he
        obtain ⟨a1, a2, a3, a4⟩ := ih _ _ _ _ _ _ h1 hN hM (qaD hN hf hv) (qaD hN hg hv) (qaD hN hh hv)
        obtain ⟨b1, b2, b3, b4⟩ := ih _ _ _ _ _ _ h2 a1 a2 (qaD a1 (hf.mono a4) hv) (qaD a1 (hg.mono a4) hv) (qaD a1 (hh.mono a4) hv)
        obtain ⟨c1, c2⟩ := qdu b1 ⟨hv0, hv⟩ (a3.mono b4) b3
        have c3 := (qbX s2.1 (qc2 (qav s.1 f) (qav s.1 g) (qav s.1 h), low, high)).1
        refine ⟨c1, fun key k hk => ?_, c2, by simp only; omega⟩
        simp only [qbn] at hk
        split at hk
        · cases hk; exact c2
        · exact (b2 key k hk).mono c3
theorem qfG {α : Type} {l : List α} (h : l.Nodup) {i j : Nat} (hi : i < l.length) (hj : j < l.length) (e : l[i] = l[j]) : i = j := by
 rcases Nat.lt_trichotomy i j with h' | h' | h'
 · exact absurd e (List.pairwise_iff_getElem.1 h i j hi hj h')
 · exact h'
 · exact absurd e.symm (List.pairwise_iff_getElem.1 h j i hj hi h')
def tab (N : List Nd) : Nat → Int → Int → List Bool
 | 0, _, k => [decide (k = 1)]
 | d + 1, v, k => tab N d (v + 1) (qaV N k v false) ++ tab N d (v + 1) (qaV N k v true)
theorem qax (N : List Nd) (d : Nat) : ∀ (v k : Int), (tab N d v k).length = 2 ^ d := by
 induction d with
 | zero => intro v k; rfl
 | succ d ih => intro v k; simp [tab, ih]; omega
structure Ord (N : List Nd) (n : Int) : Prop where
 n40 : n ≤ 40
 val : VNd N
 var : ∀ x ∈ N, x.1 < n
 red : ∀ x ∈ N, x.2.1 ≠ x.2.2
 ord : ∀ x ∈ N, x.1 < qav N x.2.1 ∧ x.1 < qav N x.2.2
 nodup : N.Nodup
theorem qd4 {N : List Nd} {k : Int} (h2 : 2 ≤ k) (hk : k < (N.length : Int) + 2) : qao N k ∈ N := by
 have hlt : (k - 2).toNat < N.length := by omega
 simp [qao, hlt]
theorem qaM {N : List Nd} {k : Int} (h : k < 2) : qav N k = 40 := by simp [qav, h]
theorem qaO {N : List Nd} {k : Int} (h : 2 ≤ k) : qav N k = (qao N k).1 := by simp [qav, Int.not_lt.2 h]
theorem Ord.top_lt {N : List Nd} {n : Int} (h : Ord N n) {k : Int} (h2 : 2 ≤ k) (hk : qaH N k) : qav N k < n := by
 rw [qaO h2]; exact h.var _ (qd4 h2 hk.2)
theorem Ord.const {N : List Nd} {n : Int} (h : Ord N n) {k : Int} (hk : qaH N k) (ht : n ≤ qav N k) : k = 0 ∨ k = 1 := by
 rcases Int.lt_or_le k 2 with h2 | h2
 · have := hk.1; omega
 · have := h.top_lt h2 hk; omega
theorem Ord.low {N : List Nd} {n : Int} (h : Ord N n) {k : Int} (h2 : 2 ≤ k) (hk : qaH N k) :
 qaH N (qao N k).2.1 ∧ qaH N (qao N k).2.2 ∧ qav N k < qav N (qao N k).2.1 ∧ qav N k < qav N (qao N k).2.2 ∧ (qao N k).2.1 ≠ (qao N k).2.2 := by
 have hv := qa7 h.val h2 hk.2
 have hm := qd4 h2 hk.2
 rw [qaO h2]
 exact ⟨hv.2.2.1, hv.2.2.2.1, (h.ord _ hm).1, (h.ord _ hm).2, h.red _ hm⟩
theorem qbj {N : List Nd} {k v : Int} {b : Bool} (h : v < qav N k) : qaV N k v b = k := by
 unfold qaV; rw [if_pos (by omega)]
theorem qaX {N : List Nd} {k v : Int} (h : qav N k = v) : qaV N k v false = (qao N k).2.1 := by
 unfold qaV; simp [h]
theorem qaQ {N : List Nd} {k v : Int} (h : qav N k = v) : qaV N k v true = (qao N k).2.2 := by
 unfold qaV; simp [h]
theorem Ord.part {N : List Nd} {n : Int} (h : Ord N n) {k v : Int} (b : Bool) (hk : qaH N k) (hv : v ≤ qav N k) (hn : v < n) : qaH N (qaV N k v b) ∧ v + 1 ≤ qav N (qaV N k v b) := by
 by_cases ht : qav N k = v
 · have h2 : 2 ≤ k := by
     rcases Int.lt_or_le k 2 with h' | h'
     · rw [qaM h'] at ht; have := h.n40; omega
     · exact h'
   have := h.low h2 hk
   cases b
   · rw [qaX ht]; exact ⟨this.1, by omega⟩
   · rw [qaQ ht]; exact ⟨this.2.1, by omega⟩
 · rw [qbj (by omega)]; exact ⟨hk, by omega⟩
theorem qbh {N : List Nd} {d : Nat} {v k : Int} (h : v < qav N k) : tab N (d + 1) v k = tab N d (v + 1) k ++ tab N d (v + 1) k := by
 rw [tab, qbj h, qbj h]
theorem qjb {N : List Nd} {n : Int} (h : Ord N n) : ∀ (d : Nat) (v j k : Int), v + d = n → qaH N j → qaH N k → v ≤ qav N j → v ≤ qav N k → tab N d v j = tab N d v k → j = k := by
 intro d
 induction d with
 | zero =>
  intro v j k hv hj hk tj tk he
  have a := h.const hj (by omega)
  have b := h.const hk (by omega)
  simp [tab] at he
  omega
 | succ d ih =>
  intro v j k hv hj hk tj tk he
  have hn : v < n := by omega
  rw [tab, tab] at he
  obtain ⟨e1, e2⟩ := List.append_inj he (by simp [qax])
  have j0 := h.part false hj tj hn
  have j1 := h.part true hj tj hn
  have k0 := h.part false hk tk hn
  have k1 := h.part true hk tk hn
  have e1 := ih (v + 1) _ _ (by omega) j0.1 k0.1 j0.2 k0.2 e1
  have e2 := ih (v + 1) _ _ (by omega) j1.1 k1.1 j1.2 k1.2 e2
  have two : ∀ i, qaH N i → qav N i = v → 2 ≤ i := by
   intro i hi ht
   rcases Int.lt_or_le i 2 with h' | h'
   · rw [qaM h'] at ht; have := h.n40; omega
   · exact h'
  by_cases hj' : qav N j = v
  · by_cases hk' : qav N k = v
    · rw [qaX hj', qaX hk'] at e1
      rw [qaQ hj', qaQ hk'] at e2
      have a2 := two j hj hj'
      have b2 := two k hk hk'
      have t1 := qaO (N := N) a2
      have t2 := qaO (N := N) b2
      have en : qao N j = qao N k := Prod.ext (by omega) (Prod.ext e1 e2)
      have la : (j - 2).toNat < N.length := by have := hj.2; omega
      have lb : (k - 2).toNat < N.length := by have := hk.2; omega
      have en' : N[(j - 2).toNat] = N[(k - 2).toNat] := by simpa [qao, la, lb] using en
      have := qfG h.nodup la lb en'
      omega
    · rw [qaX hj', qbj (by omega)] at e1
      rw [qaQ hj', qbj (by omega)] at e2
      exact absurd (e1.trans e2.symm) (h.low (two j hj hj') hj).2.2.2.2
  · by_cases hk' : qav N k = v
    · rw [qaX hk', qbj (by omega)] at e1
      rw [qaQ hk', qbj (by omega)] at e2
      exact absurd (e1.symm.trans e2) (h.low (two k hk hk') hk).2.2.2.2
    · rw [qbj (by omega), qbj (by omega)] at e1
      exact e1
theorem qhX {N N' : List Nd} (h : N <+: N') {k : Int} (h2 : 2 ≤ k) (hk : qaH N k) : qao N' k = qao N k := by
 obtain ⟨M, rfl⟩ := h
 have hlt : (k - 2).toNat < N.length := by have := hk.2; omega
 simp [qao, List.getElem?_append, hlt]
theorem qaF {N N' : List Nd} (h : N <+: N') {k : Int} (hk : qaH N k) : qav N' k = qav N k := by
 rcases Int.lt_or_le k 2 with h2 | h2
 · rw [qaM h2, qaM h2]
 · rw [qaO h2, qaO h2, qhX h h2 hk]
theorem qaH.ext {N N' : List Nd} {k : Int} (hk : qaH N k) (h : N <+: N') : qaH N' k := hk.mono h.length_le
theorem qc9 {N N' : List Nd} (h : N <+: N') {k v : Int} {b : Bool} (hv : v < 40) (hk : qaH N k) : qaV N' k v b = qaV N k v b := by
 unfold qaV
 rw [qaF h hk]
 rcases Int.lt_or_le k 2 with h2 | h2
 · rw [qaM h2, if_pos (by omega), if_pos (by omega)]
 · rw [qhX h h2 hk]
theorem qbc {N N' : List Nd} {n : Int} (hN : Ord N n) (h : N <+: N') : ∀ (d : Nat) (v k : Int), v + d = n → qaH N k → v ≤ qav N k → tab N' d v k = tab N d v k := by
 intro d
 induction d with
 | zero => intro v k _ _ _; rfl
 | succ d ih =>
  intro v k hv hk ht
  have hn : v < n := by omega
  have h40 : v < 40 := by have := hN.n40; omega
  have p0 := hN.part false hk ht hn
  have p1 := hN.part true hk ht hn
  rw [tab, tab, qc9 h h40 hk, qc9 h h40 hk, ih _ _ (by omega) p0.1 p0.2, ih _ _ (by omega) p1.1 p1.2]
theorem qcO : ∀ (N : List Nd) (x : Nd) (c : Int), 0 < c → qaq N x c = 0 → x ∉ N
 | [], _, _, _, _ => by simp
 | y :: N, x, c, hc, h => by
  unfold qaq at h
  split at h
  · omega
  · rename_i hne
    have := qcO N x (c + 1) (by omega) h
    simp only [List.mem_cons, not_or]
    exact ⟨fun e => hne e.symm, this⟩
theorem qda : ∀ (N : List Nd) (x : Nd) (c : Int), 0 < c → qaq N x c ≠ 0 → N[(qaq N x c - c).toNat]? = some x
 | [], _, _, _, h => by simp [qaq] at h
 | y :: N, x, c, hc, h => by
  unfold qaq at h ⊢
  split
  · rename_i e
    simp [e]
  · rename_i hne
    rw [if_neg hne] at h
    have hg := qda N x (c + 1) (by omega) h
    have hr := (qbt N x (c + 1) (by omega)).resolve_left h
    rw [show (qaq N x (c + 1) - c).toNat = (qaq N x (c + 1) - (c + 1)).toNat + 1 by omega]
    simpa using hg
theorem qgG {N : List Nd} {x : Nd} (h : qaq N x 2 ≠ 0) : qao N (qaq N x 2) = x := by
 have := qda N x 2 (by omega) h
 simp [qao, List.getD, this]
theorem qmk {N : List Nd} {n : Int} (h : Ord N n) {k : Int} (h2 : 2 ≤ k) (hk : qaH N k) : qaq N (qao N k) 2 = k := by
 have hm := qd4 h2 hk.2
 have h0 : qaq N (qao N k) 2 ≠ 0 := fun e => qcO N _ 2 (by omega) e hm
 have hg := qda N _ 2 (by omega) h0
 have hr := (qbt N (qao N k) 2 (by omega)).resolve_left h0
 have la : (k - 2).toNat < N.length := by have := hk.2; omega
 have lb : (qaq N (qao N k) 2 - 2).toNat < N.length := by omega
 rw [List.getElem?_eq_getElem lb] at hg
 have en : N[(qaq N (qao N k) 2 - 2).toNat] = N[(k - 2).toNat] := by
  rw [Option.some.inj hg]; simp [qao, la]
 have := qfG h.nodup lb la en
 omega
theorem qcl (N : List Nd) (x : Nd) : N <+: (qa2 N x).1 := by
 unfold qa2; split
 · exact List.prefix_refl _
 · split
   · exact List.prefix_append _ _
   · exact List.prefix_refl _
theorem qfH {N : List Nd} {n : Int} (h : Ord N n) {v l r : Int} (hv : 0 ≤ v ∧ v < n) (hl : qaH N l) (hr : qaH N r) (tl : v < qav N l) (tr : v < qav N r) :
 Ord (qa2 N (v, l, r)).1 n ∧ qaH (qa2 N (v, l, r)).1 (qa2 N (v, l, r)).2 ∧ v ≤ qav (qa2 N (v, l, r)).1 (qa2 N (v, l, r)).2 ∧
 (l ≠ r → qav (qa2 N (v, l, r)).1 (qa2 N (v, l, r)).2 = v) ∧
 ∀ d : Nat, v + 1 + d = n → tab (qa2 N (v, l, r)).1 (d + 1) v (qa2 N (v, l, r)).2 = tab N d (v + 1) l ++ tab N d (v + 1) r := by
 have h40 := h.n40
 have hval := qdu h.val (v := v) (l := l) (h := r) ⟨hv.1, by omega⟩ hl hr
 have hpre := qcl N (v, l, r)
 unfold qa2 at hval hpre ⊢
 by_cases e : l = r
 · subst e
   simp only [if_true]
   exact ⟨h, hl, by omega, fun c => absurd rfl c, fun d hd => qbh tl⟩
 · simp only [if_neg e] at hval hpre ⊢
   by_cases h0 : qaq N (v, l, r) 2 = 0
   · simp only [if_pos h0] at hval hpre ⊢
     have hnm := qcO N _ 2 (by omega) h0
     have nd : qao (N ++ [(v, l, r)]) ((N.length : Int) + 2) = (v, l, r) := by simp [qao]
     have tp : qav (N ++ [(v, l, r)]) ((N.length : Int) + 2) = v := by rw [qaO (by omega), nd]
     have ho : Ord (N ++ [(v, l, r)]) n := by
      refine ⟨h40, hval.1, fun x hx => ?_, fun x hx => ?_, fun x hx => ?_, ?_⟩
      · rcases List.mem_append.1 hx with hx | hx
        · exact h.var x hx
        · rw [List.mem_singleton.1 hx]; exact hv.2
      · rcases List.mem_append.1 hx with hx | hx
        · exact h.red x hx
        · rw [List.mem_singleton.1 hx]; exact e
      · rcases List.mem_append.1 hx with hx | hx
        · obtain ⟨i, hi, rfl⟩ := List.mem_iff_getElem.1 hx
          have hvi := h.val i N[i] (List.getElem?_eq_getElem hi)
          rw [qaF hpre ⟨hvi.2.2.1, by omega⟩, qaF hpre ⟨hvi.2.2.2.2.1, by omega⟩]
          exact h.ord _ hx
        · rw [List.mem_singleton.1 hx]
          rw [qaF hpre hl, qaF hpre hr]
          exact ⟨tl, tr⟩
      · rw [List.nodup_append]
        refine ⟨h.nodup, by simp, fun a ha b hb => ?_⟩
        rw [List.mem_singleton.1 hb]
        rintro rfl
        exact hnm ha
     refine ⟨ho, hval.2, by rw [tp]; omega, fun _ => tp, fun d hd => ?_⟩
     rw [tab, qaX tp, qaQ tp, nd]
     rw [qbc h hpre d _ _ (by omega) hl (by omega), qbc h hpre d _ _ (by omega) hr (by omega)]
   · simp only [if_neg h0] at hval hpre ⊢
     have h2 := (qbt N (v, l, r) 2 (by omega)).resolve_left h0
     have nd := qgG h0
     have tp : qav N (qaq N (v, l, r) 2) = v := by rw [qaO h2.1, nd]
     refine ⟨h, hval.2, by omega, fun _ => tp, fun d hd => ?_⟩
     rw [tab, qaX tp, qaQ tp, nd]
theorem Ord.nil {n : Int} (h : n ≤ 40) : Ord [] n := ⟨h, fun i x hx => by simp at hx, by simp, by simp, by simp, by simp⟩
theorem qhY {n : Int} : ∀ (d : Nat) (N : List Nd) (v : Int) (t : List Bool), Ord N n → v + d = n → 0 ≤ v →
 Ord (qal d N v t).1 n ∧ N <+: (qal d N v t).1 ∧ qaH (qal d N v t).1 (qal d N v t).2 ∧ v ≤ qav (qal d N v t).1 (qal d N v t).2 ∧
 (t.length = 2 ^ d → tab (qal d N v t).1 d v (qal d N v t).2 = t) := by
 intro d
 induction d with
 | zero =>
  intro N v t hN hv h0
  have h40 := hN.n40
  simp only [qal]
  refine ⟨hN, List.prefix_refl _, ?_, ?_, fun hl => ?_⟩
  · split <;> exact ⟨by omega, by omega⟩
  · split <;> rw [qaM (by omega)] <;> omega
  · match t, hl with
    | [b], _ => cases b <;> simp [tab]
 | succ d ih =>
  intro N v t hN hv h0
  obtain ⟨a1, a2, a3, a4, a5⟩ := ih N (v + 1) (t.take (t.length / 2)) hN (by omega) (by omega)
  obtain ⟨b1, b2, b3, b4, b5⟩ := ih (qal d N (v + 1) (t.take (t.length / 2))).1 (v + 1) (t.drop (t.length / 2)) a1 (by omega) (by omega)
  obtain ⟨c1, c2, c3, _, c5⟩ := qfH b1 (v := v) ⟨h0, by omega⟩ (a3.ext b2) b3 (by rw [qaF b2 a3]; omega) (by omega)
  rw [qal]
  refine ⟨c1, a2.trans (b2.trans (qcl _ _)), c2, c3, fun hl => ?_⟩
  have hh : t.length / 2 = 2 ^ d := by rw [hl]; omega
  rw [c5 d (by omega), qbc a1 b2 d _ _ (by omega) a3 (by omega), a5 (by simp; omega), b5 (by simp; omega), List.take_append_drop]
theorem qdN {α : Type} (a b : List α) (h : a.length = b.length) : (a ++ b).take ((a ++ b).length / 2) = a ∧ (a ++ b).drop ((a ++ b).length / 2) = b := by
 have e : (a ++ b).length / 2 = a.length := by simp; omega
 rw [e]; simp
theorem qcm {n : Int} {N : List Nd} (hN : Ord N n) : ∀ (d : Nat) (v k : Int), v + d = n → 0 ≤ v → qaH N k → v ≤ qav N k → qal d N v (tab N d v k) = (N, k) := by
 intro d
 induction d with
 | zero =>
  intro v k hv h0 hk ht
  rcases hN.const hk (by omega) with rfl | rfl <;> simp [qal, tab]
 | succ d ih =>
  intro v k hv h0 hk ht
  have p0 := hN.part false hk ht (by omega)
  have p1 := hN.part true hk ht (by omega)
  obtain ⟨e1, e2⟩ := qdN (tab N d (v + 1) (qaV N k v false)) (tab N d (v + 1) (qaV N k v true)) (by simp [qax])
  rw [qal, tab, e1, e2, ih _ _ (by omega) (by omega) p0.1 p0.2]
  simp only
  rw [ih _ _ (by omega) (by omega) p1.1 p1.2]
  simp only
  by_cases hv' : qav N k = v
  · have h2 : 2 ≤ k := by
      rcases Int.lt_or_le k 2 with h' | h'
      · rw [qaM h'] at hv'; have := hN.n40; omega
      · exact h'
    have hne := (hN.low h2 hk).2.2.2.2
    rw [qaX hv', qaQ hv']
    have en : (v, (qao N k).2.1, (qao N k).2.2) = qao N k := by rw [← hv', qaO h2]
    unfold qa2
    rw [en, qmk hN h2 hk, if_neg hne, if_neg (by omega)]
  · rw [qbj (by omega), qbj (by omega)]
    simp [qa2]
structure Coh (N : List Nd) (n : Int) (s : Vs) : Prop where
 ord : Ord s.1 n
 m0 : qa0 s.2 0 = some 0
 m1 : qa0 s.2 1 = some 1
 img : ∀ k j, qa0 s.2 k = some j → qaH N k ∧ qaH s.1 j ∧ qav s.1 j = qav N k ∧ ∀ (d : Nat) (v : Int), v + d = n → 0 ≤ v → v ≤ qav N k → tab s.1 d v j = tab N d v k
 onto : ∀ j, 2 ≤ j → qaH s.1 j → ∃ k, qa0 s.2 k = some j
theorem qcP (N : List Nd) (d : Nat) : ∀ v, v + (d : Int) ≤ 40 → tab N d v 0 = List.replicate (2 ^ d) false := by
 induction d with
 | zero => intro v _; rfl
 | succ d ih =>
  intro v h
  rw [qbh (by rw [qaM (by omega)]; omega), ih _ (by omega), List.replicate_append_replicate]
  congr 1; omega
theorem qdb (N : List Nd) (d : Nat) : ∀ v, v + (d : Int) ≤ 40 → tab N d v 1 = List.replicate (2 ^ d) true := by
 induction d with
 | zero => intro v _; rfl
 | succ d ih =>
  intro v h
  rw [qbh (by rw [qaM (by omega)]; omega), ih _ (by omega), List.replicate_append_replicate]
  congr 1; omega
theorem qke {N N' : List Nd} {j k : Int} (ht : qav N' j = qav N k) (d0 : Nat) (v0 : Int) (h0 : v0 ≤ qav N k) (he : tab N' d0 v0 j = tab N d0 v0 k) :
 ∀ (i : Nat), tab N' (d0 + i) (v0 - i) j = tab N (d0 + i) (v0 - i) k := by
 intro i
 induction i with
 | zero => simpa using he
 | succ i ih =>
  have e : v0 - (i + 1 : Nat) + 1 = v0 - i := by omega
  rw [← Nat.add_assoc, qbh (by omega), qbh (by omega), e, ih]
theorem qml {N : List Nd} {n : Int} (h : n ≤ 40) : Coh N n ([], [(0, 0), (1, 1)]) := by
 refine ⟨Ord.nil h, rfl, rfl, fun k j hk => ?_, fun j h2 hj => ?_⟩
 · simp only [qa0] at hk
   split at hk
   · rename_i e; subst e; cases hk
     exact ⟨⟨by omega, by omega⟩, ⟨by omega, by simp⟩, by rw [qaM (by omega), qaM (by omega)], fun d v hv _ _ => by rw [qcP _ _ _ (by omega), qcP _ _ _ (by omega)]⟩
   · split at hk
     · rename_i e; subst e; cases hk
       exact ⟨⟨by omega, by omega⟩, ⟨by omega, by simp⟩, by rw [qaM (by omega), qaM (by omega)], fun d v hv _ _ => by rw [qdb _ _ _ (by omega), qdb _ _ _ (by omega)]⟩
     · cases hk
 · have := hj.2; simp at this; omega
theorem qjc {N : List Nd} {n : Int} (hN : Ord N n) : ∀ (d : Nat) (v k : Int) (s : Vs) (fuel : Nat), Coh N n s → qaH N k → v ≤ qav N k → v + d = n → 0 ≤ v → d < fuel →
 ∃ s' j, qaW N fuel s k = some (s', j) ∧ qal d s.1 v (tab N d v k) = (s'.1, j) ∧ Coh N n s' ∧ qa0 s'.2 k = some j ∧ s.1 <+: s'.1 ∧ (∀ i j, qa0 s.2 i = some j → qa0 s'.2 i = some j) ∧
  (∀ i j, qa0 s'.2 i = some j → qa0 s.2 i = some j ∨ v ≤ qav N i) := by
 intro d
 induction d with
 | zero =>
  intro v k s fuel hs hk ht hv h0 hf
  obtain ⟨fuel, rfl⟩ : ∃ f, fuel = f + 1 := ⟨fuel - 1, by omega⟩
  rcases hN.const hk (by omega) with rfl | rfl
  · exact ⟨s, 0, by simp [qaW, hs.m0], by simp [qal, tab], hs, hs.m0, List.prefix_refl _, fun _ _ h => h, fun _ _ h => .inl h⟩
  · exact ⟨s, 1, by simp [qaW, hs.m1], by simp [qal, tab], hs, hs.m1, List.prefix_refl _, fun _ _ h => h, fun _ _ h => .inl h⟩
 | succ d ih =>
  intro v k s fuel hs hk ht hv h0 hf
  cases hm : qa0 s.2 k with
  | some j =>
   obtain ⟨fuel, rfl⟩ : ∃ f, fuel = f + 1 := ⟨fuel - 1, by omega⟩
   obtain ⟨_, i2, i3, i4⟩ := hs.img k j hm
   refine ⟨s, j, by simp [qaW, hm], ?_, hs, hm, List.prefix_refl _, fun _ _ h => h, fun _ _ h => .inl h⟩
   rw [← i4 (d + 1) v (by omega) h0 ht]
   exact qcm hs.ord _ _ _ (by omega) h0 i2 (by omega)
  | none =>
   have h2 : 2 ≤ k := by
    rcases Int.lt_or_le k 2 with h' | h'
    · have : k = 0 ∨ k = 1 := by have := hk.1; omega
      rcases this with rfl | rfl
      · rw [hs.m0] at hm; cases hm
      · rw [hs.m1] at hm; cases hm
    · exact h'
   by_cases hv' : qav N k = v
   · obtain ⟨fuel, rfl⟩ : ∃ f, fuel = f + 1 := ⟨fuel - 1, by omega⟩
     obtain ⟨l1, l2, l3, l4, l5⟩ := hN.low h2 hk
     obtain ⟨s1, lo, a1, a2, a3, a4, a5, a6, a7⟩ := ih (v + 1) (qao N k).2.1 s fuel hs l1 (by omega) (by omega) (by omega) (by omega)
     obtain ⟨s2, hi, b1, b2, b3, b4, b5, b6, b7⟩ := ih (v + 1) (qao N k).2.2 s1 fuel a3 l2 (by omega) (by omega) (by omega) (by omega)
     have lo' := b6 _ _ a4
     obtain ⟨_, p2, p3, p4⟩ := b3.img _ _ lo'
     obtain ⟨_, q2, q3, q4⟩ := b3.img _ _ b4
     have hne : lo ≠ hi := by
      rintro rfl
      refine l5 (qjb hN d (v + 1) _ _ (by omega) l1 l2 (by omega) (by omega) ?_)
      rw [← p4 d (v + 1) (by omega) (by omega) (by omega), q4 d (v + 1) (by omega) (by omega) (by omega)]
     -- the node is new
     have hv1 := qa7 hN.val h2 hk.2
     have e1 : (qao N k).1 = v := by rw [← qaO h2]; exact hv'
     have hnew : qaq s2.1 (v, lo, hi) 2 = 0 := by
      by_cases hc : qaq s2.1 (v, lo, hi) 2 = 0
      · exact hc
      exfalso
      have hr := (qbt s2.1 (v, lo, hi) 2 (by omega)).resolve_left hc
      have nd := qgG hc
      have vj : qaH s2.1 (qaq s2.1 (v, lo, hi) 2) := ⟨by omega, by omega⟩
      obtain ⟨k', hk'⟩ := b3.onto _ hr.1 vj
      obtain ⟨r1, r2, r3, r4⟩ := b3.img _ _ hk'
      have tp : qav s2.1 (qaq s2.1 (v, lo, hi) 2) = v := by rw [qaO hr.1, nd]
      have hkk : k' = k := by
       refine qjb hN (d + 1) v _ _ (by omega) r1 hk (by omega) (by omega) ?_
       rw [← r4 (d + 1) v (by omega) h0 (by omega), tab, tab, qaX tp, qaQ tp, nd, qaX hv', qaQ hv']
       rw [p4 d (v + 1) (by omega) (by omega) (by omega), q4 d (v + 1) (by omega) (by omega) (by omega)]
      subst hkk
      rcases b7 _ _ hk' with h' | h'
      · rcases a7 _ _ h' with h'' | h''
        · rw [hm] at h''; cases h''
        · omega
      · omega
     obtain ⟨c1, c2, c3, c4, c5⟩ := qfH b3.ord (v := v) (l := lo) (r := hi) ⟨h0, by omega⟩ p2 q2 (by omega) (by omega)
     have en : qa2 s2.1 (v, lo, hi) = (s2.1 ++ [(v, lo, hi)], (s2.1.length : Int) + 2) := by simp [qa2, hne, hnew]
     rw [en] at c1 c2 c3 c4 c5
     simp only at c1 c2 c3 c4 c5
     have tp := c4 hne
     have hpre : s2.1 <+: s2.1 ++ [(v, lo, hi)] := List.prefix_append _ _
     refine ⟨(s2.1 ++ [(v, lo, hi)], qbW s2.2 k (s2.1.length + 2)), s2.1.length + 2, ?_, ?_, ⟨c1, ?_, ?_, ?_, ?_⟩, ?_, a5.trans (b5.trans hpre), ?_, ?_⟩
     · simp [qaW, hm, a1, b1, e1]
     · obtain ⟨f1, f2⟩ := qdN (tab N d (v + 1) (qao N k).2.1) (tab N d (v + 1) (qao N k).2.2) (by simp [qax])
       rw [qal, tab, qaX hv', qaQ hv', f1, f2, a2]
       simp only
       rw [b2]
       simp only
       exact en
     · simp only [qbn]; rw [if_neg (by omega)]; exact b3.m0
     · simp only [qbn]; rw [if_neg (by omega)]; exact b3.m1
     · intro k1 j1 h1
       simp only [qbn] at h1
       split at h1
       · rename_i e; subst e; cases h1
         refine ⟨hk, c2, by simp only; omega, fun d' v' hd' hv0 ht' => ?_⟩
         have base := c5 d (by omega)
         have base' : tab (s2.1 ++ [(v, lo, hi)]) (d + 1) v (s2.1.length + 2) = tab N (d + 1) v k1 := by
          rw [base, tab, qaX hv', qaQ hv', p4 d (v + 1) (by omega) (by omega) (by omega), q4 d (v + 1) (by omega) (by omega) (by omega)]
         have := qke (N := N) (N' := s2.1 ++ [(v, lo, hi)]) (j := s2.1.length + 2) (k := k1) (by omega) (d + 1) v (by omega) base' (v - v').toNat
         rw [show d + 1 + (v - v').toNat = d' by omega, show v - ((v - v').toNat : Int) = v' by omega] at this
         exact this
       · obtain ⟨g1, g2, g3, g4⟩ := b3.img _ _ h1
         refine ⟨g1, g2.ext hpre, by rw [qaF hpre g2, g3], fun d' v' hd' hv0 ht' => ?_⟩
         rw [qbc b3.ord hpre d' v' _ (by omega) g2 (by omega)]
         exact g4 d' v' hd' hv0 ht'
     · intro j h2j hj
       simp only [qbn]
       by_cases e : j = s2.1.length + 2
       · exact ⟨k, by simp [e]⟩
       · have hj' : qaH s2.1 j := ⟨hj.1, by have := hj.2; simp at this; omega⟩
         obtain ⟨k1, hk1⟩ := b3.onto j h2j hj'
         refine ⟨k1, ?_⟩
         rw [if_neg]
         · exact hk1
         · rintro rfl
           rcases b7 _ _ hk1 with h' | h'
           · rcases a7 _ _ h' with h'' | h''
             · rw [hm] at h''; cases h''
             · omega
           · omega
     · simp only [qbn]; simp
     · intro i j hi'
       simp only [qbn]
       rw [if_neg]
       · exact b6 _ _ (a6 _ _ hi')
       · rintro rfl; rw [hm] at hi'; cases hi'
     · intro i j hi'
       simp only [qbn] at hi'
       split at hi'
       · rename_i e; subst e; exact .inr (by omega)
       · rcases b7 _ _ hi' with h' | h'
         · exact (a7 _ _ h').imp id (fun h => by omega)
         · exact .inr (by omega)
   · obtain ⟨s1, j, a1, a2, a3, a4, a5, a6, a7⟩ := ih (v + 1) k s fuel hs hk (by omega) (by omega) (by omega) (by omega)
     refine ⟨s1, j, a1, ?_, a3, a4, a5, a6, fun i j h => (a7 i j h).imp id (fun h => by omega)⟩
     obtain ⟨_, i2, i3, i4⟩ := a3.img _ _ a4
     rw [qbh (by omega), qal]
     obtain ⟨e1, e2⟩ := qdN (tab N d (v + 1) k) (tab N d (v + 1) k) rfl
     rw [e1, e2, a2]
     simp only
     rw [← i4 d (v + 1) (by omega) (by omega) (by omega), qcm a3.ord _ _ _ (by omega) (by omega) i2 (by omega)]
     simp [qa2]
theorem qb7 {N : List Nd} {n : Nat} {k : Int} (hN : Ord N n) (hk : qaH N k) : ∃ s', qaW N (n + 1) ([], [(0, 0), (1, 1)]) k = some (s', (qal n [] 0 (tab N n 0 k)).2) ∧ s'.1 = (qal n [] 0 (tab N n 0 k)).1 := by
 have ht := qaE hN.val hk
 obtain ⟨s', j, h1, h2, _⟩ := qjc hN n 0 k ([], [(0, 0), (1, 1)]) (n + 1) (qml hN.n40) hk ht.1 (by omega) (by omega) (by omega)
 simp only at h2
 exact ⟨s', by rw [h1, h2], by rw [h2]⟩
theorem qoD (L : List Nd) (x : Nd) (s : List Nd × List Int) : qa5 (L ++ [x]) s = ((qa2 (qa5 L s).1 (x.1, (qa5 L s).2[x.2.1.toNat]?.getD 0, (qa5 L s).2[x.2.2.toNat]?.getD 0)).1, (qa5 L s).2 ++ [(qa2 (qa5 L s).1 (x.1, (qa5 L s).2[x.2.1.toNat]?.getD 0, (qa5 L s).2[x.2.2.toNat]?.getD 0)).2]) := by
 induction L generalizing s with
 | nil => rfl
 | cons y L ih => simp only [List.cons_append, qa5]; exact ih _
structure qoE (L N : List Nd) (n : Int) (k : Nat) (nums : List Int) : Prop where
 len : nums.length = k + 2
 num : ∀ i, i < k + 2 → qaH N (nums[i]?.getD 0) ∧ qav N (nums[i]?.getD 0) = qav L i ∧ ∀ (d : Nat) (v : Int), v + d = n → v ≤ qav L i → tab N d v (nums[i]?.getD 0) = tab L d v i
theorem qoE.mono {L N N' : List Nd} {n : Int} {k : Nat} {nums : List Int} (h : qoE L N n k nums) (hN : Ord N n) (hp : N <+: N') : qoE L N' n k nums :=
 ⟨h.len, fun i hi => by
  obtain ⟨a, b, c⟩ := h.num i hi
  exact ⟨a.ext hp, by rw [qaF hp a, b], fun d v hd hv => by rw [qbc hN hp d v _ hd a (by omega), c d v hd hv]⟩⟩
theorem add_ord {L N : List Nd} {n : Int} (hL : Ord L n) (hN : Ord N n) : ∀ k, k ≤ L.length →
 Ord (qa5 (L.take k) (N, [0, 1])).1 n ∧ N <+: (qa5 (L.take k) (N, [0, 1])).1 ∧ qoE L (qa5 (L.take k) (N, [0, 1])).1 n k (qa5 (L.take k) (N, [0, 1])).2 := by
 intro k
 have h40 := hN.n40
 induction k with
 | zero =>
  intro _
  refine ⟨hN, List.prefix_refl _, rfl, fun i hi => ?_⟩
  have : i = 0 ∨ i = 1 := by omega
  rcases this with rfl | rfl
  · exact ⟨⟨by simp [qa5], by simp [qa5]; omega⟩, by simp [qa5, qav], fun d v hd _ => by simp only [List.take_zero, qa5, List.getElem?_cons_zero, Option.getD_some]; rw [qcP _ _ _ (by omega)]; exact (qcP _ _ _ (by omega)).symm⟩
  · exact ⟨⟨by simp [qa5], by simp [qa5]; omega⟩, by simp [qa5, qav], fun d v hd _ => by simp only [List.take_zero, qa5, List.getElem?_cons_zero, List.getElem?_cons_succ, Option.getD_some]; rw [qdb _ _ _ (by omega)]; exact (qdb _ _ _ (by omega)).symm⟩
 | succ k ih =>
  intro hk
  obtain ⟨i1, i2, i3⟩ := ih (by omega)
  rw [List.take_succ_eq_append_getElem (by omega), qoD]
  generalize qa5 (L.take k) (N, [0, 1]) = S at *
  obtain ⟨N1, nums⟩ := S
  simp only at *
  obtain ⟨x, hx⟩ : ∃ x, x = L[k] := ⟨_, rfl⟩
  rw [← hx]
  have hxm : x ∈ L := hx ▸ List.getElem_mem _
  have hval := hL.val k x (by rw [hx]; exact List.getElem?_eq_getElem _)
  have hvar := hL.var x hxm
  have hred := hL.red x hxm
  have hord := hL.ord x hxm
  have nd : qao L ((k : Int) + 2) = x := by
   have e : ((k : Int) + 2 - 2).toNat = k := by omega
   unfold qao
   rw [e, List.getD_eq_getElem?_getD, List.getElem?_eq_getElem (by omega), hx]; rfl
  have vl : qaH L x.2.1 := ⟨hval.2.2.1, by omega⟩
  have vh : qaH L x.2.2 := ⟨hval.2.2.2.2.1, by omega⟩
  obtain ⟨a1, a2, a3⟩ := i3.num x.2.1.toNat (by omega)
  obtain ⟨b1, b2, b3⟩ := i3.num x.2.2.toNat (by omega)
  rw [show ((x.2.1.toNat : Nat) : Int) = x.2.1 by omega] at a2 a3
  rw [show ((x.2.2.toNat : Nat) : Int) = x.2.2 by omega] at b2 b3
  generalize hlo : nums[x.2.1.toNat]?.getD 0 = lo at *
  generalize hhi : nums[x.2.2.toNat]?.getD 0 = hi at *
  obtain ⟨d0, hd0⟩ : ∃ d0 : Nat, x.1 + 1 + d0 = n := ⟨(n - x.1 - 1).toNat, by omega⟩
  have hne : lo ≠ hi := by
   rintro rfl
   refine hred (qjb hL d0 (x.1 + 1) _ _ hd0 vl vh (by omega) (by omega) ?_)
   rw [← a3 d0 _ hd0 (by omega), b3 d0 _ hd0 (by omega)]
  obtain ⟨c1, c2, c3, c4, c5⟩ := qfH i1 (v := x.1) (l := lo) (r := hi) ⟨hval.1, hvar⟩ a1 b1 (by omega) (by omega)
  have hp := qcl N1 (x.1, lo, hi)
  have i3' := i3.mono i1 hp
  refine ⟨c1, i2.trans hp, by simp [i3.len], fun i hi' => ?_⟩
  by_cases hik : i < k + 2
  · rw [List.getElem?_append_left (by have := i3.len; omega)]
    exact i3'.num i hik
  · have : i = k + 2 := by omega
    subst this
    have hg : (nums ++ [(qa2 N1 (x.1, lo, hi)).2])[k + 2]?.getD 0 = (qa2 N1 (x.1, lo, hi)).2 := by
     rw [List.getElem?_append_right (by have := i3.len; omega)]
     have : k + 2 - nums.length = 0 := by have := i3.len; omega
     simp [this]
    rw [hg]
    have tx : qav L (((k + 2 : Nat) : Int)) = x.1 := by
     rw [qaO (by omega)]; rw [show (((k + 2 : Nat) : Int)) = (k : Int) + 2 by omega, nd]
    refine ⟨c2, by rw [tx]; exact c4 hne, fun d v hd hv => ?_⟩
    have base := c5 d0 (by omega)
    have base' : tab (qa2 N1 (x.1, lo, hi)).1 (d0 + 1) x.1 (qa2 N1 (x.1, lo, hi)).2 = tab L (d0 + 1) x.1 ((k : Int) + 2) := by
     have tx' : qav L ((k : Int) + 2) = x.1 := by rw [← tx]; congr 1
     rw [base, tab, qaX tx', qaQ tx', nd, a3 d0 _ (by omega) (by omega), b3 d0 _ (by omega) (by omega)]
    rw [tx] at hv
    have := qke (N := L) (N' := (qa2 N1 (x.1, lo, hi)).1) (j := (qa2 N1 (x.1, lo, hi)).2) (k := (k : Int) + 2) (by rw [c4 hne, ← tx]; congr 1) (d0 + 1) x.1 (by rw [← tx]; apply Int.le_of_eq; congr 1) base' (x.1 - v).toNat
    rw [show d0 + 1 + (x.1 - v).toNat = d by omega, show x.1 - ((x.1 - v).toNat : Int) = v by omega] at this
    exact this
theorem qg3 {L N : List Nd} {n : Int} (hL : Ord L n) (hN : Ord N n) {r : Int} (hr : qaH L r) :
 Ord (qa5 L (N, [0, 1])).1 n ∧ N <+: (qa5 L (N, [0, 1])).1 ∧ qaH (qa5 L (N, [0, 1])).1 ((qa5 L (N, [0, 1])).2.getD r.toNat 0) ∧ qav (qa5 L (N, [0, 1])).1 ((qa5 L (N, [0, 1])).2.getD r.toNat 0) = qav L r ∧
 ∀ (d : Nat) (v : Int), v + d = n → v ≤ qav L r → tab (qa5 L (N, [0, 1])).1 d v ((qa5 L (N, [0, 1])).2.getD r.toNat 0) = tab L d v r := by
 obtain ⟨a, b, c⟩ := add_ord hL hN L.length (Nat.le_refl _)
 rw [List.take_length] at a b c
 have := c.num r.toNat (by have := hr.1; have := hr.2; omega)
 rw [show ((r.toNat : Nat) : Int) = r by have := hr.1; omega] at this
 simp only [List.getD_eq_getElem?_getD]
 exact ⟨a, b, this.1, this.2.1, this.2.2⟩
def qbE : List Bool → List Bool → List Bool → List Bool
 | a :: f, b :: g, c :: h => (if a then b else c) :: qbE f g h
 | _, _, _ => []
theorem qdO : ∀ (f f' g g' h h' : List Bool), f.length = g.length → g.length = h.length → qbE (f ++ f') (g ++ g') (h ++ h') = qbE f g h ++ qbE f' g' h'
 | [], _, [], _, [], _, _, _ => rfl
 | a :: f, f', b :: g, g', c :: h, h', e1, e2 => by simp only [List.cons_append, qbE]; rw [qdO f f' g g' h h' (by simpa using e1) (by simpa using e2)]
theorem qhZ : ∀ (n : Nat) (g h : List Bool), g.length = n → h.length = n → qbE (List.replicate n true) g h = g
 | 0, [], [], _, _ => rfl
 | n + 1, b :: g, c :: h, e1, e2 => by simp only [List.replicate_succ, qbE, if_true]; rw [qhZ n g h (by simpa using e1) (by simpa using e2)]
theorem qgH : ∀ (n : Nat) (g h : List Bool), g.length = n → h.length = n → qbE (List.replicate n false) g h = h
 | 0, [], [], _, _ => rfl
 | n + 1, b :: g, c :: h, e1, e2 => by simp only [List.replicate_succ, qbE]; rw [qgH n g h (by simpa using e1) (by simpa using e2)]; rfl
theorem qh0 : ∀ (f g : List Bool), f.length = g.length → qbE f g g = g
 | [], [], _ => rfl
 | a :: f, b :: g, e => by simp only [qbE, ite_self]; rw [qh0 f g (by simpa using e)]
def qh1 (N : List Nd) (n : Int) (M : List (Nd × Int)) : Prop :=
 ∀ f g h k, qa0 M (f, g, h) = some k → qaH N f ∧ qaH N g ∧ qaH N h ∧ qaH N k ∧
  ∀ (d : Nat) (v : Int), v + d = n → 0 ≤ v → v = qc2 (qav N f) (qav N g) (qav N h) → v ≤ qav N k ∧ tab N d v k = qbE (tab N d v f) (tab N d v g) (tab N d v h)
theorem min3_le (a b c : Int) : qc2 a b c ≤ a ∧ qc2 a b c ≤ b ∧ qc2 a b c ≤ c := by
 unfold qc2; omega
theorem min3_eq {a b c v : Int} (h1 : v ≤ a) (h2 : v ≤ b) (h3 : v ≤ c) (h : v = a ∨ v = b ∨ v = c) : qc2 a b c = v := by
 unfold qc2; omega
theorem qh1.ext {N N' : List Nd} {n : Int} {M : List (Nd × Int)} (h : qh1 N n M) (hN : Ord N n) (hp : N <+: N') : qh1 N' n M := by
 intro f g q k hm
 obtain ⟨a, b, c, e, x⟩ := h f g q k hm
 refine ⟨a.ext hp, b.ext hp, c.ext hp, e.ext hp, fun d v hd h0 hv => ?_⟩
 rw [qaF hp a, qaF hp b, qaF hp c] at hv
 obtain ⟨x1, x2⟩ := x d v hd h0 hv
 have hm := min3_le (qav N f) (qav N g) (qav N q)
 rw [qaF hp e, qbc hN hp d v _ hd e x1, qbc hN hp d v _ hd a (by omega), qbc hN hp d v _ hd b (by omega), qbc hN hp d v _ hd c (by omega)]
 exact ⟨x1, x2⟩
theorem qoF (m : Nat) (s : Is) (f g h : Int) (h1 : ¬ (f = 1 ∨ g = h)) (h0 : ¬ f = 0) (hm : qa0 s.2 (f, g, h) = none) :
 qdY (m + 1) s f g h =
  match qdY m s (qaV s.1 f (qc2 (qav s.1 f) (qav s.1 g) (qav s.1 h)) false) (qaV s.1 g (qc2 (qav s.1 f) (qav s.1 g) (qav s.1 h)) false) (qaV s.1 h (qc2 (qav s.1 f) (qav s.1 g) (qav s.1 h)) false) with
  | none => none
  | some (s1, low) =>
   match qdY m s1 (qaV s1.1 f (qc2 (qav s.1 f) (qav s.1 g) (qav s.1 h)) true) (qaV s1.1 g (qc2 (qav s.1 f) (qav s.1 g) (qav s.1 h)) true) (qaV s1.1 h (qc2 (qav s.1 f) (qav s.1 g) (qav s.1 h)) true) with
   | none => none
   | some (s2, high) => some (((qa2 s2.1 (qc2 (qav s.1 f) (qav s.1 g) (qav s.1 h), low, high)).1, qbW s2.2 (f, g, h) (qa2 s2.1 (qc2 (qav s.1 f) (qav s.1 g) (qav s.1 h), low, high)).2), (qa2 s2.1 (qc2 (qav s.1 f) (qav s.1 g) (qav s.1 h), low, high)).2) := by
 rw [qdY, if_neg h1, if_neg h0]
 simp only [hm] <;> rfl
theorem qh2 {n : Int} : ∀ (d : Nat) (v f g h : Int) (s : Is) (fuel : Nat), Ord s.1 n → qh1 s.1 n s.2 → qaH s.1 f → qaH s.1 g → qaH s.1 h →
 v ≤ qav s.1 f → v ≤ qav s.1 g → v ≤ qav s.1 h → v + d = n → 0 ≤ v → d < fuel →
 ∃ s' k, qdY fuel s f g h = some (s', k) ∧ Ord s'.1 n ∧ qh1 s'.1 n s'.2 ∧ s.1 <+: s'.1 ∧ qaH s'.1 k ∧ v ≤ qav s'.1 k ∧
  tab s'.1 d v k = qbE (tab s.1 d v f) (tab s.1 d v g) (tab s.1 d v h) ∧ s'.1.length + 1 ≤ s.1.length + 2 ^ d := by
 intro d
 induction d with
 | zero =>
  intro v f g h s fuel hN hM hf hg hh tf tg th hv h0 hfu
  obtain ⟨fuel, rfl⟩ : ∃ q, fuel = q + 1 := ⟨fuel - 1, by omega⟩
  rcases hN.const hf (by omega) with rfl | rfl
  · by_cases e : g = h
    · subst e
      exact ⟨s, g, by simp [qdY], hN, hM, List.prefix_refl _, hg, tg, by simp [tab, qbE], by simp⟩
    · exact ⟨s, h, by simp [qdY, e], hN, hM, List.prefix_refl _, hh, th, by simp [tab, qbE], by simp⟩
  · exact ⟨s, g, by simp [qdY], hN, hM, List.prefix_refl _, hg, tg, by simp [tab, qbE], by simp⟩
 | succ d ih =>
  intro v f g h s fuel hN hM hf hg hh tf tg th hv h0 hfu
  have h40 := hN.n40
  by_cases hskip : v < qav s.1 f ∧ v < qav s.1 g ∧ v < qav s.1 h
  · obtain ⟨s', k, a1, a2, a3, a4, a5, a6, a7, a8⟩ := ih (v + 1) f g h s fuel hN hM hf hg hh (by omega) (by omega) (by omega) (by omega) (by omega) (by omega)
    refine ⟨s', k, a1, a2, a3, a4, a5, by omega, ?_, by have := Nat.two_pow_pos d; omega⟩
    rw [qbh (by omega), qbh hskip.1, qbh hskip.2.1, qbh hskip.2.2, qdO _ _ _ _ _ _ (by simp [qax]) (by simp [qax]), a7]
  · have hmin : qc2 (qav s.1 f) (qav s.1 g) (qav s.1 h) = v := min3_eq tf tg th (by omega)
    obtain ⟨fuel, rfl⟩ : ∃ q, fuel = q + 1 := ⟨fuel - 1, by omega⟩
    have h2d := Nat.two_pow_pos d
    by_cases c1 : f = 1 ∨ g = h
    · refine ⟨s, g, by simp [qdY, c1], hN, hM, List.prefix_refl _, hg, tg, ?_, by omega⟩
      rcases c1 with rfl | rfl
      · rw [qdb _ _ _ (by omega), qhZ _ _ _ (qax _ _ _ _) (qax _ _ _ _)]
      · rw [qh0 _ _ (by simp [qax])]
    · by_cases c2 : f = 0
      · subst c2
        refine ⟨s, h, by rw [qdY, if_neg c1, if_pos rfl], hN, hM, List.prefix_refl _, hh, th, ?_, by omega⟩
        rw [qcP _ _ _ (by omega), qgH _ _ _ (qax _ _ _ _) (qax _ _ _ _)]
      · cases hm : qa0 s.2 (f, g, h) with
        | some k =>
         obtain ⟨_, _, _, m4, m5⟩ := hM f g h k hm
         obtain ⟨x1, x2⟩ := m5 (d + 1) v (by omega) h0 hmin.symm
         exact ⟨s, k, by simp [qdY, c1, c2, hm], hN, hM, List.prefix_refl _, m4, x1, x2, by omega⟩
        | none =>
         have pf0 := hN.part false hf tf (by omega)
         have pg0 := hN.part false hg tg (by omega)
         have ph0 := hN.part false hh th (by omega)
         obtain ⟨s1, lo, a1, a2, a3, a4, a5, a6, a7, a8⟩ := ih (v + 1) _ _ _ s fuel hN hM pf0.1 pg0.1 ph0.1 pf0.2 pg0.2 ph0.2 (by omega) (by omega) (by omega)
         have pf1 := hN.part true hf tf (by omega)
         have pg1 := hN.part true hg tg (by omega)
         have ph1 := hN.part true hh th (by omega)
         obtain ⟨s2, hi, b1, b2, b3, b4, b5, b6, b7, b8⟩ := ih (v + 1) (qaV s.1 f v true) (qaV s.1 g v true) (qaV s.1 h v true) s1 fuel a2 a3 (pf1.1.ext a4) (pg1.1.ext a4) (ph1.1.ext a4)
          (by rw [qaF a4 pf1.1]; exact pf1.2) (by rw [qaF a4 pg1.1]; exact pg1.2) (by rw [qaF a4 ph1.1]; exact ph1.2) (by omega) (by omega) (by omega)
         obtain ⟨n1, n2, n3, n4, n5⟩ := qfH b2 (v := v) (l := lo) (r := hi) ⟨h0, by omega⟩ (a5.ext b4) b5 (by rw [qaF b4 a5]; omega) (by omega)
         have hp := qcl s2.1 (v, lo, hi)
         have hall := a4.trans (b4.trans hp)
         have ev := qoF fuel s f g h c1 c2 hm
         have hlen := (qbX s2.1 (v, lo, hi)).2
         have htab : tab (qa2 s2.1 (v, lo, hi)).1 (d + 1) v (qa2 s2.1 (v, lo, hi)).2 = qbE (tab s.1 (d + 1) v f) (tab s.1 (d + 1) v g) (tab s.1 (d + 1) v h) := by
          rw [n5 d (by omega), qbc a2 b4 d _ _ (by omega) a5 a6, a7, b7]
          rw [qbc hN a4 d _ _ (by omega) pf1.1 pf1.2, qbc hN a4 d _ _ (by omega) pg1.1 pg1.2, qbc hN a4 d _ _ (by omega) ph1.1 ph1.2]
          rw [tab, tab, tab, qdO _ _ _ _ _ _ (by simp [qax]) (by simp [qax])]
         refine ⟨((qa2 s2.1 (v, lo, hi)).1, qbW s2.2 (f, g, h) (qa2 s2.1 (v, lo, hi)).2), (qa2 s2.1 (v, lo, hi)).2, ?_, n1, ?_, hall, n2, n3, htab, by simp only; omega⟩
         · rw [ev, hmin, a1]
           simp only
           rw [qc9 a4 (by omega) hf, qc9 a4 (by omega) hg, qc9 a4 (by omega) hh, b1]
         · intro f' g' h' k' hk'
           simp only [qbn] at hk'
           split at hk'
           · rename_i e
             simp only [Prod.mk.injEq] at e
             obtain ⟨rfl, rfl, rfl⟩ := e
             cases hk'
             refine ⟨hf.ext hall, hg.ext hall, hh.ext hall, n2, fun d' v' hd' h0' hv' => ?_⟩
             rw [qaF hall hf, qaF hall hg, qaF hall hh, hmin] at hv'
             subst hv'
             have : d' = d + 1 := by omega
             subst this
             refine ⟨n3, ?_⟩
             simp only
             rw [htab, qbc hN hall _ _ _ (by omega) hf tf, qbc hN hall _ _ _ (by omega) hg tg, qbc hN hall _ _ _ (by omega) hh th]
           · exact (b3.ext b2 hp) f' g' h' k' hk'
theorem qh1.nil (N : List Nd) (n : Int) : qh1 N n [] := fun _ _ _ _ h => by simp [qa0] at h
def evF (N : List Nd) : Nat → Int → (Nat → Bool) → Bool
 | 0, k, _ => decide (k = 1)
 | f + 1, k, ρ => if k < 2 then decide (k = 1) else if ρ (qao N k).1.toNat then evF N f (qao N k).2.2 ρ else evF N f (qao N k).2.1 ρ
theorem qkf {N : List Nd} (h : VNd N) : ∀ (f g : Nat) (k : Int) (ρ : Nat → Bool), qaH N k → k.toNat ≤ f → k.toNat ≤ g → evF N f k ρ = evF N g k ρ := by
 intro f
 induction f with
 | zero =>
  intro g k ρ hk hf hg
  cases g with
  | zero => rfl
  | succ g => simp only [evF]; rw [if_pos (by omega)]
 | succ f ih =>
  intro g k ρ hk hf hg
  cases g with
  | zero => simp only [evF]; rw [if_pos (by omega)]
  | succ g =>
   simp only [evF]
   by_cases h2 : k < 2
   · rw [if_pos h2, if_pos h2]
   · rw [if_neg h2, if_neg h2]
     have hv := qa7 h (by omega) hk.2
     rw [ih g _ _ hv.2.2.2.1 (by omega) (by omega), ih g _ _ hv.2.2.1 (by omega) (by omega)]
def ev (N : List Nd) (k : Int) (ρ : Nat → Bool) : Bool := evF N k.toNat k ρ
theorem qdw {N : List Nd} {k : Int} (h : k < 2) (ρ : Nat → Bool) : ev N k ρ = decide (k = 1) := by
 unfold ev
 cases k.toNat with
 | zero => rfl
 | succ f => simp only [evF]; rw [if_pos h]
theorem qg4 {N : List Nd} (h : VNd N) {k : Int} (hk : qaH N k) (h2 : 2 ≤ k) (ρ : Nat → Bool) :
 ev N k ρ = if ρ (qao N k).1.toNat then ev N (qao N k).2.2 ρ else ev N (qao N k).2.1 ρ := by
 have hv := qa7 h h2 hk.2
 obtain ⟨f, hf⟩ : ∃ f, k.toNat = f + 1 := ⟨k.toNat - 1, by omega⟩
 unfold ev
 rw [hf, evF, if_neg (by omega), qkf h f _ _ _ hv.2.2.2.1 (by omega) (Nat.le_refl _), qkf h f _ _ _ hv.2.2.1 (by omega) (Nat.le_refl _)]
theorem ev_part {N : List Nd} {n : Int} (h : Ord N n) {k : Int} (hk : qaH N k) {v : Nat} (hv : (v : Int) < n) (ρ : Nat → Bool) : ev N k ρ = ev N (qaV N k v (ρ v)) ρ := by
 by_cases ht : qav N k = v
 · have h2 : 2 ≤ k := by
     rcases Int.lt_or_le k 2 with h' | h'
     · rw [qaM h'] at ht; have := h.n40; omega
     · exact h'
   have e : (qao N k).1.toNat = v := by rw [← qaO h2, ht]; omega
   rw [qg4 h.val hk h2, e]
   cases hρ : ρ v
   · rw [qaX ht]; rfl
   · rw [qaQ ht]; rfl
 · unfold qaV; rw [if_pos ht]
def qam (ρ : Nat → Bool) : Nat → Nat → Nat
 | 0, _ => 0
 | d + 1, v => (if ρ v then 2 ^ d else 0) + qam ρ d (v + 1)
theorem qbk (ρ : Nat → Bool) : ∀ d v, qam ρ d v < 2 ^ d := by
 intro d
 induction d with
 | zero => intro v; simp [qam]
 | succ d ih => intro v; have := ih (v + 1); simp only [qam]; split <;> omega
theorem qmm {N : List Nd} {n : Int} (h : Ord N n) (ρ : Nat → Bool) : ∀ (d v : Nat) (k : Int), (v : Int) + d = n → qaH N k → (v : Int) ≤ qav N k → (tab N d v k).getD (qam ρ d v) false = ev N k ρ := by
 intro d
 induction d with
 | zero =>
  intro v k hv hk ht
  have := h.const hk (by omega)
  rw [qdw (by omega)]
  simp [tab, qam]
 | succ d ih =>
  intro v k hv hk ht
  have p := fun b => h.part b hk ht (by omega)
  have hlt := qbk ρ d (v + 1)
  rw [ev_part h hk (v := v) (by omega), tab, qam]
  have e := ih (v + 1) (qaV N k v (ρ v)) (by omega) (p _).1 (by have := (p (ρ v)).2; omega)
  have l0 := qax N d ((v : Int) + 1) (qaV N k v false)
  have c : ((v + 1 : Nat) : Int) = (v : Int) + 1 := by omega
  rw [c] at e
  rw [← e]
  cases hρ : ρ v
  · simp only [Bool.false_eq_true, if_false, Nat.zero_add]
    simp only [List.getD_eq_getElem?_getD]
    rw [List.getElem?_append_left (by omega)]
  · simp only [if_true]
    simp only [List.getD_eq_getElem?_getD]
    rw [List.getElem?_append_right (by omega)]
    congr 2
    omega
theorem qe1 {ρ σ : Nat → Bool} : ∀ {d v : Nat}, (∀ u, u < v + d → ρ u = σ u) → qam ρ d v = qam σ d v := by
 intro d
 induction d with
 | zero => intro v _; rfl
 | succ d ih =>
  intro v h
  rw [qam, qam, h v (by omega), ih (fun u hu => h u (by omega))]
def qaY (n i v : Nat) : Bool := decide (i / 2 ^ (n - 1 - v) % 2 = 1)
theorem qd5 : ∀ (d v n i : Nat), v + d = n → qam (qaY n i) d v = i % 2 ^ d := by
 intro d
 induction d with
 | zero => intro v n i _; simp [qam, Nat.mod_one]
 | succ d ih =>
  intro v n i hv
  rw [qam, ih (v + 1) n i (by omega)]
  have e : n - 1 - v = d := by omega
  have key : i % 2 ^ (d + 1) = i % 2 ^ d + 2 ^ d * (i / 2 ^ d % 2) := by
   rw [Nat.pow_succ, Nat.mod_mul]
  rw [key]
  unfold qaY
  rw [e]
  have := Nat.mod_two_eq_zero_or_one (i / 2 ^ d)
  rcases this with h | h <;> simp [h] <;> omega
theorem tab_bit {N : List Nd} {n : Nat} (h : Ord N n) {k : Int} (hk : qaH N k) {i : Nat} (hi : i < 2 ^ n) : (tab N n 0 k).getD i false = ev N k (qaY n i) := by
 have := qmm h (qaY n i) n 0 k (by omega) hk (qaE h.val hk).1
 rw [qd5 n 0 n i (by omega), Nat.mod_eq_of_lt hi] at this
 exact this
theorem qjd {n : Nat} (h : n ≤ 40) (b : Bool) : qal n [] 0 (List.replicate (2 ^ n) b) = ([], if b then 1 else 0) := by
 have hN : Ord [] (n : Int) := Ord.nil (by omega)
 cases b
 · have := qcm hN n 0 0 (by omega) (by omega) ⟨by omega, by simp⟩ (by simp [qav])
   rw [qcP _ _ _ (by omega)] at this
   exact this
 · have := qcm hN n 0 1 (by omega) (by omega) ⟨by omega, by simp⟩ (by simp [qav])
   rw [qdb _ _ _ (by omega)] at this
   exact this
def lev (L : List Nd) (n : Nat) (k : Int) : Int := if k < 2 then n else (qao L k).1
def cnt (L : List Nd) (n : Nat) (k : Int) : Nat := (tab L (n - (lev L n k).toNat) (lev L n k) k).count true
theorem qcJ {L : List Nd} {n : Nat} (h : Ord L n) {k : Int} (hk : qaH L k) : 0 ≤ lev L n k ∧ lev L n k ≤ n ∧ lev L n k ≤ qav L k := by
 unfold lev
 have := h.n40
 split
 · rename_i h2; rw [qaM h2]; omega
 · have h1 := (qaE h.val hk).1
   have h2 := h.top_lt (by omega) hk
   rw [qaO (by omega)] at h1 h2 ⊢
   omega
theorem qlg {L : List Nd} {k : Int} (d0 : Nat) (v0 : Int) (h0 : v0 ≤ qav L k) : ∀ i : Nat, (tab L (d0 + i) (v0 - i) k).count true = 2 ^ i * (tab L d0 v0 k).count true := by
 intro i
 induction i with
 | zero => simp
 | succ i ih =>
  have e : v0 - (i + 1 : Nat) + 1 = v0 - i := by omega
  rw [← Nat.add_assoc, qbh (by omega), e, List.count_append, ih, Nat.pow_succ, ← Nat.add_mul]
  congr 1
  omega
theorem qkg {L : List Nd} {n : Nat} (h : Ord L n) {k : Int} (hk : qaH L k) (v : Int) (h0 : 0 ≤ v) (hv : v ≤ lev L n k) : (tab L (n - v.toNat) v k).count true = cnt L n k * 2 ^ (lev L n k - v).toNat := by
 have hr := qcJ h hk
 have := qlg (L := L) (k := k) (n - (lev L n k).toNat) (lev L n k) hr.2.2 (lev L n k - v).toNat
 rw [show n - (lev L n k).toNat + (lev L n k - v).toNat = n - v.toNat by omega, show lev L n k - ((lev L n k - v).toNat : Int) = v by omega] at this
 rw [this, Nat.mul_comm]; rfl
theorem qoG {L : List Nd} {n : Nat} (h : Ord L n) {k : Int} (h2 : 2 ≤ k) (hk : qaH L k) :
 cnt L n k = cnt L n (qao L k).2.1 * 2 ^ (lev L n (qao L k).2.1 - lev L n k - 1).toNat + cnt L n (qao L k).2.2 * 2 ^ (lev L n (qao L k).2.2 - lev L n k - 1).toNat ∧
 lev L n k + 1 ≤ lev L n (qao L k).2.1 ∧ lev L n k + 1 ≤ lev L n (qao L k).2.2 := by
 have hlow := h.low h2 hk
 have hr := qcJ h hk
 have h40 := h.n40
 have e : lev L n k = qav L k := by unfold lev; rw [if_neg (by omega), qaO h2]
 have hlt := h.top_lt h2 hk
 have g : ∀ j, qaH L j → qav L k < qav L j → lev L n k + 1 ≤ lev L n j := by
  intro j hj hjt
  rw [e]
  have : lev L n j = if j < 2 then (n : Int) else (qao L j).1 := rfl
  rw [this]
  split
  · omega
  · rw [qaO (k := j) (by omega)] at hjt; omega
 have g1 := g _ hlow.1 hlow.2.2.1
 have g2 := g _ hlow.2.1 hlow.2.2.2.1
 refine ⟨?_, g1, g2⟩
 have e1 := qkg h hlow.1 (lev L n k + 1) (by omega) g1
 have e2 := qkg h hlow.2.1 (lev L n k + 1) (by omega) g2
 rw [show lev L n (qao L k).2.1 - (lev L n k + 1) = lev L n (qao L k).2.1 - lev L n k - 1 by omega] at e1
 rw [show lev L n (qao L k).2.2 - (lev L n k + 1) = lev L n (qao L k).2.2 - lev L n k - 1 by omega] at e2
 rw [← e1, ← e2]
 unfold cnt
 rw [show n - (lev L n k).toNat = (n - (lev L n k + 1).toNat) + 1 by omega, tab, qaX e.symm, qaQ e.symm, List.count_append]
theorem qoH {L : List Nd} {n : Nat} (h : Ord L n) {k : Int} (hk : qaH L k) : cnt L n k * 2 ^ (lev L n k).toNat = (tab L n 0 k).count true := by
 have hr := qcJ h hk
 have := qkg h hk 0 (Int.le_refl _) hr.1
 simpa using this.symm
def qcn (L : List Nd) (n : Nat) (m : Nat) : List Int := (List.range (m + 2)).map fun (i : Nat) => ((cnt L n (i : Int) : Nat) : Int)
theorem qd6 (L : List Nd) (n m : Nat) : (qcn L n m).length = m + 2 := by simp [qcn]
theorem qeH (L : List Nd) (n m : Nat) {i : Nat} (h : i < m + 2) : (qcn L n m)[i]? = some (cnt L n (i : Int) : Int) := by
 simp [qcn, h]
theorem qje (L : List Nd) (n m : Nat) : qcn L n (m + 1) = qcn L n m ++ [(cnt L n ((m : Int) + 2) : Int)] := by
 simp only [qcn, List.range_succ, List.map_append, List.map_cons, List.map_nil]
 congr 2
theorem qjf (L : List Nd) (n : Nat) : qcn L n 0 = [0, 1] := by
 have e0 : cnt L n 0 = 0 := by simp [cnt, lev, tab]
 have e1 : cnt L n 1 = 1 := by simp [cnt, lev, tab]
 simp [qcn, List.range_succ, e0, e1]
theorem qh3 {L : List Nd} {n : Nat} (h : Ord L n) {k : Int} (hk : qaH L k) (v : Int) (h0 : 0 ≤ v) (hv : v ≤ lev L n k) : cnt L n k * 2 ^ (lev L n k - v).toNat ≤ 2 ^ (n - v.toNat) := by
 rw [← qkg h hk v h0 hv]
 have := List.count_le_length (a := true) (l := tab L (n - v.toNat) v k)
 rwa [qax] at this
end Go.Proofs.YticcpnekjddanaaGreatDoor
namespace Go.Proofs.YticcpnekjddanaaGreatDoor
abbrev Cs := Is × List (Int × Int)
def qa8 (wn : Int → Bool) (dof : Is → Int → Int → Option (Is × Int)) : Nat → Cs → Int → Option (Cs × Int)
 | 0, _, _ => none
 | f + 1, s, k =>
  if k < 2 then some (s, k) else
  match qa0 s.2 k with
  | some r => some (s, r)
  | none =>
   match qa8 wn dof f s (qao s.1.1 k).2.1 with
   | none => none
   | some (s1, low) =>
    match qa8 wn dof f s1 (qao s.1.1 k).2.2 with
    | none => none
    | some (s2, high) =>
     if wn (qao s.1.1 k).1 then
      match dof s2.1 low high with
      | none => none
      | some (s3, r) => some ((s3, qbW s2.2 k r), r)
     else some ((((qa2 s2.1.1 ((qao s.1.1 k).1, low, high)).1, s2.1.2), qbW s2.2 k (qa2 s2.1.1 ((qao s.1.1 k).1, low, high)).2), (qa2 s2.1.1 ((qao s.1.1 k).1, low, high)).2)
def chT (wn : Int → Bool) (o : Bool → Bool → Bool) : Nat → Int → List Bool → List Bool
 | 0, _, t => t
 | d + 1, v, t =>
  if wn v then List.zipWith o (chT wn o d (v + 1) (t.take (2 ^ d))) (chT wn o d (v + 1) (t.drop (2 ^ d))) ++ List.zipWith o (chT wn o d (v + 1) (t.take (2 ^ d))) (chT wn o d (v + 1) (t.drop (2 ^ d)))
  else chT wn o d (v + 1) (t.take (2 ^ d)) ++ chT wn o d (v + 1) (t.drop (2 ^ d))
def qmn (o : Bool → Bool → Bool) : Prop := ∀ x, o x x = x
theorem qkh {o : Bool → Bool → Bool} (ho : qmn o) : ∀ l : List Bool, List.zipWith o l l = l
 | [] => rfl
 | a :: l => by rw [List.zipWith_cons_cons, ho a, qkh ho l]
theorem qbd (wn : Int → Bool) (o : Bool → Bool → Bool) (d : Nat) (v : Int) (a b : List Bool) (ha : a.length = 2 ^ d) :
 chT wn o (d + 1) v (a ++ b) = if wn v then List.zipWith o (chT wn o d (v + 1) a) (chT wn o d (v + 1) b) ++ List.zipWith o (chT wn o d (v + 1) a) (chT wn o d (v + 1) b) else chT wn o d (v + 1) a ++ chT wn o d (v + 1) b := by
 rw [chT, List.take_append_of_le_length (by omega), List.drop_append_of_le_length (by omega)]
 rw [List.take_of_length_le (by omega), List.drop_of_length_le (by omega), List.nil_append]
theorem qbF (wn : Int → Bool) (o : Bool → Bool → Bool) : ∀ (d : Nat) (v : Int) (t : List Bool), t.length = 2 ^ d → (chT wn o d v t).length = 2 ^ d := by
 intro d
 induction d with
 | zero => intro v t h; exact h
 | succ d ih =>
  intro v t h
  have h1 := ih (v + 1) (t.take (2 ^ d)) (by rw [List.length_take, h, Nat.pow_succ]; omega)
  have h2 := ih (v + 1) (t.drop (2 ^ d)) (by rw [List.length_drop, h, Nat.pow_succ]; omega)
  rw [chT]
  split
  · simp only [List.length_append, List.length_zipWith, h1, h2, Nat.pow_succ]; omega
  · simp only [List.length_append, h1, h2, Nat.pow_succ]; omega
theorem qh4 {wn : Int → Bool} {o : Bool → Bool → Bool} (ho : qmn o) (d : Nat) (v : Int) (a : List Bool) (ha : a.length = 2 ^ d) :
 chT wn o (d + 1) v (a ++ a) = chT wn o d (v + 1) a ++ chT wn o d (v + 1) a := by
 rw [qbd wn o d v a a ha, qkh ho]
 split <;> rfl
theorem qoI {N N' : List Nd} {wn : Int → Bool} {o : Bool → Bool → Bool} (ho : qmn o) {k r v : Int} {d : Nat} (hk : v ≤ qav N k) (hr : v ≤ qav N' r) (h : tab N' d v r = chT wn o d v (tab N d v k)) :
 ∀ (d' : Nat) (v' : Int), v' + d' = v + d → v' ≤ v → tab N' d' v' r = chT wn o d' v' (tab N d' v' k) := by
 intro d'
 induction d' with
 | zero =>
  intro v' h1 h2
  obtain rfl : v' = v := by omega
  obtain rfl : d = 0 := by omega
  exact h
 | succ d' ih =>
  intro v' h1 h2
  by_cases e : v' = v
  · subst e
    obtain rfl : d = d' + 1 := by omega
    exact h
  · rw [qbh (by omega), qbh (by omega), ih (v' + 1) (by omega) (by omega), qh4 ho d' v' _ (qax _ _ _ _)]
def qg5 (wn : Int → Bool) (o : Bool → Bool → Bool) (n : Int) (N : List Nd) (C : List (Int × Int)) : Prop :=
 ∀ k r, qa0 C k = some r → qaH N k ∧ qaH N r ∧ qav N k ≤ qav N r ∧ ∀ (d : Nat) (v : Int), v + d = n → 0 ≤ v → v ≤ qav N k → tab N d v r = chT wn o d v (tab N d v k)
theorem qg5.ext {wn : Int → Bool} {o : Bool → Bool → Bool} {n : Int} {N N' : List Nd} {C : List (Int × Int)} (h : qg5 wn o n N C) (hN : Ord N n) (hp : N <+: N') : qg5 wn o n N' C := by
 intro k r hm
 obtain ⟨a, b, c, e⟩ := h k r hm
 refine ⟨a.ext hp, b.ext hp, by rw [qaF hp a, qaF hp b]; exact c, fun d v hd h0 hv => ?_⟩
 rw [qaF hp a] at hv
 rw [qbc hN hp d v _ hd b (by omega), qbc hN hp d v _ hd a hv]
 exact e d v hd h0 hv
theorem qg5.nil (wn : Int → Bool) (o : Bool → Bool → Bool) (n : Int) (N : List Nd) : qg5 wn o n N [] := fun _ _ h => by simp [qa0] at h
def DoOk (n : Int) (o : Bool → Bool → Bool) (dof : Is → Int → Int → Option (Is × Int)) : Prop :=
 ∀ (d : Nat) (v l h : Int) (s : Is), Ord s.1 n → qh1 s.1 n s.2 → qaH s.1 l → qaH s.1 h → v ≤ qav s.1 l → v ≤ qav s.1 h → v + d = n → 0 ≤ v →
  ∃ s' k, dof s l h = some (s', k) ∧ Ord s'.1 n ∧ qh1 s'.1 n s'.2 ∧ s.1 <+: s'.1 ∧ qaH s'.1 k ∧ v ≤ qav s'.1 k ∧ tab s'.1 d v k = List.zipWith o (tab s.1 d v l) (tab s.1 d v h) ∧ s'.1.length + 1 ≤ s.1.length + 2 ^ d
theorem qh5 (wn : Int → Bool) (dof : Is → Int → Int → Option (Is × Int)) (f : Nat) (s s1 s2 : Cs) (k low high : Int) (h2 : 2 ≤ k) (hm : qa0 s.2 k = none) (e1 : qa8 wn dof f s (qao s.1.1 k).2.1 = some (s1, low)) (e2 : qa8 wn dof f s1 (qao s.1.1 k).2.2 = some (s2, high)) :
 qa8 wn dof (f + 1) s k = if wn (qao s.1.1 k).1 then (match dof s2.1 low high with
         | none => none
         | some (s3, r) => some ((s3, qbW s2.2 k r), r))
       else some ((((qa2 s2.1.1 ((qao s.1.1 k).1, low, high)).1, s2.1.2), qbW s2.2 k (qa2 s2.1.1 ((qao s.1.1 k).1, low, high)).2), (qa2 s2.1.1 ((qao s.1.1 k).1, low, high)).2) := by
 rw [qa8, if_neg (by omega)]
 simp only [hm, e1, e2]
theorem qh6 {n : Int} {wn : Int → Bool} {o : Bool → Bool → Bool} {dof : Is → Int → Int → Option (Is × Int)} (ho : qmn o) (hdo : DoOk n o dof) : ∀ (d : Nat) (v k : Int) (s : Cs) (fuel : Nat),
 Ord s.1.1 n → qh1 s.1.1 n s.1.2 → qg5 wn o n s.1.1 s.2 → qaH s.1.1 k → v ≤ qav s.1.1 k → v + d = n → 0 ≤ v → d < fuel →
 ∃ s' r, qa8 wn dof fuel s k = some (s', r) ∧ Ord s'.1.1 n ∧ qh1 s'.1.1 n s'.1.2 ∧ qg5 wn o n s'.1.1 s'.2 ∧ s.1.1 <+: s'.1.1 ∧ qaH s'.1.1 r ∧ qav s.1.1 k ≤ qav s'.1.1 r ∧
  tab s'.1.1 d v r = chT wn o d v (tab s.1.1 d v k) ∧ s'.1.1.length ≤ s.1.1.length + d * 2 ^ d := by
 intro d
 induction d with
 | zero =>
  intro v k s fuel hN hM hC hk tk hv h0 hfu
  obtain ⟨fuel, rfl⟩ : ∃ q, fuel = q + 1 := ⟨fuel - 1, by omega⟩
  have := hN.const hk (by omega)
  exact ⟨s, k, by rw [qa8, if_pos (by omega)], hN, hM, hC, List.prefix_refl _, hk, by omega, rfl, by omega⟩
 | succ d ih =>
  intro v k s fuel hN hM hC hk tk hv h0 hfu
  have h40 := hN.n40
  have h2d := Nat.two_pow_pos d
  have hgrow : d * 2 ^ d + d * 2 ^ d + 2 ^ d ≤ (d + 1) * 2 ^ (d + 1) := by
   rw [Nat.pow_succ, Nat.succ_mul, ← Nat.mul_assoc]
   omega
  by_cases hskip : v < qav s.1.1 k
  · obtain ⟨s', r, a1, a2, a3, a4, a5, a6, a7, a8, a9⟩ := ih (v + 1) k s fuel hN hM hC hk (by omega) (by omega) (by omega) (by omega)
    refine ⟨s', r, a1, a2, a3, a4, a5, a6, a7, ?_, by omega⟩
    rw [qbh (by omega), qbh hskip, qh4 ho d v _ (qax _ _ _ _), a8]
  · have htop : qav s.1.1 k = v := by omega
    have h2 : 2 ≤ k := by
     rcases Int.lt_or_le k 2 with h | h
     · rw [qaM h] at htop; omega
     · exact h
    obtain ⟨fuel, rfl⟩ : ∃ q, fuel = q + 1 := ⟨fuel - 1, by omega⟩
    cases hm : qa0 s.2 k with
    | some r =>
     obtain ⟨m1, m2, m3, m4⟩ := hC k r hm
     exact ⟨s, r, by rw [qa8, if_neg (by omega)]; simp only [hm], hN, hM, hC, List.prefix_refl _, m2, m3, m4 (d + 1) v hv h0 (by omega), by omega⟩
    | none =>
     have pl := hN.part false hk tk (by omega)
     have ph := hN.part true hk tk (by omega)
     have nv : (qao s.1.1 k).1 = v := by rw [← qaO h2]; exact htop
     have htab : tab s.1.1 (d + 1) v k = tab s.1.1 d (v + 1) (qao s.1.1 k).2.1 ++ tab s.1.1 d (v + 1) (qao s.1.1 k).2.2 := by rw [tab, qaX htop, qaQ htop]
     rw [qaX htop] at pl
     rw [qaQ htop] at ph
     obtain ⟨s1, lo, a1, a2, a3, a4, a5, a6, a7, a8, a9⟩ := ih (v + 1) _ s fuel hN hM hC pl.1 pl.2 (by omega) (by omega) (by omega)
     obtain ⟨s2, hi, b1, b2, b3, b4, b5, b6, b7, b8, b9⟩ := ih (v + 1) (qao s.1.1 k).2.2 s1 fuel a2 a3 a4 (ph.1.ext a5) (by rw [qaF a5 ph.1]; exact ph.2) (by omega) (by omega) (by omega)
     have hlo : qaH s2.1.1 lo := a6.ext b5
     have tlo : v + 1 ≤ qav s2.1.1 lo := by rw [qaF b5 a6]; omega
     have thi : v + 1 ≤ qav s2.1.1 hi := by rw [qaF a5 ph.1] at b7; omega
     have elo : tab s2.1.1 d (v + 1) lo = chT wn o d (v + 1) (tab s.1.1 d (v + 1) (qao s.1.1 k).2.1) := by
      rw [qbc a2 b5 d _ _ (by omega) a6 (by omega), a8]
     have ehi : tab s2.1.1 d (v + 1) hi = chT wn o d (v + 1) (tab s.1.1 d (v + 1) (qao s.1.1 k).2.2) := by
      rw [b8, qbc hN a5 d _ _ (by omega) ph.1 ph.2]
     have ev := qh5 wn dof fuel s s1 s2 k lo hi h2 hm a1 b1
     rw [nv] at ev
     have hadd : ∀ (N' : List Nd) (r : Int), s2.1.1 <+: N' → qaH N' r → v ≤ qav N' r → tab N' (d + 1) v r = chT wn o (d + 1) v (tab s.1.1 (d + 1) v k) → qg5 wn o n N' (qbW s2.2 k r) := by
      intro N' r hp hr tr hT k' r' hk'
      have hall := a5.trans (b5.trans hp)
      simp only [qbn] at hk'
      split at hk'
      · rename_i e
        subst e
        cases hk'
        refine ⟨hk.ext hall, hr, by rw [qaF hall hk]; omega, fun d' v' hd' h0' hv' => ?_⟩
        rw [qaF hall hk, htop] at hv'
        refine qoI ho (v := v) (d := d + 1) (by rw [qaF hall hk]; omega) tr ?_ d' v' (by omega) hv'
        rw [hT, qbc hN hall _ _ _ hv hk tk]
      · exact (b4.ext b2 hp) k' r' hk'
     by_cases hw : wn v = true
     · obtain ⟨s3, r, c1, c2, c3, c4, c5, c6, c7, c8⟩ := hdo d (v + 1) lo hi s2.1 b2 b3 hlo b6 tlo thi (by omega) (by omega)
       rw [if_pos hw, c1] at ev
       have hT : tab s3.1 (d + 1) v r = chT wn o (d + 1) v (tab s.1.1 (d + 1) v k) := by
        rw [qbh (by omega), htab, qbd wn o d v _ _ (qax _ _ _ _), if_pos hw, c7, elo, ehi]
       exact ⟨(s3, qbW s2.2 k r), r, ev, c2, c3, hadd s3.1 r c4 c5 (by omega) hT, a5.trans (b5.trans c4), c5, by rw [htop]; simp only; omega, hT, by simp only; omega⟩
     · rw [if_neg hw] at ev
       obtain ⟨n1, n2, n3, n4, n5⟩ := qfH b2 (v := v) (l := lo) (r := hi) ⟨h0, by omega⟩ hlo b6 (by omega) (by omega)
       have hp := qcl s2.1.1 (v, lo, hi)
       have hlen := (qbX s2.1.1 (v, lo, hi)).2
       have hT : tab (qa2 s2.1.1 (v, lo, hi)).1 (d + 1) v (qa2 s2.1.1 (v, lo, hi)).2 = chT wn o (d + 1) v (tab s.1.1 (d + 1) v k) := by
        rw [n5 d (by omega), htab, qbd wn o d v _ _ (qax _ _ _ _), if_neg hw, elo, ehi]
       exact ⟨_, _, ev, n1, b3.ext b2 hp, hadd _ _ hp n2 n3 hT, a5.trans (b5.trans hp), n2, by rw [htop]; exact n3, hT, by simp only; omega⟩
def qbI (ρ : Nat → Bool) (u : Nat) (b : Bool) : Nat → Bool := fun x => if x = u then b else ρ x
theorem qmo {ρ : Nat → Bool} {u : Nat} {b : Bool} (h : ρ u = b) : qbI ρ u b = ρ := by
 funext x; unfold qbI; split
 · rename_i e; rw [e, h]
 · rfl
theorem qcG (ρ : Nat → Bool) (u : Nat) (b : Bool) : ∀ (d v : Nat), u < v → qam (qbI ρ u b) d v = qam ρ d v := by
 intro d
 induction d with
 | zero => intro v _; rfl
 | succ d ih =>
  intro v h
  rw [qam, qam, ih (v + 1) (by omega)]
  have : qbI ρ u b v = ρ v := by unfold qbI; rw [if_neg (by omega)]
  rw [this]
theorem qh7 (ρ : Nat → Bool) (u : Nat) (h : ρ u = false) : ∀ (d v : Nat), v ≤ u → u < v + d → qam (qbI ρ u true) d v = qam ρ d v + 2 ^ (v + d - 1 - u) := by
 intro d
 induction d with
 | zero => intro v h1 h2; omega
 | succ d ih =>
  intro v h1 h2
  rw [qam, qam]
  by_cases e : v = u
  · subst e
    rw [qcG _ _ _ _ _ (by omega)]
    have e1 : qbI ρ v true v = true := by simp [qbI]
    rw [e1, h]
    have : v + (d + 1) - 1 - v = d := by omega
    rw [this]
    simp; omega
  · have e1 : qbI ρ u true v = ρ v := by simp [qbI, e]
    rw [e1, ih (v + 1) (by omega) (by omega)]
    have : v + 1 + d - 1 - u = v + (d + 1) - 1 - u := by omega
    rw [this]
    omega
theorem qjg (ρ : Nat → Bool) (u : Nat) (h : ρ u = true) (d v : Nat) (h1 : v ≤ u) (h2 : u < v + d) : qam (qbI ρ u false) d v = qam ρ d v - 2 ^ (v + d - 1 - u) := by
 have e := qh7 (qbI ρ u false) u (by simp [qbI]) d v h1 h2
 have e2 : qbI (qbI ρ u false) u true = ρ := by
  funext x; unfold qbI; split
  · rename_i e; rw [e, h]
  · rfl
 rw [e2] at e
 omega
def qlh (n i v : Nat) (b : Bool) : Nat := if qaY n i v = b then i else if b then i + 2 ^ (n - 1 - v) else i - 2 ^ (n - 1 - v)
theorem qdx (n i v : Nat) (b : Bool) (hi : i < 2 ^ n) (hv : v < n) : qlh n i v b = qam (qbI (qaY n i) v b) n 0 := by
 have hp : qam (qaY n i) n 0 = i := by rw [qd5 n 0 n i (by omega), Nat.mod_eq_of_lt hi]
 unfold qlh
 by_cases h : qaY n i v = b
 · rw [if_pos h, qmo h, hp]
 · rw [if_neg h]
   cases b
   · have := qjg (qaY n i) v (by simpa using h) n 0 (by omega) (by omega)
     rw [hp, Nat.zero_add] at this
     rw [this]
     rfl
   · have := qh7 (qaY n i) v (by simpa using h) n 0 (by omega) (by omega)
     rw [hp, Nat.zero_add] at this
     rw [this]
     rfl
def qh8 (u : Nat) : Int → Bool := fun x => decide (x = (u : Int))
theorem qg6 {wn : Int → Bool} (o : Bool → Bool → Bool) : ∀ (d : Nat) (v : Int) (t : List Bool), (∀ x, v ≤ x → wn x = false) → chT wn o d v t = t := by
 intro d
 induction d with
 | zero => intro v t _; rfl
 | succ d ih =>
  intro v t h
  rw [chT, h v (Int.le_refl _), ih (v + 1) _ (fun x hx => h x (by omega)), ih (v + 1) _ (fun x hx => h x (by omega))]
  simp
theorem qdc {a b : List Bool} {i : Nat} (h : i < a.length) : (a ++ b).getD i false = a.getD i false := by
 simp only [List.getD_eq_getElem?_getD, List.getElem?_append_left h]
theorem qcK {a b : List Bool} {m i : Nat} (h : a.length = m) : (a ++ b).getD (m + i) false = b.getD i false := by
 subst h
 simp only [List.getD_eq_getElem?_getD]
 rw [List.getElem?_append_right (by omega)]
 congr 2; omega
theorem qki (o : Bool → Bool → Bool) {a b : List Bool} {i : Nat} (ha : i < a.length) (hb : i < b.length) : (List.zipWith o a b).getD i false = o (a.getD i false) (b.getD i false) := by
 simp only [List.getD_eq_getElem?_getD]
 rw [List.getElem?_eq_getElem (by rw [List.length_zipWith]; omega), List.getElem?_eq_getElem ha, List.getElem?_eq_getElem hb]
 simp
theorem chT_one (o : Bool → Bool → Bool) (u : Nat) (ρ : Nat → Bool) : ∀ (d v : Nat) (t : List Bool), t.length = 2 ^ d → v ≤ u → u < v + d →
 (chT (qh8 u) o d v t).getD (qam ρ d v) false = o (t.getD (qam (qbI ρ u false) d v) false) (t.getD (qam (qbI ρ u true) d v) false) := by
 intro d
 induction d with
 | zero => intro v t _ h1 h2; omega
 | succ d ih =>
  intro v t ht h1 h2
  obtain ⟨a, b, rfl, ha, hb⟩ : ∃ a b, t = a ++ b ∧ a.length = 2 ^ d ∧ b.length = 2 ^ d := ⟨t.take (2 ^ d), t.drop (2 ^ d), (List.take_append_drop _ _).symm, by rw [List.length_take, ht, Nat.pow_succ]; omega, by rw [List.length_drop, ht, Nat.pow_succ]; omega⟩
  rw [qbd _ _ _ _ _ _ ha]
  have hp := qbk ρ d (v + 1)
  have c : ((v : Int) + 1) = ((v + 1 : Nat) : Int) := by omega
  by_cases e : v = u
  · subst e
    rw [if_pos (by simp [qh8]), qg6 o d _ a (fun x hx => by simp [qh8]; omega), qg6 o d _ b (fun x hx => by simp [qh8]; omega)]
    rw [qam, qam, qam, qcG _ _ _ _ _ (by omega), qcG _ _ _ _ _ (by omega)]
    have e1 : qbI ρ v true v = true := by simp [qbI]
    have e0 : qbI ρ v false v = false := by simp [qbI]
    rw [e1, e0]
    simp only [if_true, Bool.false_eq_true, if_false, Nat.zero_add]
    rw [qdc (a := a) (by omega), qcK ha]
    cases ρ v
    · simp only [Bool.false_eq_true, if_false, Nat.zero_add]
      rw [qdc (by rw [List.length_zipWith]; omega), qki o (by omega) (by omega)]
    · simp only [if_true]
      rw [qcK (by rw [List.length_zipWith]; omega), qki o (by omega) (by omega)]
  · have hla := qbF (qh8 u) o d (v + 1) a ha
    rw [if_neg (by simp [qh8]; omega), qam, qam, qam]
    have e1 : qbI ρ u true v = ρ v := by simp [qbI, e]
    have e0 : qbI ρ u false v = ρ v := by simp [qbI, e]
    have p0 := qbk (qbI ρ u false) d (v + 1)
    have p1 := qbk (qbI ρ u true) d (v + 1)
    rw [e1, e0]
    cases ρ v
    · simp only [Bool.false_eq_true, if_false, Nat.zero_add]
      rw [qdc (by omega), qdc (by omega), qdc (by omega), c, ih (v + 1) a ha (by omega) (by omega)]
    · simp only [if_true]
      rw [qcK hla, qcK ha, qcK ha, c, ih (v + 1) b hb (by omega) (by omega)]
def qli (o : Bool → Bool → Bool) (n u : Nat) (t : List Bool) : List Bool := (List.range (2 ^ n)).map fun i => o (t.getD (qlh n i u false) false) (t.getD (qlh n i u true) false)
theorem qoJ (o : Bool → Bool → Bool) {n u : Nat} {t : List Bool} (ht : t.length = 2 ^ n) (hu : u < n) : qli o n u t = chT (qh8 u) o n 0 t := by
 have hl := qbF (qh8 u) o n 0 t ht
 refine List.ext_getElem (by rw [hl]; simp [qli]) (fun i h1 h2 => ?_)
 have hi : i < 2 ^ n := by rw [hl] at h2; exact h2
 have e := chT_one o u (qaY n i) n 0 t ht (by omega) (by omega)
 rw [qd5 n 0 n i (by omega), Nat.mod_eq_of_lt hi, ← qdx n i u false hi hu, ← qdx n i u true hi hu] at e
 have c : ((0 : Nat) : Int) = 0 := rfl
 rw [c] at e
 simp only [List.getD_eq_getElem?_getD] at e
 rw [List.getElem?_eq_getElem h2, Option.getD_some] at e
 rw [e]
 simp [qli]
def qjh (o : Bool → Bool → Bool) : Prop := ∀ a b c d, o (o a b) (o c d) = o (o a c) (o b d)
theorem qh9 {o : Bool → Bool → Bool} (h : qjh o) : ∀ a b c d : List Bool, List.zipWith o (List.zipWith o a b) (List.zipWith o c d) = List.zipWith o (List.zipWith o a c) (List.zipWith o b d)
 | [], _, _, _ => by simp
 | _ :: _, [], _, _ => by simp
 | _ :: _, _ :: _, [], _ => by simp
 | _ :: _, _ :: _, _ :: _, [] => by simp
 | x :: a, y :: b, z :: c, w :: d => by simp [h x y z w, qh9 h a b c d]
theorem qdP {o : Bool → Bool → Bool} {a b c d : List Bool} (h : a.length = c.length) : List.zipWith o (a ++ b) (c ++ d) = List.zipWith o a c ++ List.zipWith o b d := by
 exact List.zipWith_append h
theorem qmp {d : Nat} {t : List Bool} (ht : t.length = 2 ^ (d + 1)) : ∃ a b, t = a ++ b ∧ a.length = 2 ^ d ∧ b.length = 2 ^ d :=
 ⟨t.take (2 ^ d), t.drop (2 ^ d), (List.take_append_drop _ _).symm, by rw [List.length_take, ht, Nat.pow_succ]; omega, by rw [List.length_drop, ht, Nat.pow_succ]; omega⟩
theorem chT_zip {wn : Int → Bool} {o : Bool → Bool → Bool} (h : qjh o) : ∀ (d : Nat) (v : Int) (s t : List Bool), s.length = 2 ^ d → t.length = 2 ^ d → chT wn o d v (List.zipWith o s t) = List.zipWith o (chT wn o d v s) (chT wn o d v t) := by
 intro d
 induction d with
 | zero => intro v s t _ _; rfl
 | succ d ih =>
  intro v s t hs ht
  obtain ⟨a, b, rfl, ha, hb⟩ := qmp hs
  obtain ⟨a', b', rfl, ha', hb'⟩ := qmp ht
  have la := qbF wn o d (v + 1) a ha
  have lb := qbF wn o d (v + 1) b hb
  have la' := qbF wn o d (v + 1) a' ha'
  have lb' := qbF wn o d (v + 1) b' hb'
  rw [qdP (by omega), qbd _ _ _ _ _ _ (by rw [List.length_zipWith]; omega), qbd _ _ _ _ _ _ ha, qbd _ _ _ _ _ _ ha', ih (v + 1) a a' ha ha', ih (v + 1) b b' hb hb']
  split
  · rw [qdP (by simp only [List.length_zipWith]; omega), qh9 h]
  · rw [qdP (by omega)]
theorem qmq {S S' : Int → Bool} {o : Bool → Bool → Bool} (ho : qmn o) (h : qjh o) (u : Nat) (hS : S u = false) (hS' : ∀ x, S' x = (S x || qh8 u x)) : ∀ (d : Nat) (v : Int) (t : List Bool), t.length = 2 ^ d →
 chT S' o d v t = chT (qh8 u) o d v (chT S o d v t) := by
 intro d
 induction d with
 | zero => intro v t _; rfl
 | succ d ih =>
  intro v t ht
  obtain ⟨a, b, rfl, ha, hb⟩ := qmp ht
  have la := qbF S o d (v + 1) a ha
  have lb := qbF S o d (v + 1) b hb
  rw [qbd _ _ _ _ _ _ ha, qbd _ _ _ _ _ _ ha, ih (v + 1) a ha, ih (v + 1) b hb]
  by_cases e : v = (u : Int)
  · subst e
    have h1 : qh8 u (u : Int) = true := by simp [qh8]
    rw [if_pos (by rw [hS', hS, h1]; rfl), if_neg (by simp [hS]), qbd _ _ _ _ _ _ la, if_pos h1]
  · have h1 : qh8 u v = false := by simp [qh8, e]
    by_cases hv : S v = true
    · rw [if_pos (by rw [hS', hv]; rfl), if_pos hv, qbd _ _ _ _ _ _ (by rw [List.length_zipWith]; omega), if_neg (by simp [h1]), chT_zip h d (v + 1) _ _ la lb]
    · rw [if_neg (by rw [hS', h1]; simpa using hv), if_neg hv, qbd _ _ _ _ _ _ la, if_neg (by simp [h1])]
def inV (set : List Nat) : Int → Bool := fun x => set.any fun u => qh8 u x
def qcw (o : Bool → Bool → Bool) (n : Nat) : List Nat → List Bool → List Bool
 | [], t => t
 | u :: set, t => qcw o n set (qli o n u t)
theorem qji (o : Bool → Bool → Bool) (n u : Nat) (t : List Bool) : (qli o n u t).length = 2 ^ n := by simp [qli]
theorem qjj (o : Bool → Bool → Bool) (n u : Nat) : ∀ (set : List Nat) (t : List Bool), qcw o n (set ++ [u]) t = qli o n u (qcw o n set t) := by
 intro set
 induction set with
 | nil => intro t; rfl
 | cons x set ih => intro t; exact ih _
theorem qd7 (o : Bool → Bool → Bool) (n : Nat) : ∀ (set : List Nat) (t : List Bool), t.length = 2 ^ n → (qcw o n set t).length = 2 ^ n := by
 intro set
 induction set with
 | nil => intro t h; exact h
 | cons u set ih => intro t h; exact ih _ (qji o n u t)
theorem qmr {o : Bool → Bool → Bool} (ho : qmn o) (h : qjh o) (n : Nat) (t : List Bool) (ht : t.length = 2 ^ n) : ∀ (k : Nat) (set : List Nat), set.length = k → set.Nodup → (∀ u ∈ set, u < n) → qcw o n set t = chT (inV set) o n 0 t := by
 intro k
 induction k with
 | zero =>
  intro set hl _ _
  obtain rfl := List.length_eq_zero_iff.1 hl
  exact (qg6 o n 0 t (fun x _ => by simp [inV])).symm
 | succ k ih =>
  intro set hl hn hu
  rcases List.eq_nil_or_concat set with rfl | ⟨s, u, rfl⟩
  · simp at hl
  · rw [List.concat_eq_append] at *
    have hn' := List.nodup_append.1 hn
    rw [qjj, ih s (by simpa using hl) hn'.1 (fun x hx => hu x (by simp [hx])), qoJ o (qbF _ _ _ _ _ ht) (hu u (by simp))]
    refine (qmq ho h u ?_ ?_ n 0 t ht).symm
    · simp only [inV, qh8, List.any_eq_false, decide_eq_true_eq]
      intro x hx e
      have : x = u := by omega
      subst this
      exact hn'.2.2 x hx x (by simp) rfl
    · intro x; simp [inV]
end Go.Proofs.YticcpnekjddanaaGreatDoor
