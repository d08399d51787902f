/-  -/

set_option linter.unusedVariables false
set_option linter.unusedSimpArgs false
namespace Go.Proofs.YticcpnekjddanaaGreatDoor
section
variable {α ε : Type} (nx : α → ε → Option α) (E : List ε) (x0 : α)
def Lv : Nat → α → Prop
 | 0, x => x = x0
 | d + 1, y => Lv d y ∨ ∃ x e, Lv d x ∧ e ∈ E ∧ nx x e = some y
theorem Lv.mono {d d' : Nat} (h : d ≤ d') {x : α} (hx : Lv nx E x0 d x) : Lv nx E x0 d' x := by
 induction d' with
 | zero => rwa [show d = 0 by omega] at hx
 | succ d' ih =>
  by_cases e : d = d' + 1
  · rwa [e] at hx
  · exact .inl (ih (by omega))
end
section
variable {α ε : Type} [DecidableEq α]
def qdX : List α → α → Nat
 | [], _ => 0
 | x :: l, y => if x = y then 0 else qdX l y + 1
theorem qeu : ∀ {l : List α} {y : α}, y ∈ l → l[qdX l y]? = some y
 | x :: l, y, h => by
  unfold qdX
  by_cases e : x = y
  · rw [if_pos e, e]; rfl
  · rw [if_neg e]
    rcases List.mem_cons.1 h with h | h
    · exact absurd h.symm e
    · rw [List.getElem?_cons_succ]; exact qeu h
theorem qnY {l : List α} {y : α} (h : y ∈ l) : qdX l y < l.length := (List.getElem?_eq_some_iff.1 (qeu h)).1
theorem qhw : ∀ {l : List α} (k : List α) {y : α}, y ∈ l → qdX (l ++ k) y = qdX l y
 | x :: l, k, y, h => by
  rw [List.cons_append]
  unfold qdX
  by_cases e : x = y
  · rw [if_pos e, if_pos e]
  · rw [if_neg e, if_neg e]
    rcases List.mem_cons.1 h with h | h
    · exact absurd h.symm e
    · rw [qhw k h]
theorem qhx : ∀ {l : List α} {y : α}, ¬ y ∈ l → qdX (l ++ [y]) y = l.length
 | [], y, _ => by simp [qdX]
 | x :: l, y, h => by
  rw [List.cons_append]
  unfold qdX
  rw [if_neg (fun e => h (by rw [e]; exact List.mem_cons_self)), qhx (fun hy => h (List.mem_cons_of_mem _ hy))]
  rfl
theorem qhy : ∀ {l : List α}, l.Nodup → ∀ {i : Nat} {y : α}, l[i]? = some y → qdX l y = i
 | x :: l, hn, 0, y, h => by
  simp at h
  unfold qdX
  rw [if_pos h]
 | x :: l, hn, i + 1, y, h => by
  rw [List.getElem?_cons_succ] at h
  obtain ⟨h1, h2⟩ := List.nodup_cons.1 hn
  unfold qdX
  rw [if_neg (fun e => h1 (by rw [e]; exact List.mem_of_getElem? h)), qhy h2 h]
 | [], _, i, y, h => by simp at h
variable (nx : α → ε → Option α) (E : List ε) (x0 : α)
def qhz (T : List α) (l : List ε) (j : Nat) : List (Nat × ε × Nat) := l.filterMap fun e => match T[j]? with
 | some x => (nx x e).map fun y => (j, e, qdX T y)
 | none => none
def qqs (G : List (Nat × ε × Nat)) : Nat → Nat := G.foldl (fun d g i => if i = g.2.2 ∧ g.1 < g.2.2 ∧ d g.2.2 = 0 then d g.1 + 1 else d i) (fun _ => 0)
theorem qf8 (G : List (Nat × ε × Nat)) (j : Nat) (e : ε) (i u : Nat) : qqs (G ++ [(j, e, i)]) u = if u = i ∧ j < i ∧ qqs G i = 0 then qqs G j + 1 else qqs G u := by
 unfold qqs
 rw [List.foldl_append]
 rfl
structure BJ (k c : Nat) (T : List α) (G : List (Nat × ε × Nat)) (D : List Nat) : Prop where
 nd : T.Nodup
 hd : T[0]? = some x0
 klt : k < T.length
 dl : D.length = T.length
 d0 : D.getD 0 0 = 0
 d1 : ∀ i, 0 < i → i < T.length → 1 ≤ D.getD i 0
 mono : ∀ i j, i ≤ j → j < T.length → D.getD i 0 ≤ D.getD j 0
 top : ∀ j, j < T.length → D.getD j 0 ≤ D.getD k 0 + 1
 lv : ∀ j x, T[j]? = some x → Lv nx E x0 (D.getD j 0) x
 cls : ∀ j e x y, (j < k ∧ e ∈ E ∨ j = k ∧ e ∈ E.take c) → T[j]? = some x → nx x e = some y → ∃ i, T[i]? = some y ∧ D.getD i 0 ≤ D.getD j 0 + 1
 edg : G = (List.range k).flatMap (qhz nx T E) ++ qhz nx T (E.take c) k
 dep : ∀ i, qqs G i = D.getD i 0
structure BI (k : Nat) (T : List α) (G : List (Nat × ε × Nat)) (D : List Nat) : Prop where
 nd : T.Nodup
 hd : T[0]? = some x0
 kle : k ≤ T.length
 dl : D.length = T.length
 d0 : D.getD 0 0 = 0
 d1 : ∀ i, 0 < i → i < T.length → 1 ≤ D.getD i 0
 mono : ∀ i j, i ≤ j → j < T.length → D.getD i 0 ≤ D.getD j 0
 top : k < T.length → ∀ j, j < T.length → D.getD j 0 ≤ D.getD k 0 + 1
 lv : ∀ j x, T[j]? = some x → Lv nx E x0 (D.getD j 0) x
 cls : ∀ j e x y, j < k → e ∈ E → T[j]? = some x → nx x e = some y → ∃ i, T[i]? = some y ∧ D.getD i 0 ≤ D.getD j 0 + 1
 edg : G = (List.range k).flatMap (qhz nx T E)
 dep : ∀ i, qqs G i = D.getD i 0
variable {nx E x0}
theorem BI.start : BI nx E x0 0 [x0] [] [0] where
 nd := by simp
 hd := rfl
 kle := by simp
 dl := rfl
 d0 := rfl
 d1 i h1 h2 := by simp at h2; omega
 mono i j h1 h2 := by simp at h2; rw [show j = 0 by omega, show i = 0 by omega]; exact Nat.le_refl _
 top _ j hj := by simp at hj; rw [show j = 0 by omega]; simp
 lv j x h := by
  have h0 : j = 0 := by have := (List.getElem?_eq_some_iff.1 h).1; simp at this; omega
  subst h0
  simp at h
  exact h.symm
 cls j e x y h := by omega
 edg := rfl
 dep i := by
  show 0 = [0].getD i 0
  cases i <;> simp
theorem qpv (T : List α) (j : Nat) : qhz nx T ([] : List ε) j = [] := rfl
theorem BI.open {k : Nat} {T : List α} {G : List (Nat × ε × Nat)} {D : List Nat} (h : BI nx E x0 k T G D) (hk : k < T.length) : BJ nx E x0 k 0 T G D :=
 ⟨h.nd, h.hd, hk, h.dl, h.d0, h.d1, h.mono, h.top hk, h.lv, fun j e x y hj => by
  rcases hj with ⟨h1, h2⟩ | ⟨h1, h2⟩
  · exact h.cls j e x y h1 h2
  · simp at h2, by rw [h.edg, List.take_zero, qpv, List.append_nil], h.dep⟩
theorem BJ.shut {k c : Nat} {T : List α} {G : List (Nat × ε × Nat)} {D : List Nat} (h : BJ nx E x0 k c T G D) (hc : E.length ≤ c) : BI nx E x0 (k + 1) T G D := by
 have ht : E.take c = E := List.take_of_length_le hc
 refine ⟨h.nd, h.hd, h.klt, h.dl, h.d0, h.d1, h.mono, fun hk j hj => ?_, h.lv, fun j e x y hj he => h.cls j e x y ?_, ?_, h.dep⟩
 · have h1 := h.top j hj
   have h2 := h.mono k (k + 1) (by omega) hk
   omega
 · rw [ht]
   rcases Nat.lt_or_ge j k with h1 | h1
   · exact .inl ⟨h1, he⟩
   · exact .inr ⟨by omega, he⟩
 · rw [h.edg, ht, List.range_succ, List.flatMap_append]
   simp
theorem qnZ {T : List α} {k c : Nat} {x : α} (hx : T[k]? = some x) (hc : c < E.length) (h : nx x E[c] = none) : qhz nx T (E.take (c + 1)) k = qhz nx T (E.take c) k := by
 unfold qhz
 rw [List.take_succ_eq_append_getElem hc, List.filterMap_append]
 simp [hx, h]
theorem qiB {T : List α} {k c : Nat} {x y : α} (hx : T[k]? = some x) (hc : c < E.length) (h : nx x E[c] = some y) : qhz nx T (E.take (c + 1)) k = qhz nx T (E.take c) k ++ [(k, E[c], qdX T y)] := by
 unfold qhz
 rw [List.take_succ_eq_append_getElem hc, List.filterMap_append]
 simp [hx, h]
theorem qhA {c : Nat} (hc : c < E.length) {e : ε} (h : e ∈ E.take (c + 1)) : e ∈ E.take c ∨ e = E[c] := by
 rw [List.take_succ_eq_append_getElem hc] at h
 rcases List.mem_append.1 h with h | h
 · exact .inl h
 · exact .inr (List.mem_singleton.1 h)
theorem BJ.no {k c : Nat} {T : List α} {G : List (Nat × ε × Nat)} {D : List Nat} (h : BJ nx E x0 k c T G D) {x : α} (hx : T[k]? = some x) (hc : c < E.length) (hn : nx x E[c] = none) : BJ nx E x0 k (c + 1) T G D := by
 refine ⟨h.nd, h.hd, h.klt, h.dl, h.d0, h.d1, h.mono, h.top, h.lv, fun j e x' y hj hx' he => ?_, by rw [h.edg, qnZ hx hc hn], h.dep⟩
 rcases hj with h1 | ⟨h1, h2⟩
 · exact h.cls j e x' y (.inl h1) hx' he
 · rcases qhA hc h2 with h2 | h2
   · exact h.cls j e x' y (.inr ⟨h1, h2⟩) hx' he
   · subst h1 h2
     rw [hx] at hx'
     cases hx'
     rw [hn] at he
     cases he
theorem BJ.old {k c : Nat} {T : List α} {G : List (Nat × ε × Nat)} {D : List Nat} (h : BJ nx E x0 k c T G D) {x y : α} (hx : T[k]? = some x) (hc : c < E.length) (hn : nx x E[c] = some y) (hy : y ∈ T) : BJ nx E x0 k (c + 1) T (G ++ [(k, E[c], qdX T y)]) D := by
 have hp := qeu hy
 have hpl := qnY hy
 refine ⟨h.nd, h.hd, h.klt, h.dl, h.d0, h.d1, h.mono, h.top, h.lv, fun j e x' y' hj hx' he => ?_, by rw [h.edg, qiB hx hc hn, List.append_assoc], fun i => ?_⟩
 · rcases hj with h1 | ⟨h1, h2⟩
   · exact h.cls j e x' y' (.inl h1) hx' he
   · rcases qhA hc h2 with h2 | h2
     · exact h.cls j e x' y' (.inr ⟨h1, h2⟩) hx' he
     · subst h1 h2
       rw [hx] at hx'
       cases hx'
       rw [hn] at he
       cases he
       exact ⟨_, hp, h.top _ hpl⟩
 · rw [qf8, h.dep, h.dep, h.dep]
   split
   · next hh =>
     exfalso
     have := h.d1 _ (show 0 < qdX T y by omega) hpl
     omega
   · rfl
theorem qkQ {β : Type} {f g : ε → Option β} : ∀ {l : List ε}, (∀ e ∈ l, f e = g e) → l.filterMap f = l.filterMap g
 | [], _ => rfl
 | e :: l, h => by
  rw [List.filterMap_cons, List.filterMap_cons, h e List.mem_cons_self, qkQ (l := l) (fun e he => h e (List.mem_cons_of_mem _ he))]
theorem qkR {T : List α} {j : Nat} (l : List ε) (K : List α) (hj : j < T.length) (hc : ∀ e ∈ l, ∀ x y, T[j]? = some x → nx x e = some y → y ∈ T) : qhz nx (T ++ K) l j = qhz nx T l j := by
 unfold qhz
 refine qkQ (fun e he => ?_)
 rw [List.getElem?_append_left hj]
 cases hx : T[j]? with
 | none => rfl
 | some x =>
  simp only
  cases hn : nx x e with
  | none => rfl
  | some y => simp only [Option.map_some]; rw [qhw K (hc e he x y hx hn)]
theorem BJ.new {k c : Nat} {T : List α} {G : List (Nat × ε × Nat)} {D : List Nat} (h : BJ nx E x0 k c T G D) {x y : α} (hx : T[k]? = some x) (hc : c < E.length) (hn : nx x E[c] = some y) (hy : ¬ y ∈ T) :
 BJ nx E x0 k (c + 1) (T ++ [y]) (G ++ [(k, E[c], T.length)]) (D ++ [D.getD k 0 + 1]) := by
 have gL : ∀ i, i < T.length → (D ++ [D.getD k 0 + 1]).getD i 0 = D.getD i 0 := fun i hi => by
  simp only [List.getD_eq_getElem?_getD]
  rw [List.getElem?_append_left (by rw [h.dl]; exact hi)]
 have gN : (D ++ [D.getD k 0 + 1]).getD T.length 0 = D.getD k 0 + 1 := by
  simp only [List.getD_eq_getElem?_getD]
  rw [List.getElem?_append_right (by rw [h.dl]; exact Nat.le_refl _), h.dl, Nat.sub_self]
  rfl
 have tL : ∀ i, i < T.length → (T ++ [y])[i]? = T[i]? := fun i hi => List.getElem?_append_left hi
 have tN : (T ++ [y])[T.length]? = some y := by rw [List.getElem?_append_right (Nat.le_refl _), Nat.sub_self]; rfl
 have hlt : ∀ i z, T[i]? = some z → i < T.length := fun i z hz => (List.getElem?_eq_some_iff.1 hz).1
 have hk := h.klt
 have hcl : ∀ j l, (j < k ∧ l = E ∨ j = k ∧ l = E.take c) → ∀ e ∈ l, ∀ x y, T[j]? = some x → nx x e = some y → y ∈ T := fun j l hj e he x y h1 h2 => by
  obtain ⟨i, hi, _⟩ := h.cls j e x y (by
   rcases hj with ⟨h3, rfl⟩ | ⟨h3, rfl⟩
   · exact .inl ⟨h3, he⟩
   · exact .inr ⟨h3, he⟩) h1 h2
  exact List.mem_of_getElem? hi
 refine ⟨?_, ?_, ?_, ?_, ?_, ?_, ?_, ?_, ?_, ?_, ?_, ?_⟩
 · rw [List.nodup_append]
   refine ⟨h.nd, by simp, fun a ha b hb e => hy ?_⟩
   rw [List.mem_singleton.1 hb] at e
   rw [← e]; exact ha
 · rw [tL 0 (hlt 0 _ h.hd)]; exact h.hd
 · rw [List.length_append]; omega
 · rw [List.length_append, List.length_append, h.dl]; rfl
 · rw [gL 0 (by omega)]; exact h.d0
 · intro i h1 h2
   rw [List.length_append] at h2
   by_cases hi : i < T.length
   · rw [gL i hi]; exact h.d1 i h1 hi
   · rw [show i = T.length by simp at h2; omega, gN]; omega
 · intro i j h1 h2
   rw [List.length_append] at h2
   by_cases hj : j < T.length
   · rw [gL i (by omega), gL j hj]; exact h.mono i j h1 hj
   · rw [show j = T.length by simp at h2; omega, gN]
     by_cases hi : i < T.length
     · rw [gL i hi]; exact h.top i hi
     · rw [show i = T.length by simp at h2; omega, gN]; exact Nat.le_refl _
 · intro j hj
   rw [List.length_append] at hj
   rw [gL k hk]
   by_cases hj2 : j < T.length
   · rw [gL j hj2]; exact h.top j hj2
   · rw [show j = T.length by simp at hj; omega, gN]; exact Nat.le_refl _
 · intro j z hz
   by_cases hj : j < T.length
   · rw [tL j hj] at hz
     rw [gL j hj]
     exact h.lv j z hz
   · have hj2 : j = T.length := by have := hlt' hz; simp at this; omega
     subst hj2
     rw [tN] at hz
     cases hz
     rw [gN]
     exact .inr ⟨x, E[c], h.lv k x hx, List.getElem_mem hc, hn⟩
 · intro j e x' y' hj hx' he
   have hjk : j ≤ k := by rcases hj with ⟨h1, _⟩ | ⟨h1, _⟩ <;> omega
   rw [tL j (by omega)] at hx'
   rw [gL j (by omega)]
   have old : (j < k ∧ e ∈ E ∨ j = k ∧ e ∈ E.take c) → ∃ i, (T ++ [y])[i]? = some y' ∧ (D ++ [D.getD k 0 + 1]).getD i 0 ≤ D.getD j 0 + 1 := fun hj => by
    obtain ⟨i, h1, h2⟩ := h.cls j e x' y' hj hx' he
    exact ⟨i, by rw [tL i (hlt i _ h1)]; exact h1, by rw [gL i (hlt i _ h1)]; exact h2⟩
   rcases hj with h1 | ⟨h1, h2⟩
   · exact old (.inl h1)
   · rcases qhA hc h2 with h2 | h2
     · exact old (.inr ⟨h1, h2⟩)
     · subst h1 h2
       rw [hx] at hx'
       cases hx'
       rw [hn] at he
       cases he
       exact ⟨_, tN, by rw [gN]; exact Nat.le_refl _⟩
 · rw [h.edg]
   have e1 : (List.range k).flatMap (qhz nx (T ++ [y]) E) = (List.range k).flatMap (qhz nx T E) := by
    rw [List.flatMap_def, List.flatMap_def]
    congr 1
    exact List.map_congr_left (fun j hj => qkR E [y] (by have := List.mem_range.1 hj; omega) (hcl j E (.inl ⟨List.mem_range.1 hj, rfl⟩)))
   rw [e1, qiB (by rw [tL k hk]; exact hx) hc hn, qkR (E.take c) [y] hk (hcl k _ (.inr ⟨rfl, rfl⟩)), qhx hy, List.append_assoc]
 · intro i
   rw [qf8, h.dep, h.dep]
   have hz : D.getD T.length 0 = 0 := by
    simp only [List.getD_eq_getElem?_getD]
    rw [List.getElem?_eq_none (by rw [h.dl]; exact Nat.le_refl _)]
    rfl
   by_cases hi : i = T.length
   · subst hi
     rw [if_pos ⟨rfl, hk, hz⟩, gN]
   · rw [if_neg (fun hh => hi hh.1), h.dep]
     by_cases hi2 : i < T.length
     · rw [gL i hi2]
     · simp only [List.getD_eq_getElem?_getD]
       rw [List.getElem?_eq_none (by rw [h.dl]; omega), List.getElem?_eq_none (by rw [List.length_append, h.dl]; simp; omega)]
where hlt' {j : Nat} {z : α} {L : List α} (hz : L[j]? = some z) : j < L.length := (List.getElem?_eq_some_iff.1 hz).1
theorem BI.end_iff {T : List α} {G : List (Nat × ε × Nat)} {D : List Nat} (h : BI nx E x0 T.length T G D) : ∀ d x, Lv nx E x0 d x ↔ ∃ j, T[j]? = some x ∧ D.getD j 0 ≤ d := by
 intro d
 induction d with
 | zero =>
  intro x
  constructor
  · intro hx
    exact ⟨0, by rw [h.hd]; exact congrArg some hx.symm, by rw [h.d0]; exact Nat.le_refl _⟩
  · rintro ⟨j, hj, hd⟩
    have hjl := (List.getElem?_eq_some_iff.1 hj).1
    have h0 : j = 0 := by
     rcases Nat.eq_zero_or_pos j with h0 | h0
     · exact h0
     · have := h.d1 j h0 hjl; omega
    subst h0
    rw [h.hd] at hj
    exact (Option.some.inj hj).symm
 | succ d ih =>
  intro y
  constructor
  · rintro (hy | ⟨x, e, hx, he, hn⟩)
    · obtain ⟨j, h1, h2⟩ := (ih y).1 hy
      exact ⟨j, h1, by omega⟩
    · obtain ⟨j, h1, h2⟩ := (ih x).1 hx
      obtain ⟨i, h3, h4⟩ := h.cls j e x y (List.getElem?_eq_some_iff.1 h1).1 he h1 hn
      exact ⟨i, h3, by omega⟩
  · rintro ⟨j, h1, h2⟩
    exact (h.lv j y h1).mono nx E x0 h2
end
end Go.Proofs.YticcpnekjddanaaGreatDoor
namespace Go.Proofs.YticcpnekjddanaaGreatDoor
section
variable {ε : Type}
def qev (g : List Bool) (x : Nat × ε × Nat) : List Bool := g.set x.1 (g.getD x.1 false || g.getD x.2.2 false)
def qgB (G : List (Nat × ε × Nat)) (g : List Bool) : List Bool := G.foldl qev g
def qaB (G : List (Nat × ε × Nat)) (g : List Bool) : Nat → List Bool
 | 0 => g
 | k + 1 => qgB G (qaB G g k)
theorem qfo (g : List Bool) (i j : Nat) (v : Bool) : (g.set i v).getD j false = if i = j ∧ i < g.length then v else g.getD j false := by
 simp only [List.getD_eq_getElem?_getD, List.getElem?_set]
 by_cases h : i = j
 · subst h
   by_cases h2 : i < g.length
   · simp [h2]
   · simp [h2]
 · simp [h]
theorem qiC (g : List Bool) (x : Nat × ε × Nat) : (qev g x).length = g.length := List.length_set
theorem qf9 : ∀ (G : List (Nat × ε × Nat)) (g : List Bool), (qgB G g).length = g.length
 | [], _ => rfl
 | x :: G, g => by
  show (qgB G (qev g x)).length = _
  rw [qf9 G, qiC]
theorem qb4 (G : List (Nat × ε × Nat)) (g : List Bool) : ∀ k, (qaB G g k).length = g.length
 | 0 => rfl
 | k + 1 => by rw [qaB, qf9, qb4 G g k]
theorem qgS {g : List Bool} (x : Nat × ε × Nat) {i : Nat} (h : g.getD i false = true) : (qev g x).getD i false = true := by
 unfold qev
 rw [qfo]
 split
 · next hh => rw [hh.1, h]; rfl
 · exact h
theorem qdC : ∀ (G : List (Nat × ε × Nat)) {g : List Bool} {i : Nat}, g.getD i false = true → (qgB G g).getD i false = true
 | [], _, _, h => h
 | x :: G, g, i, h => qdC G (qgS x h)
theorem qgT : ∀ (G : List (Nat × ε × Nat)) {g : List Bool} {x : Nat × ε × Nat}, x ∈ G → x.1 < g.length → g.getD x.2.2 false = true → (qgB G g).getD x.1 false = true
 | y :: G, g, x, hx, hl, h => by
  show (qgB G (qev g y)).getD x.1 false = true
  rcases List.mem_cons.1 hx with rfl | hx
  · refine qdC G ?_
    unfold qev
    rw [qfo, if_pos ⟨rfl, hl⟩, h, Bool.or_true]
  · exact qgT G hx (by rw [qiC]; exact hl) (qgS y h)
theorem qga {P : Nat → Prop} : ∀ (G : List (Nat × ε × Nat)) {g : List Bool}, (∀ x ∈ G, P x.2.2 → P x.1) → (∀ i, g.getD i false = true → P i) → ∀ i, (qgB G g).getD i false = true → P i
 | [], _, _, h => h
 | y :: G, g, hG, h => qga G (fun x hx => hG x (List.mem_cons_of_mem _ hx)) (fun i hi => by
  unfold qev at hi
  rw [qfo] at hi
  split at hi
  · next hh =>
    rw [← hh.1]
    rcases (Bool.or_eq_true_iff).1 hi with h1 | h1
    · exact h _ h1
    · exact hG y List.mem_cons_self (h _ h1)
  · exact h i hi)
theorem qew {P : Nat → Prop} {G : List (Nat × ε × Nat)} {g : List Bool} (hG : ∀ x ∈ G, P x.2.2 → P x.1) (h : ∀ i, g.getD i false = true → P i) : ∀ k i, (qaB G g k).getD i false = true → P i
 | 0 => h
 | k + 1 => qga G hG (qew hG h k)
theorem qqt : ∀ {g h : List Bool}, g.length = h.length → (∀ i, g.getD i false = true → h.getD i false = true) → g ≠ h → g.count true < h.count true
 | [], [], _, _, hn => absurd rfl hn
 | [], _ :: _, hl, _, _ => by simp at hl
 | _ :: _, [], hl, _, _ => by simp at hl
 | a :: g, b :: h, hl, hi, hn => by
  have h0 := hi 0
  simp only [List.getD_cons_zero] at h0
  have ht : ∀ i, g.getD i false = true → h.getD i false = true := fun i hh => by have := hi (i + 1); simp only [List.getD_cons_succ] at this; exact this hh
  have hl' : g.length = h.length := by simpa using hl
  by_cases e : g = h
  · subst e
    have hab : a ≠ b := fun e => hn (by rw [e])
    cases a <;> cases b <;> simp_all
  · have := qqt hl' ht e
    rw [List.count_cons, List.count_cons]
    cases a <;> cases b <;> simp_all <;> omega
theorem qdr {G : List (Nat × ε × Nat)} {g : List Bool} {k : Nat} (h : qaB G g (k + 1) = qaB G g k) : ∀ j, qaB G g (k + j) = qaB G g k
 | 0 => rfl
 | j + 1 => by
  show qgB G (qaB G g (k + j)) = _
  rw [qdr h j]
  exact h
theorem qjS (G : List (Nat × ε × Nat)) (g : List Bool) : qgB G (qaB G g g.length) = qaB G g g.length := by
 have key : ∀ k, (∃ j, j < k ∧ qaB G g (j + 1) = qaB G g j) ∨ k ≤ (qaB G g k).count true := by
  intro k
  induction k with
  | zero => exact .inr (Nat.zero_le _)
  | succ k ih =>
   rcases ih with ⟨j, h1, h2⟩ | ih
   · exact .inl ⟨j, by omega, h2⟩
   · by_cases e : qaB G g (k + 1) = qaB G g k
     · exact .inl ⟨k, by omega, e⟩
     · right
       have := qqt (g := qaB G g k) (h := qaB G g (k + 1)) (by rw [qb4, qb4]) (fun i hi => qdC G hi) (fun e' => e e'.symm)
       omega
 rcases key (g.length + 1) with ⟨j, h1, h2⟩ | h
 · have h3 := qdr h2 (g.length - j)
   have h4 := qdr h2 (g.length + 1 - j)
   rw [show j + (g.length - j) = g.length by omega] at h3
   rw [show j + (g.length + 1 - j) = g.length + 1 by omega] at h4
   show qaB G g (g.length + 1) = _
   rw [h4, h3]
 · have h1 : (qaB G g (g.length + 1)).count true ≤ (qaB G g (g.length + 1)).length := List.count_le_length
   rw [qb4] at h1
   omega
theorem qjT {G : List (Nat × ε × Nat)} {g : List Bool} (hG : ∀ x ∈ G, x.1 < g.length) (B : Nat → Nat → Prop) (h0 : ∀ i, B 0 i ↔ g.getD i false = true) (hs : ∀ d i, B (d + 1) i ↔ B d i ∨ ∃ x ∈ G, x.1 = i ∧ B d x.2.2) (i : Nat) :
 (qaB G g g.length).getD i false = true ↔ ∃ d, B d i := by
 constructor
 · refine qew (P := fun i => ∃ d, B d i) (fun x hx ⟨d, hd⟩ => ⟨d + 1, (hs d x.1).2 (.inr ⟨x, hx, rfl, hd⟩)⟩) (fun i hi => ⟨0, (h0 i).2 hi⟩) g.length i
 · rintro ⟨d, hd⟩
   have hst := qjS G g
   have hm : ∀ k i, g.getD i false = true → (qaB G g k).getD i false = true := by
    intro k
    induction k with
    | zero => exact fun i h => h
    | succ k ih => exact fun i h => qdC G (ih i h)
   induction d generalizing i with
   | zero => exact hm _ _ ((h0 i).1 hd)
   | succ d ih =>
    rcases (hs d i).1 hd with h | ⟨x, hx, rfl, h⟩
    · exact ih i h
    · rw [← hst]
      exact qgT G hx (by rw [qb4]; exact hG x hx) (ih _ h)
def qbV (d : List Nat) (x : Nat × ε × Nat) : List Nat := if x.1 < x.2.2 ∧ d.getD x.2.2 0 = 0 then d.set x.2.2 (d.getD x.1 0 + 1) else d
theorem qiD (g : List Nat) (i j v : Nat) : (g.set i v).getD j 0 = if i = j ∧ i < g.length then v else g.getD j 0 := by
 simp only [List.getD_eq_getElem?_getD, List.getElem?_set]
 by_cases h : i = j
 · subst h
   by_cases h2 : i < g.length
   · simp [h2]
   · simp [h2]
 · simp [h]
theorem qiE (d : List Nat) (x : Nat × ε × Nat) : (qbV d x).length = d.length := by
 unfold qbV
 split
 · exact List.length_set
 · rfl
theorem qjU {β : Type} {P : List β → Prop} (h0 : P []) (h1 : ∀ l x, P l → P (l ++ [x])) (l : List β) : P l := by
 rw [← List.reverse_reverse l]
 induction l.reverse with
 | nil => exact h0
 | cons x l ih => rw [List.reverse_cons]; exact h1 _ x ih
theorem qlI (n : Nat) : ∀ (G : List (Nat × ε × Nat)), (∀ x ∈ G, x.2.2 < n) → (G.foldl qbV (List.replicate n 0)).length = n ∧ ∀ i, (G.foldl qbV (List.replicate n 0)).getD i 0 = if i < n then qqs G i else 0 := by
 refine qjU ?_ (fun G x ih => ?_)
 · intro _
   refine ⟨by simp, fun i => ?_⟩
   show (List.replicate n 0).getD i 0 = _
   simp only [List.getD_eq_getElem?_getD, List.getElem?_replicate]
   split <;> rfl
 · intro h
   obtain ⟨h1, h2⟩ := ih (fun y hy => h y (List.mem_append_left _ hy))
   have hx := h x (by simp)
   obtain ⟨j, e, i'⟩ := x
   simp only at hx
   rw [List.foldl_append]
   simp only [List.foldl_cons, List.foldl_nil]
   generalize G.foldl qbV (List.replicate n 0) = g at *
   refine ⟨by rw [qiE, h1], fun i => ?_⟩
   rw [qf8]
   unfold qbV
   simp only
   by_cases hc : j < i' ∧ g.getD i' 0 = 0
   · rw [if_pos hc, qiD, h1, h2 j, h2 i]
     have hc2 := hc.2
     rw [h2 i', if_pos hx] at hc2
     by_cases hi : i' = i
     · subst hi
       rw [if_pos ⟨rfl, hx⟩, if_pos (show j < n by omega), if_pos hx, if_pos ⟨rfl, hc.1, hc2⟩]
     · rw [if_neg (fun hh => hi hh.1)]
       split
       · rw [if_neg (fun hh => hi hh.1.symm)]
       · rfl
   · rw [if_neg hc, h2 i]
     split
     · rw [if_neg]
       intro hh
       rw [h2 i', if_pos hx] at hc
       exact hc hh.2
     · rfl
end
end Go.Proofs.YticcpnekjddanaaGreatDoor
