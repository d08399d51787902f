/-  -/
import Derived.Test.YtcipnkemnepbaaaGreatCRowL
import Derived.Test.YtcipnkemnepbaaaGreatCRestr
import Derived.Test.YtcipnkemnepbaaaGreatCNetC
import Derived.Test.YtcipnkemnepbaaaGreatCRelGenB
import Derived.Test.YtcipnkemnepbaaaGreatCRelB
set_option linter.unusedVariables false
set_option linter.unusedSimpArgs false
namespace Go.Proofs.YtcipnkemnepbaaaGreat
open Go.RowKit
theorem DgE.ok {E : Int} {n : Nat} {t : List Bool} {w w' : World} {e : Ending} (h : DgE E n t w e w') (h0 : E = 0) : DgN n t w e w' := by
 rcases h with ⟨h, _⟩ | ⟨_, h⟩
 · exact absurd h0 h
 · exact h
theorem ClE.ok {E : Int} {b s : Nat} {r u : List Bool} {w w' : World} {e : Ending} (h : ClE E b s r u w e w') (h0 : E = 0) : ClR b s r u w e w' := by
 rcases h with ⟨h, _⟩ | ⟨_, h⟩
 · exact absurd h0 h
 · exact h
theorem ClR.open {b s : Nat} {r u : List Bool} {w w' : World} {e : Ending} (h : ClR b s r u w e w') : ∃ (k : Nat) (a : Option Addr) (c : Nat) (L : List Nd) (q : Int), e = .returned (.tuple #[.agg #[.int .i64 b, .slice a L.length c, .int .i64 q], .int .i64 k, .int .i64 0]) ∧ Dg.at w' ⟨b, a, c, L, q⟩ ∧ IsTab b (clI b s r u k) L q ∧ clI b s r u (k + 1) = clI b s r u k ∧ (∀ j, j < k → clI b s r u j ≠ clI b s r u (j + 1)) ∧ Same w w' := by
 obtain ⟨⟨n, a, c, L, q⟩, k, he, hd, ⟨hn, ht⟩, h1, h2, hs⟩ := h
 obtain rfl : n = b := hn
 exact ⟨k, a, c, L, q, he, hd, ht, h1, h2, hs⟩
def kA (s : Nat) : Au := ⟨[0, 1], 3, [], [(0, 0, 1), (1, 0, 2), (2, 1, 0)], some ⟨s, 0, none⟩, 2, none, 0, some ⟨s + 1, 0, none⟩, 3⟩
theorem renErr_0 {m : Int} {qs : List Int} : ∀ (k i : Nat), i + k = qs.length → (∀ j, j < qs.length → 0 ≤ toF qs j ∧ toF qs j < m) → (∀ j, j + 1 < qs.length → toF qs j < toF qs (j + 1)) → renErr m qs k i = 0
 | 0, _, _, _, _ => rfl
 | k + 1, i, h, h1, h2 => by
  have b := h1 i (by omega)
  rw [renErr, if_neg (by omega), if_neg (fun hh => by
   have := h2 (i - 1) (by omega)
   rw [show i - 1 + 1 = i by omega] at this
   omega)]
  exact renErr_0 k (i + 1) (by omega) h1 h2
theorem natI_toF {l : List Nat} {j : Nat} (h : j < l.length) : toF (natI l) j = ((l[j] : Nat) : Int) := by
 unfold toF natI
 simp [List.getD, h]
theorem filF_pair (p : Nat → Bool) (n : Nat) : (filF p n).Pairwise (· < ·) := List.pairwise_lt_range.filter _
theorem fil_err (p : Nat → Bool) (n : Nat) : renErr n (natI (filF p n)) (natI (filF p n)).length 0 = 0 := by
 refine renErr_0 _ 0 (by omega) (fun j hj => ?_) (fun j hj => ?_)
 · rw [natI_len] at hj
   rw [natI_toF hj]
   have := (filF_mem.1 (List.getElem_mem hj)).1
   omega
 · rw [natI_len] at hj
   rw [natI_toF hj, natI_toF (by omega)]
   have := List.pairwise_iff_getElem.1 (filF_pair p n) j (j + 1) (by omega) hj (by omega)
   omega
theorem idL_lt (k : Nat) : ∀ p ∈ idL k, p.1 < k ∧ p.2 < k := fun p hp => by
 obtain ⟨i, hi, rfl⟩ := List.mem_map.1 hp
 have := List.mem_range.1 hi
 exact ⟨this, this⟩
theorem IsTab.zero {n : Nat} {t : List Bool} {L : List Nd} {r : Int} (h : IsTab n t L r) : r = 0 ↔ t = fls n := by
 constructor
 · rintro rfl
   have := h.ord.2.2
   rw [tab0 _ h.n40] at this
   exact this.symm
 · rintro rfl
   have := h.eq
   rw [show fls n = List.replicate (2 ^ n) false from rfl, tableF_false] at this
   exact (congrArg Prod.snd this).symm
theorem RowAt.bool {w : World} {a : Option Addr} {q cap : Nat} {l : List Bool} (h : RowAt w (.slice a q cap) q (gz l)) {k : Nat} (hk : k < l.length) (hq : l.length = q) :
 ∃ b off, a = some ⟨b, off, none⟩ ∧ b < w.heap.size ∧ w.cell? ⟨b, off + k, none⟩ = some (.bool l[k]) := by
 obtain ⟨b, off, h1, h2, h3⟩ := h.cell (by omega)
 exact ⟨b, off, h1, h2, h3 _ _ (boolCells_get l k hk)⟩
theorem pigeonI : ∀ (n : Nat) (l : List Int), l.Nodup → (∀ x ∈ l, 0 ≤ x ∧ x < n) → l.length ≤ n
 | 0, l, _, h => by
  cases l with
  | nil => simp
  | cons x l => have := h x (by simp); omega
 | n + 1, l, hn, h => by
  by_cases hm : (n : Int) ∈ l
  · have := pigeonI n (l.erase n) (hn.erase _) fun x hx => by
      have h1 := h x (List.mem_of_mem_erase hx)
      have h2 : x ≠ n := fun e => by subst e; exact (List.Nodup.mem_erase_iff hn).1 hx |>.1 rfl
      omega
    rw [List.length_erase_of_mem hm] at this
    omega
  · have := pigeonI n l hn fun x hx => by
      have h1 := h x hx
      have h2 : x ≠ n := fun e => hm (e ▸ hx)
      omega
    omega
def stepI (es : List Nd) (s e : Int) : Int := match es.find? (fun x => decide (x.1 = s ∧ x.2.1 = e)) with
 | some x => x.2.2
 | none => -1
theorem stepI_none {es : List Nd} {s e : Int} (h : ∀ (j : Nat) (hj : j < es.length), ¬ (es[j].1 = s ∧ es[j].2.1 = e)) : stepI es s e = -1 := by
 unfold stepI
 have : es.find? (fun x => decide (x.1 = s ∧ x.2.1 = e)) = none := by
  rw [List.find?_eq_none]
  intro x hx
  obtain ⟨j, hj, rfl⟩ := List.mem_iff_getElem.1 hx
  simpa using h j hj
 rw [this]
theorem stepI_at {es : List Nd} {s e : Int} {k : Nat} (hk : k < es.length) (h : ∀ (j : Nat) (hj : j < es.length), j < k → ¬ (es[j].1 = s ∧ es[j].2.1 = e)) (h1 : es[k].1 = s ∧ es[k].2.1 = e) : stepI es s e = es[k].2.2 := by
 unfold stepI
 have : es.find? (fun x => decide (x.1 = s ∧ x.2.1 = e)) = some es[k] := by
  rw [List.find?_eq_some_iff_getElem]
  refine ⟨by simpa using h1, k, hk, rfl, fun j hj => ?_⟩
  have := h j (by omega) hj
  simpa only [Bool.not_eq_true', decide_eq_false_iff_not] using this
 rw [this]
theorem stepI_mem {es : List Nd} {s e : Int} : stepI es s e = -1 ∨ (s, e, stepI es s e) ∈ es := by
 unfold stepI
 cases h : es.find? (fun x => decide (x.1 = s ∧ x.2.1 = e)) with
 | none => exact .inl rfl
 | some x =>
  right
  have h1 := List.mem_of_find?_eq_some h
  have h2 := List.find?_some h
  simp only [decide_eq_true_eq] at h2
  obtain ⟨a, b, c⟩ := x
  simp only at h2
  obtain ⟨rfl, rfl⟩ := h2
  exact h1
def addS (es : List Nd) (s : Int) (out : List Int) (a : Int) : List Int := if 0 ≤ stepI es s a ∧ stepI es s a ∉ out then out ++ [stepI es s a] else out
def expS (es : List Nd) (al : List Int) (s : Int) (out : List Int) (k : Nat) : List Int := (al.take k).foldl (addS es s) out
theorem expS_0 (es : List Nd) (al : List Int) (s : Int) (out : List Int) : expS es al s out 0 = out := by simp [expS]
theorem expS_succ {es : List Nd} {al : List Int} {s : Int} {out : List Int} {k : Nat} (h : k < al.length) : expS es al s out (k + 1) = addS es s (expS es al s out k) al[k] := by
 unfold expS
 rw [List.take_add_one, List.getElem?_eq_getElem h, List.foldl_append]
 rfl
def FndOk (n : Nat) (l : List Int) : Prop := l.Nodup ∧ ∀ x ∈ l, 0 ≤ x ∧ x < n
theorem FndOk.len {n : Nat} {l : List Int} (h : FndOk n l) : l.length ≤ n := pigeonI n l h.1 h.2
def EsIn (n : Nat) (es : List Nd) : Prop := ∀ x ∈ es, 0 ≤ x.2.2 ∧ x.2.2 < n
theorem addS_ok {n : Nat} {es : List Nd} {s : Int} {out : List Int} {a : Int} (he : EsIn n es) (h : FndOk n out) : FndOk n (addS es s out a) := by
 unfold addS
 by_cases c : 0 ≤ stepI es s a ∧ stepI es s a ∉ out
 · rw [if_pos c]
   rcases stepI_mem (es := es) (s := s) (e := a) with h1 | h1
   · omega
   · have := he _ h1
     simp only at this
     refine ⟨?_, fun x hx => ?_⟩
     · rw [List.nodup_append]
       refine ⟨h.1, by simp, fun x hx y hy e => ?_⟩
       simp at hy
       subst hy
       exact c.2 (e ▸ hx)
     · rcases List.mem_append.1 hx with hx | hx
       · exact h.2 x hx
       · simp at hx; subst hx; omega
 · rw [if_neg c]; exact h
theorem addS_pre {es : List Nd} {s : Int} {out : List Int} {a : Int} : out <+: addS es s out a := by
 unfold addS
 by_cases c : 0 ≤ stepI es s a ∧ stepI es s a ∉ out
 · rw [if_pos c]; exact List.prefix_append _ _
 · rw [if_neg c]; exact List.prefix_refl _
theorem addS_has {es : List Nd} {s : Int} {out : List Int} {a : Int} (h : 0 ≤ stepI es s a) : stepI es s a ∈ addS es s out a := by
 unfold addS
 by_cases c : stepI es s a ∈ out
 · rw [if_neg (fun h => h.2 c)]; exact c
 · rw [if_pos ⟨h, c⟩]; simp
theorem expS_ok {n : Nat} {es : List Nd} {al : List Int} {s : Int} {out : List Int} (he : EsIn n es) (h : FndOk n out) : ∀ k, k ≤ al.length → FndOk n (expS es al s out k)
 | 0, _ => by rw [expS_0]; exact h
 | k + 1, hk => by rw [expS_succ (by omega)]; exact addS_ok he (expS_ok he h k (by omega))
theorem expS_pre {es : List Nd} {al : List Int} {s : Int} {out : List Int} : ∀ k, k ≤ al.length → out <+: expS es al s out k
 | 0, _ => by rw [expS_0]; exact List.prefix_refl _
 | k + 1, hk => by rw [expS_succ (by omega)]; exact (expS_pre k (by omega)).trans addS_pre
theorem expS_has {es : List Nd} {al : List Int} {s : Int} {out : List Int} : ∀ k, k ≤ al.length → ∀ (j : Nat) (hj : j < al.length), j < k → 0 ≤ stepI es s al[j] → stepI es s al[j] ∈ expS es al s out k
 | k + 1, hk, j, hj, hjk, h0 => by
  rw [expS_succ (by omega)]
  by_cases e : j = k
  · subst e; exact addS_has h0
  · exact addS_pre.subset (expS_has k (by omega) j hj (by omega) h0)
def fndF (es : List Nd) (al : List Int) : Nat → Nat → List Int → List Int
 | 0, _, out => out
 | f + 1, i, out => if h : i < out.length then fndF es al f (i + 1) (expS es al out[i] out al.length) else out
theorem fndF_go {es : List Nd} {al : List Int} {f i : Nat} {out : List Int} (h : i < out.length) : fndF es al (f + 1) i out = fndF es al f (i + 1) (expS es al out[i] out al.length) := by rw [fndF, dif_pos h]
theorem fndF_end {es : List Nd} {al : List Int} {f i : Nat} {out : List Int} (h : ¬ i < out.length) : fndF es al f i out = out := by
 cases f with
 | zero => rfl
 | succ f => rw [fndF, dif_neg h]
theorem fndF_ok {n : Nat} {es : List Nd} {al : List Int} (he : EsIn n es) : ∀ (f i : Nat) (out : List Int), FndOk n out → n ≤ f + i → (∀ (j : Nat) (h : j < out.length), j < i → ∀ a ∈ al, 0 ≤ stepI es out[j] a → stepI es out[j] a ∈ out) →
 FndOk n (fndF es al f i out) ∧ out <+: fndF es al f i out ∧ ∀ s ∈ fndF es al f i out, ∀ a ∈ al, 0 ≤ stepI es s a → stepI es s a ∈ fndF es al f i out := by
 intro f
 induction f with
 | zero =>
  intro i out h hf hc
  rw [fndF_end (by have := h.len; omega)]
  refine ⟨h, List.prefix_refl _, fun s hs => ?_⟩
  obtain ⟨j, hj, rfl⟩ := List.mem_iff_getElem.1 hs
  exact hc j hj (by have := h.len; omega)
 | succ f ih =>
  intro i out h hf hc
  by_cases c : i < out.length
  · rw [fndF_go c]
    have hp := expS_pre (es := es) (al := al) (s := out[i]) (out := out) al.length (Nat.le_refl _)
    obtain ⟨h1, h2, h3⟩ := ih (i + 1) _ (expS_ok (al := al) (s := out[i]) he h al.length (Nat.le_refl _)) (by omega) (fun j hj hji a ha h0 => by
     have hjo : j < out.length := by omega
     have e : (expS es al out[i] out al.length)[j] = out[j] := by
      obtain ⟨t, ht⟩ := hp
      simp only [← ht]
      rw [List.getElem_append_left hjo]
     rw [e] at h0 ⊢
     by_cases ej : j = i
     · subst ej
       obtain ⟨m, hm, rfl⟩ := List.mem_iff_getElem.1 ha
       exact expS_has al.length (Nat.le_refl _) m hm hm h0
     · exact hp.subset (hc j hjo (by omega) a ha h0))
    exact ⟨h1, hp.trans h2, h3⟩
  · rw [fndF_end c]
    refine ⟨h, List.prefix_refl _, fun s hs => ?_⟩
    obtain ⟨j, hj, rfl⟩ := List.mem_iff_getElem.1 hs
    exact hc j hj (by omega)
def foundF (es : List Nd) (al : List Int) (n : Nat) : List Int := if 0 < n then fndF es al n 0 [0] else []
theorem foundF_ok {n : Nat} {es : List Nd} {al : List Int} (he : EsIn n es) : FndOk n (foundF es al n) ∧ ∀ s ∈ foundF es al n, ∀ a ∈ al, 0 ≤ stepI es s a → stepI es s a ∈ foundF es al n := by
 unfold foundF
 by_cases h : 0 < n
 · rw [if_pos h]
   obtain ⟨h1, _, h3⟩ := fndF_ok (al := al) he n 0 [0] ⟨by simp, fun x hx => by simp at hx; omega⟩ (by omega) (fun j _ h => by omega)
   exact ⟨h1, h3⟩
 · rw [if_neg h]
   exact ⟨⟨by simp, by simp⟩, by simp⟩
def idxI (l : List Int) (x : Int) : Int := if x ∈ l then (l.idxOf x : Int) else -1
theorem idxOf_first : ∀ {l : List Int} {x : Int} {k : Nat} (hk : k < l.length), l[k] = x → (∀ (j : Nat) (h : j < l.length), j < k → l[j] ≠ x) → l.idxOf x = k
 | y :: l, x, 0, hk, h, _ => by simp at h; simp [h]
 | y :: l, x, k + 1, hk, h, hn => by
  have h0 := hn 0 (by simp) (by omega)
  simp at h0
  rw [List.idxOf_cons]
  have := idxOf_first (l := l) (x := x) (k := k) (by simpa using hk) (by simpa using h) (fun j hj hjk => by have := hn (j + 1) (by simpa using hj) (by omega); simp only [List.getElem_cons_succ] at this; exact this)
  have hb : (y == x) = false := by simpa using h0
  rw [hb, this]; rfl
theorem idxI_at {l : List Int} {x : Int} {k : Nat} (hk : k < l.length) (h : l[k] = x) (hn : ∀ (j : Nat) (h : j < l.length), j < k → l[j] ≠ x) : idxI l x = k := by
 unfold idxI
 rw [if_pos (h ▸ List.getElem_mem hk), idxOf_first hk h hn]
theorem idxI_none {l : List Int} {x : Int} (hn : ∀ (j : Nat) (h : j < l.length), l[j] ≠ x) : idxI l x = -1 := by
 unfold idxI
 rw [if_neg]
 intro h
 obtain ⟨j, hj, e⟩ := List.mem_iff_getElem.1 h
 exact hn j hj e
theorem idxI_in {l : List Int} {x : Int} (h : x ∈ l) : 0 ≤ idxI l x ∧ idxI l x < l.length := by
 unfold idxI
 rw [if_pos h]
 have := List.idxOf_lt_length_of_mem h
 omega
def rowC (es : List Nd) (al F : List Int) (i : Nat) (s : Int) (k : Nat) : List Nd := (al.take k).filterMap fun a => if 0 ≤ stepI es s a then some ((i : Int), a, idxI F (stepI es s a)) else none
theorem rowC_0 (es : List Nd) (al F : List Int) (i : Nat) (s : Int) : rowC es al F i s 0 = [] := by simp [rowC]
theorem rowC_yes {es : List Nd} {al F : List Int} {i : Nat} {s : Int} {k : Nat} (hk : k < al.length) (h : 0 ≤ stepI es s al[k]) : rowC es al F i s (k + 1) = rowC es al F i s k ++ [((i : Int), al[k], idxI F (stepI es s al[k]))] := by
 unfold rowC
 rw [List.take_add_one, List.getElem?_eq_getElem hk, List.filterMap_append]
 simp [h]
theorem rowC_no {es : List Nd} {al F : List Int} {i : Nat} {s : Int} {k : Nat} (hk : k < al.length) (h : ¬ 0 ≤ stepI es s al[k]) : rowC es al F i s (k + 1) = rowC es al F i s k := by
 unfold rowC
 rw [List.take_add_one, List.getElem?_eq_getElem hk, List.filterMap_append]
 simp [h]
theorem rowC_len (es : List Nd) (al F : List Int) (i : Nat) (s : Int) (k : Nat) : (rowC es al F i s k).length ≤ al.length := by
 unfold rowC
 refine Nat.le_trans (List.length_filterMap_le _ _) ?_
 rw [List.length_take]; omega
def edgC (es : List Nd) (al F : List Int) (i : Nat) : List Nd := (List.range i).flatMap fun j => rowC es al F j (F.getD j 0) al.length
theorem edgC_0 (es : List Nd) (al F : List Int) : edgC es al F 0 = [] := by simp [edgC]
theorem edgC_succ (es : List Nd) (al F : List Int) (i : Nat) : edgC es al F (i + 1) = edgC es al F i ++ rowC es al F i (F.getD i 0) al.length := by simp [edgC, List.range_succ, List.flatMap_append]
theorem edgC_len (es : List Nd) (al F : List Int) : ∀ i, (edgC es al F i).length ≤ i * al.length
 | 0 => by simp [edgC_0]
 | i + 1 => by
  rw [edgC_succ, List.length_append, Nat.succ_mul]
  have := edgC_len es al F i
  have := rowC_len es al F i (F.getD i 0) al.length
  omega
def marC (F ma : List Int) (i : Nat) : List Nat := filF (fun j => decide (F.getD j 0 ∈ ma)) i
theorem egErr_ok {al : List Int} {n : Int} {es : List Nd} (h1 : ∀ x ∈ es, egBad al n x = 0) (h2 : es.Pairwise fun y x => ¬ egOrd y x) : ∀ m i, i + m = es.length → egErr al n es m i = 0
 | 0, _, _ => rfl
 | m + 1, i, h => by
  rw [egErr, getD_get (k := i) (by omega), if_neg (by simpa using h1 _ (List.getElem_mem _)), if_neg, egErr_ok h1 h2 m (i + 1) (by omega)]
  rintro ⟨h0, h3⟩
  rw [getD_get (k := i - 1) (by omega)] at h3
  exact List.pairwise_iff_getElem.1 h2 (i - 1) i (by omega) (by omega) (by omega) h3
theorem edgC_ok {es : List Nd} {al F : List Int} (hal : al.Pairwise (· < ·)) (hc : ∀ s ∈ F, ∀ a ∈ al, 0 ≤ stepI es s a → stepI es s a ∈ F) :
 egErr al F.length (edgC es al F F.length) (edgC es al F F.length).length 0 = 0 := by
 have hmem : ∀ i s k x, x ∈ rowC es al F i s k → x.1 = i ∧ x.2.1 ∈ al ∧ 0 ≤ stepI es s x.2.1 ∧ x.2.2 = idxI F (stepI es s x.2.1) := fun i s k x hx => by
  unfold rowC at hx
  obtain ⟨a, ha, e⟩ := List.mem_filterMap.1 hx
  by_cases c : 0 ≤ stepI es s a
  · rw [if_pos c] at e
    cases e
    exact ⟨rfl, List.mem_of_mem_take ha, c, rfl⟩
  · rw [if_neg c] at e; cases e
 refine egErr_ok (fun x hx => ?_) ?_ _ _ (by omega)
 · unfold edgC at hx
   obtain ⟨j, hj, hx⟩ := List.mem_flatMap.1 hx
   obtain ⟨e1, e2, e3, e4⟩ := hmem _ _ _ _ hx
   have hj := List.mem_range.1 hj
   have hF : F.getD j 0 ∈ F := by rw [List.getD, List.getElem?_eq_getElem hj]; exact List.getElem_mem hj
   have := idxI_in (hc _ hF _ e2 e3)
   unfold egBad
   rw [if_neg (by omega), if_pos e2]
 · unfold edgC
   rw [List.pairwise_flatMap]
   refine ⟨fun i _ => ?_, ?_⟩
   · have : (rowC es al F i (F.getD i 0) al.length).Pairwise fun y x => y.2.1 < x.2.1 := by
       unfold rowC
       rw [List.pairwise_filterMap, List.take_length]
       refine hal.imp fun {a b} hab x hx y hy => ?_
       by_cases c1 : 0 ≤ stepI es (F.getD i 0) a
       · by_cases c2 : 0 ≤ stepI es (F.getD i 0) b
         · rw [if_pos c1] at hx; rw [if_pos c2] at hy
           cases hx; cases hy; exact hab
         · rw [if_neg c2] at hy; cases hy
       · rw [if_neg c1] at hx; cases hx
     refine List.Pairwise.imp_of_mem ?_ this
     intro y x hy hx h
     have e1 := (hmem _ _ _ _ hy).1
     have e2 := (hmem _ _ _ _ hx).1
     unfold egOrd
     omega
   · refine List.pairwise_lt_range.imp ?_
     intro i j hij y hy x hx
     have e1 := (hmem _ _ _ _ hy).1
     have e2 := (hmem _ _ _ _ hx).1
     unfold egOrd
     omega
def rowG (al : List Int) (n : Nat) (tg : Nat → Nat → Nat) (i k : Nat) : List Nd := (List.range k).filterMap fun k => if tg i k % (n + 2) < n then some ((i : Int), al.getD k 0, ((tg i k % (n + 2) : Nat) : Int)) else none
theorem rowG_0 (al : List Int) (n : Nat) (tg : Nat → Nat → Nat) (i : Nat) : rowG al n tg i 0 = [] := by simp [rowG]
theorem rowG_yes {al : List Int} {n : Nat} {tg : Nat → Nat → Nat} {i k : Nat} (h : tg i k % (n + 2) < n) : rowG al n tg i (k + 1) = rowG al n tg i k ++ [((i : Int), al.getD k 0, ((tg i k % (n + 2) : Nat) : Int))] := by
 unfold rowG
 rw [List.range_succ, List.filterMap_append]
 simp [h]
theorem rowG_no {al : List Int} {n : Nat} {tg : Nat → Nat → Nat} {i k : Nat} (h : ¬ tg i k % (n + 2) < n) : rowG al n tg i (k + 1) = rowG al n tg i k := by
 unfold rowG
 rw [List.range_succ, List.filterMap_append]
 simp [h]
theorem rowG_len (al : List Int) (n : Nat) (tg : Nat → Nat → Nat) (i k : Nat) : (rowG al n tg i k).length ≤ k := by
 unfold rowG
 refine Nat.le_trans (List.length_filterMap_le _ _) ?_
 rw [List.length_range]; omega
def edgG (al : List Int) (n : Nat) (tg : Nat → Nat → Nat) (i : Nat) : List Nd := (List.range i).flatMap fun j => rowG al n tg j al.length
theorem edgG_0 (al : List Int) (n : Nat) (tg : Nat → Nat → Nat) : edgG al n tg 0 = [] := by simp [edgG]
theorem edgG_succ (al : List Int) (n : Nat) (tg : Nat → Nat → Nat) (i : Nat) : edgG al n tg (i + 1) = edgG al n tg i ++ rowG al n tg i al.length := by simp [edgG, List.range_succ, List.flatMap_append]
theorem edgG_len (al : List Int) (n : Nat) (tg : Nat → Nat → Nat) : ∀ i, (edgG al n tg i).length ≤ i * al.length
 | 0 => by simp [edgG_0]
 | i + 1 => by
  rw [edgG_succ, List.length_append, Nat.succ_mul]
  have := edgG_len al n tg i
  have := rowG_len al n tg i al.length
  omega
theorem edgG_in (al : List Int) (n : Nat) (tg : Nat → Nat → Nat) (i : Nat) : EsIn n (edgG al n tg i) := fun x hx => by
 unfold edgG rowG at hx
 obtain ⟨j, _, hx⟩ := List.mem_flatMap.1 hx
 obtain ⟨k, _, e⟩ := List.mem_filterMap.1 hx
 by_cases c : tg j k % (n + 2) < n
 · rw [if_pos c] at e; cases e; simp only; omega
 · rw [if_neg c] at e; cases e
end Go.Proofs.YtcipnkemnepbaaaGreat
