/-  -/
import Derived.Test.YticcpnekjddanaaGreatDoorZRowL
import Derived.Test.YticcpnekjddanaaGreatDoorZRestr
import Derived.Test.YticcpnekjddanaaGreatDoorZNetC
import Derived.Test.YticcpnekjddanaaGreatDoorZRelGenB
import Derived.Test.YticcpnekjddanaaGreatDoorZRelB
set_option linter.unusedVariables false
set_option linter.unusedSimpArgs false
namespace Go.Proofs.YticcpnekjddanaaGreatDoor
open Go.RowKit
theorem DgE.ok {E : Int} {n : Nat} {t : List Bool} {w w' : World} {e : Ending} (h : DgE E n t w e w') (h0 : E = 0) : DgN n t w e w' := by
 rcases h with ⟨h, _⟩ | ⟨_, h⟩
 · exact absurd h0 h
 · exact h
theorem ClE.ok {E : Int} {b s : Nat} {r u : List Bool} {w w' : World} {e : Ending} (h : ClE E b s r u w e w') (h0 : E = 0) : ClR b s r u w e w' := by
 rcases h with ⟨h, _⟩ | ⟨_, h⟩
 · exact absurd h0 h
 · exact h
theorem ClR.open {b s : Nat} {r u : List Bool} {w w' : World} {e : Ending} (h : ClR b s r u w e w') : ∃ (k : Nat) (a : Option Addr) (c : Nat) (L : List Nd) (q : Int), e = .returned (.tuple #[.agg #[.int .i64 b, .slice a L.length c, .int .i64 q], .int .i64 k, .int .i64 0]) ∧ Dg.at w' ⟨b, a, c, L, q⟩ ∧ qbN b (clI b s r u k) L q ∧ clI b s r u (k + 1) = clI b s r u k ∧ (∀ j, j < k → clI b s r u j ≠ clI b s r u (j + 1)) ∧ qad w w' := by
 obtain ⟨⟨n, a, c, L, q⟩, k, he, hd, ⟨hn, ht⟩, h1, h2, hs⟩ := h
 obtain rfl : n = b := hn
 exact ⟨k, a, c, L, q, he, hd, ht, h1, h2, hs⟩
def kA (s : Nat) : Au := ⟨[0, 1], 3, [], [(0, 0, 1), (1, 0, 2), (2, 1, 0)], some ⟨s, 0, none⟩, 2, none, 0, some ⟨s + 1, 0, none⟩, 3⟩
theorem qhC {m : Int} {qs : List Int} : ∀ (k i : Nat), i + k = qs.length → (∀ j, j < qs.length → 0 ≤ toF qs j ∧ toF qs j < m) → (∀ j, j + 1 < qs.length → toF qs j < toF qs (j + 1)) → qaw m qs k i = 0
 | 0, _, _, _, _ => rfl
 | k + 1, i, h, h1, h2 => by
  have b := h1 i (by omega)
  rw [qaw, if_neg (by omega), if_neg (fun hh => by
   have := h2 (i - 1) (by omega)
   rw [show i - 1 + 1 = i by omega] at this
   omega)]
  exact qhC k (i + 1) (by omega) h1 h2
theorem qdD {l : List Nat} {j : Nat} (h : j < l.length) : toF (qaz l) j = ((l[j] : Nat) : Int) := by
 unfold toF qaz
 simp [List.getD, h]
theorem qiI (p : Nat → Bool) (n : Nat) : (qez p n).Pairwise (· < ·) := List.pairwise_lt_range.filter _
theorem fil_err (p : Nat → Bool) (n : Nat) : qaw n (qaz (qez p n)) (qaz (qez p n)).length 0 = 0 := by
 refine qhC _ 0 (by omega) (fun j hj => ?_) (fun j hj => ?_)
 · rw [qaG] at hj
   rw [qdD hj]
   have := (qho.1 (List.getElem_mem hj)).1
   omega
 · rw [qaG] at hj
   rw [qdD hj, qdD (by omega)]
   have := List.pairwise_iff_getElem.1 (qiI p n) j (j + 1) (by omega) hj (by omega)
   omega
theorem qqp (k : Nat) : ∀ p ∈ idL k, p.1 < k ∧ p.2 < k := fun p hp => by
 obtain ⟨i, hi, rfl⟩ := List.mem_map.1 hp
 have := List.mem_range.1 hi
 exact ⟨this, this⟩
theorem qbN.zero {n : Nat} {t : List Bool} {L : List Nd} {r : Int} (h : qbN n t L r) : r = 0 ↔ t = fls n := by
 constructor
 · rintro rfl
   have := h.ord.2.2
   rw [tab0 _ h.n40] at this
   exact this.symm
 · rintro rfl
   have := h.eq
   rw [show fls n = List.replicate (2 ^ n) false from rfl, qb8] at this
   exact (congrArg Prod.snd this).symm
theorem qjY : ∀ (n : Nat) (l : List Int), l.Nodup → (∀ x ∈ l, 0 ≤ x ∧ x < n) → l.length ≤ n
 | 0, l, _, h => by
  cases l with
  | nil => simp
  | cons x l => have := h x (by simp); omega
 | n + 1, l, hn, h => by
  by_cases hm : (n : Int) ∈ l
  · have := qjY n (l.erase n) (hn.erase _) fun x hx => by
      have h1 := h x (List.mem_of_mem_erase hx)
      have h2 : x ≠ n := fun e => by subst e; exact (List.Nodup.mem_erase_iff hn).1 hx |>.1 rfl
      omega
    rw [List.length_erase_of_mem hm] at this
    omega
  · have := qjY n l hn fun x hx => by
      have h1 := h x hx
      have h2 : x ≠ n := fun e => hm (e ▸ hx)
      omega
    omega
def qbm (es : List Nd) (s e : Int) : Int := match es.find? (fun x => decide (x.1 = s ∧ x.2.1 = e)) with
 | some x => x.2.2
 | none => -1
theorem qlL {es : List Nd} {s e : Int} (h : ∀ (j : Nat) (hj : j < es.length), ¬ (es[j].1 = s ∧ es[j].2.1 = e)) : qbm es s e = -1 := by
 unfold qbm
 have : es.find? (fun x => decide (x.1 = s ∧ x.2.1 = e)) = none := by
  rw [List.find?_eq_none]
  intro x hx
  obtain ⟨j, hj, rfl⟩ := List.mem_iff_getElem.1 hx
  simpa using h j hj
 rw [this]
theorem qpA {es : List Nd} {s e : Int} {k : Nat} (hk : k < es.length) (h : ∀ (j : Nat) (hj : j < es.length), j < k → ¬ (es[j].1 = s ∧ es[j].2.1 = e)) (h1 : es[k].1 = s ∧ es[k].2.1 = e) : qbm es s e = es[k].2.2 := by
 unfold qbm
 have : es.find? (fun x => decide (x.1 = s ∧ x.2.1 = e)) = some es[k] := by
  rw [List.find?_eq_some_iff_getElem]
  refine ⟨by simpa using h1, k, hk, rfl, fun j hj => ?_⟩
  have := h j (by omega) hj
  simpa only [Bool.not_eq_true', decide_eq_false_iff_not] using this
 rw [this]
theorem qn9 {es : List Nd} {s e : Int} : qbm es s e = -1 ∨ (s, e, qbm es s e) ∈ es := by
 unfold qbm
 cases h : es.find? (fun x => decide (x.1 = s ∧ x.2.1 = e)) with
 | none => exact .inl rfl
 | some x =>
  right
  have h1 := List.mem_of_find?_eq_some h
  have h2 := List.find?_some h
  simp only [decide_eq_true_eq] at h2
  obtain ⟨a, b, c⟩ := x
  simp only at h2
  obtain ⟨rfl, rfl⟩ := h2
  exact h1
def qpB (es : List Nd) (s : Int) (out : List Int) (a : Int) : List Int := if 0 ≤ qbm es s a ∧ qbm es s a ∉ out then out ++ [qbm es s a] else out
def qjZ (es : List Nd) (al : List Int) (s : Int) (out : List Int) (k : Nat) : List Int := (al.take k).foldl (qpB es s) out
theorem qoa (es : List Nd) (al : List Int) (s : Int) (out : List Int) : qjZ es al s out 0 = out := by simp [qjZ]
theorem qex {es : List Nd} {al : List Int} {s : Int} {out : List Int} {k : Nat} (h : k < al.length) : qjZ es al s out (k + 1) = qpB es s (qjZ es al s out k) al[k] := by
 unfold qjZ
 rw [List.take_add_one, List.getElem?_eq_getElem h, List.foldl_append]
 rfl
def qgc (n : Nat) (l : List Int) : Prop := l.Nodup ∧ ∀ x ∈ l, 0 ≤ x ∧ x < n
theorem qgc.len {n : Nat} {l : List Int} (h : qgc n l) : l.length ≤ n := qjY n l h.1 h.2
def qqv (n : Nat) (es : List Nd) : Prop := ∀ x ∈ es, 0 ≤ x.2.2 ∧ x.2.2 < n
theorem addS_ok {n : Nat} {es : List Nd} {s : Int} {out : List Int} {a : Int} (he : qqv n es) (h : qgc n out) : qgc n (qpB es s out a) := by
 unfold qpB
 by_cases c : 0 ≤ qbm es s a ∧ qbm es s a ∉ out
 · rw [if_pos c]
   rcases qn9 (es := es) (s := s) (e := a) with h1 | h1
   · omega
   · have := he _ h1
     simp only at this
     refine ⟨?_, fun x hx => ?_⟩
     · rw [List.nodup_append]
       refine ⟨h.1, by simp, fun x hx y hy e => ?_⟩
       simp at hy
       subst hy
       exact c.2 (e ▸ hx)
     · rcases List.mem_append.1 hx with hx | hx
       · exact h.2 x hx
       · simp at hx; subst hx; omega
 · rw [if_neg c]; exact h
theorem qkW {es : List Nd} {s : Int} {out : List Int} {a : Int} : out <+: qpB es s out a := by
 unfold qpB
 by_cases c : 0 ≤ qbm es s a ∧ qbm es s a ∉ out
 · rw [if_pos c]; exact List.prefix_append _ _
 · rw [if_neg c]; exact List.prefix_refl _
theorem qpC {es : List Nd} {s : Int} {out : List Int} {a : Int} (h : 0 ≤ qbm es s a) : qbm es s a ∈ qpB es s out a := by
 unfold qpB
 by_cases c : qbm es s a ∈ out
 · rw [if_neg (fun h => h.2 c)]; exact c
 · rw [if_pos ⟨h, c⟩]; simp
theorem qj0 {n : Nat} {es : List Nd} {al : List Int} {s : Int} {out : List Int} (he : qqv n es) (h : qgc n out) : ∀ k, k ≤ al.length → qgc n (qjZ es al s out k)
 | 0, _ => by rw [qoa]; exact h
 | k + 1, hk => by rw [qex (by omega)]; exact addS_ok he (qj0 he h k (by omega))
theorem qhD {es : List Nd} {al : List Int} {s : Int} {out : List Int} : ∀ k, k ≤ al.length → out <+: qjZ es al s out k
 | 0, _ => by rw [qoa]; exact List.prefix_refl _
 | k + 1, hk => by rw [qex (by omega)]; exact (qhD k (by omega)).trans qkW
theorem qkX {es : List Nd} {al : List Int} {s : Int} {out : List Int} : ∀ k, k ≤ al.length → ∀ (j : Nat) (hj : j < al.length), j < k → 0 ≤ qbm es s al[j] → qbm es s al[j] ∈ qjZ es al s out k
 | k + 1, hk, j, hj, hjk, h0 => by
  rw [qex (by omega)]
  by_cases e : j = k
  · subst e; exact qpC h0
  · exact qkW.subset (qkX k (by omega) j hj (by omega) h0)
def qlM (es : List Nd) (al : List Int) : Nat → Nat → List Int → List Int
 | 0, _, out => out
 | f + 1, i, out => if h : i < out.length then qlM es al f (i + 1) (qjZ es al out[i] out al.length) else out
theorem qob {es : List Nd} {al : List Int} {f i : Nat} {out : List Int} (h : i < out.length) : qlM es al (f + 1) i out = qlM es al f (i + 1) (qjZ es al out[i] out al.length) := by rw [qlM, dif_pos h]
theorem qhE {es : List Nd} {al : List Int} {f i : Nat} {out : List Int} (h : ¬ i < out.length) : qlM es al f i out = out := by
 cases f with
 | zero => rfl
 | succ f => rw [qlM, dif_neg h]
theorem fndF_ok {n : Nat} {es : List Nd} {al : List Int} (he : qqv n es) : ∀ (f i : Nat) (out : List Int), qgc n out → n ≤ f + i → (∀ (j : Nat) (h : j < out.length), j < i → ∀ a ∈ al, 0 ≤ qbm es out[j] a → qbm es out[j] a ∈ out) →
 qgc n (qlM es al f i out) ∧ out <+: qlM es al f i out ∧ ∀ s ∈ qlM es al f i out, ∀ a ∈ al, 0 ≤ qbm es s a → qbm es s a ∈ qlM es al f i out := by
 intro f
 induction f with
 | zero =>
  intro i out h hf hc
  rw [qhE (by have := h.len; omega)]
  refine ⟨h, List.prefix_refl _, fun s hs => ?_⟩
  obtain ⟨j, hj, rfl⟩ := List.mem_iff_getElem.1 hs
  exact hc j hj (by have := h.len; omega)
 | succ f ih =>
  intro i out h hf hc
  by_cases c : i < out.length
  · rw [qob c]
    have hp := qhD (es := es) (al := al) (s := out[i]) (out := out) al.length (Nat.le_refl _)
    obtain ⟨h1, h2, h3⟩ := ih (i + 1) _ (qj0 (al := al) (s := out[i]) he h al.length (Nat.le_refl _)) (by omega) (fun j hj hji a ha h0 => by
     have hjo : j < out.length := by omega
     have e : (qjZ es al out[i] out al.length)[j] = out[j] := by
      obtain ⟨t, ht⟩ := hp
      simp only [← ht]
      rw [List.getElem_append_left hjo]
     rw [e] at h0 ⊢
     by_cases ej : j = i
     · subst ej
       obtain ⟨m, hm, rfl⟩ := List.mem_iff_getElem.1 ha
       exact qkX al.length (Nat.le_refl _) m hm hm h0
     · exact hp.subset (hc j hjo (by omega) a ha h0))
    exact ⟨h1, hp.trans h2, h3⟩
  · rw [qhE c]
    refine ⟨h, List.prefix_refl _, fun s hs => ?_⟩
    obtain ⟨j, hj, rfl⟩ := List.mem_iff_getElem.1 hs
    exact hc j hj (by omega)
def qce (es : List Nd) (al : List Int) (n : Nat) : List Int := if 0 < n then qlM es al n 0 [0] else []
theorem qgd {n : Nat} {es : List Nd} {al : List Int} (he : qqv n es) : qgc n (qce es al n) ∧ ∀ s ∈ qce es al n, ∀ a ∈ al, 0 ≤ qbm es s a → qbm es s a ∈ qce es al n := by
 unfold qce
 by_cases h : 0 < n
 · rw [if_pos h]
   obtain ⟨h1, _, h3⟩ := fndF_ok (al := al) he n 0 [0] ⟨by simp, fun x hx => by simp at hx; omega⟩ (by omega) (fun j _ h => by omega)
   exact ⟨h1, h3⟩
 · rw [if_neg h]
   exact ⟨⟨by simp, by simp⟩, by simp⟩
def qlN (l : List Int) (x : Int) : Int := if x ∈ l then (l.idxOf x : Int) else -1
theorem qge : ∀ {l : List Int} {x : Int} {k : Nat} (hk : k < l.length), l[k] = x → (∀ (j : Nat) (h : j < l.length), j < k → l[j] ≠ x) → l.idxOf x = k
 | y :: l, x, 0, hk, h, _ => by simp at h; simp [h]
 | y :: l, x, k + 1, hk, h, hn => by
  have h0 := hn 0 (by simp) (by omega)
  simp at h0
  rw [List.idxOf_cons]
  have := qge (l := l) (x := x) (k := k) (by simpa using hk) (by simpa using h) (fun j hj hjk => by have := hn (j + 1) (by simpa using hj) (by omega); simp only [List.getElem_cons_succ] at this; exact this)
  have hb : (y == x) = false := by simpa using h0
  rw [hb, this]; rfl
theorem idxI_at {l : List Int} {x : Int} {k : Nat} (hk : k < l.length) (h : l[k] = x) (hn : ∀ (j : Nat) (h : j < l.length), j < k → l[j] ≠ x) : qlN l x = k := by
 unfold qlN
 rw [if_pos (h ▸ List.getElem_mem hk), qge hk h hn]
theorem qoc {l : List Int} {x : Int} (hn : ∀ (j : Nat) (h : j < l.length), l[j] ≠ x) : qlN l x = -1 := by
 unfold qlN
 rw [if_neg]
 intro h
 obtain ⟨j, hj, e⟩ := List.mem_iff_getElem.1 h
 exact hn j hj e
theorem idxI_in {l : List Int} {x : Int} (h : x ∈ l) : 0 ≤ qlN l x ∧ qlN l x < l.length := by
 unfold qlN
 rw [if_pos h]
 have := List.idxOf_lt_length_of_mem h
 omega
def qhN (es : List Nd) (al F : List Int) (i : Nat) (s : Int) (k : Nat) : List Nd := (al.take k).filterMap fun a => if 0 ≤ qbm es s a then some ((i : Int), a, qlN F (qbm es s a)) else none
theorem rowC_0 (es : List Nd) (al F : List Int) (i : Nat) (s : Int) : qhN es al F i s 0 = [] := by simp [qhN]
theorem qpD {es : List Nd} {al F : List Int} {i : Nat} {s : Int} {k : Nat} (hk : k < al.length) (h : 0 ≤ qbm es s al[k]) : qhN es al F i s (k + 1) = qhN es al F i s k ++ [((i : Int), al[k], qlN F (qbm es s al[k]))] := by
 unfold qhN
 rw [List.take_add_one, List.getElem?_eq_getElem hk, List.filterMap_append]
 simp [h]
theorem rowC_no {es : List Nd} {al F : List Int} {i : Nat} {s : Int} {k : Nat} (hk : k < al.length) (h : ¬ 0 ≤ qbm es s al[k]) : qhN es al F i s (k + 1) = qhN es al F i s k := by
 unfold qhN
 rw [List.take_add_one, List.getElem?_eq_getElem hk, List.filterMap_append]
 simp [h]
theorem qkY (es : List Nd) (al F : List Int) (i : Nat) (s : Int) (k : Nat) : (qhN es al F i s k).length ≤ al.length := by
 unfold qhN
 refine Nat.le_trans (List.length_filterMap_le _ _) ?_
 rw [List.length_take]; omega
def qhO (es : List Nd) (al F : List Int) (i : Nat) : List Nd := (List.range i).flatMap fun j => qhN es al F j (F.getD j 0) al.length
theorem edgC_0 (es : List Nd) (al F : List Int) : qhO es al F 0 = [] := by simp [qhO]
theorem qiK (es : List Nd) (al F : List Int) (i : Nat) : qhO es al F (i + 1) = qhO es al F i ++ qhN es al F i (F.getD i 0) al.length := by simp [qhO, List.range_succ, List.flatMap_append]
theorem qhF (es : List Nd) (al F : List Int) : ∀ i, (qhO es al F i).length ≤ i * al.length
 | 0 => by simp [edgC_0]
 | i + 1 => by
  rw [qiK, List.length_append, Nat.succ_mul]
  have := qhF es al F i
  have := qkY es al F i (F.getD i 0) al.length
  omega
def qiY (F ma : List Int) (i : Nat) : List Nat := qez (fun j => decide (F.getD j 0 ∈ ma)) i
theorem qkZ {al : List Int} {n : Int} {es : List Nd} (h1 : ∀ x ∈ es, qdF al n x = 0) (h2 : es.Pairwise fun y x => ¬ qdT y x) : ∀ m i, i + m = es.length → qct al n es m i = 0
 | 0, _, _ => rfl
 | m + 1, i, h => by
  rw [qct, qcC (k := i) (by omega), if_neg (by simpa using h1 _ (List.getElem_mem _)), if_neg, qkZ h1 h2 m (i + 1) (by omega)]
  rintro ⟨h0, h3⟩
  rw [qcC (k := i - 1) (by omega)] at h3
  exact List.pairwise_iff_getElem.1 h2 (i - 1) i (by omega) (by omega) (by omega) h3
theorem edgC_ok {es : List Nd} {al F : List Int} (hal : al.Pairwise (· < ·)) (hc : ∀ s ∈ F, ∀ a ∈ al, 0 ≤ qbm es s a → qbm es s a ∈ F) :
 qct al F.length (qhO es al F F.length) (qhO es al F F.length).length 0 = 0 := by
 have hmem : ∀ i s k x, x ∈ qhN es al F i s k → x.1 = i ∧ x.2.1 ∈ al ∧ 0 ≤ qbm es s x.2.1 ∧ x.2.2 = qlN F (qbm es s x.2.1) := fun i s k x hx => by
  unfold qhN at hx
  obtain ⟨a, ha, e⟩ := List.mem_filterMap.1 hx
  by_cases c : 0 ≤ qbm es s a
  · rw [if_pos c] at e
    cases e
    exact ⟨rfl, List.mem_of_mem_take ha, c, rfl⟩
  · rw [if_neg c] at e; cases e
 refine qkZ (fun x hx => ?_) ?_ _ _ (by omega)
 · unfold qhO at hx
   obtain ⟨j, hj, hx⟩ := List.mem_flatMap.1 hx
   obtain ⟨e1, e2, e3, e4⟩ := hmem _ _ _ _ hx
   have hj := List.mem_range.1 hj
   have hF : F.getD j 0 ∈ F := by rw [List.getD, List.getElem?_eq_getElem hj]; exact List.getElem_mem hj
   have := idxI_in (hc _ hF _ e2 e3)
   unfold qdF
   rw [if_neg (by omega), if_pos e2]
 · unfold qhO
   rw [List.pairwise_flatMap]
   refine ⟨fun i _ => ?_, ?_⟩
   · have : (qhN es al F i (F.getD i 0) al.length).Pairwise fun y x => y.2.1 < x.2.1 := by
       unfold qhN
       rw [List.pairwise_filterMap, List.take_length]
       refine hal.imp fun {a b} hab x hx y hy => ?_
       by_cases c1 : 0 ≤ qbm es (F.getD i 0) a
       · by_cases c2 : 0 ≤ qbm es (F.getD i 0) b
         · rw [if_pos c1] at hx; rw [if_pos c2] at hy
           cases hx; cases hy; exact hab
         · rw [if_neg c2] at hy; cases hy
       · rw [if_neg c1] at hx; cases hx
     refine List.Pairwise.imp_of_mem ?_ this
     intro y x hy hx h
     have e1 := (hmem _ _ _ _ hy).1
     have e2 := (hmem _ _ _ _ hx).1
     unfold qdT
     omega
   · refine List.pairwise_lt_range.imp ?_
     intro i j hij y hy x hx
     have e1 := (hmem _ _ _ _ hy).1
     have e2 := (hmem _ _ _ _ hx).1
     unfold qdT
     omega
def qj1 (al : List Int) (n : Nat) (tg : Nat → Nat → Nat) (i k : Nat) : List Nd := (List.range k).filterMap fun k => if tg i k % (n + 2) < n then some ((i : Int), al.getD k 0, ((tg i k % (n + 2) : Nat) : Int)) else none
theorem rowG_0 (al : List Int) (n : Nat) (tg : Nat → Nat → Nat) (i : Nat) : qj1 al n tg i 0 = [] := by simp [qj1]
theorem qpE {al : List Int} {n : Nat} {tg : Nat → Nat → Nat} {i k : Nat} (h : tg i k % (n + 2) < n) : qj1 al n tg i (k + 1) = qj1 al n tg i k ++ [((i : Int), al.getD k 0, ((tg i k % (n + 2) : Nat) : Int))] := by
 unfold qj1
 rw [List.range_succ, List.filterMap_append]
 simp [h]
theorem rowG_no {al : List Int} {n : Nat} {tg : Nat → Nat → Nat} {i k : Nat} (h : ¬ tg i k % (n + 2) < n) : qj1 al n tg i (k + 1) = qj1 al n tg i k := by
 unfold qj1
 rw [List.range_succ, List.filterMap_append]
 simp [h]
theorem qk0 (al : List Int) (n : Nat) (tg : Nat → Nat → Nat) (i k : Nat) : (qj1 al n tg i k).length ≤ k := by
 unfold qj1
 refine Nat.le_trans (List.length_filterMap_le _ _) ?_
 rw [List.length_range]; omega
def qiZ (al : List Int) (n : Nat) (tg : Nat → Nat → Nat) (i : Nat) : List Nd := (List.range i).flatMap fun j => qj1 al n tg j al.length
theorem edgG_0 (al : List Int) (n : Nat) (tg : Nat → Nat → Nat) : qiZ al n tg 0 = [] := by simp [qiZ]
theorem qiL (al : List Int) (n : Nat) (tg : Nat → Nat → Nat) (i : Nat) : qiZ al n tg (i + 1) = qiZ al n tg i ++ qj1 al n tg i al.length := by simp [qiZ, List.range_succ, List.flatMap_append]
theorem qk1 (al : List Int) (n : Nat) (tg : Nat → Nat → Nat) : ∀ i, (qiZ al n tg i).length ≤ i * al.length
 | 0 => by simp [edgG_0]
 | i + 1 => by
  rw [qiL, List.length_append, Nat.succ_mul]
  have := qk1 al n tg i
  have := qk0 al n tg i al.length
  omega
theorem qj2 (al : List Int) (n : Nat) (tg : Nat → Nat → Nat) (i : Nat) : qqv n (qiZ al n tg i) := fun x hx => by
 unfold qiZ qj1 at hx
 obtain ⟨j, _, hx⟩ := List.mem_flatMap.1 hx
 obtain ⟨k, _, e⟩ := List.mem_filterMap.1 hx
 by_cases c : tg j k % (n + 2) < n
 · rw [if_pos c] at e; cases e; simp only; omega
 · rw [if_neg c] at e; cases e
end Go.Proofs.YticcpnekjddanaaGreatDoor
