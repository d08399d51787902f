/- Rounds of force, plain: insertion from the right; the sums and counts of the variables. -/
import Derived.Test.YtmmjijmmocabhaaJGrpP
import Derived.Sort.Defs
namespace Go.Proofs.Ytmmjijmmocabhaa
set_option linter.unusedVariables false
set_option linter.unusedSimpArgs false

/-- x put in, from the right, ahead of what it is less than. -/
def insR {α : Type} (lt : α → α → Bool) (x : α) (out : List α) : List α := (out.reverse.dropWhile (lt x)).reverse ++ x :: (out.reverse.takeWhile (lt x)).reverse
theorem insR_nil {α : Type} (lt : α → α → Bool) (x : α) : insR lt x [] = [x] := rfl
theorem insR_lt {α : Type} (lt : α → α → Bool) (x y : α) (out : List α) (h : lt x y = true) : insR lt x (out ++ [y]) = insR lt x out ++ [y] := by
  simp [insR, h]
theorem insR_ge {α : Type} (lt : α → α → Bool) (x y : α) (out : List α) (h : lt x y = false) : insR lt x (out ++ [y]) = out ++ [y, x] := by
  simp [insR, h]
theorem insR_perm {α : Type} (lt : α → α → Bool) (x : α) (out : List α) : (insR lt x out).Perm (x :: out) := by
  unfold insR
  refine List.perm_middle.trans (List.Perm.cons x ?_)
  rw [← List.reverse_append, List.takeWhile_append_dropWhile] <;> simp
theorem insR_map {α β : Type} (f : α → β) (lt : α → α → Bool) (lt' : β → β → Bool) (x : α) (out : List α) (h : ∀ y ∈ out, lt' (f x) (f y) = lt x y) : (insR lt x out).map f = insR lt' (f x) (out.map f) := by
  unfold insR
  have key : ∀ l : List α, (∀ y ∈ l, lt' (f x) (f y) = lt x y) → (l.dropWhile (lt x)).map f = (l.map f).dropWhile (lt' (f x)) ∧ (l.takeWhile (lt x)).map f = (l.map f).takeWhile (lt' (f x)) := by
    intro l
    induction l with
    | nil => intro _; simp
    | cons y l ih =>
      intro hl
      obtain ⟨i1, i2⟩ := ih (fun z hz => hl z (by simp [hz]))
      have := hl y (by simp)
      cases hc : lt x y <;> simp [hc, this, i1, i2]
  obtain ⟨k1, k2⟩ := key out.reverse (fun y hy => h y (by simpa using hy))
  rw [List.map_append, List.map_cons, List.map_reverse, List.map_reverse, k1, k2, List.map_reverse]
def sortR {α : Type} (lt : α → α → Bool) (l : List α) : List α := l.foldl (fun out x => insR lt x out) []
def sortK {α : Type} (lt : α → α → Bool) (l : List α) (k : Nat) : List α := sortR lt (l.take k)
theorem sortK_succ {α : Type} (lt : α → α → Bool) {l : List α} {k : Nat} (h : k < l.length) : sortK lt l (k + 1) = insR lt l[k] (sortK lt l k) := by
  unfold sortK sortR; rw [List.take_succ_eq_append_getElem h, List.foldl_append]; rfl
theorem sortR_perm {α : Type} (lt : α → α → Bool) (l : List α) : (sortR lt l).Perm l := by
  have key : ∀ (l acc : List α), (l.foldl (fun out x => insR lt x out) acc).Perm (acc ++ l) := by
    intro l
    induction l with
    | nil => intro acc; simp
    | cons x l ih =>
      intro acc
      refine (ih _).trans ?_
      refine ((insR_perm lt x acc).append_right l).trans ?_
      exact List.perm_middle.symm
  have := key l []
  rw [List.nil_append] at this
  exact this
theorem sortR_map {α β : Type} (f : α → β) (lt : α → α → Bool) (lt' : β → β → Bool) (l : List α) (h : ∀ x ∈ l, ∀ y ∈ l, lt' (f x) (f y) = lt x y) : (sortR lt l).map f = sortR lt' (l.map f) := by
  have key : ∀ (r acc : List α), (∀ x ∈ r, x ∈ l) → (∀ x ∈ acc, x ∈ l) → (r.foldl (fun out x => insR lt x out) acc).map f = (r.map f).foldl (fun out x => insR lt' x out) (acc.map f) := by
    intro r
    induction r with
    | nil => intro acc _ _; rfl
    | cons x r ih =>
      intro acc hr ha
      have e := insR_map f lt lt' x acc (fun y hy => h x (hr x (by simp)) y (ha y hy))
      simp only [List.foldl_cons, List.map_cons]
      rw [← e]
      refine ih _ (fun y hy => hr y (by simp [hy])) (fun y hy => ?_)
      rcases List.mem_cons.1 ((insR_perm lt x acc).mem_iff.1 hy) with rfl | hy
      · exact hr _ (by simp)
      · exact ha y hy
  exact key l [] (fun _ h => h) (by simp)
theorem sortR_congr {α : Type} (lt lt' : α → α → Bool) (l : List α) (h : ∀ x ∈ l, ∀ y ∈ l, lt' x y = lt x y) : sortR lt l = sortR lt' l := by
  have := sortR_map id lt lt' l h
  simpa using this

/-! ### the library's insertion sort -/
section
variable {α : Type} [Inhabited α] (lt : α → α → Bool)
theorem get_mid (a : List α) (x : α) (b : List α) : (a ++ x :: b).toArray[a.length]! = x := by simp
theorem get_mid1 (a : List α) (x y : α) (b : List α) : (a ++ x :: y :: b).toArray[a.length + 1]! = y := by
  rw [Array.getElem!_eq_getD, Array.getD_eq_getD_getElem?]
  simp
theorem inner_list (x : α) : ∀ (k : Nat) (out tail : List α), out.length = k → Go.Sort.insInner lt 0 k (out ++ x :: tail).toArray = (insR lt x out ++ tail).toArray
  | 0, out, tail, h => by
    obtain rfl : out = [] := List.length_eq_zero_iff.1 h
    rfl
  | k + 1, out, tail, h => by
    obtain ⟨o, y, rfl⟩ : ∃ o y, out = o ++ [y] := by
      rcases List.eq_nil_or_concat out with rfl | ⟨o, y, e⟩
      · simp at h
      · exact ⟨o, y, by simpa using e⟩
    have hk : o.length = k := by simpa using h
    subst hk
    rw [Go.Sort.insInner]
    have e1 : (o ++ [y] ++ x :: tail).toArray[o.length + 1]! = x := by
      simp [get_mid1 o y x tail]
    have e0 : (o ++ [y] ++ x :: tail).toArray[o.length]! = y := by
      simp
    rw [e1, e0]
    cases hc : lt x y
    · simp only [Bool.and_false, Bool.false_eq_true, if_false]
      rw [insR_ge lt x y o hc]
      simp
    · simp only [Bool.and_true, decide_eq_true_eq]
      rw [if_pos (by omega), insR_lt lt x y o hc]
      have hsw : Go.Sort.swp (o ++ [y] ++ x :: tail).toArray (o.length + 1) o.length = (o ++ x :: (y :: tail)).toArray := by
        unfold Go.Sort.swp
        rw [e1, e0]
        apply Array.ext'
        simp only [Array.toList_setIfInBounds]
        simp [List.set_append]
      rw [hsw, inner_list x o.length o (y :: tail) rfl]
      simp
theorem outer_list (n : Nat) : ∀ (k : Nat) (out rest : List α), rest.length = k → out.length + rest.length = n → Go.Sort.insOuter lt 0 n out.length (out ++ rest).toArray = (rest.foldl (fun out x => insR lt x out) out).toArray
  | 0, out, rest, h, hn => by
    obtain rfl : rest = [] := List.length_eq_zero_iff.1 h
    rw [Go.Sort.insOuter, if_neg (by simp at hn; omega)]
    simp
  | k + 1, out, rest, h, hn => by
    cases rest with
    | nil => simp at h
    | cons x rest =>
      rw [Go.Sort.insOuter, if_pos (by simp at hn; omega), inner_list lt x out.length out rest rfl]
      have hl : (insR lt x out).length = out.length + 1 := by rw [(insR_perm lt x out).length_eq]; simp
      have := outer_list n k (insR lt x out) rest (by simpa using h) (by rw [hl]; simp at hn; omega)
      rw [hl] at this
      exact this
theorem insertion_list (l : List α) : Go.Sort.insertionSort lt l.toArray 0 l.length = (sortR lt l).toArray := by
  unfold Go.Sort.insertionSort
  cases l with
  | nil => rw [Go.Sort.insOuter, if_neg (by simp)]; rfl
  | cons x l =>
    have := outer_list lt (x :: l).length l.length [x] l rfl (by simp; omega)
    simpa [sortR, insR_nil] using this
end

/-! ### coordinates -/
def cenF (f : Int → Int) (g : List Int) : Int := (g.map f).sum * (840 / (g.length : Int))
def sumV (f : Int → Int) (gs : List (List Int)) (v : Int) : Int := ((gs.filter fun g => decide (v ∈ g)).map (cenF f)).sum
def cntV (gs : List (List Int)) (v : Int) : Int := ((gs.filter fun g => decide (v ∈ g)).length : Nat)
theorem sumV_succ (f : Int → Int) {gs : List (List Int)} {k : Nat} (h : k < gs.length) (v : Int) : sumV f (gs.take (k + 1)) v = sumV f (gs.take k) v + if v ∈ gs[k] then cenF f gs[k] else 0 := by
  unfold sumV
  rw [List.take_succ_eq_append_getElem h, List.filter_append, List.map_append, List.sum_append]
  by_cases hc : v ∈ gs[k] <;> simp [hc]
theorem cntV_succ {gs : List (List Int)} {k : Nat} (h : k < gs.length) (v : Int) : cntV (gs.take (k + 1)) v = cntV (gs.take k) v + if v ∈ gs[k] then 1 else 0 := by
  unfold cntV
  rw [List.take_succ_eq_append_getElem h, List.filter_append]
  by_cases hc : v ∈ gs[k] <;> simp [hc]
theorem cntV_bd (gs : List (List Int)) (v : Int) : 0 ≤ cntV gs v ∧ cntV gs v ≤ gs.length := by
  unfold cntV
  have := List.length_filter_le (fun g => decide (v ∈ g)) gs
  omega
theorem sum_bd {f : Int → Int} {B : Int} : ∀ (l : List Int), (∀ x ∈ l, 0 ≤ f x ∧ f x ≤ B) → 0 ≤ (l.map f).sum ∧ (l.map f).sum ≤ l.length * B
  | [], _ => by simp
  | x :: l, h => by
    have h1 := h x (by simp)
    have h2 := sum_bd l (fun y hy => h y (by simp [hy]))
    simp only [List.map_cons, List.sum_cons, List.length_cons]
    have : ((l.length + 1 : Nat) : Int) * B = l.length * B + B := by rw [Int.natCast_add, Int.add_mul]; simp
    omega
theorem cenF_bd {f : Int → Int} {g : List Int} (h8 : g.length ≤ 8) (h : ∀ x ∈ g, 0 ≤ f x ∧ f x ≤ 39) : 0 ≤ (g.map f).sum ∧ (g.map f).sum ≤ 312 ∧ 0 ≤ cenF f g ∧ cenF f g ≤ 262080 := by
  have h1 := sum_bd g h
  have h2 : (0 : Int) ≤ 840 / (g.length : Int) ∧ 840 / (g.length : Int) ≤ 840 := by
    constructor
    · exact Int.ediv_nonneg (by omega) (by omega)
    · exact Int.ediv_le_self _ (by omega)
  have h3 : (g.map f).sum ≤ 312 := by omega
  refine ⟨h1.1, h3, Int.mul_nonneg h1.1 h2.1, ?_⟩
  unfold cenF
  have := Int.mul_le_mul h3 h2.2 h2.1 (by omega)
  omega
theorem sumV_bd {f : Int → Int} {gs : List (List Int)} (h8 : ∀ g ∈ gs, g.length ≤ 8) (h : ∀ g ∈ gs, ∀ x ∈ g, 0 ≤ f x ∧ f x ≤ 39) (hl : gs.length ≤ 64) (v : Int) : 0 ≤ sumV f gs v ∧ sumV f gs v ≤ 16773120 := by
  unfold sumV
  have key : ∀ l : List (List Int), (∀ g ∈ l, 0 ≤ cenF f g ∧ cenF f g ≤ 262080) → 0 ≤ (l.map (cenF f)).sum ∧ (l.map (cenF f)).sum ≤ l.length * 262080 := by
    intro l
    induction l with
    | nil => intro _; simp
    | cons x l ih =>
      intro hh
      have h1 := hh x (by simp)
      have h2 := ih (fun y hy => hh y (by simp [hy]))
      simp only [List.map_cons, List.sum_cons, List.length_cons]
      omega
  have hf : ∀ g ∈ gs.filter (fun g => decide (v ∈ g)), g ∈ gs := fun g hg => (List.mem_filter.1 hg).1
  have := key (gs.filter fun g => decide (v ∈ g)) (fun g hg => (cenF_bd (h8 g (hf g hg)) (h g (hf g hg))).2.2)
  have hll := List.length_filter_le (fun g => decide (v ∈ g)) gs
  omega
/-- A variable's coordinate, as a numerator and a denominator. -/
def keyS (f : Int → Int) (gs : List (List Int)) (v : Int) : Int := if cntV gs v = 0 then 840 * f v else sumV f gs v
def keyC (gs : List (List Int)) (v : Int) : Int := if cntV gs v = 0 then 1 else cntV gs v
def cmpV (f : Int → Int) (gs : List (List Int)) (v w : Int) : Int := keyS f gs v * keyC gs w - keyS f gs w * keyC gs v
def ltV (f : Int → Int) (gs : List (List Int)) (v w : Int) : Bool := decide (cmpV f gs v w < 0)
def roundF (gs : List (List Int)) (o : List Int) : List Int := sortR (ltV (posA o) gs) o
theorem roundF_ord {n : Nat} {o : List Int} (h : IsOrd n o) (gs : List (List Int)) : IsOrd n (roundF gs o) := by
  have hp := sortR_perm (ltV (posA o) gs) o
  exact ⟨h.n40, by rw [roundF, hp.length_eq, h.len], hp.nodup_iff.2 h.nodup, fun x hx => h.range x (hp.mem_iff.1 hx)⟩
/-- So many rounds of force, as long as the span gets less. -/
def forceF (gs : List (List Int)) : Nat → List Int → List Int
  | 0, o => o
  | k + 1, o => if spanF (posA o) gs ≤ spanF (posA (roundF gs o)) gs then o else forceF gs k (roundF gs o)
theorem forceF_ord {n : Nat} (gs : List (List Int)) : ∀ (k : Nat) {o : List Int}, IsOrd n o → IsOrd n (forceF gs k o)
  | 0, _, h => h
  | k + 1, o, h => by
    rw [forceF]
    split
    · exact h
    · exact forceF_ord gs k (roundF_ord h gs)
end Go.Proofs.Ytmmjijmmocabhaa
