/- A region of a function's code, by its number: so that the walk of a region is a declaration of its own. A region walked over a frame under one name: only the slots that it reads are laid. -/
import Derived.Test.YtcdkklddingfpaaGreatJLex
import Derived.Lib.Hide
namespace Go.Proofs.YtcdkklddingfpaaGreat
open Go.RowKit
set_option linter.unusedVariables false

theorem gen_frame {P : Program} {c : Code} {Q : Exit → Act → World → Prop} {T0 : Array Value} {d : _} {w : World} (h : ∀ T, T.size = T0.size → Hid (T = T0) → Code.wp P c Q ⟨T, d⟩ w) : Code.wp P c Q ⟨T0, d⟩ w := h T0 rfl (Lib.hid rfl)

@[go_sem] theorem gs_get (T : Array Value) (i j : Nat) (v : Value) : (T.setIfInBounds i v)[j]? = if i = j then (if i < T.size then some v else none) else T[j]? := Array.getElem?_setIfInBounds
end Go.Proofs.YtcdkklddingfpaaGreat
namespace Go.Proofs.YtcdkklddingfpaaGreat
open Go.RowKit

def findRegion (n : Nat) : Code → Option Code
  | .region k o d => bif k == n then some (.region k o d) else none
  | .seq a b => match findRegion n a with
    | some c => some c
    | none => findRegion n b
  | .cond _ a b => match findRegion n a with
    | some c => some c
    | none => findRegion n b
  | .block _ b => findRegion n b
  | .loop b => findRegion n b
  | .scope b => findRegion n b
  | _ => none

/-- Region n of f. -/
noncomputable def regionOf (f : Func) (n : Nat) : Code := (f.body.bind (findRegion n)).getD .skip

/-- T with f's values in the slots lo, lo + 1, .. (n of them). -/
def fillF (T : Array Value) (f : Nat → Value) (lo : Nat) : Nat → Array Value
  | 0 => T
  | n + 1 => (fillF T f lo n).setIfInBounds (lo + n) (f (lo + n))

theorem fillF_size (T : Array Value) (f : Nat → Value) (lo n : Nat) : (fillF T f lo n).size = T.size := by
  induction n with
  | zero => rfl
  | succ n ih => simp [fillF, ih]

theorem fillF_get (T : Array Value) (f : Nat → Value) (lo n i : Nat) : (fillF T f lo n)[i]? = if lo ≤ i ∧ i < lo + n ∧ i < T.size then some (f i) else T[i]? := by
  induction n with
  | zero => simp only [fillF]; rw [if_neg (by omega)]
  | succ n ih =>
    simp only [fillF, Array.getElem?_setIfInBounds, fillF_size, ih]
    by_cases h : lo + n = i
    · subst h
      rw [if_pos rfl]
      by_cases h2 : lo + n < T.size
      · rw [if_pos h2, if_pos ⟨by omega, by omega, h2⟩]
      · rw [if_neg h2, if_neg (by omega)]; exact (Array.getElem?_eq_none (by omega)).symm
    · rw [if_neg h]
      by_cases h2 : lo ≤ i ∧ i < lo + n ∧ i < T.size
      · rw [if_pos h2, if_pos (by omega)]
      · rw [if_neg h2, if_neg (by omega)]

/-- A frame that is T but for the slots lo .. lo + n - 1. -/
theorem fill_of {T T' : Array Value} (lo n : Nat) (hs : T'.size = T.size) (h : ∀ i, ¬ (lo ≤ i ∧ i < lo + n) → T'[i]? = T[i]?) : T' = fillF T (fun i => T'.getD i undef) lo n := by
  apply Array.ext_getElem?
  intro i
  rw [fillF_get]
  split
  · rename_i h1
    have h2 : i < T'.size := by omega
    simp [Array.getD, h2]
  · rename_i h1
    by_cases h2 : lo ≤ i ∧ i < lo + n
    · rw [Array.getElem?_eq_none (by omega), Array.getElem?_eq_none (by omega)]
    · exact h i h2

theorem fill_end {Q : Exit → Act → World → Prop} {T T' : Array Value} {w : World} (lo n : Nat) (hs : T'.size = T.size) (h : ∀ i, ¬ (lo ≤ i ∧ i < lo + n) → T'[i]? = T[i]?)
    (hK : Q .normal ⟨fillF T (fun i => T'.getD i undef) lo n, []⟩ w) : Q .normal ⟨T', []⟩ w := by
  rw [fill_of lo n hs h]; exact hK
/-- The same, behind one more store in a slot. -/
theorem fill_end1 {Q : Exit → Act → World → Prop} {T T' : Array Value} {w : World} {s : Nat} {v : Value} (lo n : Nat) (hs : T'.size = T.size) (h : ∀ i, ¬ (lo ≤ i ∧ i < lo + n) → T'[i]? = T[i]?)
    (hK : Q .normal ⟨(fillF T (fun i => T'.getD i undef) lo n).setIfInBounds s v, []⟩ w) : Q .normal ⟨T'.setIfInBounds s v, []⟩ w := by
  rw [fill_of lo n hs h]; exact hK
/-- In the midst of a drawn region: the frame under a new name. -/
theorem gen_to {P : Program} {ops : Array Oper} {Q : Exit → Act → World → Prop} {L : Nat → Prop} {kds : List Nat} {F : Act → World → Prop} {l : List Nat} {T0 : Array Value} {d : _} {w : World}
    (h : ∀ T, T.size = T0.size → Hid (T = T0) → wpTo L P ops Q kds F l ⟨T, d⟩ w) : wpTo L P ops Q kds F l ⟨T0, d⟩ w := h T0 rfl (Lib.hid rfl)

theorem rd {T : Array Value} {i : Nat} {v : Value} (h : T[i]? = some v) (hi : i < T.size) : T[i]'hi = v := by
  rw [Array.getElem?_eq_getElem hi] at h
  exact Option.some.inj h
theorem dr {T : Array Value} {i : Nat} {v : Value} (hi : i < T.size) (h : T[i]'hi = v) : T[i]? = some v := by
  rw [Array.getElem?_eq_getElem hi, h]

/-! ### the plan's check, quicker: what may come ahead of an operation is gathered only as long as there is more -/
section
variable {P : Program} {Q : Exit → Act → World → Prop} {md : Region.Mode} {ops : Array Oper}

theorem beforeB_stop {i : Nat} {x : Array Bool} (h : (Region.ready md ops x).filter (· != i) = []) : ∀ n, beforeB md ops i n x = x
  | 0 => rfl
  | n + 1 => by
    simp only [beforeB, h, List.foldl_nil]
    exact beforeB_stop h n

def beforeF (md : Region.Mode) (ops : Array Oper) (i : Nat) : Nat → Array Bool → Array Bool
  | 0, x => x
  | n + 1, x => match (Region.ready md ops x).filter (· != i) with
    | [] => x
    | k :: l => beforeF md ops i n ((k :: l).foldl (fun x j => x.setIfInBounds j true) x)

theorem beforeF_eq {i : Nat} : ∀ (n : Nat) (x : Array Bool), beforeF md ops i n x = beforeB md ops i n x
  | 0, x => rfl
  | n + 1, x => by
    simp only [beforeF]
    split
    · rename_i h
      exact (beforeB_stop h (n + 1)).symm
    · rename_i k l h
      rw [beforeF_eq n]
      simp only [beforeB, h]

def compatF (md : Region.Mode) (ops : Array Oper) (kds : List Nat) (listed : Array Bool) (i : Nat) : Bool :=
  kds.getD i 3 == 0 ||
  ((Region.ready md ops (beforeF md ops i ops.size listed)).all (· == i) &&
   (List.range ops.size).all fun j => !(beforeF md ops i ops.size listed).getD j false || listed.getD j true || decide (kds.getD j 3 ≤ 2))

theorem compatF_eq (kds : List Nat) (listed : Array Bool) (i : Nat) : compatF md ops kds listed i = compatB md ops kds listed i := by
  unfold compatF compatB
  rw [beforeF_eq]

def schedF (md : Region.Mode) (ops : Array Oper) (kds : List Nat) : List Nat → Array Bool → Bool
  | [], _ => true
  | i :: rest, listed =>
    (Region.ready md ops listed).contains i &&
    (if kds.getD i 3 < 2 then Region.free md ops listed i && compatF md ops kds listed i else Region.ready md ops listed == [i]) &&
    schedF md ops kds rest (listed.setIfInBounds i true)

theorem schedF_eq (kds : List Nat) : ∀ (l : List Nat) (x : Array Bool), schedF md ops kds l x = schedP md ops kds l x
  | [], x => rfl
  | i :: rest, x => by simp only [schedF, schedP, compatF_eq, schedF_eq kds rest]

def planF (md : Region.Mode) (ops : Array Oper) (kds : List Nat) : Plan → Nat → Array Bool → Bool
  | .run l, n, x => l.length == n && schedF md ops kds l x && (Region.ready md ops (markL l x)).isEmpty
  | .fork l i a j b, n, x => decide (l.length < n) && schedF md ops kds l x && (Region.ready md ops (markL l x) == [i, j]) &&
      planF md ops kds a (n - l.length - 1) ((markL l x).setIfInBounds i true) && planF md ops kds b (n - l.length - 1) ((markL l x).setIfInBounds j true)

theorem planF_eq (kds : List Nat) : ∀ (p : Plan) (n : Nat) (x : Array Bool), planF md ops kds p n x = planB md ops kds p n x
  | .run l, n, x => by simp only [planF, planB, schedF_eq]
  | .fork l i a j b, n, x => by simp only [planF, planB, schedF_eq, planF_eq kds a, planF_eq kds b]

theorem wp_region_planF {id : Nat} {a : Act} {w : World} {l : List Oper} (L : Nat → Prop) (kds : List Nat) (plan : Plan) (hm : P.follows .mixedOrders = true)
    (hB : (Region.noSelect l.toArray && planF .any l.toArray kds plan l.length (Array.replicate l.length false)) = true)
    (h : wpPlan L P l.toArray (NoPanic Q) kds plan a w.drew) : (Code.region id l.toArray true).wp P Q a w :=
  wp_region_plan L kds plan hm (by rwa [planF_eq] at hB) h

theorem wp_region_schedF {id : Nat} {a : Act} {w : World} {l : List Oper} (L : Nat → Prop) (kds sched : List Nat) (hm : P.follows .mixedOrders = true)
    (hB : (Region.noSelect l.toArray && planF .any l.toArray kds (.run sched) l.length (Array.replicate l.length false)) = true)
    (h : wpTo L P l.toArray (NoPanic Q) kds ((NoPanic Q) .normal) sched a w.drew) : (Code.region id l.toArray true).wp P Q a w :=
  wp_region_sched L kds sched hm (by rwa [planF_eq] at hB) h
end
end Go.Proofs.YtcdkklddingfpaaGreat
