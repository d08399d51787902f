/- The table of a function in an order of its variables. Plain. BddLaws: the laws on tables; the operations' contracts by canonical tables; a box with a diagram. bdd.quantify, Exists, Forall. bdd.Restrict. -/
import Derived.Test.YtmmjijmmocabhaaJChange
import Derived.Test.YtmmjijmmocabhaaJChgP
import Derived.Test.YtmmjijmmocabhaaJFrom
import Derived.Test.YtmmjijmmocabhaaJOpsR
import Derived.Test.YtmmjijmmocabhaaJSearch
import Derived.Test.YtmmjijmmocabhaaJRQuant
import Derived.Test.YtmmjijmmocabhaaJOrdO
namespace Go.Proofs.Ytmmjijmmocabhaa
open Go.RowKit
set_option linter.unusedVariables false
set_option linter.unusedSimpArgs false

/-- A builder whose number stands for a table: finish returns its diagram. -/
theorem fin_tab {N : List Nd} {n : Nat} {k : Int} {t : List Bool} (hn : n ≤ 10) (ho : Ord N n) (hv : VNum N k) (ht : tab N n 0 k = t) (hl : N.length ≤ 100000) (B p m : Nat) (a : Option Addr) (cap : Nat) (W : World) (hB : BuilderAt W B p m a cap N) :
    Calls Try.prog 60 #[.pointer (some ⟨p, 0, none⟩), .int .i64 n, .int .i64 k] W (DRet W n (tableF n [] 0 t).1 (tableF n [] 0 t).2) := by
  obtain ⟨s', v1, v2⟩ := finish_table ho hv
  rw [ht] at v1 v2
  have hs := tab_short hn t
  refine (finish_any B p m a cap N n k (n + 1) s' _ W hB ho.val.laid hl hv.1 hv.2 v1 (by rw [v2]; omega)).mono ?_
  intro e w3 hD
  unfold finishF at hD
  rw [if_pos (by rw [v2]; exact hs), v2] at hD
  exact hD

/-- change of a diagram's root, laid into an empty builder. -/
theorem chg_there {n : Nat} (hn : n ≤ 10) {t : List Bool} {L : List Nd} {r : Int} (T : IsTab n t L r) {wn : Int → Bool} {o : Bool → Bool → Bool} {dof : Is → Int → Int → Option (Is × Int)} (ho : Idem o) (hdo : DoOk n o dof) :
    VNd (addF L ([], [0, 1])).1 ∧ VNum (addF L ([], [0, 1])).1 ((addF L ([], [0, 1])).2.getD r.toNat 0) ∧
    ∃ s' q, changeF wn dof (n + 1) (((addF L ([], [0, 1])).1, []), []) ((addF L ([], [0, 1])).2.getD r.toNat 0) = some (s', q) ∧ Ord s'.1.1 n ∧ VNum s'.1.1 q ∧ tab s'.1.1 n 0 q = chT wn o n 0 t ∧ s'.1.1.length ≤ 100000 := by
  obtain ⟨hL, hr, ht⟩ := T.ord
  obtain ⟨a1, a2, a3, a4, a5⟩ := add_root hL (Ord.nil (n := (n : Int)) (by omega)) hr
  have h0 := (topF_range hL.val hr).1
  have e := a5 n 0 (by omega) h0
  obtain ⟨s', q, b1, b2, b3, b4, b5, b6, b7, b8, b9⟩ := change_right (wn := wn) ho hdo n 0 _ (((addF L ([], [0, 1])).1, []), []) (n + 1) a1 (Memo.nil _ _) (CMemo.nil _ _ _ _) a3 (by rw [a4]; exact h0) (by omega) (by omega) (by omega)
  refine ⟨a1.val, a3, s', q, b1, b2, b6, by rw [b8, e, ht], ?_⟩
  have h1 := addF_length1 L ([], [0, 1])
  have h2 := T.small
  have h3 : 2 ^ n ≤ 2 ^ 10 := Nat.pow_le_pow_right (by omega) hn
  have h4 : n * 2 ^ n ≤ 10 * 2 ^ 10 := Nat.mul_le_mul hn h3
  simp only [List.length_nil] at h1 b9
  omega

theorem VM.nil {K : Type} [DecidableEq K] (N : List Nd) : VM N ([] : List (K × Int)) := fun _ _ h => by simp [mget] at h

/-- What lies below a builder is kept by change. -/
theorem chg_low {S : Nat → Prop} {W w' : World} {B p m mc : Nat} {a : Option Addr} {cap : Nat} {N : List Nd} {v' : Value} (hB : BuilderAt W B p m a cap N) (hmc : B ≤ mc) (hS : ∀ i, S i → B ≤ i)
    (hG : Grew (fun i => BB p m i ∨ S i ∨ i = mc) W w' (.slice a N.length cap) v') {k : Nat} (hk : k < W.heap.size) (hkB : k < B) : w'.heap[k]? = W.heap[k]? := by
  refine hG.1.block k hk ?_
  rintro (h | h | h | h)
  · have := (hB.own.lt k h).1; omega
  · rcases h with h | h
    · have := hB.pb; omega
    · have := hB.mb; omega
  · have := hS _ h; omega
  · omega

theorem chg_same {S : Nat → Prop} {w0 W w' : World} {B p m mc : Nat} {a : Option Addr} {cap : Nat} {N : List Nd} {v' : Value} (hB : BuilderAt W B p m a cap N) (hmc : B ≤ mc) (hS : ∀ i, S i → B ≤ i)
    (hG : Grew (fun i => BB p m i ∨ S i ∨ i = mc) W w' (.slice a N.length cap) v') (h0 : Same w0 W) (hw : w0.heap.size ≤ B) : Same w0 w' := by
  refine h0.trans hG.1 (fun i hi h => ?_)
  have hi' : i < W.heap.size := Nat.lt_of_lt_of_le hi h0.size
  rcases h with h | h | h | h
  · have := (hB.own.lt i h).1; omega
  · rcases h with h | h
    · have := hB.pb; omega
    · have := hB.mb; omega
  · have := hS _ h; omega
  · omega

def pickB (b : Bool) : Bool → Bool → Bool := fun x y => if b then y else x
theorem pick_idem (b : Bool) : Idem (pickB b) := fun x => by cases b <;> rfl

def doR (b : Bool) : Is → Int → Int → Option (Is × Int) := fun s l h => some (s, if b then h else l)

theorem zip_pick (b : Bool) : ∀ (x y : List Bool), x.length = y.length → List.zipWith (pickB b) x y = if b then y else x
  | [], [], _ => by cases b <;> rfl
  | u :: x, v :: y, h => by
    rw [List.zipWith_cons_cons, zip_pick b x y (by simpa using h)]
    cases b <;> rfl

theorem doR_ok (n : Int) (b : Bool) : DoOk n (pickB b) (doR b) := by
  intro d v l h s hN hM hl hh tl th hv h0
  have h2 := Nat.two_pow_pos d
  refine ⟨s, _, rfl, hN, hM, List.prefix_refl _, ?_, ?_, ?_, by omega⟩
  · cases b <;> simp only [if_true, Bool.false_eq_true, if_false] <;> assumption
  · cases b <;> simp only [if_true, Bool.false_eq_true, if_false] <;> assumption
  · rw [zip_pick b _ _ (by rw [tab_length, tab_length])]
    cases b <;> rfl

theorem doR_val (b : Bool) : DoVal (doR b) := by
  intro s l h s' r e hN hM hl hh
  simp only [doR, Option.some.injEq, Prod.mk.injEq] at e
  obtain ⟨rfl, rfl⟩ := e
  exact ⟨hN, hM, by cases b <;> simp only [if_true, Bool.false_eq_true, if_false] <;> assumption, Nat.le_refl _⟩

/-- The contract of a do that works on a builder and a memory of ite. -/
def DoC (F : FuncId) (dof : Is → Int → Int → Option (Is × Int)) : Prop :=
  ∀ (B p m mm : Nat) (a : Option Addr) (cap : Nat) (s : Is) (l h : Int) (s' : Is) (r : Int) (W : World), BuilderAt W B p m a cap s.1 → MapAt ndv (Value.int .i64) W mm s.2 → mm ≠ m → VNd s.1 → VM s.1 s.2 → VNum s.1 l → VNum s.1 h → dof s l h = some (s', r) → s'.1.length ≤ 100000 →
    Calls Try.prog F #[.pointer (some ⟨p, 0, none⟩), .int .i64 l, .int .i64 h, .map (some mm)] W (IRet W B p m mm a cap s.1 s' r)

def doE (f : Nat) : Is → Int → Int → Option (Is × Int) := fun s l h => iteF f s l 1 h
def doA (f : Nat) : Is → Int → Int → Option (Is × Int) := fun s l h => iteF f s l h 0

theorem ite3_or : ∀ (a b : List Bool) (n : Nat), a.length = n → b.length = n → ite3 a (List.replicate n true) b = List.zipWith (fun x y => x || y) a b
  | [], [], 0, _, _ => rfl
  | x :: a, y :: b, n + 1, h1, h2 => by
    rw [List.replicate_succ, ite3, ite3_or a b n (by simpa using h1) (by simpa using h2), List.zipWith_cons_cons]
    cases x <;> rfl

theorem ite3_and : ∀ (a b : List Bool) (n : Nat), a.length = n → b.length = n → ite3 a b (List.replicate n false) = List.zipWith (fun x y => x && y) a b
  | [], [], 0, _, _ => rfl
  | x :: a, y :: b, n + 1, h1, h2 => by
    rw [List.replicate_succ, ite3, ite3_and a b n (by simpa using h1) (by simpa using h2), List.zipWith_cons_cons]
    cases x <;> rfl

theorem or_idem : Idem (fun x y => x || y) := fun x => by cases x <;> rfl
theorem and_idem : Idem (fun x y => x && y) := fun x => by cases x <;> rfl
theorem or_inter : Inter (fun x y => x || y) := fun a b c d => by cases a <;> cases b <;> cases c <;> cases d <;> rfl
theorem and_inter : Inter (fun x y => x && y) := fun a b c d => by cases a <;> cases b <;> cases c <;> cases d <;> rfl

theorem doE_ok (n : Nat) (hn : n ≤ 40) : DoOk n (fun x y => x || y) (doE (n + 1)) := by
  intro d v l h s hN hM hl hh tl th hv h0
  obtain ⟨s', k, a1, a2, a3, a4, a5, a6, a7, a8⟩ := ite_right d v l 1 h s (n + 1) hN hM hl (vnum1 _) hh tl (by rw [topF_const (by omega)]; omega) th hv h0 (by omega)
  refine ⟨s', k, a1, a2, a3, a4, a5, a6, ?_, a8⟩
  rw [a7, tab_one _ _ _ (by omega), ite3_or _ _ (2 ^ d) (tab_length _ _ _ _) (tab_length _ _ _ _)]

theorem doA_ok (n : Nat) (hn : n ≤ 40) : DoOk n (fun x y => x && y) (doA (n + 1)) := by
  intro d v l h s hN hM hl hh tl th hv h0
  obtain ⟨s', k, a1, a2, a3, a4, a5, a6, a7, a8⟩ := ite_right d v l h 0 s (n + 1) hN hM hl hh (vnum0 _) tl th (by rw [topF_const (by omega)]; omega) hv h0 (by omega)
  refine ⟨s', k, a1, a2, a3, a4, a5, a6, ?_, a8⟩
  rw [a7, tab_zero _ _ _ (by omega), ite3_and _ _ (2 ^ d) (tab_length _ _ _ _) (tab_length _ _ _ _)]

theorem doE_val (f : Nat) : DoVal (doE f) := fun s l h s' r e hN hM hl hh => iteF_valid f s s' l 1 h r e hN hM hl (vnum1 _) hh
theorem doA_val (f : Nat) : DoVal (doA f) := fun s l h s' r e hN hM hl hh => iteF_valid f s s' l h 0 r e hN hM hl hh (vnum0 _)

theorem RowAt.low {w w' : World} {B : Nat} {a : Option Addr} {n cap : Nat} {cells : List Value} (h : RowAt w (.slice a n cap) n cells) (hs : w.heap.size ≤ w'.heap.size)
    (hk : ∀ k, k < B → k < w.heap.size → w'.heap[k]? = w.heap[k]?) (hlow : 0 < n → ∀ k, (Value.slice a n cap).ownBlock = some k → k < B) : RowAt w' (.slice a n cap) n cells := by
  by_cases hn : 0 < n
  · exact h.keep hs (fun k hk' hlt => hk k (hlow hn k hk') hlt)
  · obtain ⟨hl, a', cap', he, h1, h2, h3, hb⟩ := h
    exact ⟨hl, a', cap', he, h1, h2, h3, fun h => absurd h hn⟩

end Go.Proofs.Ytmmjijmmocabhaa
namespace Go.Proofs.Ytmmjijmmocabhaa
open Go.RowKit
set_option linter.unusedVariables false
set_option linter.unusedSimpArgs false

theorem renErr_sorted {m : Int} {qs : List Int} (h : renErr m qs qs.length 0 = 0) : ∀ i j, i ≤ j → j < qs.length → toF qs i ≤ toF qs j := by
  have H := renErr_up qs.length 0 h
  intro i j hij hj
  induction j with
  | zero => have : i = 0 := by omega
            subst this; omega
  | succ j ih =>
    rcases Nat.lt_or_eq_of_le hij with hlt | rfl
    · have h1 := (H (j + 1) (by omega) (by omega)).2.2 (by omega)
      rw [Nat.add_sub_cancel] at h1
      have := ih (by omega) (by omega)
      omega
    · omega

theorem three_abs {w2 : World} {A B C : Obj} {P : World → Prop} (h : ∀ W3, (W3.heap[w2.heap.size]? = some A ∧ W3.heap[w2.heap.size + 1]? = some B ∧ W3.heap[w2.heap.size + 1 + 1]? = some C ∧ Same w2 W3) → P W3) : P (((w2.alloc A).alloc B).alloc C) :=
  h _ ⟨heap_old (heap_old (heap_new _ _) _) _, heap_old (heap_new_at (by simp) _) _, heap_new_at (by simp) _, ((((Fr.refl _ _).alloc _).alloc _).alloc _)⟩

/-- A call returns a diagram or, with an error, the zero one. -/
def QAny (E m : Int) (O : List Nd × Int) (w : World) (e : Ending) (w' : World) : Prop :=
  ∃ gm ga gL gc gr, e = .returned (.tuple #[.agg #[.int .i64 gm, .slice ga (gL : List Nd).length gc, .int .i64 gr], .int .i64 E]) ∧ SliceAt w' 94 3 (.slice ga gL.length gc) gL.length (ndCells gL) ∧ Same w w' ∧
    (E ≠ 0 → gm = 0 ∧ gL = [] ∧ gr = 0) ∧ (E = 0 → gm = m ∧ gL = O.1 ∧ gr = O.2)

theorem DErr.any {E m : Int} {O : List Nd × Int} {w w' : World} {e : Ending} (h0 : E ≠ 0) (h : DErr w E e w') : QAny E m O w e w' := by
  obtain ⟨rfl, hs⟩ := h
  exact ⟨0, none, [], 0, 0, rfl, SliceAt.nil _ _ _, hs, fun _ => ⟨rfl, rfl, rfl⟩, fun h => absurd h h0⟩

theorem DRet.any {m : Int} {O : List Nd × Int} {w w' : World} {e : Ending} (h : DRet w m O.1 O.2 e w') : QAny 0 m O w e w' := by
  obtain ⟨a, c, rfl, hO, hs⟩ := h
  exact ⟨m, a, O.1, c, O.2, rfl, hO, hs, fun h => absurd rfl h, fun _ => ⟨rfl, rfl, rfl⟩⟩

theorem quant_table {o : Bool → Bool → Bool} (ho : Idem o) (hi : Inter o) {n : Nat} {t : List Bool} (ht : t.length = 2 ^ n) {qs : List Int} (h : renErr n qs qs.length 0 = 0) : quantT o n (qs.map Int.toNat) t = chT (fun x => decide (x ∈ qs)) o n 0 t := by
  have H := renErr_up qs.length 0 h
  have hmem : ∀ x ∈ qs, 0 ≤ x ∧ x < n := by
    intro x hx
    obtain ⟨i, hi, rfl⟩ := (toF_mem qs x).1 hx
    have := H i (by omega) (by omega)
    exact ⟨this.1, this.2.1⟩
  have hstrict : ∀ i j, i < j → j < qs.length → toF qs i < toF qs j := by
    intro i j hij hj
    have h1 := renErr_sorted h i (j - 1) (by omega) (by omega)
    have h2 := (H j (by omega) (by omega)).2.2 (by omega)
    omega
  rw [quant_chT ho hi n t ht _ (qs.map Int.toNat) rfl ?_ ?_]
  · congr 1
    funext x
    simp only [inV, oneV, List.any_map]
    by_cases hx : x ∈ qs
    · rw [decide_eq_true hx]
      refine List.any_eq_true.2 ⟨x, hx, ?_⟩
      have := hmem x hx
      simp only [Function.comp, decide_eq_true_eq]; omega
    · rw [decide_eq_false hx]
      refine List.any_eq_false.2 (fun y hy => ?_)
      have := hmem y hy
      simp only [Function.comp, decide_eq_true_eq]
      intro e
      have : x = y := by omega
      exact hx (this ▸ hy)
  · rw [List.Nodup, List.pairwise_map, List.pairwise_iff_getElem]
    intro i j hi hj hij e
    have := hstrict i j hij hj
    have g1 := hmem _ (List.getElem_mem hi)
    have g2 := hmem _ (List.getElem_mem hj)
    simp only [toF, List.getD_eq_getElem?_getD, List.getElem?_eq_getElem hi, List.getElem?_eq_getElem hj, Option.getD_some] at this
    omega
  · intro u hu
    obtain ⟨x, hx, rfl⟩ := List.mem_map.1 hu
    have := hmem x hx
    omega

end Go.Proofs.Ytmmjijmmocabhaa
namespace Go.Proofs.Ytmmjijmmocabhaa
open Go.RowKit
set_option linter.unusedVariables false
set_option linter.unusedSimpArgs false

theorem ext_getD {a b : List Bool} {m : Nat} (ha : a.length = m) (hb : b.length = m) (h : ∀ i, i < m → a.getD i false = b.getD i false) : a = b := by
  refine List.ext_getElem (by omega) (fun i h1 h2 => ?_)
  have := h i (by omega)
  simpa only [List.getD_eq_getElem?_getD, List.getElem?_eq_getElem h1, List.getElem?_eq_getElem h2, Option.getD_some] using this

theorem colF_get (f : Nat → Bool) (m i : Nat) (h : i < m) : (colF f m).getD i false = f i := by simp [colF, List.getD, h]

theorem ite3_get {x y z : List Bool} {m : Nat} (hx : x.length = m) (hy : y.length = m) (hz : z.length = m) {i : Nat} (hi : i < m) : (ite3 x y z).getD i false = if x.getD i false then y.getD i false else z.getD i false := by
  rw [ite3_col x y z (by omega) (by omega), colF_get _ _ _ (by omega)]

theorem ite3_len {x y z : List Bool} {m : Nat} (hx : x.length = m) (hy : y.length = m) (hz : z.length = m) : (ite3 x y z).length = m := by rw [ite3_length x y z (by omega) (by omega), hx]
theorem fls_len (n : Nat) : (fls n).length = 2 ^ n := by simp [fls]
theorem tru_len (n : Nat) : (tru n).length = 2 ^ n := by simp [tru]
theorem flsG (n i : Nat) : (fls n).getD i false = false := by
  simp only [fls, List.getD_eq_getElem?_getD, List.getElem?_replicate]; split <;> rfl
theorem truG {n i : Nat} (h : i < 2 ^ n) : (tru n).getD i false = true := by simp [tru, List.getD, h]
theorem one_get (o : Bool → Bool → Bool) (n u : Nat) (t : List Bool) {i : Nat} (h : i < 2 ^ n) : (oneT o n u t).getD i false = o (t.getD (withF n i u false) false) (t.getD (withF n i u true) false) := by simp [oneT, List.getD, h]
theorem var_get (n v : Nat) {i : Nat} (h : i < 2 ^ n) : (varT n v).getD i false = bitF n i v := by simp [varT, List.getD, h]

section
variable {n : Nat} {x y : List Bool} (hx : x.length = 2 ^ n) (hy : y.length = 2 ^ n)
include hx

theorem law_not : (ite3 x (fls n) (tru n)).length = 2 ^ n := ite3_len hx (fls_len n) (tru_len n)
theorem law_not_get {i : Nat} (h : i < 2 ^ n) : (ite3 x (fls n) (tru n)).getD i false = !x.getD i false := by
  rw [ite3_get hx (fls_len n) (tru_len n) h, flsG, truG h]
  cases x.getD i false <;> rfl
theorem law3 : ite3 (ite3 x (fls n) (tru n)) (fls n) (tru n) = x := by
  have h1 := law_not hx
  refine ext_getD (law_not h1) hx (fun i hi => ?_)
  rw [law_not_get h1 hi, law_not_get hx hi]
  simp

include hy
theorem law_and : (ite3 x y (fls n)).length = 2 ^ n := ite3_len hx hy (fls_len n)
theorem law1 : ite3 (ite3 x (fls n) (tru n)) (tru n) (ite3 y (fls n) (tru n)) = ite3 (ite3 x y (fls n)) (fls n) (tru n) := by
  have h1 := law_not hx
  have h2 := law_not hy
  have h3 := law_and hx hy
  refine ext_getD (ite3_len h1 (tru_len n) h2) (law_not h3) (fun i hi => ?_)
  rw [law_not_get h3 hi, ite3_get h1 (tru_len n) h2 hi, ite3_get hx hy (fls_len n) hi, law_not_get hx hi, law_not_get hy hi, truG hi, flsG]
  cases x.getD i false <;> cases y.getD i false <;> rfl
theorem law2 : ite3 x (tru n) (ite3 x y (fls n)) = x := by
  have h3 := law_and hx hy
  refine ext_getD (ite3_len hx (tru_len n) h3) hx (fun i hi => ?_)
  rw [ite3_get hx (tru_len n) h3 hi, ite3_get hx hy (fls_len n) hi, truG hi, flsG]
  cases x.getD i false <;> cases y.getD i false <;> rfl
end

theorem law4 {n v : Nat} {x : List Bool} (hx : x.length = 2 ^ n) : ite3 (varT n v) (oneT (pickB true) n v x) (oneT (pickB false) n v x) = x := by
  refine ext_getD (ite3_len (varT_length n v) (oneT_length _ _ _ _) (oneT_length _ _ _ _)) hx (fun i hi => ?_)
  rw [ite3_get (varT_length n v) (oneT_length _ _ _ _) (oneT_length _ _ _ _) hi, var_get n v hi, one_get _ _ _ _ hi, one_get _ _ _ _ hi]
  cases h : bitF n i v
  · simp only [pickB, Bool.false_eq_true, if_false]
    rw [withF, if_pos h]
  · simp only [pickB, if_true]
    rw [withF, if_pos h]

theorem law5 {n v : Nat} {x : List Bool} (hx : x.length = 2 ^ n) : ite3 (oneT (pickB false) n v x) (tru n) (oneT (pickB true) n v x) = oneT (qOp false) n v x := by
  refine ext_getD (ite3_len (oneT_length _ _ _ _) (tru_len n) (oneT_length _ _ _ _)) (oneT_length _ _ _ _) (fun i hi => ?_)
  rw [ite3_get (oneT_length _ _ _ _) (tru_len n) (oneT_length _ _ _ _) hi, one_get _ _ _ _ hi, one_get _ _ _ _ hi, one_get _ _ _ _ hi, truG hi]
  simp only [pickB, qOp]
  cases x.getD (withF n i v false) false <;> cases x.getD (withF n i v true) false <;> rfl

theorem law6 {n v : Nat} {x : List Bool} (hx : x.length = 2 ^ n) (hv : v < n) : ite3 (oneT (qOp true) n v (ite3 x (fls n) (tru n))) (fls n) (tru n) = oneT (qOp false) n v x := by
  refine ext_getD (law_not (oneT_length _ _ _ _)) (oneT_length _ _ _ _) (fun i hi => ?_)
  rw [law_not_get (oneT_length _ _ _ _) hi, one_get _ _ _ _ hi, one_get _ _ _ _ hi, law_not_get hx (with_lt n i v false hi hv), law_not_get hx (with_lt n i v true hi hv)]
  simp only [qOp]
  cases x.getD (withF n i v false) false <;> cases x.getD (withF n i v true) false <;> rfl

theorem ite_is {n : Nat} (hn : n ≤ 10) {t u z t' : List Bool} {O P Z O' : List Nd} {r s q r' : Int} (T : IsTab n t O r) (U : IsTab n u P s) (V : IsTab n z Z q) (h : ite3 t u z = t') (T' : IsTab n t' O' r') {a b g : Option Addr} {c d f : Nat} {W : World}
    (hat : SliceAt W 94 3 (.slice a O.length c) O.length (ndCells O)) (hbt : SliceAt W 94 3 (.slice b P.length d) P.length (ndCells P)) (hgt : SliceAt W 94 3 (.slice g Z.length f) Z.length (ndCells Z)) :
    Calls Try.prog 76 #[.agg #[.int .i64 n, .slice a O.length c, .int .i64 r], .agg #[.int .i64 n, .slice b P.length d, .int .i64 s], .agg #[.int .i64 n, .slice g Z.length f, .int .i64 q]] W (DRet W n O' r') := by
  have := ite_rt n ⟨n, a, c, O, r⟩ ⟨n, b, d, P, s⟩ ⟨n, g, f, Z, q⟩ t u z W hn hat hbt hgt ⟨rfl, T⟩ ⟨rfl, U⟩ ⟨rfl, V⟩
  rw [h, T'.eq] at this
  exact this

theorem from_is {n : Nat} (hn : n ≤ 10) {t : List Bool} {O : List Nd} {r : Int} (T : IsTab n t O r) {b : Nat} {W : World} (hb : BoolsAt W b t) (hl : t.length ≤ 1000) :
    Calls Try.prog 26 #[.int .i64 n, .slice (some ⟨b, 0, none⟩) t.length t.length] W (DRet W n O r) := by
  have := fromTable_row n t (some ⟨b, 0, none⟩) t.length W hn T.len (hb.slice (by omega)).row
  rw [T.eq] at this
  exact this

theorem var_is {n : Nat} (hn : n ≤ 10) (u : Nat) (hu : u < n) (W : World) : Calls Try.prog 75 #[.int .i64 n, .int .i64 u] W (DRet W n [((u : Int), 0, 1)] 2) := variable_ok n u W (by omega) (by omega)
theorem var_tab {n u : Nat} (hn : n ≤ 10) (hu : u < n) : IsTab n (varT n u) [((u : Int), 0, 1)] 2 := ⟨by omega, varT_length n u, table_var (by omega) hu, by simp⟩

theorem QAny.ret {m : Int} {O : List Nd × Int} {w w' : World} {e : Ending} (h : QAny 0 m O w e w') : DRet w m O.1 O.2 e w' := by
  obtain ⟨gm, ga, gL, gc, gr, rfl, h1, h2, _, h4⟩ := h
  obtain ⟨rfl, rfl, rfl⟩ := h4 rfl
  exact ⟨ga, gc, rfl, h1, h2⟩

theorem err_one {n u : Nat} (hu : u < n) : renErr n [(u : Int)] [(u : Int)].length 0 = 0 := by
  simp only [List.length_singleton, renErr]
  have : toF [(u : Int)] 0 = u := rfl
  rw [this, if_neg (by omega), if_neg (by omega)]

theorem eq_is {n r : Int} {O : List Nd} {a b : Option Addr} {c d : Nat} {W : World} (hl : O.length ≤ 1000000) (hat : SliceAt W 94 3 (.slice a O.length c) O.length (ndCells O)) (hbt : SliceAt W 94 3 (.slice b O.length d) O.length (ndCells O)) :
    Calls Try.prog 28 #[.agg #[.int .i64 n, .slice a O.length c, .int .i64 r], .agg #[.int .i64 n, .slice b O.length d, .int .i64 r]] W fun e w' => e = .returned (.bool true) ∧ Same W w' := by
  have := equal_any n n r r a b c d O O W hat hbt hl hl
  simpa using this

theorem chk_is {n : Nat} {t : List Bool} {O : List Nd} {r : Int} (T : IsTab n t O r) {a : Option Addr} {c : Nat} {W : World} (hat : SliceAt W 94 3 (.slice a O.length c) O.length (ndCells O)) :
    Calls Try.prog 45 #[.agg #[.int .i64 n, .slice a O.length c, .int .i64 r]] W fun e w' => e = .returned (.int .i64 0) ∧ Same W w' := check_tab ⟨n, a, c, O, r⟩ n t W hat ⟨rfl, T⟩

/-- A box with a diagram. -/
def BoxAt (W : World) (k : Nat) (n : Int) (a : Option Addr) (O : List Nd) (c : Nat) (r : Int) : Prop :=
  W.heap[k]? = some (.cells #[.int .i64 n, .slice a O.length c, .int .i64 r] 45 (0, 0)) ∧ SliceAt W 94 3 (.slice a O.length c) O.length (ndCells O)

theorem BoxAt.same {W W' : World} {k : Nat} {n : Int} {a : Option Addr} {O : List Nd} {c : Nat} {r : Int} (h : BoxAt W k n a O c r) (hs : Same W W') : BoxAt W' k n a O c r := ⟨hs.at h.1 id, h.2.same hs⟩
end Go.Proofs.Ytmmjijmmocabhaa
namespace Go.Proofs.Ytmmjijmmocabhaa
set_option linter.unusedVariables false
set_option linter.unusedSimpArgs false

/-- The place that an order's place y speaks of: variable v has the bit of its position. -/
def permI (o : List Int) (n y : Nat) : Nat := placeF (fun v => bitF n y (atF o v)) n 0
def permT (o : List Int) (n : Nat) (t : List Bool) : List Bool := colF (fun y => t.getD (permI o n y) false) (2 ^ n)
theorem permI_lt (o : List Int) (n y : Nat) : permI o n y < 2 ^ n := placeF_lt _ _ _
theorem permT_length (o : List Int) (n : Nat) (t : List Bool) : (permT o n t).length = 2 ^ n := colF_length _ _
theorem permT_get (o : List Int) (n : Nat) (t : List Bool) {y : Nat} (h : y < 2 ^ n) : (permT o n t).getD y false = t.getD (permI o n y) false := colF_get _ _ _ h

theorem bit_of_place (ρ : Nat → Bool) {n v : Nat} (hv : v < n) : bitF n (placeF ρ n 0) v = ρ v := by
  have key : ∀ (d u : Nat), u + d = n → ∀ v, u ≤ v → v < n → decide (placeF ρ d u / 2 ^ (n - 1 - v) % 2 = 1) = ρ v := by
    intro d
    induction d with
    | zero => intro u hu v h1 h2; omega
    | succ d ih =>
      intro u hu v h1 h2
      have hlt := placeF_lt ρ d (u + 1)
      rw [placeF]
      by_cases e : v = u
      · subst e
        have e1 : n - 1 - v = d := by omega
        rw [e1]
        have hd : 0 < 2 ^ d := Nat.two_pow_pos d
        cases ρ v
        · simp only [Bool.false_eq_true, if_false, Nat.zero_add]
          rw [Nat.div_eq_of_lt hlt]; rfl
        · simp only [if_true]
          rw [Nat.add_div_left _ hd, Nat.div_eq_of_lt hlt]; rfl
      · rw [← ih (u + 1) (by omega) v (by omega) h2]
        congr 2
        have hk : d = (n - 1 - v) + 1 + (d - (n - 1 - v) - 1) := by omega
        cases ρ u
        · simp
        · simp only [if_true]
          generalize hj : n - 1 - v = j at *
          generalize d - j - 1 = m at hk
          have : 2 ^ d = 2 ^ j * (2 * 2 ^ m) := by rw [hk, Nat.pow_add, Nat.pow_succ]; ac_rfl
          rw [this, Nat.mul_add_div (Nat.two_pow_pos j)]
          omega
  exact key n 0 (by omega) v (by omega) hv

theorem perm_bit {o : List Int} {n y v : Nat} (hv : v < n) : bitF n (permI o n y) v = bitF n y (atF o v) := bit_of_place _ hv

theorem perm_const (o : List Int) (n : Nat) (b : Bool) : permT o n (List.replicate (2 ^ n) b) = List.replicate (2 ^ n) b := by
  refine ext_getD (permT_length _ _ _) (by simp) (fun i hi => ?_)
  rw [permT_get _ _ _ hi]
  have := permI_lt o n i
  simp [List.getD, hi, this]
theorem perm_var {o : List Int} {n v : Nat} (hv : v < n) : permT o n (varT n v) = varT n (atF o v) := by
  refine ext_getD (permT_length _ _ _) (varT_length _ _) (fun i hi => ?_)
  rw [permT_get _ _ _ hi, var_get _ _ (permI_lt _ _ _), var_get _ _ hi, perm_bit hv]
theorem perm_ite (o : List Int) {n : Nat} {x y z : List Bool} (hx : x.length = 2 ^ n) (hy : y.length = 2 ^ n) (hz : z.length = 2 ^ n) : permT o n (ite3 x y z) = ite3 (permT o n x) (permT o n y) (permT o n z) := by
  refine ext_getD (permT_length _ _ _) (ite3_len (permT_length _ _ _) (permT_length _ _ _) (permT_length _ _ _)) (fun i hi => ?_)
  rw [permT_get _ _ _ hi, ite3_get hx hy hz (permI_lt _ _ _), ite3_get (permT_length _ _ _) (permT_length _ _ _) (permT_length _ _ _) hi, permT_get _ _ _ hi, permT_get _ _ _ hi, permT_get _ _ _ hi]

/-- The table of a node, by those of its two numbers. -/
theorem tab_node {L : List Nd} {n : Nat} (h : Ord L n) {k : Int} (h2 : 2 ≤ k) (hk : VNum L k) :
    tab L n 0 k = ite3 (varT n (nodeF L k).1.toNat) (tab L n 0 (nodeF L k).2.2) (tab L n 0 (nodeF L k).2.1) := by
  have hv := nodeF_valid h.val h2 hk.2
  refine ext_getD (tab_length _ _ _ _) (ite3_len (varT_length _ _) (tab_length _ _ _ _) (tab_length _ _ _ _)) (fun i hi => ?_)
  rw [ite3_get (varT_length _ _) (tab_length _ _ _ _) (tab_length _ _ _ _) hi, var_get _ _ hi, tab_bit h hk hi, tab_bit h hv.2.2.2.1 hi, tab_bit h hv.2.2.1 hi, ev_node h.val hk h2]

theorem perm_node {o : List Int} {L : List Nd} {n : Nat} (h : Ord L n) {k : Int} (h2 : 2 ≤ k) (hk : VNum L k) :
    permT o n (tab L n 0 k) = ite3 (varT n (atF o (nodeF L k).1.toNat)) (permT o n (tab L n 0 (nodeF L k).2.2)) (permT o n (tab L n 0 (nodeF L k).2.1)) := by
  have hv := nodeF_valid h.val h2 hk.2
  have ht := h.top_lt h2 hk
  rw [topF_node h2] at ht
  rw [tab_node h h2 hk, perm_ite _ (varT_length _ _) (tab_length _ _ _ _) (tab_length _ _ _ _), perm_var (by omega)]

/-! ### the law's way -/
/-- x | 1 << .. for each k. -/
def xF (o : List Int) (n y : Nat) : Nat → Nat
  | 0 => 0
  | k + 1 => if bitF n y k then withF n (xF o n y k) (o.getD k 0).toNat true else xF o n y k
theorem xF_place {n : Nat} {o : List Int} (h : IsOrd n o) (y : Nat) : ∀ k, k ≤ n → xF o n y k = placeF (fun v => decide (atF o v < k) && bitF n y (atF o v)) n 0
  | 0, _ => by
    simp only [xF, Nat.not_lt_zero, decide_false, Bool.false_and]
    have : ∀ d v, placeF (fun _ => false) d v = 0 := by
      intro d; induction d with
      | zero => intro v; rfl
      | succ d ih => intro v; rw [placeF, ih]; rfl
    rw [this]
  | k + 1, hk => by
    have ih := xF_place h y k (by omega)
    have hkl : k < o.length := by rw [h.len]; omega
    have hr := h.range _ (List.getElem_mem hkl)
    have hg : o.getD k 0 = o[k] := by simp [List.getD, hkl]
    obtain ⟨x, hx⟩ : ∃ x : Nat, o[k] = x := ⟨o[k].toNat, by omega⟩
    have hxn : x < n := by omega
    have hax : atF o x = k := by unfold atF; rw [← hx]; exact h.nodup.idxOf_getElem k hkl
    have hlt : xF o n y k < 2 ^ n := by rw [ih]; exact placeF_lt _ _ _
    have other : ∀ u, u < n → u ≠ x → atF o u ≠ k := by
      intro u hu hne e
      have h1 := atF_get h hu
      rw [e, List.getElem?_eq_getElem hkl, hx] at h1
      simp at h1; omega
    rw [xF]
    split
    · rename_i hb
      rw [hg, hx, Int.toNat_natCast, with_place n _ x true hlt hxn]
      refine placeF_congr (fun u hu => ?_)
      unfold updF
      by_cases e : u = x
      · subst e; rw [if_pos rfl, hax, hb]; simp
      · rw [if_neg e, ih, bit_of_place _ (by omega)]
        have := other u (by omega) e
        congr 1
        simp only [decide_eq_decide]; omega
    · rename_i hb
      rw [ih]
      refine placeF_congr (fun u hu => ?_)
      by_cases e : u = x
      · subst e; rw [hax]; simp [hb]
      · have := other u (by omega) e
        congr 1
        simp only [decide_eq_decide]; omega
theorem xF_end {n : Nat} {o : List Int} (h : IsOrd n o) (y : Nat) : xF o n y n = permI o n y := by
  rw [xF_place h y n (Nat.le_refl _)]
  unfold permI
  exact placeF_congr (fun u hu => by simp [atF_lt h (show u < n by omega)])
theorem xF_lt {n : Nat} {o : List Int} (h : IsOrd n o) (y k : Nat) (hk : k ≤ n) : xF o n y k < 2 ^ n := by rw [xF_place h y k hk]; exact placeF_lt _ _ _
/-- The bit is not set yet. -/
theorem xF_free {n : Nat} {o : List Int} (h : IsOrd n o) (y k x : Nat) (hk : k < n) (hx : o[k]? = some (x : Int)) : bitF n (xF o n y k) x = false ∧ x < n := by
  have hkl : k < o.length := by rw [h.len]; omega
  rw [List.getElem?_eq_getElem hkl] at hx
  have hx' : o[k] = x := by simpa using hx
  have hr := h.range _ (List.getElem_mem hkl)
  have hxn : x < n := by omega
  refine ⟨?_, hxn⟩
  have hax : atF o x = k := by unfold atF; rw [← hx']; exact h.nodup.idxOf_getElem k hkl
  rw [xF_place h y k (by omega), bit_of_place _ hxn, hax]
  simp
end Go.Proofs.Ytmmjijmmocabhaa
