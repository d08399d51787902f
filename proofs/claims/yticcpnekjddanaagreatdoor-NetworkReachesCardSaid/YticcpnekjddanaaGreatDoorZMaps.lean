/-  -/
import Derived.WalkKit
import Derived.MapViews
import Derived.Test.YticcpnekjddanaaGreatDoorZChgP

namespace Go.Proofs.YticcpnekjddanaaGreatDoor
open Go.RowKit
def qbJ {K : Type} [DecidableEq K] (k : K) : List K → List MapEntry → Nat → Option (Nat × Value)
 | x :: ks, e :: es, i => if k = x then some (i, e.val) else qbJ k ks es (i + 1)
 | _, _, _ => none
structure qdK (P : Program) (kt : TypeId) {K : Type} [DecidableEq K] (enc : K → Value) : Prop where
 check : ∀ (k : K) (w : World) (b : Bool), (Instr.checkKey b 10000 kt (enc k)).run P w = .ok () w
 find : ∀ (k : K) (es : List MapEntry) (ks : List K) (w : World), es.map (·.key) = ks.map enc → (Instr.findKey kt (enc k) es).run P w = .ok (qbJ k ks es 0) w
 same : ∀ (k : K), Instr.sameBits 10000 (enc k) (enc k) = true
def ql8 {K V : Type} (enc : K → Value) (venc : V → Value) (es : Array MapEntry) (M : List (K × V)) : Prop :=
 es.toList.map (·.key) = M.map (fun p => enc p.1) ∧ es.toList.map (·.val) = M.map (fun p => venc p.2)
def qaR {K V : Type} (enc : K → Value) (venc : V → Value) (w : World) (m : Nat) (M : List (K × V)) : Prop :=
 ∃ es clock, w.heap[m]? = some (.map es clock) ∧ ql8 enc venc es M
theorem qa3 {K V : Type} [DecidableEq K] (M : List (K × V)) (k : K) (v : V) : qa0 (qbW M k v) k = some v := by
 induction M with
 | nil => simp [qbW, qa0]
 | cons p M ih =>
  obtain ⟨x, u⟩ := p
  by_cases h : k = x <;> simp [qbW, qa0, h]
  simpa [h] using ih
theorem qbK {K V : Type} [DecidableEq K] (M : List (K × V)) (k j : K) (v : V) (hj : j ≠ k) : qa0 (qbW M k v) j = qa0 M j := by
 induction M with
 | nil => simp [qbW, qa0, hj]
 | cons p M ih =>
  obtain ⟨x, u⟩ := p
  by_cases h : k = x
  · subst h; simp [qbW, qa0, hj]
  · simp [qbW, qa0, h, ih]
section
variable {K V : Type} [DecidableEq K] {enc : K → Value} {venc : V → Value}
theorem qi0 {es : List MapEntry} : ∀ {M : List (K × V)} {k : K} {i : Nat}, es.map (·.val) = M.map (fun p => venc p.2) → qa0 M k = none → qbJ k (M.map (·.1)) es i = none
 := by
 induction es with
 | nil => intro M k i h _; cases M <;> simp [qbJ]
 | cons e es ih =>
  intro M k i h hm
  cases M with
  | nil => simp at h
  | cons p M =>
   obtain ⟨x, u⟩ := p
   simp only [List.map_cons, List.cons.injEq] at h
   simp only [qa0] at hm
   split at hm
   · cases hm
   · rename_i hne
     simp only [List.map_cons, qbJ, if_neg hne]
     exact ih h.2 hm
theorem qi1 {es : List MapEntry} : ∀ {M : List (K × V)} {k : K} {v : V} {i : Nat}, es.map (·.val) = M.map (fun p => venc p.2) → qa0 M k = some v → ∃ j, qbJ k (M.map (·.1)) es i = some (i + j, venc v) ∧ j < es.length ∧ (M.map (·.1))[j]? = some k ∧ qbW M k = fun u => M.set j (k, u)
 := by
 induction es with
 | nil => intro M k v i h hm; cases M <;> simp [qa0] at *
 | cons e es ih =>
  intro M k v i h hm
  cases M with
  | nil => simp at h
  | cons p M =>
   obtain ⟨x, u⟩ := p
   simp only [List.map_cons, List.cons.injEq] at h
   simp only [qa0] at hm
   split at hm
   · rename_i he
     cases hm
     subst he
     exact ⟨0, by simp [qbJ, h.1], by simp, by simp, by funext u; simp [qbW]⟩
   · rename_i hne
     obtain ⟨j, h1, h2, h3, h4⟩ := ih (i := i + 1) h.2 hm
     exact ⟨j + 1, by simp [qbJ, hne, h1]; omega, by simpa using h2, by simpa using h3, by funext u; simp [qbW, hne, h4]⟩
variable {P : Program} {w : World} {m : Nat} {t kt et : TypeId}
theorem qeS (Q : qdK P kt enc) {es : Array MapEntry} {M : List (K × V)} (hr : ql8 enc venc es M) {k : K} (hm : qa0 M k = none) : (Instr.findKey kt (enc k) es.toList).run P w = .ok none w := by
 rw [Q.find k es.toList (M.map (·.1)) w (by simpa [Function.comp_def] using hr.1), qi0 hr.2 hm]
theorem qeT (Q : qdK P kt enc) {es : Array MapEntry} {M : List (K × V)} (hr : ql8 enc venc es M) {k : K} {v : V} (hm : qa0 M k = some v) :
 ∃ j, (Instr.findKey kt (enc k) es.toList).run P w = .ok (some (j, venc v)) w ∧ j < es.size ∧ (M.map (·.1))[j]? = some k ∧ qbW M k = fun u => M.set j (k, u) := by
 obtain ⟨j, h1, h2, h3, h4⟩ := qi1 (i := 0) hr.2 hm
 exact ⟨j, by rw [Q.find k es.toList (M.map (·.1)) w (by simpa [Function.comp_def] using hr.1), h1]; simp, by simpa using h2, h3, h4⟩
theorem qa6 (Q : qdK P kt enc) (ht : P.underlying t = some (.map kt et)) {M : List (K × V)} (h : qaR enc venc w m M) {k : K} {v : V} (hm : qa0 M k = some v) (ok : Bool) :
 (Instr.lookup t (.map (some m)) (enc k) ok).run P w = .ok (if ok then .tuple #[venc v, .bool true] else venc v) w := by
 obtain ⟨es, clock, hb, hr⟩ := h
 obtain ⟨j, h1, _⟩ := qeT (w := w) Q hr hm
 simp [Instr.lookup, run_underlying ht, MapKept.run_getObj_map hb, Q.check, h1, Result.andThen]
theorem qbo (Q : qdK P kt enc) (ht : P.underlying t = some (.map kt et)) {M : List (K × V)} (h : qaR enc venc w m M) {k : K} (hm : qa0 M k = none) {z : Value} (hz : (zeroValue et).run P w = .ok z w) (ok : Bool) :
 (Instr.lookup t (.map (some m)) (enc k) ok).run P w = .ok (if ok then .tuple #[z, .bool false] else z) w := by
 obtain ⟨es, clock, hb, hr⟩ := h
 have h1 := qeS (w := w) Q hr hm
 simp [Instr.lookup, run_underlying ht, MapKept.run_getObj_map hb, Q.check, h1, hz, Result.andThen]
def setObj (w : World) (m : Nat) (o : Obj) : World := { w with heap := w.heap.setIfInBounds m o }
@[simp, go_sem] theorem size_setObj (w : World) (m : Nat) (o : Obj) : (setObj w m o).heap.size = w.heap.size := by simp [setObj]
theorem qcX {o o' : Obj} (h : w.heap[m]? = some o) : (setObj w m o').heap[m]? = some o' := by
 have := (Array.getElem?_eq_some_iff.1 h).1
 simp [setObj, this]
theorem qbi {o' : Obj} {k : Nat} (h : k ≠ m) : (setObj w m o').heap[k]? = w.heap[k]? := by
 simp only [setObj, Array.getElem?_setIfInBounds]
 rw [if_neg (Ne.symm h)]
theorem qeB (Q : qdK P kt enc) (ht : P.underlying t = some (.map kt et)) {M : List (K × V)} (h : qaR enc venc w m M) (k : K) (v : V) :
 ∃ o, (Instr.mapUpdate t (.map (some m)) (enc k) (venc v)).run P w = .ok () (setObj w m o) ∧ qaR enc venc (setObj w m o) m (qbW M k v) := by
 obtain ⟨es, clock, hb, hr⟩ := h
 cases hm : qa0 M k with
 | none =>
  have h1 := qeS (w := w) Q hr hm
  refine ⟨.map (es.push { key := enc k, val := venc v, born := clock }) (clock + 1), ?_, _, _, qcX hb, ?_⟩
  · simp [Instr.mapUpdate, run_underlying ht, MapKept.run_getObj_map hb, Q.check, h1, MapKept.run_setObj_map _ hb, Result.andThen, setObj]
  · have e : qbW M k v = M ++ [(k, v)] := by
      clear hr h1
      induction M with
      | nil => simp [qbW]
      | cons p M ih =>
       obtain ⟨x, u⟩ := p
       simp only [qa0] at hm
       split at hm
       · cases hm
       · rename_i hne; simp [qbW, hne, ih hm]
    rw [e]
    exact ⟨by simpa using hr.1, by simpa using hr.2⟩
 | some u =>
  obtain ⟨j, h1, hj, hk, hp⟩ := qeT (w := w) Q hr hm
  have hkey : (es[j]?).map (·.key) = some (enc k) := by
   have := congrArg (fun l => l[j]?) hr.1
   simp only [List.getElem?_map] at this hk
   rw [Array.getElem?_toList] at this
   rw [this]
   cases hM : M[j]? with
   | none => simp [hM] at hk
   | some p => simp [hM] at hk; simp [hk]
  have hst : (Instr.keyThatStays (((es[j]?).map (·.key)).getD (enc k)) (enc k)).run P w = .ok (enc k) w := by
   simp [hkey, Instr.keyThatStays, Q.same]
  refine ⟨.map (es.modify j fun e => { e with key := enc k, val := venc v }) clock, ?_, _, _, qcX hb, ?_⟩
  · simp [Instr.mapUpdate, run_underlying ht, MapKept.run_getObj_map hb, Q.check, h1, hst, MapKept.run_setObj_map _ hb, Result.andThen, setObj]
  · rw [congrFun hp v]
    constructor
    · have : (es.modify j fun e => { e with key := enc k, val := venc v }).toList.map (·.key) = (es.toList.map (·.key)).set j (enc k) := by
        apply List.ext_getElem?
        intro i
        simp only [List.getElem?_map, Array.getElem?_toList, Array.getElem?_modify, List.getElem?_set, List.length_map, Array.length_toList]
        by_cases hij : j = i
        · subst hij; simp [hj]
        · simp [hij]
      rw [this, hr.1]
      apply List.ext_getElem?
      intro i
      simp only [List.getElem?_map, List.getElem?_set, List.length_map]
      by_cases hij : j = i
      · subst hij; simp only [if_true]; split <;> simp
      · simp [hij]
    · have : (es.modify j fun e => { e with key := enc k, val := venc v }).toList.map (·.val) = (es.toList.map (·.val)).set j (venc v) := by
        apply List.ext_getElem?
        intro i
        simp only [List.getElem?_map, Array.getElem?_toList, Array.getElem?_modify, List.getElem?_set, List.length_map, Array.length_toList]
        by_cases hij : j = i
        · subst hij; simp [hj]
        · simp [hij]
      rw [this, hr.2]
      apply List.ext_getElem?
      intro i
      simp only [List.getElem?_map, List.getElem?_set, List.length_map]
      by_cases hij : j = i
      · subst hij; simp only [if_true]; split <;> simp
      · simp [hij]
end
theorem qcj {K V : Type} {enc : K → Value} {venc : V → Value} (w : World) : qaR enc venc (w.alloc (.map #[] 0)) w.heap.size ([] : List (K × V)) :=
 ⟨#[], 0, (MapKept.heap_alloc w _).1, rfl, rfl⟩
theorem qaR.of_block {K V : Type} {enc : K → Value} {venc : V → Value} {m : Nat} {w w' : World} {M : List (K × V)} (h : qaR enc venc w m M) (hb : w'.heap[m]? = w.heap[m]?) : qaR enc venc w' m M := by
 obtain ⟨es, clock, h1, h2⟩ := h
 exact ⟨es, clock, hb.trans h1, h2⟩
theorem qaR.lt {K V : Type} {enc : K → Value} {venc : V → Value} {w : World} {m : Nat} {M : List (K × V)} (h : qaR enc venc w m M) : m < w.heap.size := by
 obtain ⟨es, clock, h1, h2⟩ := h
 exact (Array.getElem?_eq_some_iff.1 h1).1
theorem qbp {K V : Type} [DecidableEq K] {enc : K → Value} {venc : V → Value} {P : Program} {w : World} {kt et t : TypeId} {ops : Array Oper} {rest : List Oper} {o : Oper} {a : Act} {Q : Exit → Act → World → Prop}
 (hg : o.guard = none) (m k x : Operand) (hop : o.op = Op.mapUpdate t m k x) (hK : qdK P kt enc) (ht : P.underlying t = some (.map kt et)) (mb : Nat) (M : List (K × V))
 (hm : a.eval m = .map (some mb)) (hM : qaR enc venc w mb M) (key : K) (hk : a.eval k = enc key) (val : V) (hv : a.eval x = venc val)
 (h : ∀ ob, qaR enc venc (setObj w mb ob) mb (qbW M key val) → wpList P ops Q rest (a.put o.dst undef) (setObj w mb ob)) : wpList P ops Q (o :: rest) a w := by
 refine wpList_plain hg fun K' hK' => ?_
 obtain ⟨ob, hr, h2⟩ := qeB (w := w) hK ht hM key val
 unfold Oper.wp
 simp [execOp, hop, hm, hk, hv, hr, Result.andThen]
 exact hK' _ _ (h ob h2)
theorem qcF {K V : Type} [DecidableEq K] {enc : K → Value} {venc : V → Value} {P : Program} {w : World} {kt et t : TypeId} {ops : Array Oper} {rest : List Oper} {o : Oper} {a : Act} {Q : Exit → Act → World → Prop}
 (hg : o.guard = none) (m k x : Operand) (hop : o.op = Op.insert t m k x) (hK : qdK P kt enc) (ht : P.underlying t = some (.map kt et)) (mb : Nat) (M : List (K × V))
 (hm : a.eval m = .map (some mb)) (hM : qaR enc venc w mb M) (key : K) (hk : a.eval k = enc key) (val : V) (hv : a.eval x = venc val)
 (h : ∀ ob, qaR enc venc (setObj w mb ob) mb (qbW M key val) → wpList P ops Q rest (a.put o.dst undef) (setObj w mb ob)) : wpList P ops Q (o :: rest) a w := by
 refine wpList_plain hg fun K' hK' => ?_
 obtain ⟨ob, hr, h2⟩ := qeB (w := w) hK ht hM key val
 unfold Oper.wp
 simp [execOp, hop, hm, hk, hv, hr, Result.andThen]
 exact hK' _ _ (h ob h2)
theorem qfs {k : IntKind} (a : Int) : ∀ (es : List MapEntry) (ks : List Int) (i : Nat), es.map (·.key) = ks.map (Value.int k) → Instr.findNow (.int k) (.int k a) es i = some (qbJ a ks es i)
 | [], ks, i, h => by cases ks <;> simp [Instr.findNow, qbJ] at *
 | e :: es, [], i, h => by simp at h
 | e :: es, x :: ks, i, h => by
  simp only [List.map_cons, List.cons.injEq] at h
  obtain ⟨h1, h2⟩ := h
  by_cases hx : a = x
  · subst hx; simp [Instr.findNow, qbJ, h1, Instr.sameNow]
  · have : (a == x) = false := by simpa using hx
    simp [Instr.findNow, qbJ, h1, Instr.sameNow, this, hx, qfs a es ks (i + 1) h2]
theorem ql9 {P : Program} {kt : TypeId} {k : IntKind} (hk : P.underlying kt = some (.int k)) : qdK P kt (Value.int k) where
 check a w b := by
  have h : ∀ n, (Instr.checkKey b (n + 1) kt (.int k a)).run P w = .ok () w := fun n => by simp [Instr.checkKey, run_underlying hk]
  exact h 9999
 find a es ks w h := by simp [Instr.findKey, run_underlying hk, qfs a es ks 0 h]
 same a := by unfold Instr.sameBits; simp
theorem qft {P : Program} {kt : TypeId} {K : Type} [DecidableEq K] {enc : K → Value} (hd : ∀ w, ∃ d, (underlying kt).run P w = .ok d w ∧ (∀ x y, Instr.sameNow d (enc x) (enc y) = none))
 (hc : ∀ (k : K) (w : World) (b : Bool), (Instr.checkKey b 10000 kt (enc k)).run P w = .ok () w)
 (he : ∀ (x y : K) (w : World), (Op.equal kt (enc x) (enc y)).run P w = .ok (decide (x = y)) w)
 (hs : ∀ (k : K), Instr.sameBits 10000 (enc k) (enc k) = true) : qdK P kt enc where
 check := hc
 same := hs
 find a es ks w h := by
  have ask : ∀ (es : List MapEntry) (ks : List K) (i : Nat), es.map (·.key) = ks.map enc → (Instr.findAsking kt (enc a) es i).run P w = .ok (qbJ a ks es i) w := by
   intro es
   induction es with
   | nil => intro ks i h; cases ks <;> simp [Instr.findAsking, qbJ] at *
   | cons e es ih =>
    intro ks i h
    cases ks with
    | nil => simp at h
    | cons x ks =>
     simp only [List.map_cons, List.cons.injEq] at h
     obtain ⟨h1, h2⟩ := h
     by_cases hx : a = x
     · subst hx; simp [Instr.findAsking, h1, he, qbJ, Result.andThen]
     · simp [Instr.findAsking, h1, he, qbJ, hx, Result.andThen, ih ks (i + 1) h2]
  obtain ⟨d, h1, h2⟩ := hd w
  cases es with
  | nil => cases ks <;> simp [Instr.findKey, h1, Instr.findNow, qbJ, Result.andThen] at *
  | cons e es =>
   cases ks with
   | nil => simp at h
   | cons x ks =>
    have hh := h
    simp only [List.map_cons, List.cons.injEq] at h
    simp [Instr.findKey, h1, Instr.findNow, h.1, h2, Result.andThen, ask (e :: es) (x :: ks) 0 hh]
end Go.Proofs.YticcpnekjddanaaGreatDoor
