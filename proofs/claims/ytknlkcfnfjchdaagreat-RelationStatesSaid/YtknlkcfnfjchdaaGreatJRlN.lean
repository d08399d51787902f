/- A whole array that is loaded in a drawn region; the law's pairs of two links. -/
import Derived.Test.YtknlkcfnfjchdaaGreatJRlM
import Derived.Deep.MidRow
namespace Go.Proofs.YtknlkcfnfjchdaaGreat
open Go.RowKit
set_option linter.unusedVariables false
set_option linter.unusedSimpArgs false

theorem sched_load {P : Program} {ops : Array Oper} {Q : Exit → Act → World → Prop} {L : Nat → Prop} {kds : List Nat} {F : Act → World → Prop} {i : Nat} {rest : List Nat} {op : Oper} {a : Act} {w : World} (ho : ops[i]? = some op) (hk : kds.getD i 3 = 1)
    (hw : Region.wanted op (yielded ops a.tmps) = true) (ty : TypeId) (x : Operand) (hop : op.op = .load ty x) (b o : Nat) (hx : a.eval x = .pointer (some ⟨b, o, none⟩)) (cs : List Value) (d : TypeDesc) (hb : b < w.heap.size) (hL : L b) (hc : World.rangeAt w b o cs)
    (hu : P.underlying ty = some d) (hd : TypeDesc.isRow d = true) (hi : (P.info? ty).map (·.size) = some cs.length) (h : wpTo L P ops Q kds F rest (a.put op.dst (.agg cs.toArray)) w) : wpTo L P ops Q kds F (i :: rest) a w := by
  refine sched_s ho hk (fun K hK => ?_)
  rw [if_pos hw]
  refine ⟨.agg cs.toArray, ?_, hK _ h⟩
  rintro w' ⟨g, rfl⟩
  have hc' : World.rangeAt g.1 b o cs := fun j v hv => by rw [Kin.cell g b (o + j) ⟨hb, hL⟩]; exact hc j v hv
  unfold execOp
  simp only [hop, hx, Instr.loadAt, Instr.sureAddr, Sem.run_bind, Sem.run_pure, Result.andThen_ok, run_loadVar_mid g.1 b o ty cs d hc' hu hd hi]
  exact ⟨rfl, rfl⟩
theorem range_row {w : World} {b : Nat} {cs : Array Value} {T : TypeId} {fr : Nat × Nat} (h : w.heap[b]? = some (.cells cs T fr)) (o n : Nat) : World.rangeAt w b o ((cs.toList.drop o).take n) := fun j v hv => by
  rw [List.getElem?_take] at hv
  split at hv
  · rw [List.getElem?_drop] at hv
    simp only [World.cell?, h]
    simpa using hv
  · simp at hv

/-! ### the pairs of two steps -/
def cmR (p : Nat × Nat) (Q : List (Nat × Nat)) : List (Nat × Nat) := (Q.filter fun q => decide (p.2 = q.1)).map fun q => (p.1, q.2)
def cmP (P Q : List (Nat × Nat)) (i j : Nat) : List (Nat × Nat) := (P.take i).flatMap (fun p => cmR p Q) ++ cmR (P.getD i (0, 0)) (Q.take j)
theorem cmR_len (p : Nat × Nat) (Q : List (Nat × Nat)) : (cmR p Q).length ≤ Q.length := by
  unfold cmR
  rw [List.length_map]
  exact List.length_filter_le _ _
theorem cmP_yes {P Q : List (Nat × Nat)} {i j : Nat} (hj : j < Q.length) (h : (P.getD i (0, 0)).2 = Q[j].1) : cmP P Q i (j + 1) = cmP P Q i j ++ [((P.getD i (0, 0)).1, Q[j].2)] := by
  unfold cmP cmR
  rw [List.take_add_one, List.getElem?_eq_getElem hj, List.filter_append, List.map_append, List.append_assoc]
  simp only [Option.toList_some, List.filter_cons, decide_eq_true h, if_true, List.filter_nil, List.map_cons, List.map_nil]
theorem cmP_no {P Q : List (Nat × Nat)} {i j : Nat} (hj : j < Q.length) (h : ¬ (P.getD i (0, 0)).2 = Q[j].1) : cmP P Q i (j + 1) = cmP P Q i j := by
  unfold cmP cmR
  rw [List.take_add_one, List.getElem?_eq_getElem hj, List.filter_append, List.map_append]
  simp only [Option.toList_some, List.filter_cons, decide_eq_false h, Bool.false_eq_true, if_false, List.filter_nil, List.map_nil, List.append_nil]
theorem cmP_row {P Q : List (Nat × Nat)} {i : Nat} (hi : i < P.length) : cmP P Q i Q.length = cmP P Q (i + 1) 0 := by
  unfold cmP
  rw [List.take_of_length_le (Nat.le_refl _), List.take_zero, List.take_add_one, List.getElem?_eq_getElem hi, List.flatMap_append]
  simp [cmR, List.getD, hi]
theorem cmP_all (P Q : List (Nat × Nat)) : cmP P Q P.length 0 = P.flatMap fun p => cmR p Q := by
  unfold cmP
  rw [List.take_of_length_le (Nat.le_refl _), List.take_zero]
  simp [cmR]
theorem flat_le {Q : List (Nat × Nat)} : ∀ l : List (Nat × Nat), (l.flatMap fun p => cmR p Q).length ≤ l.length * Q.length
  | [] => by simp
  | p :: l => by
    have := flat_le (Q := Q) l
    have := cmR_len p Q
    rw [List.flatMap_cons, List.length_append, List.length_cons, Nat.succ_mul]
    omega
theorem cmP_len {P Q : List (Nat × Nat)} (hP : P.length ≤ 10) (hQ : Q.length ≤ 10) (i j : Nat) : (cmP P Q i j).length ≤ 200 := by
  unfold cmP
  rw [List.length_append]
  have h1 := flat_le (Q := Q) (P.take i)
  have h2 := cmR_len (P.getD i (0, 0)) (Q.take j)
  rw [List.length_take] at h1 h2
  have h3 : min i P.length * Q.length ≤ 10 * 10 := Nat.mul_le_mul (by omega) hQ
  omega
theorem cm_mem {P Q : List (Nat × Nat)} {x y : Nat} : (x, y) ∈ (P.flatMap fun p => cmR p Q) ↔ ∃ z, (x, z) ∈ P ∧ (z, y) ∈ Q := by
  simp only [List.mem_flatMap, cmR, List.mem_map, List.mem_filter, decide_eq_true_eq, Prod.mk.injEq]
  constructor
  · rintro ⟨⟨a, c⟩, hp, ⟨d, e⟩, ⟨hq, h1⟩, h2, h3⟩
    simp only at h1 h2 h3
    subst h1 h2 h3
    exact ⟨c, hp, hq⟩
  · rintro ⟨z, h1, h2⟩
    exact ⟨(x, z), h1, (z, y), ⟨h2, rfl⟩, rfl, rfl⟩
theorem cm_lt {P Q : List (Nat × Nat)} {k : Nat} (hP : ∀ p ∈ P, p.1 < k ∧ p.2 < k) (hQ : ∀ p ∈ Q, p.1 < k ∧ p.2 < k) : ∀ p ∈ (P.flatMap fun p => cmR p Q), p.1 < k ∧ p.2 < k := fun ⟨x, y⟩ h => by
  obtain ⟨z, h1, h2⟩ := cm_mem.1 h
  exact ⟨(hP _ h1).1, (hQ _ h2).2⟩
theorem comp_im {b : Nat} {r s f : List Bool} (hr : r.length = 2 ^ (2 * b)) (hs : s.length = 2 ^ (2 * b)) (hf : f.length = 2 ^ b) : imT b 0 (coT b r s) f = imT b 0 s (imT b 0 r f) := by
  refine ext_getD (imT_len _ _ _ _) (imT_len _ _ _ _) (fun y hy => ?_)
  unfold imT
  rw [tbF_get _ _ hy, tbF_get _ _ hy, Bool.eq_iff_iff]
  simp only [List.any_eq_true, List.mem_range, Bool.and_eq_true, if_true]
  have hco : ∀ x, x < 2 ^ b → ((coT b r s).getD (wv b x y) false = true ↔ ∃ z, z < 2 ^ b ∧ r.getD (wv b x z) false = true ∧ s.getD (wv b z y) false = true) := fun x hx => by
    unfold coT
    rw [tbF_get _ _ (wv_lt b x y), ux_wv b x y hx, uy_wv b x y hy]
    simp only [List.any_eq_true, List.mem_range, Bool.and_eq_true]
  constructor
  · rintro ⟨x, hx, h1, h2⟩
    obtain ⟨z, hz, h3, h4⟩ := (hco x hx).1 h1
    refine ⟨z, hz, h4, ?_⟩
    rw [tbF_get _ _ hz]
    simp only [List.any_eq_true, List.mem_range, Bool.and_eq_true]
    exact ⟨x, hx, h3, h2⟩
  · rintro ⟨z, hz, h1, h2⟩
    rw [tbF_get _ _ hz] at h2
    simp only [List.any_eq_true, List.mem_range, Bool.and_eq_true] at h2
    obtain ⟨x, hx, h3, h4⟩ := h2
    exact ⟨x, hx, (hco x hx).2 ⟨z, hz, h3, h1⟩, h4⟩
end Go.Proofs.YtknlkcfnfjchdaaGreat
