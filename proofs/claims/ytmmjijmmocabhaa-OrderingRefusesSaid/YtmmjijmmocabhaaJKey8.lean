/- Orders as keys of a map: arrays of 40 int8. -/
import Derived.Test.YtmmjijmmocabhaaJFacts
import Derived.ChangeKeysEq
namespace Go.Proofs.Ytmmjijmmocabhaa
open Go.RowKit Go.WideShapes
set_option linter.unusedVariables false
set_option linter.unusedSimpArgs false

abbrev K40 := { l : List Int // l.length = 40 }
def kv (k : K40) : Value := .agg (k.1.map (Value.int .i8)).toArray

theorem u_i8 : Try.prog.underlying 119 = some (.int .i8) := Try.underlying119
theorem a_i8 : Try.prog.underlying 120 = some (.array 40 119) := Try.underlying120
theorem one_i8 : (Try.prog.info? 119).map (·.size) = some 1 := by kernel_rfl
theorem cells_i8 : Try.prog.cellsOf 119 = 1 := by kernel_rfl
theorem plain_i8 : Try.prog.plainKey 119 = true := by kernel_rfl

theorem kv_get (k : K40) (j : Nat) (h : j < 40) : (k.1.map (Value.int .i8)).toArray[j]? = some (.int .i8 (k.1.getD j 0)) := by
  have := k.2
  simp [List.getD, show j < k.1.length by omega]

theorem check_i8 (m : Nat) (b : Bool) (x : Int) (w : World) : (Instr.checkKey b (m + 1) 119 (.int .i8 x)).run Try.prog w = .ok () w := by simp [Instr.checkKey, run_underlying u_i8]
theorem equal_i8 (m : Nat) (x y : Int) (w : World) : (Op.equalIn (m + 1) 119 (.int .i8 x) (.int .i8 y)).run Try.prog w = .ok (decide (x = y)) w := by
  simp [Op.equalIn, run_underlying u_i8]
  by_cases h : x = y <;> simp [h]

theorem check_d40 (m : Nat) (k : K40) (w : World) (b : Bool) : (Instr.checkKey b (m + 1 + 1) 120 (kv k)).run Try.prog w = .ok () w := by
  obtain ⟨i, hi, hs⟩ : ∃ i, Try.prog.info? 119 = some i ∧ i.size = 1 := by
    cases hi : Try.prog.info? 119 with
    | none => have := one_i8; rw [hi] at this; simp at this
    | some i => have := one_i8; rw [hi] at this; exact ⟨i, rfl, by simpa using this⟩
  have hp : ∀ j, j < 40 → ∀ w, (part 119 (k.1.map (Value.int .i8)).toArray j).run Try.prog w = .ok (.int .i8 (k.1.getD j 0)) w := fun j hj w => run_part_plain w plain_i8 (kv_get k j hj)
  have hz : ∀ w, (sizeOf 119).run Try.prog w = .ok 1 w := fun w => by rw [run_sizeOf w hi, cells_i8]
  have hc := check_i8 m b
  unfold kv
  rw [Instr.checkKey]
  simp only [Sem.run_bind, run_underlying a_i8, Result.andThen_ok, Std.Legacy.Range.forIn_eq_forIn_range', Std.Legacy.Range.size, Nat.sub_zero, Nat.add_one_sub_one, Nat.div_one]
  have key : ∀ is : List Nat, (∀ j ∈ is, j < 40) → (forIn is PUnit.unit fun j r => do
      Instr.checkKey b (m + 1) 119 (← part 119 (k.1.map (Value.int .i8)).toArray (j * (← sizeOf 119)))
      pure (ForInStep.yield PUnit.unit) : Sem PUnit).run Try.prog w = .ok PUnit.unit w := by
    intro is
    induction is with
    | nil => intro _; simp
    | cons j is ih =>
      intro h
      simp only [List.forIn_cons, Sem.run_bind, hz, Result.andThen_ok, Nat.mul_one, hp j (h j (by simp)), hc, Sem.run_pure]
      exact ih (fun x hx => h x (by simp [hx]))
  have hm : ∀ j ∈ List.range' 0 40, j < 40 := fun j hj => by have := List.mem_range'_1.1 hj; omega
  have := key (List.range' 0 40) hm
  generalize List.range' 0 40 = is at this ⊢
  rw [this]
  rfl

theorem eq_items (d : Nat) (j k : K40) : ∀ (is : List Nat) (w : World), (∀ x ∈ is, x < 40) → (Op.eqItems (d + 1) 119 (Try.prog.cellsOf 119) (j.1.map (Value.int .i8)).toArray (k.1.map (Value.int .i8)).toArray is).run Try.prog w = .ok (is.all fun x => decide (j.1.getD x 0 = k.1.getD x 0)) w := by
  intro is
  induction is with
  | nil => intro w _; simp [Op.eqItems]
  | cons x is ih =>
    intro w h
    have hx := h x (by simp)
    rw [Op.eqItems]
    simp only [Sem.run_bind, cells_i8, Nat.mul_one, run_part_plain w plain_i8 (kv_get j x hx), run_part_plain w plain_i8 (kv_get k x hx), Result.andThen_ok, equal_i8, List.all_cons]
    by_cases e : j.1.getD x 0 = k.1.getD x 0
    · have := ih w (fun y hy => h y (by simp [hy]))
      rw [cells_i8] at this
      simp only [e, decide_true, Bool.not_true, Bool.false_eq_true, if_false, Bool.true_and]
      exact this
    · simp only [e, decide_false, Bool.not_false, if_true, Bool.false_and, Sem.run_pure]
theorem k40_ext {j k : K40} : j = k ↔ (List.range 40).all (fun x => decide (j.1.getD x 0 = k.1.getD x 0)) = true := by
  constructor
  · rintro rfl; simp
  · intro h
    apply Subtype.ext
    have hj := j.2
    have hk := k.2
    refine List.ext_getElem (by omega) (fun i h1 h2 => ?_)
    have := List.all_eq_true.1 h i (by simp; omega)
    simpa [List.getD, h1, h2] using this
theorem equal_d40 (d : Nat) (j k : K40) (w : World) : (Op.equalIn (d + 1 + 1) 120 (kv j) (kv k)).run Try.prog w = .ok (decide (j = k)) w := by
  obtain ⟨i, hi⟩ : ∃ i, Try.prog.info? 119 = some i := by
    cases hi : Try.prog.info? 119 with
    | none => have := one_i8; rw [hi] at this; simp at this
    | some i => exact ⟨i, rfl⟩
  unfold kv
  rw [run_equalIn_array (w := w) (P := Try.prog) (d + 1) (j.1.map (Value.int .i8)).toArray (k.1.map (Value.int .i8)).toArray a_i8 hi, eq_items d j k (List.range 40) w (by intro x hx; exact List.mem_range.1 hx)]
  have : ((List.range 40).all fun x => decide (j.1.getD x 0 = k.1.getD x 0)) = decide (j = k) := by
    rw [Bool.eq_iff_iff, decide_eq_true_iff]
    exact k40_ext.symm
  rw [this]
theorem same_d40 (m : Nat) (k : K40) : Instr.sameBits (m + 2) (kv k) (kv k) = true := by
  simp only [Instr.sameBits, kv, beq_self_eq_true, Bool.true_and, List.all_eq_true]
  rintro ⟨a, b⟩ h
  have : a = b := by
    have h' : (a, b) ∈ (k.1.map (Value.int .i8)).zip (k.1.map (Value.int .i8)) := h
    obtain ⟨i, hi, e⟩ := List.mem_iff_getElem.1 h'
    rw [List.getElem_zip] at e
    rw [← (Prod.mk.inj e).1, ← (Prod.mk.inj e).2]
  subst this
  have ha : a ∈ k.1.map (Value.int .i8) := (List.of_mem_zip h).1
  obtain ⟨x, _, rfl⟩ := List.mem_map.1 ha
  simp [Instr.sameBits]
theorem key40 : KeyOK Try.prog 120 kv := keyOK_ask
  (fun w => ⟨_, run_underlying a_i8 w, fun x y => by simp [Instr.sameNow]⟩)
  (fun k w b => check_d40 9998 k w b)
  (fun x y w => equal_d40 9998 x y w)
  (fun k => same_d40 9998 k)
theorem map40 : Try.prog.underlying 84 = some (.map 120 3) := Try.underlying84
end Go.Proofs.Ytmmjijmmocabhaa
