/-  -/
import Derived.Test.YtcipnkemnepbaaaGreatRows
import Derived.Test.YtcipnkemnepbaaaGreatCMaps
import Derived.Test.YtcipnkemnepbaaaGreatCRowAt
import Derived.WalkKit
import Derived.WalkSpells
import Derived.WalkLawsBesides

namespace Go.Proofs.YtcipnkemnepbaaaGreat
open Go.RowKit
def nde (a b c a' b' c' : Int) : Bool := decide (a = a' ∧ b = b' ∧ c = c')
theorem nde_true {x y : Nd} (h : x = y) : nde x.1 x.2.1 x.2.2 y.1 y.2.1 y.2.2 = true := by subst h; simp [nde]
theorem nde_false {x y : Nd} (h : x ≠ y) : nde x.1 x.2.1 x.2.2 y.1 y.2.1 y.2.2 = false := by
 obtain ⟨a, b, c⟩ := x; obtain ⟨a', b', c'⟩ := y
 simp [nde] at *
 exact h
theorem three_fields {fs : List Field} {n1 n2 n3 : String} {t : TypeId} (hf : fs.map (fun f => (f.name, f.type, f.offset)) = [(n1, t, 0), (n2, t, 1), (n3, t, 2)]) :
 ∃ f1 f2 f3 : Field, fs = [f1, f2, f3] ∧ f1.name = n1 ∧ f2.name = n2 ∧ f3.name = n3 ∧ f1.type = t ∧ f2.type = t ∧ f3.type = t ∧ f1.offset = 0 ∧ f2.offset = 1 ∧ f3.offset = 2 := by
 match fs, hf with
 | [], hf => simp at hf
 | [_], hf => simp at hf
 | [_, _], hf => simp at hf
 | _ :: _ :: _ :: _ :: _, hf => simp at hf
 | [f1, f2, f3], hf =>
  simp only [List.map_cons, List.map_nil, List.cons.injEq, Prod.mk.injEq, and_true] at hf
  obtain ⟨⟨n1, t1, o1⟩, ⟨n2, t2, o2⟩, n3, t3, o3⟩ := hf
  exact ⟨f1, f2, f3, rfl, n1, n2, n3, t1, t2, t3, o1, o2, o3⟩
theorem ti_int : Tryz.prog.underlying 3 = some (.int .i64) := Tryz.underlying3
theorem fieldsB : Tryz.prog.underlying 142 = some (.struct (Tryz.prog.fieldsOf 142)) := by kernel_rfl
theorem stoodB : Tryz.prog.stoodInHeld 142 = false := by kernel_rfl
theorem guardTB : Tryz.prog.eqGuardType Tryz.prog.depth 142 = false := by kernel_rfl
theorem namesB : (Tryz.prog.fieldsOf 142).toList.map (fun f => (f.name, f.type, f.offset)) = [("Variable", 3, 0), ("Low", 3, 1), ("High", 3, 2)] := by kernel_rfl
theorem equalIn_three {T : TypeId} (h1 : Tryz.prog.underlying T = some (.struct (Tryz.prog.fieldsOf T))) (h2 : Tryz.prog.stoodInHeld T = false)
 (hf : (Tryz.prog.fieldsOf T).toList.map (fun f => (f.name, f.type, f.offset)) = [("Variable", 3, 0), ("Low", 3, 1), ("High", 3, 2)])
 (d : Nat) (a b c a' b' c' : Int) (w : World) : (Op.equalIn (d + 2) T (.agg #[.int .i64 a, .int .i64 b, .int .i64 c]) (.agg #[.int .i64 a', .int .i64 b', .int .i64 c'])).run Tryz.prog w = .ok (nde a b c a' b' c') w := by
 rw [run_equalIn_agg w (d + 1) T _ _ h1 h2]
 obtain ⟨f1, f2, f3, e, n1, n2, n3, t1, t2, t3, o1, o2, o3⟩ := three_fields hf
 rw [e]
 simp [Op.eqFields, go_sem, n1, n2, n3, t1, t2, t3, o1, o2, o3]
 unfold nde
 by_cases e1 : a = a' <;> by_cases e2 : b = b' <;> by_cases e3 : c = c' <;> simp [e1, e2, e3]
theorem checkKey_three {T : TypeId} (h1 : Tryz.prog.underlying T = some (.struct (Tryz.prog.fieldsOf T)))
 (hf : (Tryz.prog.fieldsOf T).toList.map (fun f => (f.name, f.type, f.offset)) = [("Variable", 3, 0), ("Low", 3, 1), ("High", 3, 2)])
 (d : Nat) (b' : Bool) (a b c : Int) (w : World) : (Instr.checkKey b' (d + 2) T (.agg #[.int .i64 a, .int .i64 b, .int .i64 c])).run Tryz.prog w = .ok () w := by
 obtain ⟨f1, f2, f3, e, n1, n2, n3, t1, t2, t3, o1, o2, o3⟩ := three_fields hf
 have e' : (Tryz.prog.fieldsOf T) = #[f1, f2, f3] := by rw [← Array.toList_inj]; simpa using e
 rw [e'] at h1
 simp [Instr.checkKey, run_underlying h1, run_underlying ti_int, go_sem, n1, n2, n3, t1, t2, t3, o1, o2, o3]
@[go_sem ↓] theorem guardNeB (x y : Operand) (xs ys : Array Value) (w : World) : (eqGuard .neq 142 x y (.agg xs) (.agg ys)).run Tryz.prog w = .ok () w := run_eqGuard_agg w .neq 142 x y xs ys guardTB
@[go_sem ↓] theorem neqB (a b c a' b' c' : Int) (w : World) : (binOp .neq 142 (.agg #[.int .i64 a, .int .i64 b, .int .i64 c]) (.agg #[.int .i64 a', .int .i64 b', .int .i64 c'])).run Tryz.prog w = .ok (.bool (!nde a b c a' b' c')) w := by
 rw [run_neq_struct, equalIn_three fieldsB stoodB namesB 9998]; rfl
theorem keyB : KeyOK Tryz.prog 142 ndv := keyOK_ask
 (fun w => ⟨_, run_underlying fieldsB w, fun x y => by simp [Instr.sameNow]⟩)
 (fun k w b => checkKey_three fieldsB namesB 9998 b _ _ _ w)
 (fun x y w => by
  have h := equalIn_three fieldsB stoodB namesB 9998 x.1 x.2.1 x.2.2 y.1 y.2.1 y.2.2 w
  have e : nde x.1 x.2.1 x.2.2 y.1 y.2.1 y.2.2 = decide (x = y) := by
   by_cases hx : x = y
   · rw [nde_true hx]; simp [hx]
   · rw [nde_false hx]; simp [hx]
  rw [e] at h
  exact h)
 (fun k => by
  have h : ∀ n, Instr.sameBits (n + 2) (ndv k) (ndv k) = true := fun n => by simp [Instr.sameBits, ndv]
  exact h 9998)
theorem arr3 : Tryz.prog.underlying 167 = some (.array 3 3) := Tryz.underlying167
theorem equalIn_arr (d : Nat) (a b c a' b' c' : Int) (w : World) : (Op.equalIn (d + 2) 167 (.agg #[.int .i64 a, .int .i64 b, .int .i64 c]) (.agg #[.int .i64 a', .int .i64 b', .int .i64 c'])).run Tryz.prog w = .ok (nde a b c a' b' c') w := by
 simp [Op.equalIn, run_underlying arr3, run_underlying ti_int, go_sem, List.range']
 unfold nde
 by_cases e1 : a = a' <;> by_cases e2 : b = b' <;> by_cases e3 : c = c' <;> simp [e1, e2, e3]
theorem checkKey_arr (d : Nat) (b' : Bool) (a b c : Int) (w : World) : (Instr.checkKey b' (d + 2) 167 (.agg #[.int .i64 a, .int .i64 b, .int .i64 c])).run Tryz.prog w = .ok () w := by
 simp [Instr.checkKey, run_underlying arr3, run_underlying ti_int, go_sem, List.range']
theorem keyA : KeyOK Tryz.prog 167 ndv := keyOK_ask
 (fun w => ⟨_, run_underlying arr3 w, fun x y => by simp [Instr.sameNow]⟩)
 (fun k w b => checkKey_arr 9998 b _ _ _ w)
 (fun x y w => by
  have h := equalIn_arr 9998 x.1 x.2.1 x.2.2 y.1 y.2.1 y.2.2 w
  have e : nde x.1 x.2.1 x.2.2 y.1 y.2.1 y.2.2 = decide (x = y) := by
   by_cases hx : x = y
   · rw [nde_true hx]; simp [hx]
   · rw [nde_false hx]; simp [hx]
  rw [e] at h
  exact h)
 (fun k => by
  have h : ∀ n, Instr.sameBits (n + 2) (ndv k) (ndv k) = true := fun n => by simp [Instr.sameBits, ndv]
  exact h 9998)
theorem keyI : KeyOK Tryz.prog 3 (Value.int .i64) := keyOK_int ti_int
theorem mapB : Tryz.prog.underlying 136 = some (.map 142 3) := Tryz.underlying136
theorem mapBb : Tryz.prog.underlying 153 = some (.map 142 4) := Tryz.underlying153
theorem mapA : Tryz.prog.underlying 133 = some (.map 167 3) := Tryz.underlying133
theorem mapI : Tryz.prog.underlying 139 = some (.map 3 3) := Tryz.underlying139
theorem zeroI (w : World) : (zeroValue 3).run Tryz.prog w = .ok (.int .i64 0) w := by kernel_rfl
theorem zeroBo (w : World) : (zeroValue 4).run Tryz.prog w = .ok (.bool false) w := by kernel_rfl
@[go_sem ↓] theorem run_min3 (ts : Array TypeId) (t : TypeId) (x y z : Int) (w : World) : (Builtin.min_ ts t #[.int .i64 x, .int .i64 y, .int .i64 z]).run Tryz.prog w = .ok (.int .i64 (min3 x y z)) w := by
 rw [run_min_int3]; rfl
end Go.Proofs.YtcipnkemnepbaaaGreat
