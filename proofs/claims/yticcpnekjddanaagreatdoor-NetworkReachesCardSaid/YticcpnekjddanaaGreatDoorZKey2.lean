/-  -/
import Derived.Test.YticcpnekjddanaaGreatDoorRows
import Derived.Test.YticcpnekjddanaaGreatDoorZMaps
import Derived.Test.YticcpnekjddanaaGreatDoorZRowAt
import Derived.WalkKit
import Derived.WalkSpells
import Derived.WalkLawsBesides
set_option linter.unusedVariables false
set_option linter.unusedSimpArgs false
namespace Go.Proofs.YticcpnekjddanaaGreatDoor
open Go.RowKit
def nde (a b c a' b' c' : Int) : Bool := decide (a = a' ∧ b = b' ∧ c = c')
theorem qgZ {x y : Nd} (h : x = y) : nde x.1 x.2.1 x.2.2 y.1 y.2.1 y.2.2 = true := by subst h; simp [nde]
theorem qfv {x y : Nd} (h : x ≠ y) : nde x.1 x.2.1 x.2.2 y.1 y.2.1 y.2.2 = false := by
 obtain ⟨a, b, c⟩ := x; obtain ⟨a', b', c'⟩ := y
 simp [nde] at *
 exact h
theorem qeU {fs : List Field} {n1 n2 n3 : String} {t : TypeId} (hf : fs.map (fun f => (f.name, f.type, f.offset)) = [(n1, t, 0), (n2, t, 1), (n3, t, 2)]) :
 ∃ f1 f2 f3 : Field, fs = [f1, f2, f3] ∧ f1.name = n1 ∧ f2.name = n2 ∧ f3.name = n3 ∧ f1.type = t ∧ f2.type = t ∧ f3.type = t ∧ f1.offset = 0 ∧ f2.offset = 1 ∧ f3.offset = 2 := by
 match fs, hf with
 | [], hf => simp at hf
 | [_], hf => simp at hf
 | [_, _], hf => simp at hf
 | _ :: _ :: _ :: _ :: _, hf => simp at hf
 | [f1, f2, f3], hf =>
  simp only [List.map_cons, List.map_nil, List.cons.injEq, Prod.mk.injEq, and_true] at hf
  obtain ⟨⟨n1, t1, o1⟩, ⟨n2, t2, o2⟩, n3, t3, o3⟩ := hf
  exact ⟨f1, f2, f3, rfl, n1, n2, n3, t1, t2, t3, o1, o2, o3⟩
theorem qfw : Tryz.prog.underlying 3 = some (.int .i64) := Tryz.underlying3
theorem qg0 : Tryz.prog.underlying 132 = some (.struct (Tryz.prog.fieldsOf 132)) := by kernel_rfl
theorem qqa : Tryz.prog.stoodInHeld 132 = false := by kernel_rfl
theorem guardTB : Tryz.prog.eqGuardType Tryz.prog.depth 132 = false := by kernel_rfl
theorem qma : (Tryz.prog.fieldsOf 132).toList.map (fun f => (f.name, f.type, f.offset)) = [("Variable", 3, 0), ("Low", 3, 1), ("High", 3, 2)] := by kernel_rfl
theorem qd0 {T : TypeId} (h1 : Tryz.prog.underlying T = some (.struct (Tryz.prog.fieldsOf T))) (h2 : Tryz.prog.stoodInHeld T = false)
 (hf : (Tryz.prog.fieldsOf T).toList.map (fun f => (f.name, f.type, f.offset)) = [("Variable", 3, 0), ("Low", 3, 1), ("High", 3, 2)])
 (d : Nat) (a b c a' b' c' : Int) (w : World) : (Op.equalIn (d + 2) T (.agg #[.int .i64 a, .int .i64 b, .int .i64 c]) (.agg #[.int .i64 a', .int .i64 b', .int .i64 c'])).run Tryz.prog w = .ok (nde a b c a' b' c') w := by
 rw [run_equalIn_agg w (d + 1) T _ _ h1 h2]
 obtain ⟨f1, f2, f3, e, n1, n2, n3, t1, t2, t3, o1, o2, o3⟩ := qeU hf
 rw [e]
 simp [Op.eqFields, go_sem, n1, n2, n3, t1, t2, t3, o1, o2, o3]
 unfold nde
 by_cases e1 : a = a' <;> by_cases e2 : b = b' <;> by_cases e3 : c = c' <;> simp [e1, e2, e3]
theorem qgu {T : TypeId} (h1 : Tryz.prog.underlying T = some (.struct (Tryz.prog.fieldsOf T)))
 (hf : (Tryz.prog.fieldsOf T).toList.map (fun f => (f.name, f.type, f.offset)) = [("Variable", 3, 0), ("Low", 3, 1), ("High", 3, 2)])
 (d : Nat) (b' : Bool) (a b c : Int) (w : World) : (Instr.checkKey b' (d + 2) T (.agg #[.int .i64 a, .int .i64 b, .int .i64 c])).run Tryz.prog w = .ok () w := by
 obtain ⟨f1, f2, f3, e, n1, n2, n3, t1, t2, t3, o1, o2, o3⟩ := qeU hf
 have e' : (Tryz.prog.fieldsOf T) = #[f1, f2, f3] := by rw [← Array.toList_inj]; simpa using e
 rw [e'] at h1
 simp [Instr.checkKey, run_underlying h1, run_underlying qfw, go_sem, n1, n2, n3, t1, t2, t3, o1, o2, o3]
@[go_sem ↓] theorem guardNeB (x y : Operand) (xs ys : Array Value) (w : World) : (eqGuard .neq 132 x y (.agg xs) (.agg ys)).run Tryz.prog w = .ok () w := run_eqGuard_agg w .neq 132 x y xs ys guardTB
@[go_sem ↓] theorem neqB (a b c a' b' c' : Int) (w : World) : (binOp .neq 132 (.agg #[.int .i64 a, .int .i64 b, .int .i64 c]) (.agg #[.int .i64 a', .int .i64 b', .int .i64 c'])).run Tryz.prog w = .ok (.bool (!nde a b c a' b' c')) w := by
 rw [run_neq_struct, qd0 qg0 qqa qma 9998]; rfl
theorem qoA : qdK Tryz.prog 132 ndv := qft
 (fun w => ⟨_, run_underlying qg0 w, fun x y => by simp [Instr.sameNow]⟩)
 (fun k w b => qgu qg0 qma 9998 b _ _ _ w)
 (fun x y w => by
  have h := qd0 qg0 qqa qma 9998 x.1 x.2.1 x.2.2 y.1 y.2.1 y.2.2 w
  have e : nde x.1 x.2.1 x.2.2 y.1 y.2.1 y.2.2 = decide (x = y) := by
   by_cases hx : x = y
   · rw [qgZ hx]; simp [hx]
   · rw [qfv hx]; simp [hx]
  rw [e] at h
  exact h)
 (fun k => by
  have h : ∀ n, Instr.sameBits (n + 2) (ndv k) (ndv k) = true := fun n => by simp [Instr.sameBits, ndv]
  exact h 9998)
theorem arr3 : Tryz.prog.underlying 155 = some (.array 3 3) := Tryz.underlying155
theorem qi2 (d : Nat) (a b c a' b' c' : Int) (w : World) : (Op.equalIn (d + 2) 155 (.agg #[.int .i64 a, .int .i64 b, .int .i64 c]) (.agg #[.int .i64 a', .int .i64 b', .int .i64 c'])).run Tryz.prog w = .ok (nde a b c a' b' c') w := by
 simp [Op.equalIn, run_underlying arr3, run_underlying qfw, go_sem, List.range']
 unfold nde
 by_cases e1 : a = a' <;> by_cases e2 : b = b' <;> by_cases e3 : c = c' <;> simp [e1, e2, e3]
theorem qhQ (d : Nat) (b' : Bool) (a b c : Int) (w : World) : (Instr.checkKey b' (d + 2) 155 (.agg #[.int .i64 a, .int .i64 b, .int .i64 c])).run Tryz.prog w = .ok () w := by
 simp [Instr.checkKey, run_underlying arr3, run_underlying qfw, go_sem, List.range']
theorem keyA : qdK Tryz.prog 155 ndv := qft
 (fun w => ⟨_, run_underlying arr3 w, fun x y => by simp [Instr.sameNow]⟩)
 (fun k w b => qhQ 9998 b _ _ _ w)
 (fun x y w => by
  have h := qi2 9998 x.1 x.2.1 x.2.2 y.1 y.2.1 y.2.2 w
  have e : nde x.1 x.2.1 x.2.2 y.1 y.2.1 y.2.2 = decide (x = y) := by
   by_cases hx : x = y
   · rw [qgZ hx]; simp [hx]
   · rw [qfv hx]; simp [hx]
  rw [e] at h
  exact h)
 (fun k => by
  have h : ∀ n, Instr.sameBits (n + 2) (ndv k) (ndv k) = true := fun n => by simp [Instr.sameBits, ndv]
  exact h 9998)
theorem qi3 : qdK Tryz.prog 3 (Value.int .i64) := ql9 qfw
theorem mapB : Tryz.prog.underlying 158 = some (.map 132 3) := Tryz.underlying158
theorem mapBb : Tryz.prog.underlying 129 = some (.map 132 4) := Tryz.underlying129
theorem mapA : Tryz.prog.underlying 125 = some (.map 155 3) := Tryz.underlying125
theorem ql5 : Tryz.prog.underlying 161 = some (.map 3 3) := Tryz.underlying161
theorem qi4 (w : World) : (zeroValue 3).run Tryz.prog w = .ok (.int .i64 0) w := by kernel_rfl
theorem qqb (w : World) : (zeroValue 4).run Tryz.prog w = .ok (.bool false) w := by kernel_rfl
@[go_sem ↓] theorem run_min3 (ts : Array TypeId) (t : TypeId) (x y z : Int) (w : World) : (Builtin.min_ ts t #[.int .i64 x, .int .i64 y, .int .i64 z]).run Tryz.prog w = .ok (.int .i64 (qc2 x y z)) w := by
 rw [run_min_int3]; rfl
end Go.Proofs.YticcpnekjddanaaGreatDoor
namespace Go.Proofs.YticcpnekjddanaaGreatDoor
open Go.RowKit
def prV (p : Int × Int) : Value := .agg #[.int .i64 p.1, .int .i64 p.2]
theorem arrK : Tryz.prog.underlying 103 = some (.array 2 3) := Tryz.underlying103
theorem ql3 (d : Nat) (a b a' b' : Int) (w : World) : (Op.equalIn (d + 2) 103 (.agg #[.int .i64 a, .int .i64 b]) (.agg #[.int .i64 a', .int .i64 b'])).run Tryz.prog w = .ok (decide (a = a' ∧ b = b')) w := by
 simp [Op.equalIn, run_underlying arrK, run_underlying qfw, go_sem, List.range']
 by_cases e1 : a = a' <;> by_cases e2 : b = b' <;> simp [e1, e2]
theorem qj9 (d : Nat) (b' : Bool) (a b : Int) (w : World) : (Instr.checkKey b' (d + 2) 103 (.agg #[.int .i64 a, .int .i64 b])).run Tryz.prog w = .ok () w := by
 simp [Instr.checkKey, run_underlying arrK, run_underlying qfw, go_sem, List.range']
theorem key2 : qdK Tryz.prog 103 prV := qft
 (fun w => ⟨_, run_underlying arrK w, fun x y => by simp [Instr.sameNow]⟩)
 (fun k w b => qj9 9998 b _ _ w)
 (fun x y w => by
  have h := ql3 9998 x.1 x.2 y.1 y.2 w
  have e : decide (x.1 = y.1 ∧ x.2 = y.2) = decide (x = y) := by
   obtain ⟨x1, x2⟩ := x
   obtain ⟨y1, y2⟩ := y
   simp
  rw [e] at h
  exact h)
 (fun k => by
  have h : ∀ n, Instr.sameBits (n + 2) (prV k) (prV k) = true := fun n => by simp [Instr.sameBits, prV]
  exact h 9998)
theorem map2 : Tryz.prog.underlying 102 = some (.map 103 3) := Tryz.underlying102
end Go.Proofs.YticcpnekjddanaaGreatDoor
