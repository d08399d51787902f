/- The rows of the laws: arrays of bytes (flat and nested), numbers of 16 and 64 bits, as arguments. -/
import Derived.Test.YtcipnkemnepbaaaGreatVRowS
import Derived.Test.YtcipnkemnepbaaaGreatVNetA
namespace Go.Proofs.YtcipnkemnepbaaaGreat
open Go.ChangeShapes Go.WideShapes Go.ChangeAt Go.RowKit Go.Joins Go.Deep
set_option linter.unusedVariables false

set_option maxRecDepth 100000 in
theorem okWide_array {T e : TypeId} {n : Nat} {W : World} {b0 : Nat} {v : Value} (hT : Tryz.prog.underlying T = some (.array n e)) (hv : Value.okWide Tryz.prog W .any b0 T v) : ∃ cs, v = .agg cs ∧ cs.size = Tryz.prog.cellsOf T := by
  unfold Value.okWide at hv
  rw [hT] at hv
  obtain ⟨cs, h1, h2, _⟩ := hv
  exact ⟨cs, h1, h2⟩
theorem cells_chunks {cs : List Value} {m n : Nat} {p : List Value → Prop} (hl : cs.length = n * m) (h : ∀ i, i < n → ∃ l : List Nat, (cs.drop (i * m)).take m = bytC l ∧ l.length = m ∧ ∀ x ∈ l, x < 256) : ∃ l : List Nat, cs = bytC l ∧ l.length = n * m ∧ ∀ x ∈ l, x < 256 := by
  induction n generalizing cs with
  | zero => exact ⟨[], by simpa [bytC] using hl, by simp, by simp⟩
  | succ n ih =>
    obtain ⟨l0, e0, h0, b0⟩ := h 0 (by omega)
    simp only [Nat.zero_mul, List.drop_zero] at e0
    obtain ⟨l1, e1, h1, b1⟩ := ih (cs := cs.drop m) (by rw [List.length_drop, hl, Nat.succ_mul]; omega) (fun i hi => by
      obtain ⟨l, e, h2, b⟩ := h (i + 1) (by omega)
      rw [List.drop_drop, show m + i * m = (i + 1) * m by rw [Nat.succ_mul]; omega]
      exact ⟨l, e, h2, b⟩)
    refine ⟨l0 ++ l1, ?_, by rw [List.length_append, h0, h1, Nat.succ_mul]; omega, fun x hx => ?_⟩
    · have := List.take_append_drop m cs
      rw [← this, e0, e1]
      simp [bytC]
    · rcases List.mem_append.1 hx with hx | hx
      · exact b0 x hx
      · exact b1 x hx
theorem cellsU8' : Tryz.prog.cellsOf 5 = 1 := by kernel_rfl
set_option maxRecDepth 100000 in
theorem open_u8s {H : Type} {enc : TypeId × Value → H} {W : World} {base fuel n : Nat} {sp : Nat → Bool} {held : Bool} {T : TypeId} {cs : List Value} {x : DataW H × List MemPlace} (hT : Tryz.prog.underlying T = some (.array n 5)) (hc : Tryz.prog.cellsOf T = n)
    (h : DataW.trod enc Tryz.prog W base sp held fuel T cs = some x) : ∃ l : List Nat, cs = bytC l ∧ l.length = n ∧ ∀ y ∈ l, y < 256 := by
  obtain ⟨xs, m, _, _, hl, hx, hi⟩ := DataW.trod_array hT h
  rw [hc] at hl
  obtain ⟨l, e, h1, h2⟩ := cells_chunks (p := fun _ => True) (m := 1) (n := n) (cs := cs) (by omega) (fun i hin => by
    have e0 := hi i hin
    rw [cellsU8'] at e0
    rw [List.getElem?_eq_getElem (by omega)] at e0
    obtain ⟨a, ea, _, wa⟩ := DataW.trod_int Tryz.underlying5 e0
    have b := u8_wf wa
    refine ⟨[a.toNat], ?_, rfl, fun y hy => by simp only [List.mem_singleton] at hy; omega⟩
    rw [ea]
    simp only [bytC, List.map_cons, List.map_nil]
    rw [show ((a.toNat : Nat) : Int) = a by omega])
  exact ⟨l, e, by omega, h2⟩
set_option maxRecDepth 100000 in
theorem open_u8ss {H : Type} {enc : TypeId × Value → H} {W : World} {base fuel n m : Nat} {sp : Nat → Bool} {held : Bool} {T U : TypeId} {cs : List Value} {x : DataW H × List MemPlace} (hT : Tryz.prog.underlying T = some (.array n U)) (hU : Tryz.prog.underlying U = some (.array m 5)) (hcT : Tryz.prog.cellsOf T = n * m) (hcU : Tryz.prog.cellsOf U = m)
    (h : DataW.trod enc Tryz.prog W base sp held fuel T cs = some x) : ∃ l : List Nat, cs = bytC l ∧ l.length = n * m ∧ ∀ y ∈ l, y < 256 := by
  obtain ⟨xs, k, _, _, hl, hx, hi⟩ := DataW.trod_array hT h
  rw [hcT] at hl
  refine cells_chunks (p := fun _ => True) hl (fun i hin => ?_)
  have e0 := hi i hin
  rw [hcU, List.getElem?_eq_getElem (by omega)] at e0
  exact open_u8s hU hcU e0
end Go.Proofs.YtcipnkemnepbaaaGreat
