/- The rows of the laws: sets of events and graphs as arguments. -/
import Derived.Test.YtcdkklddingfpaaGreatJRowL
import Derived.Deep.Slices
import Derived.Deep.Fields
namespace Go.Proofs.YtcdkklddingfpaaGreat
open Go.ChangeShapes Go.WideShapes Go.ChangeAt Go.RowKit Go.Joins Go.Deep
set_option linter.unusedVariables false

set_option maxRecDepth 100000 in
theorem open_u8sE {H : Type} {enc : TypeId × Value → H} {W : World} {base fuel n : Nat} {sp : Nat → Bool} {held : Bool} {T e : TypeId} {cs : List Value} {x : DataW H × List MemPlace} (hT : Tryz.prog.underlying T = some (.array n e)) (he : Tryz.prog.underlying e = some (.int .u8)) (hc : Tryz.prog.cellsOf T = n) (hce : Tryz.prog.cellsOf e = 1)
    (h : DataW.trod enc Tryz.prog W base sp held fuel T cs = some x) : ∃ l : List Nat, cs = bytC l ∧ l.length = n ∧ ∀ y ∈ l, y < 256 := by
  obtain ⟨xs, m, _, _, hl, hx, hi⟩ := DataW.trod_array hT h
  rw [hc] at hl
  obtain ⟨l, e, h1, h2⟩ := cells_chunks (p := fun _ => True) (m := 1) (n := n) (cs := cs) (by omega) (fun i hin => by
    have e0 := hi i hin
    rw [hce] at e0
    rw [List.getElem?_eq_getElem (by omega)] at e0
    obtain ⟨a, ea, _, wa⟩ := DataW.trod_int he e0
    have b := u8_wf wa
    refine ⟨[a.toNat], ?_, rfl, fun y hy => by simp only [List.mem_singleton] at hy; omega⟩
    rw [ea]
    simp only [bytC, List.map_cons, List.map_nil]
    rw [show ((a.toNat : Nat) : Int) = a by omega])
  exact ⟨l, e, by omega, h2⟩
set_option maxRecDepth 100000 in
theorem open_sets2 {H : Type} {enc : TypeId × Value → H} {W : World} {b0 : Nat} {v : Value} {d : DataW H} {p : List MemPlace}
    (hv : Value.okWide Tryz.prog W .any b0 89 v) (h : DataW.Trod enc Tryz.prog W 0 (fun _ => true) true 89 v d p) :
    ∃ l : List Nat, v = .agg (bytC l).toArray ∧ l.length = 2 ∧ ∀ x ∈ l, x < 256 := by
  obtain ⟨cs, rfl, hsz⟩ := okWide_array Tryz.underlying89 hv
  obtain ⟨fuel, hf⟩ := h
  obtain ⟨l, e, h1, h2⟩ := open_u8sE (n := 2) Tryz.underlying89 Tryz.underlying88 (by kernel_rfl) (by kernel_rfl) hf
  refine ⟨l, ?_, h1, h2⟩
  have e' : cs.toList = bytC l := by simpa [Value.cells] using e
  rw [← e']
theorem cellsGr : Tryz.prog.cellsOf 93 = 27 := by kernel_rfl
set_option maxRecDepth 100000 in
/-- A graph's 27 cells. -/
theorem open_graphC {H : Type} {enc : TypeId × Value → H} {W : World} {base fuel : Nat} {sp : Nat → Bool} {held : Bool} {cs : List Value} {x : DataW H × List MemPlace} (h : DataW.trod enc Tryz.prog W base sp held fuel 93 cs = some x) :
    ∃ l : List Nat, cs = bytC l ∧ l.length = 27 ∧ ∀ y ∈ l, y < 256 := by
  obtain ⟨y0, y1, y2, n, _, hl, h0, h1, h2⟩ := trod_struct3 Tryz.underlying93 h
  rw [cellsGr] at hl
  obtain ⟨a, ea, _, wa⟩ := DataW.trod_int Tryz.underlying5 h0
  obtain ⟨b, eb, _, wb⟩ := DataW.trod_int Tryz.underlying5 h1
  obtain ⟨l, el, l25, hl2⟩ := open_u8ss (n := 5) (m := 5) Tryz.underlying91 Tryz.underlying90 (by kernel_rfl) (by kernel_rfl) h2
  have c1 : Tryz.prog.cellsOf 5 = 1 := cellsU8'
  have c25 : Tryz.prog.cellsOf 91 = 25 := by kernel_rfl
  have ba := u8_wf wa
  have bb := u8_wf wb
  simp only [c1, c25, List.drop_zero] at ea eb el
  refine ⟨a.toNat :: b.toNat :: l, ?_, by simp [l25], fun y hy => ?_⟩
  · match cs, hl with
    | c0 :: c1 :: rest, hl =>
      simp only [List.take_succ_cons, List.take_zero, List.drop_succ_cons, List.drop_zero, List.cons.injEq, and_true] at ea eb el
      have hr : rest.length = 25 := by simpa using hl
      simp only [bytC, List.map_cons]
      rw [show ((a.toNat : Nat) : Int) = a by omega, show ((b.toNat : Nat) : Int) = b by omega, ← ea, ← eb]
      have : rest = bytC l := by rw [← el, List.take_of_length_le (by omega)]
      rw [this]; rfl
  · rcases List.mem_cons.1 hy with rfl | hy
    · omega
    · rcases List.mem_cons.1 hy with rfl | hy
      · omega
      · exact hl2 y hy
set_option maxRecDepth 100000 in
theorem okWide_struct {T : TypeId} {fs : Array Field} {W : World} {b0 : Nat} {v : Value} (hT : Tryz.prog.underlying T = some (.struct fs)) (hv : Value.okWide Tryz.prog W .any b0 T v) : ∃ cs, v = .agg cs ∧ cs.size = Tryz.prog.cellsOf T := by
  unfold Value.okWide at hv
  rw [hT] at hv
  obtain ⟨cs, h1, h2, _⟩ := hv
  exact ⟨cs, h1, h2⟩
set_option maxRecDepth 100000 in
theorem open_graph {H : Type} {enc : TypeId × Value → H} {W : World} {b0 : Nat} {v : Value} {d : DataW H} {p : List MemPlace}
    (hv : Value.okWide Tryz.prog W .any b0 93 v) (h : DataW.Trod enc Tryz.prog W 0 (fun _ => true) true 93 v d p) :
    ∃ l : List Nat, v = .agg (bytC l).toArray ∧ l.length = 27 ∧ ∀ x ∈ l, x < 256 := by
  obtain ⟨cs, rfl, hsz⟩ := okWide_struct Tryz.underlying93 hv
  obtain ⟨fuel, hf⟩ := h
  obtain ⟨l, e, h1, h2⟩ := open_graphC hf
  refine ⟨l, ?_, h1, h2⟩
  have e' : cs.toList = bytC l := by simpa [Value.cells] using e
  rw [← e']
end Go.Proofs.YtcdkklddingfpaaGreat
