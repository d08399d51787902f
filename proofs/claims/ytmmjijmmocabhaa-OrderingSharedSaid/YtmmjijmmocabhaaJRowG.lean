/- The rows of the laws: slices of slices of ints, a pair of ints, and chapter 12's Function by value, as arguments. -/
import Derived.Test.YtmmjijmmocabhaaJRowS
import Derived.Test.YtmmjijmmocabhaaJLawK
import Derived.Test.YtmmjijmmocabhaaJGrpV
import Derived.Deep.Matrix
namespace Go.Proofs.Ytmmjijmmocabhaa
open Go.ChangeShapes Go.WideShapes Go.ChangeAt Go.RowKit Go.Joins Go.Deep
set_option linter.unusedVariables false

set_option maxRecDepth 100000 in
theorem open_groupsR {H : Type} {enc : TypeId × Value → H} {W : World} {v : Value} {d : DataW H} {p : List MemPlace} (h : DataW.Trod enc Try.prog W 0 (fun _ => true) true 22 v d p) (hv : ∃ a len cap, v = .slice a len cap) :
    ∃ (a : Option Addr) (gs : List Grp) (cap : Nat), v = .slice a gs.length cap ∧ GsAt W (.slice a gs.length cap) gs.length gs := by
  obtain ⟨a, len, cap, rfl⟩ := hv
  obtain ⟨fuel, hf⟩ := h
  rcases open_int_rows Try.underlying22 Try.underlying23 Try.underlying3 (by kernel_rfl) cellsI hf with ⟨hc, _⟩ | ⟨a', len', cap', A, L, C, Z, hc, _, hl, hm, _, hr⟩
  · have hc' : Value.slice a len cap = .slice none 0 0 := by simpa [Value.cells] using hc
    cases hc'
    exact ⟨none, [], 0, rfl, RowAt.nil _, by simp⟩
  · have hc' : Value.slice a len cap = .slice (some a') len' cap' := by simpa [Value.cells] using hc
    cases hc'
    have hrow : ∀ r, r < len → (Grp.mk (A r) (C r) ((Z r).take (L r))).l.length = L r := fun r hr' => by
      obtain ⟨_, h1, _, h2, _⟩ := hr r (by omega)
      simp only [List.length_take]; omega
    refine ⟨some a', (List.range len).map fun r => ⟨A r, C r, (Z r).take (L r)⟩, cap, by simp, ?_⟩
    simp only [List.length_map, List.length_range]
    refine ⟨rowAt_of (by simp) hl hm (fun i u hu => ?_), fun g hg => ?_⟩
    · simp only [List.map_map, List.getElem?_map] at hu
      by_cases hi : i < len
      · rw [List.getElem?_range hi] at hu
        simp only [Option.map_some, Function.comp, Option.some.injEq] at hu
        rw [← hu, (hr i (by omega)).1]
        unfold Grp.v
        rw [hrow i hi]
      · rw [List.getElem?_eq_none (by simp; omega)] at hu
        simp at hu
    · obtain ⟨r, hr1, rfl⟩ := List.mem_map.1 hg
      have hr2 : r < len := by simpa using hr1
      obtain ⟨h0, h1, h2, h3, _, h5, h6⟩ := hr r (by omega)
      unfold Grp.v
      rw [hrow r hr2]
      cases hA : A r with
      | none =>
        have hC := h5 hA
        have hL : L r = 0 := by omega
        rw [hL, hC]
        have : (Z r).take 0 = [] := rfl
        simp only [this]
        exact RowAt.nil _
      | some b =>
        refine rowAt_of (by simp [intCells]; omega) h1 h2 (fun i u hu => ?_)
        simp only [intCells, List.getElem?_map, List.getElem?_take] at hu
        by_cases hi : i < L r
        · rw [if_pos hi, List.getElem?_eq_getElem (by omega)] at hu
          simp at hu
          rw [← hu]
          have := (h6 b hA).2 i (by omega)
          rw [this]
          simp [List.getD, show i < (Z r).length by omega]
        · rw [if_neg hi] at hu
          simp at hu

theorem cellsP : Try.prog.cellsOf 56 = 2 := by kernel_rfl
set_option maxRecDepth 100000 in
theorem open_pair {H : Type} {enc : TypeId × Value → H} {W : World} {b0 : Nat} {v : Value} {d : DataW H} {p : List MemPlace}
    (hv : Value.okWide Try.prog W .any b0 56 v) (h : DataW.Trod enc Try.prog W 0 (fun _ => true) true 56 v d p) :
    ∃ x y : Int, v = .agg #[.int .i64 x, .int .i64 y] ∧ (-9223372036854775808 ≤ x ∧ x ≤ 9223372036854775807) ∧ (-9223372036854775808 ≤ y ∧ y ≤ 9223372036854775807) := by
  obtain ⟨fuel, hf⟩ := h
  obtain ⟨xs, m, _, _, hl, hx, hi⟩ := DataW.trod_array Try.underlying56 hf
  rw [cellsP] at hl
  have hv' : ∃ cs, v = .agg cs ∧ cs.size = Try.prog.cellsOf 56 := by
    unfold Value.okWide at hv
    rw [Try.underlying56] at hv
    obtain ⟨cs, h1, h2, _⟩ := hv
    exact ⟨cs, h1, h2⟩
  obtain ⟨cs, rfl, hcs⟩ := hv'
  rw [cellsP] at hcs
  match cs, hcs with
  | ⟨[c0, c1]⟩, _ =>
    match xs, hx with
    | [y0, y1], _ =>
      have e0 := hi 0 (by omega)
      have e1 := hi 1 (by omega)
      simp only [cellsI, Value.cells] at e0 e1
      obtain ⟨x, ex, _, wx⟩ := DataW.trod_int Try.underlying3 (show _ = some y0 from e0)
      obtain ⟨y, ey, _, wy⟩ := DataW.trod_int Try.underlying3 (show _ = some y1 from e1)
      simp at ex ey
      subst ex ey
      exact ⟨x, y, rfl, i64_wf wx, i64_wf wy⟩

theorem cellsF5 : Try.prog.cellsOf 38 = 7 := by kernel_rfl
theorem cellsA5 : Try.prog.cellsOf 36 = 5 := by kernel_rfl
theorem cellsU8 : Try.prog.cellsOf 5 = 1 := by kernel_rfl
theorem cellsU32 : Try.prog.cellsOf 35 = 1 := by kernel_rfl
set_option maxRecDepth 100000 in
theorem open_fun5 {H : Type} {enc : TypeId × Value → H} {W : World} {b0 : Nat} {v : Value} {d : DataW H} {p : List MemPlace}
    (hv : Value.okWide Try.prog W .any b0 38 v) (h : DataW.Trod enc Try.prog W 0 (fun _ => true) true 38 v d p) :
    ∃ f : Fn5, v = f.val := by
  obtain ⟨cs, rfl, hsz⟩ := okWide_struct Try.underlying38 hv
  obtain ⟨fuel, hf⟩ := h
  obtain ⟨y0, y1, y2, n, _, _, h0, h1, h2⟩ := trod_struct3 Try.underlying38 hf
  rw [cellsF5] at hsz
  match cs, hsz with
  | ⟨[c0, c1, c2, c3, c4, c5, c6]⟩, _ =>
    simp only [cellsU8, cellsU32, cellsA5, Value.cells, List.drop_zero, List.drop_succ_cons, List.take_succ_cons, List.take_zero] at h0 h1 h2
    obtain ⟨a, ea, _, wa⟩ := DataW.trod_int Try.underlying5 h0
    obtain ⟨b, eb, _, wb⟩ := DataW.trod_int Try.underlying35 h1
    obtain ⟨xs, m, _, _, _, hx, hi⟩ := DataW.trod_array Try.underlying36 h2
    match xs, hx with
    | [z0, z1, z2, z3, z4], _ =>
      have e0 := hi 0 (by omega)
      have e1 := hi 1 (by omega)
      have e2 := hi 2 (by omega)
      have e3 := hi 3 (by omega)
      have e4 := hi 4 (by omega)
      simp only [cellsU8] at e0 e1 e2 e3 e4
      obtain ⟨x0, ex0, _, w0⟩ := DataW.trod_int Try.underlying5 (show _ = some z0 from e0)
      obtain ⟨x1, ex1, _, w1⟩ := DataW.trod_int Try.underlying5 (show _ = some z1 from e1)
      obtain ⟨x2, ex2, _, w2⟩ := DataW.trod_int Try.underlying5 (show _ = some z2 from e2)
      obtain ⟨x3, ex3, _, w3⟩ := DataW.trod_int Try.underlying5 (show _ = some z3 from e3)
      obtain ⟨x4, ex4, _, w4⟩ := DataW.trod_int Try.underlying5 (show _ = some z4 from e4)
      simp at ea eb ex0 ex1 ex2 ex3 ex4
      subst ea eb ex0 ex1 ex2 ex3 ex4
      have b0 := u8_wf w0
      have b1 := u8_wf w1
      have b2 := u8_wf w2
      have b3 := u8_wf w3
      have b4 := u8_wf w4
      have ba := u8_wf wa
      refine ⟨⟨a, b, [x0, x1, x2, x3, x4], by omega, u32_wf wb, rfl, ?_⟩, rfl⟩
      intro x hx
      simp only [List.mem_cons, List.not_mem_nil, or_false] at hx
      rcases hx with rfl | rfl | rfl | rfl | rfl <;> omega
end Go.Proofs.Ytmmjijmmocabhaa
