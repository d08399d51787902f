/- The rows of the laws: a Diagram as an argument, opened, and read again behind the call. -/
import Derived.Test.YtmmjijmmocabhaaJRowS
import Derived.Deep.Slices
import Derived.Deep.Fields
namespace Go.Proofs.Ytmmjijmmocabhaa
open Go.ChangeShapes Go.WideShapes Go.ChangeAt Go.RowKit Go.Joins Go.Deep
set_option linter.unusedVariables false

theorem cellsN : Try.prog.cellsOf 94 = 3 := by kernel_rfl
theorem cellsD : Try.prog.cellsOf 45 = 3 := by kernel_rfl

theorem add_flat (b o j : Nat) : (⟨b, o, none⟩ : Addr).add j = ⟨b, o + j, none⟩ := by
  unfold Addr.add
  split
  · rename_i h; subst h; rfl
  · rfl

set_option maxRecDepth 100000 in
theorem open_node {H : Type} {enc : TypeId × Value → H} {W : World} {base fuel : Nat} {sp : Nat → Bool} {held : Bool} {cs : List Value} {x : DataW H × List MemPlace} (h : DataW.trod enc Try.prog W base sp held fuel 94 cs = some x) :
    ∃ z : Nd, cs = [.int .i64 z.1, .int .i64 z.2.1, .int .i64 z.2.2] := by
  obtain ⟨y0, y1, y2, n, _, hl, h0, h1, h2⟩ := trod_struct3 Try.underlying94 h
  rw [cellsN] at hl
  match cs, hl with
  | [c0, c1, c2], _ =>
    have e1 : Try.prog.cellsOf 3 = 1 := cellsI
    simp only [e1, List.drop_zero, List.drop_succ_cons, List.take_succ_cons, List.take_zero] at h0 h1 h2
    obtain ⟨a, ea, _, _⟩ := DataW.trod_int Try.underlying3 h0
    obtain ⟨b, eb, _, _⟩ := DataW.trod_int Try.underlying3 h1
    obtain ⟨c, ec, _, _⟩ := DataW.trod_int Try.underlying3 h2
    simp at ea eb ec
    subst ea eb ec
    exact ⟨(a, b, c), rfl⟩

set_option maxRecDepth 100000 in
theorem open_ndsR {H : Type} {enc : TypeId × Value → H} {W : World} {fuel : Nat} {v : Value} {x : DataW H × List MemPlace} (h : DataW.trod enc Try.prog W 0 (fun _ => true) true fuel 43 [v] = some x) :
    ∃ (a : Option Addr) (L : List Nd) (cap : Nat), v = .slice a L.length cap ∧ NodesAt W a L cap := by
  rcases open_slice Try.underlying43 h with ⟨hc, _⟩ | ⟨a, len, cap, m, n, D, Pl, hc, _, hl, hm, hmm, _, hi⟩
  · have hc' : v = .slice none 0 0 := by simpa using hc
    subst hc'
    exact ⟨none, [], 0, rfl, by simp, Nat.zero_le _, fun _ => rfl, fun h => absurd h (by simp)⟩
  · have hc' : v = .slice (some a) len cap := by simpa using hc
    subst hc'
    have hlm : len ≤ m := by rw [hmm]; simpa using hl
    obtain ⟨N, hN⟩ := choose_lt (n := len) (α := Nd) (p := fun i (z : Nd) => W.cell? (a.add (i * 3)) = some (.int .i64 z.1) ∧ W.cell? (a.add (i * 3 + 1)) = some (.int .i64 z.2.1) ∧ W.cell? (a.add (i * 3 + 2)) = some (.int .i64 z.2.2)) (fun i hil => by
      obtain ⟨cs', hcc, ht⟩ := hi i (Nat.lt_of_lt_of_le hil hlm)
      rw [cellsN] at hcc
      obtain ⟨z, rfl⟩ := open_node ht
      obtain ⟨_, _, hat⟩ := World.cells?_some hcc
      have c0 := hat 0 (by omega)
      have c1 := hat 1 (by omega)
      have c2 := hat 2 (by omega)
      rw [Go.Deep.add_add] at c0 c1 c2
      exact ⟨z, c0, c1, c2⟩)
    refine ⟨some a, (List.range len).map N, cap, by simp, by simpa using hl, hm, by simp, fun hn => ?_⟩
    simp only [List.length_map, List.length_range] at hn
    obtain ⟨es, hlt⟩ := spot_none (hN 0 hn).1
    have hz : a.add (0 * 3) = a := by simp [Addr.add]
    rw [hz] at es hlt
    obtain ⟨b, o, sp⟩ := a
    have e' : sp = none := congrArg Addr.spot es
    subst e'
    refine ⟨b, o, rfl, hlt, fun j u hu => ?_⟩
    have hj : j / 3 < len := by
      rcases Nat.lt_or_ge (j / 3) len with h' | h'
      · exact h'
      · rw [List.getElem?_eq_none (by rw [ndCells_length]; simp; omega)] at hu
        cases hu
    have c3 := ndCells_get ((List.range len).map N) (j / 3) (by simpa using hj)
    simp only [List.getElem_map, List.getElem_range] at c3
    obtain ⟨n0, n1, n2⟩ := hN (j / 3) hj
    rw [add_flat] at n0 n1 n2
    have hr : j % 3 = 0 ∨ j % 3 = 1 ∨ j % 3 = 2 := by omega
    rcases hr with hr | hr | hr
    · have ej : j = j / 3 * 3 := by omega
      rw [ej, c3.1] at hu
      cases hu
      rw [show o + j = o + j / 3 * 3 from by omega]; exact n0
    · have ej : j = j / 3 * 3 + 1 := by omega
      rw [ej, c3.2.1] at hu
      cases hu
      rw [show o + j = o + (j / 3 * 3 + 1) from by omega]; exact n1
    · have ej : j = j / 3 * 3 + 2 := by omega
      rw [ej, c3.2.2] at hu
      cases hu
      rw [show o + j = o + (j / 3 * 3 + 2) from by omega]; exact n2

set_option maxRecDepth 100000 in
theorem open_dia {H : Type} {enc : TypeId × Value → H} {W : World} {b0 : Nat} {v : Value} {d : DataW H} {p : List MemPlace}
    (hv : Value.okWide Try.prog W .any b0 45 v) (h : DataW.Trod enc Try.prog W 0 (fun _ => true) true 45 v d p) :
    ∃ (n r : Int) (a : Option Addr) (cap : Nat) (L : List Nd), v = .agg #[.int .i64 n, .slice a L.length cap, .int .i64 r] ∧ NodesAt W a L cap ∧ (Lit.int .i64 n).wf = true ∧ (Lit.int .i64 r).wf = true := by
  obtain ⟨c0, c1, c2, y0, y1, y2, m, rfl, _, _, hy0, hy1, hy2⟩ := open_agg3 Try.underlying45 (by kernel_rfl) cellsD hv h
  obtain ⟨n, e0, _, wn⟩ := DataW.trod_int Try.underlying3 hy0
  obtain ⟨a, L, cap, rfl, hN⟩ := open_ndsR hy1
  obtain ⟨r, e2, _, wr⟩ := DataW.trod_int Try.underlying3 hy2
  simp at e0 e2
  subst e0 e2
  exact ⟨n, r, a, cap, L, rfl, hN, wn, wr⟩
end Go.Proofs.Ytmmjijmmocabhaa
