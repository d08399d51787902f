/- The rows of the laws: an automaton as an argument. -/
import Derived.Test.YtcdkklddingfpaaGreatJRowL
import Derived.Test.YtcdkklddingfpaaGreatJRelR
import Derived.Deep.Slices
import Derived.Deep.Fields
namespace Go.Proofs.YtcdkklddingfpaaGreat
open Go.ChangeShapes Go.WideShapes Go.ChangeAt Go.RowKit Go.Joins Go.Deep
set_option linter.unusedVariables false

theorem cellsEd : Tryz.prog.cellsOf 39 = 3 := by kernel_rfl

theorem add_flatE (b o j : Nat) : (⟨b, o, none⟩ : Addr).add j = ⟨b, o + j, none⟩ := by
  unfold Addr.add
  split
  · rename_i h; subst h; rfl
  · rfl

set_option maxRecDepth 100000 in
theorem open_edge {H : Type} {enc : TypeId × Value → H} {W : World} {base fuel : Nat} {sp : Nat → Bool} {held : Bool} {cs : List Value} {x : DataW H × List MemPlace} (h : DataW.trod enc Tryz.prog W base sp held fuel 39 cs = some x) :
    ∃ z : Nd, cs = [.int .i64 z.1, .int .i64 z.2.1, .int .i64 z.2.2] := by
  obtain ⟨y0, y1, y2, n, _, hl, h0, h1, h2⟩ := trod_struct3 Tryz.underlying39 h
  rw [cellsEd] at hl
  match cs, hl with
  | [c0, c1, c2], _ =>
    have e1 : Tryz.prog.cellsOf 3 = 1 := cellsI
    simp only [e1, List.drop_zero, List.drop_succ_cons, List.take_succ_cons, List.take_zero] at h0 h1 h2
    obtain ⟨a, ea, _, _⟩ := DataW.trod_int Tryz.underlying3 h0
    obtain ⟨b, eb, _, _⟩ := DataW.trod_int Tryz.underlying3 h1
    obtain ⟨c, ec, _, _⟩ := DataW.trod_int Tryz.underlying3 h2
    simp at ea eb ec
    subst ea eb ec
    exact ⟨(a, b, c), rfl⟩

set_option maxRecDepth 100000 in
theorem open_edsR {H : Type} {enc : TypeId × Value → H} {W : World} {fuel : Nat} {v : Value} {x : DataW H × List MemPlace} (h : DataW.trod enc Tryz.prog W 0 (fun _ => true) true fuel 23 [v] = some x) :
    ∃ (a : Option Addr) (L : List Nd) (cap : Nat), v = .slice a L.length cap ∧ NodesAt W a L cap := by
  rcases open_slice Tryz.underlying23 h with ⟨hc, _⟩ | ⟨a, len, cap, m, n, D, Pl, hc, _, hl, hm, hmm, _, hi⟩
  · have hc' : v = .slice none 0 0 := by simpa using hc
    subst hc'
    exact ⟨none, [], 0, rfl, by simp, Nat.zero_le _, fun _ => rfl, fun h => absurd h (by simp)⟩
  · have hc' : v = .slice (some a) len cap := by simpa using hc
    subst hc'
    have hlm : len ≤ m := by rw [hmm]; simpa using hl
    obtain ⟨N, hN⟩ := choose_lt (n := len) (α := Nd) (p := fun i (z : Nd) => W.cell? (a.add (i * 3)) = some (.int .i64 z.1) ∧ W.cell? (a.add (i * 3 + 1)) = some (.int .i64 z.2.1) ∧ W.cell? (a.add (i * 3 + 2)) = some (.int .i64 z.2.2)) (fun i hil => by
      obtain ⟨cs', hcc, ht⟩ := hi i (Nat.lt_of_lt_of_le hil hlm)
      rw [cellsEd] at hcc
      obtain ⟨z, rfl⟩ := open_edge ht
      obtain ⟨_, _, hat⟩ := World.cells?_some hcc
      have c0 := hat 0 (by omega)
      have c1 := hat 1 (by omega)
      have c2 := hat 2 (by omega)
      rw [Go.Deep.add_add] at c0 c1 c2
      exact ⟨z, c0, c1, c2⟩)
    refine ⟨some a, (List.range len).map N, cap, by simp, by simpa using hl, hm, by simp, fun hn => ?_⟩
    simp only [List.length_map, List.length_range] at hn
    obtain ⟨es, hlt⟩ := spot_none (hN 0 hn).1
    have hz : a.add (0 * 3) = a := by simp [Addr.add]
    rw [hz] at es hlt
    obtain ⟨b, o, sp⟩ := a
    have e' : sp = none := congrArg Addr.spot es
    subst e'
    refine ⟨b, o, rfl, hlt, fun j u hu => ?_⟩
    have hj : j / 3 < len := by
      rcases Nat.lt_or_ge (j / 3) len with h' | h'
      · exact h'
      · rw [List.getElem?_eq_none (by rw [ndCells_length]; simp; omega)] at hu
        cases hu
    have c3 := ndCells_get ((List.range len).map N) (j / 3) (by simpa using hj)
    simp only [List.getElem_map, List.getElem_range] at c3
    obtain ⟨n0, n1, n2⟩ := hN (j / 3) hj
    rw [add_flatE] at n0 n1 n2
    have hr : j % 3 = 0 ∨ j % 3 = 1 ∨ j % 3 = 2 := by omega
    rcases hr with hr | hr | hr
    · have ej : j = j / 3 * 3 := by omega
      rw [ej, c3.1] at hu
      cases hu
      rw [show o + j = o + j / 3 * 3 from by omega]; exact n0
    · have ej : j = j / 3 * 3 + 1 := by omega
      rw [ej, c3.2.1] at hu
      cases hu
      rw [show o + j = o + (j / 3 * 3 + 1) from by omega]; exact n1
    · have ej : j = j / 3 * 3 + 2 := by omega
      rw [ej, c3.2.2] at hu
      cases hu
      rw [show o + j = o + (j / 3 * 3 + 2) from by omega]; exact n2

set_option maxRecDepth 100000 in
theorem open_intsF {H : Type} {enc : TypeId × Value → H} {W : World} {fuel : Nat} {v : Value} {x : DataW H × List MemPlace} (hf : DataW.trod enc Tryz.prog W 0 (fun _ => true) true fuel 22 [v] = some x) :
    ∃ (a : Option Addr) (t : List Int) (cap : Nat), v = .slice a t.length cap ∧ RowAt W (.slice a t.length cap) t.length (intCells t) := by
  rcases open_ints Tryz.underlying22 Tryz.underlying3 cellsI hf with ⟨hc, _⟩ | ⟨a', len', cap', zs, hc, _, hl, hm, hz, _, hcell, _⟩
  · have hc' : v = .slice none 0 0 := by simpa using hc
    subst hc'
    exact ⟨none, [], 0, rfl, RowAt.nil _⟩
  · have hc' : v = .slice (some a') len' cap' := by simpa using hc
    subst hc'
    have hz' : len' ≤ zs.length := by rw [hz]; split <;> omega
    have hlen : (zs.take len').length = len' := by simp; omega
    refine ⟨some a', zs.take len', cap', by rw [hlen], ?_⟩
    rw [hlen]
    refine rowAt_of (by simp [intCells]; omega) hl hm (fun i u hu => ?_)
    simp only [intCells, List.getElem?_map, List.getElem?_take] at hu
    by_cases hi : i < len'
    · rw [if_pos hi, List.getElem?_eq_getElem (by omega)] at hu
      simp at hu
      rw [← hu]
      have := hcell i (by omega)
      rw [this]
      simp [List.getD, show i < zs.length by omega]
    · rw [if_neg hi] at hu
      simp at hu

theorem cellsAu : Tryz.prog.cellsOf 25 = 4 := by kernel_rfl
set_option maxRecDepth 100000 in
theorem open_aut {H : Type} {enc : TypeId × Value → H} {W : World} {b0 : Nat} {v : Value} {d : DataW H} {p : List MemPlace}
    (hv : Value.okWide Tryz.prog W .any b0 25 v) (h : DataW.Trod enc Tryz.prog W 0 (fun _ => true) true 25 v d p) :
    ∃ A : Au, v = A.v ∧ A.at W ∧ (Lit.int .i64 A.n).wf = true := by
  obtain ⟨c0, c1, c2, c3, y0, y1, y2, y3, m, rfl, _, _, hy0, hy1, hy2, hy3⟩ := open_agg4 Tryz.underlying25 (by kernel_rfl) cellsAu hv h
  obtain ⟨a0, l0, k0, rfl, R0⟩ := open_intsF hy0
  obtain ⟨n, e1, _, wn⟩ := DataW.trod_int Tryz.underlying3 hy1
  obtain ⟨a2, l2, k2, rfl, R2⟩ := open_intsF hy2
  obtain ⟨a3, L, k3, rfl, R3⟩ := open_edsR hy3
  simp at e1
  subst e1
  exact ⟨⟨l0, n, l2, L, a0, k0, a2, k2, a3, k3⟩, rfl, ⟨R0, R2, R3⟩, wn⟩
end Go.Proofs.YtcdkklddingfpaaGreat
