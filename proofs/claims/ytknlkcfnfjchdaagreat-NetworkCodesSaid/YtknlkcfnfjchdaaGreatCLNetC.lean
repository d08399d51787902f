/- The example of package network: its values, plain. The law of package network: Example walked. -/
import Derived.Test.YtknlkcfnfjchdaaGreatCLCod
import Derived.Test.YtknlkcfnfjchdaaGreatCNetT
import Derived.Test.YtknlkcfnfjchdaaGreatCLRig
namespace Go.Proofs.YtknlkcfnfjchdaaGreat
open Go.RowKit
set_option linter.unusedVariables false
set_option linter.unusedSimpArgs false

/-- A row of its own is a row that is read. -/
theorem row_new {w W : World} {T : TypeId} {sz n g : Nat} {xs : List Value} (h : W.heap[g]? = some (.cells xs.toArray T (0, 0))) (hl : xs.length = n * sz) (hm : n ≤ maxLen) : SliceAt W T sz (.slice (some ⟨g, 0, none⟩) n n) n xs :=
  SliceAt.of_owns (own_of_block (base := 0) h (Nat.zero_le _) hl rfl hm)
/-- The automata of the example. -/
def exAu (al : List Int) (es : List Nd) (g : Nat) : Au := ⟨al, 2, [0], es, some ⟨g, 0, none⟩, al.length, some ⟨g + 1, 0, none⟩, 1, some ⟨g + 2, 0, none⟩, es.length⟩
theorem ex_at (al : List Int) (es : List Nd) (w : World) (h1 : al.length ≤ 100) (h2 : es.length ≤ 100) :
    (exAu al es w.heap.size).at (((w.alloc (.cells (intCells al).toArray 3)).alloc (.cells #[.int .i64 0] 3)).alloc (.cells (ndCells es).toArray 130)) ∧
    Same w (((w.alloc (.cells (intCells al).toArray 3)).alloc (.cells #[.int .i64 0] 3)).alloc (.cells (ndCells es).toArray 130)) := by
  have k0 := heap_old (heap_old (heap_new w (.cells (intCells al).toArray 3)) (.cells #[.int .i64 0] 3)) (.cells (ndCells es).toArray 130)
  have k1 := heap_old (heap_new (w.alloc (.cells (intCells al).toArray 3)) (.cells #[.int .i64 0] 3)) (.cells (ndCells es).toArray 130)
  have k2 := heap_new ((w.alloc (.cells (intCells al).toArray 3)).alloc (.cells #[.int .i64 0] 3)) (.cells (ndCells es).toArray 130)
  rw [← al1] at k1
  rw [← al2] at k2
  refine ⟨⟨?_, ?_, ?_⟩, fs2⟩
  · exact (row_new (w := w) k0 (by simp [intCells, exAu]) (by simp only [exAu]; unfold maxLen; omega)).row
  · exact (row_new (w := w) (n := 1) (xs := intCells [0]) k1 (by simp [intCells]) (by unfold maxLen; omega)).row
  · exact (row_new (w := w) k2 (ndCells_length _) (by unfold maxLen; omega)).nds

set_option maxRecDepth 100000 in
set_option maxHeartbeats 4000000 in
theorem Example_any (w : World) : Calls Tryz.prog 76 #[] w fun e w' => ∃ g g2 b, e = .returned (.slice (some ⟨b, 0, none⟩) 2 2) ∧ AusAt w' (some ⟨b, 0, none⟩) 2 [exAu [0, 1] [(0, 0, 1), (1, 1, 0)] g, exAu [1, 2] [(0, 1, 1), (1, 2, 0)] g2] ∧ Same w w' := by
  go_enter Tryz.func76, Tryz.ntmps76
  go_upto_region 2 with fail
  obtain ⟨hA, sA⟩ := ex_at [0, 1] [(0, 0, 1), (1, 1, 0)] w (by decide) (by decide)
  have e1 : (((w.alloc (.cells (intCells [0, 1]).toArray 3)).alloc (.cells #[.int .i64 0] 3)).alloc (.cells (ndCells [(0, 0, 1), (1, 1, 0)]).toArray 130)) = (((w.alloc (.cells #[.int .i64 0, .int .i64 1] 3)).alloc (.cells #[.int .i64 0] 3)).alloc (.cells #[.int .i64 0, .int .i64 0, .int .i64 1, .int .i64 1, .int .i64 1, .int .i64 0] 130)) := rfl
  rw [e1] at hA sA
  obtain ⟨W, hW⟩ : ∃ W, W = (((w.alloc (.cells #[.int .i64 0, .int .i64 1] 3)).alloc (.cells #[.int .i64 0] 3)).alloc (.cells #[.int .i64 0, .int .i64 0, .int .i64 1, .int .i64 1, .int .i64 1, .int .i64 0] 130)) := ⟨_, rfl⟩
  have hz : W.heap.size = w.heap.size + 3 := by rw [hW]; simp
  rw [← hW] at hA sA ⊢
  clear hW e1
  have kb := heap_new W (.cells #[.slice (some ⟨w.heap.size, 0, none⟩) 2 2, .int .i64 2, .slice (some ⟨w.heap.size + 1, 0, none⟩) 1 1, .slice (some ⟨w.heap.size + 2, 0, none⟩) 2 2] 44)
  have s1 : Same W (W.alloc (.cells #[.slice (some ⟨w.heap.size, 0, none⟩) 2 2, .int .i64 2, .slice (some ⟨w.heap.size + 1, 0, none⟩) 1 1, .slice (some ⟨w.heap.size + 2, 0, none⟩) 2 2] 44)) := fs2
  have hA1 := hA.same s1
  have sA1 := sA.same s1
  have hz1 : (W.alloc (.cells #[.slice (some ⟨w.heap.size, 0, none⟩) 2 2, .int .i64 2, .slice (some ⟨w.heap.size + 1, 0, none⟩) 1 1, .slice (some ⟨w.heap.size + 2, 0, none⟩) 2 2] 44)).heap.size = w.heap.size + 4 := by simp [hz]
  generalize W.alloc (.cells #[.slice (some ⟨w.heap.size, 0, none⟩) 2 2, .int .i64 2, .slice (some ⟨w.heap.size + 1, 0, none⟩) 1 1, .slice (some ⟨w.heap.size + 2, 0, none⟩) 2 2] 44) = W1 at *
  clear s1 hA sA
  replace kb := Lib.hid kb; replace hA1 := Lib.hid hA1; replace sA1 := Lib.hid sA1
  go_upto_region 3 with fail
  obtain ⟨hB, sB⟩ := ex_at [1, 2] [(0, 1, 1), (1, 2, 0)] W1 (by decide) (by decide)
  have e1 : (((W1.alloc (.cells (intCells [1, 2]).toArray 3)).alloc (.cells #[.int .i64 0] 3)).alloc (.cells (ndCells [(0, 1, 1), (1, 2, 0)]).toArray 130)) = (((W1.alloc (.cells #[.int .i64 1, .int .i64 2] 3)).alloc (.cells #[.int .i64 0] 3)).alloc (.cells #[.int .i64 0, .int .i64 1, .int .i64 1, .int .i64 1, .int .i64 2, .int .i64 0] 130)) := rfl
  rw [e1] at hB sB
  obtain ⟨V, hV⟩ : ∃ V, V = (((W1.alloc (.cells #[.int .i64 1, .int .i64 2] 3)).alloc (.cells #[.int .i64 0] 3)).alloc (.cells #[.int .i64 0, .int .i64 1, .int .i64 1, .int .i64 1, .int .i64 2, .int .i64 0] 130)) := ⟨_, rfl⟩
  have hz2 : V.heap.size = w.heap.size + 4 + 1 + 1 + 1 := by rw [hV]; simp [hz1]
  rw [← hV] at hB sB ⊢
  clear hV e1
  rw [hz1] at hB
  have kc := heap_new V (.cells #[.slice (some ⟨w.heap.size + 4, 0, none⟩) 2 2, .int .i64 2, .slice (some ⟨w.heap.size + 4 + 1, 0, none⟩) 1 1, .slice (some ⟨w.heap.size + 4 + 1 + 1, 0, none⟩) 2 2] 44)
  have s2 : Same V (V.alloc (.cells #[.slice (some ⟨w.heap.size + 4, 0, none⟩) 2 2, .int .i64 2, .slice (some ⟨w.heap.size + 4 + 1, 0, none⟩) 1 1, .slice (some ⟨w.heap.size + 4 + 1 + 1, 0, none⟩) 2 2] 44)) := fs2
  have hB1 := hB.same s2
  have sB1 := sB.same s2
  have hA2 := hA1.out.same sB1
  have sA2 := sA1.out.same sB1
  have kb2 := (sB1.block _ (by rw [hz1, hz]; omega) id).trans kb.out
  rw [hz2] at kc
  rw [hz] at kb2
  generalize V.alloc (.cells #[.slice (some ⟨w.heap.size + 4, 0, none⟩) 2 2, .int .i64 2, .slice (some ⟨w.heap.size + 4 + 1, 0, none⟩) 1 1, .slice (some ⟨w.heap.size + 4 + 1 + 1, 0, none⟩) 2 2] 44) = W2 at *
  clear s2 sB1 hB sB hA1 sA1 kb hz hz1 hz2
  have sx := sA2.size
  replace kb2 := Lib.hid kb2; replace kc := Lib.hid kc; replace hA2 := Lib.hid hA2; replace sA2 := Lib.hid sA2; replace hB1 := Lib.hid hB1; replace sx := Lib.hid sx
  have x0 := cell_at kb2.out 0
  have x1 := cell_at kb2.out 1
  have x2 := cell_at kb2.out 2
  have x3 := cell_at kb2.out 3
  have xl := lt_of_heap kb2.out
  have y0 := cell_at kc.out 0
  have y1 := cell_at kc.out 1
  have y2 := cell_at kc.out 2
  have y3 := cell_at kc.out 3
  have yl := lt_of_heap kc.out
  go_wp2_with fail
  go_ret
  clear x0 x1 x2 x3 xl
  clear y0 y1 y2 y3 yl
  have k9 := heap_new W2 (.cells (auCells [exAu [0, 1] [(0, 0, 1), (1, 1, 0)] w.heap.size, exAu [1, 2] [(0, 1, 1), (1, 2, 0)] (w.heap.size + 4)]).toArray 44)
  have s9 : Same W2 (W2.alloc (.cells (auCells [exAu [0, 1] [(0, 0, 1), (1, 1, 0)] w.heap.size, exAu [1, 2] [(0, 1, 1), (1, 2, 0)] (w.heap.size + 4)]).toArray 44)) := fs2
  have hr := row_new (w := w) (n := 2) k9 (by rw [auCells_len]; rfl) (by unfold maxLen; omega)
  refine ⟨w.heap.size, w.heap.size + 4, _, rfl, ⟨Nat.le_refl _, by unfold maxLen; omega, by simp, fun _ => ?_, ?_⟩, sA2.out.same s9⟩
  · exact hr.cell (by omega)
  · intro A hA
    rcases List.mem_cons.1 hA with rfl | hA
    · exact hA2.out.same s9
    · rcases List.mem_cons.1 hA with rfl | hA
      · exact hB1.out.same s9
      · simp at hA

/-- The network of the example, with an order. -/
def exN (o : List Int) (g g2 b : Nat) (aO : Option Addr) (cO : Nat) : Nw := ⟨[exAu [0, 1] [(0, 0, 1), (1, 1, 0)] g, exAu [1, 2] [(0, 1, 1), (1, 2, 0)] g2], o, some ⟨b, 0, none⟩, 2, aO, cO⟩
theorem ex_err (g g2 b : Nat) (aO : Option Addr) (cO : Nat) : (exN [0, 1] g g2 b aO cO).err = 0 ∧ (exN [1, 0] g g2 b aO cO).err = 0 := ⟨by kernel_rfl, by kernel_rfl⟩
theorem ex_all (g g2 b : Nat) (aO : Option Addr) (cO : Nat) : (exN [0, 1] g g2 b aO cO).all = 2 ∧ (exN [1, 0] g g2 b aO cO).all = 2 := ⟨by kernel_rfl, by kernel_rfl⟩
theorem ex_code (g g2 b : Nat) (aO : Option Addr) (cO : Nat) : codeL (exN [0, 1] g g2 b aO cO).bs (exN [0, 1] g g2 b aO cO).on [1, 0] = [true, false] ∧ codeL (exN [1, 0] g g2 b aO cO).bs (exN [1, 0] g g2 b aO cO).on [1, 0] = [false, true] := ⟨by kernel_rfl, by kernel_rfl⟩
theorem ex_S (g g2 b : Nat) (aO : Option Addr) (cO : Nat) : (exN [0, 1] g g2 b aO cO).set ((exN [0, 1] g g2 b aO cO).chosen fun _ => [0]) = [true, false, false, false] := by kernel_rfl
theorem ex_ev (g g2 b : Nat) (aO : Option Addr) (cO : Nat) : evsF (exN [0, 1] g g2 b aO cO).As = [0, 1, 2] := by kernel_rfl
theorem ex_R (g g2 b : Nat) (aO : Option Addr) (cO : Nat) : (exN [0, 1] g g2 b aO cO).rel (stepsB (exN [0, 1] g g2 b aO cO).As [0, 1, 2]) = (exN [0, 1] 0 0 0 none 0).rel (stepsB (exN [0, 1] 0 0 0 none 0).As [0, 1, 2]) := by kernel_rfl
theorem ex_cl :
    let R := (exN [0, 1] 0 0 0 none 0).rel (stepsB (exN [0, 1] 0 0 0 none 0).As [0, 1, 2])
    let S := [true, false, false, false]
    clI 2 0 R S 0 = [true, false, false, false] ∧ clI 2 0 R S 1 = [true, false, true, false] ∧ clI 2 0 R S 2 = [true, true, true, false] ∧ clI 2 0 R S 3 = [true, true, true, true] ∧ clI 2 0 R S 4 = [true, true, true, true] := by
  decide +kernel
theorem ex_mErr (g g2 b : Nat) (aO : Option Addr) (cO : Nat) : (exN [0, 1] g g2 b aO cO).mErr 2 [true, true, true, true] = 0 := by kernel_rfl
end Go.Proofs.YtknlkcfnfjchdaaGreat
