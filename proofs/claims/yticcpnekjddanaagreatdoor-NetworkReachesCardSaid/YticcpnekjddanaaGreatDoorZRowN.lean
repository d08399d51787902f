/-  -/
import Derived.Test.YticcpnekjddanaaGreatDoorZRowL
import Derived.Deep.Slices
import Derived.Deep.Fields
set_option maxRecDepth 100000
set_option linter.unusedVariables false
namespace Go.Proofs.YticcpnekjddanaaGreatDoor
open Go.ChangeShapes Go.WideShapes Go.ChangeAt Go.RowKit Go.Joins Go.Deep
theorem qot {H : Type} {enc : TypeId × Value → H} {W : World} {base fuel n : Nat} {sp : Nat → Bool} {held : Bool} {T e : TypeId} {cs : List Value} {x : DataW H × List MemPlace} (hT : Tryz.prog.underlying T = some (.array n e)) (he : Tryz.prog.underlying e = some (.int .u8)) (hc : Tryz.prog.cellsOf T = n) (hce : Tryz.prog.cellsOf e = 1)
 (h : DataW.trod enc Tryz.prog W base sp held fuel T cs = some x) : ∃ l : List Nat, cs = qdS l ∧ l.length = n ∧ ∀ y ∈ l, y < 256 := by
 obtain ⟨xs, m, _, _, hl, hx, hi⟩ := DataW.trod_array hT h
 rw [hc] at hl
 obtain ⟨l, e, h1, h2⟩ := qcE (p := fun _ => True) (m := 1) (n := n) (cs := cs) (by omega) (fun i hin => by
  have e0 := hi i hin
  rw [hce] at e0
  rw [List.getElem?_eq_getElem (by omega)] at e0
  obtain ⟨a, ea, _, wa⟩ := DataW.trod_int he e0
  have b := qly wa
  refine ⟨[a.toNat], ?_, rfl, fun y hy => by simp only [List.mem_singleton] at hy; omega⟩
  rw [ea]
  simp only [qdS, List.map_cons, List.map_nil]
  rw [show ((a.toNat : Nat) : Int) = a by omega])
 exact ⟨l, e, by omega, h2⟩
theorem qou : Tryz.prog.cellsOf 27 = 27 := by kernel_rfl
theorem qkb {H : Type} {enc : TypeId × Value → H} {W : World} {base fuel : Nat} {sp : Nat → Bool} {held : Bool} {cs : List Value} {x : DataW H × List MemPlace} (h : DataW.trod enc Tryz.prog W base sp held fuel 27 cs = some x) :
 ∃ l : List Nat, cs = qdS l ∧ l.length = 27 ∧ ∀ y ∈ l, y < 256 := by
 obtain ⟨y0, y1, y2, n, _, hl, h0, h1, h2⟩ := trod_struct3 Tryz.underlying27 h
 rw [qou] at hl
 obtain ⟨a, ea, _, wa⟩ := DataW.trod_int Tryz.underlying5 h0
 obtain ⟨b, eb, _, wb⟩ := DataW.trod_int Tryz.underlying5 h1
 obtain ⟨l, el, l25, hl2⟩ := qos (n := 5) (m := 5) Tryz.underlying25 Tryz.underlying24 (by kernel_rfl) (by kernel_rfl) h2
 have c1 : Tryz.prog.cellsOf 5 = 1 := qhL
 have c25 : Tryz.prog.cellsOf 25 = 25 := by kernel_rfl
 have ba := qly wa
 have bb := qly wb
 simp only [c1, c25, List.drop_zero] at ea eb el
 refine ⟨a.toNat :: b.toNat :: l, ?_, by simp [l25], fun y hy => ?_⟩
 · match cs, hl with
   | c0 :: c1 :: rest, hl =>
    simp only [List.take_succ_cons, List.take_zero, List.drop_succ_cons, List.drop_zero, List.cons.injEq, and_true] at ea eb el
    have hr : rest.length = 25 := by simpa using hl
    simp only [qdS, List.map_cons]
    rw [show ((a.toNat : Nat) : Int) = a by omega, show ((b.toNat : Nat) : Int) = b by omega, ← ea, ← eb]
    have : rest = qdS l := by rw [← el, List.take_of_length_le (by omega)]
    rw [this]; rfl
 · rcases List.mem_cons.1 hy with rfl | hy
   · omega
   · rcases List.mem_cons.1 hy with rfl | hy
     · omega
     · exact hl2 y hy
theorem qhM {T : TypeId} {fs : Array Field} {W : World} {b0 : Nat} {v : Value} (hT : Tryz.prog.underlying T = some (.struct fs)) (hv : Value.okWide Tryz.prog W .any b0 T v) : ∃ cs, v = .agg cs ∧ cs.size = Tryz.prog.cellsOf T := by
 unfold Value.okWide at hv
 rw [hT] at hv
 obtain ⟨cs, h1, h2, _⟩ := hv
 exact ⟨cs, h1, h2⟩
theorem qiV {H : Type} {enc : TypeId × Value → H} {P : Program} {w : World} {base : Nat} {spare : Nat → Bool} {held : Bool} {t : TypeId} {f0 f1 f2 f3 : Field} {fuel : Nat} {cs : List Value} {x : DataW H × List MemPlace} (ht : P.underlying t = some (.struct #[f0, f1, f2, f3])) (h : DataW.trod enc P w base spare held fuel t cs = some x) :
 ∃ y0 y1 y2 y3 n, cs.length = P.cellsOf t ∧ DataW.trod enc P w base spare held n f0.type ((cs.drop f0.offset).take (P.cellsOf f0.type)) = some y0 ∧
  DataW.trod enc P w base spare held n f1.type ((cs.drop f1.offset).take (P.cellsOf f1.type)) = some y1 ∧ DataW.trod enc P w base spare held n f2.type ((cs.drop f2.offset).take (P.cellsOf f2.type)) = some y2 ∧
  DataW.trod enc P w base spare held n f3.type ((cs.drop f3.offset).take (P.cellsOf f3.type)) = some y3 := by
 obtain ⟨xs, n, _, rfl, hl, hlen, hf⟩ := DataW.trod_struct ht h
 match xs, hlen with
 | [y0, y1, y2, y3], _ => exact ⟨y0, y1, y2, y3, n, hl, by simpa using hf 0 f0 rfl, by simpa using hf 1 f1 rfl, by simpa using hf 2 f2 rfl, by simpa using hf 3 f3 rfl⟩
theorem qov : Tryz.prog.cellsOf 30 = 86 := by kernel_rfl
theorem qiW {H : Type} {enc : TypeId × Value → H} {W : World} {base fuel : Nat} {sp : Nat → Bool} {held : Bool} {cs : List Value} {x : DataW H × List MemPlace}
 (h : DataW.trod enc Tryz.prog W base sp held fuel 28 cs = some x) : ∃ l : List Nat, cs = qdS l ∧ l.length = 81 ∧ ∀ y ∈ l, y < 256 := by
 obtain ⟨xs, m, _, _, hl, hx, hi⟩ := DataW.trod_array Tryz.underlying28 h
 have hc : Tryz.prog.cellsOf 28 = 81 := by kernel_rfl
 rw [hc] at hl
 obtain ⟨l, e, h1, h2⟩ := qcE (p := fun _ => True) (m := 27) (n := 3) (cs := cs) (by omega) (fun i hin => by
  have e0 := hi i hin
  rw [qou] at e0
  rw [List.getElem?_eq_getElem (by omega)] at e0
  exact qkb e0)
 exact ⟨l, e, h1, h2⟩
theorem split4 {cs : List Value} (h : cs.length = 86) : cs = cs.take 3 ++ ((cs.drop 3).take 81 ++ ((cs.drop 84).take 1 ++ (cs.drop 85).take 1)) := by
 have e1 := List.take_append_drop 3 cs
 have e2 := List.take_append_drop 81 (cs.drop 3)
 have e3 := List.take_append_drop 1 (cs.drop 84)
 have e4 : (cs.drop 85).take 1 = cs.drop 85 := List.take_of_length_le (by simp [h])
 rw [List.drop_drop] at e2 e3
 rw [e4, e3, e2, e1]
theorem ql4 {H : Type} {enc : TypeId × Value → H} {W : World} {b0 : Nat} {v : Value} {d : DataW H} {p : List MemPlace}
 (hv : Value.okWide Tryz.prog W .any b0 30 v) (h : DataW.Trod enc Tryz.prog W 0 (fun _ => true) true 30 v d p) :
 ∃ l : List Nat, v = .agg (qdS l).toArray ∧ l.length = 86 ∧ ∀ x ∈ l, x < 256 := by
 obtain ⟨cs, rfl, hsz⟩ := qhM Tryz.underlying30 hv
 obtain ⟨fuel, hf⟩ := h
 obtain ⟨y0, y1, y2, y3, n, hl, h0, h1, h2, h3⟩ := qiV Tryz.underlying30 hf
 rw [qov] at hl
 obtain ⟨l0, e0, n0, b0⟩ := qot (n := 3) Tryz.underlying23 Tryz.underlying22 (by kernel_rfl) (by kernel_rfl) h0
 obtain ⟨l1, e1, n1, b1⟩ := qiW h1
 obtain ⟨a, ea, _, wa⟩ := DataW.trod_int Tryz.underlying5 h2
 obtain ⟨b, eb, _, wb⟩ := DataW.trod_int Tryz.underlying5 h3
 have ba := qly wa
 have bb := qly wb
 have c0 : Tryz.prog.cellsOf 23 = 3 := by kernel_rfl
 have c1 : Tryz.prog.cellsOf 28 = 81 := by kernel_rfl
 have c2 : Tryz.prog.cellsOf 5 = 1 := qhL
 simp only [c0, c1, c2, List.drop_zero] at e0 e1 ea eb
 have hcl : cs.toList.length = 86 := by simpa [Value.cells] using hl
 have hcs := split4 hcl
 refine ⟨l0 ++ (l1 ++ ([a.toNat] ++ [b.toNat])), ?_, by simp [n0, n1], fun y hy => ?_⟩
 · have e : cs.toList = qdS (l0 ++ (l1 ++ ([a.toNat] ++ [b.toNat]))) := by
     rw [hcs]
     simp only [Value.cells] at e0 e1 ea eb
     rw [e0, e1, ea, eb]
     simp only [qdS, List.map_append, List.map_cons, List.map_nil]
     rw [show ((a.toNat : Nat) : Int) = a by omega, show ((b.toNat : Nat) : Int) = b by omega]
   rw [← e]
 · rcases List.mem_append.1 hy with hy | hy
   · exact b0 y hy
   rcases List.mem_append.1 hy with hy | hy
   · exact b1 y hy
   rcases List.mem_append.1 hy with hy | hy
   · simp only [List.mem_singleton] at hy; omega
   · simp only [List.mem_singleton] at hy; omega
end Go.Proofs.YticcpnekjddanaaGreatDoor
