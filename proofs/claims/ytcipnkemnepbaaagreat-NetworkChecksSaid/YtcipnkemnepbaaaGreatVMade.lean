/- Blocks of bools that a call makes. -/
import Derived.Test.YtcipnkemnepbaaaGreatVTable
import Derived.Test.YtcipnkemnepbaaaGreatRows
import Derived.WalkKit
import Derived.WalkSpells
import Derived.WalkLawsBesides
import Derived.Deep.QuietTactic
import Derived.BigQuiet
import Derived.Test.YtcipnkemnepbaaaGreatVFacts
import Derived.Lib.Hide
import Derived.OwnWalk
import Derived.Laws.OwnMore
import Derived.Test.YtcipnkemnepbaaaGreatVCheck
namespace Go.Proofs.YtcipnkemnepbaaaGreat
open Go.RowKit
set_option linter.unusedVariables false
set_option linter.unusedSimpArgs false

theorem Fr.undrew {S : Nat → Prop} {a w : World} (h : Fr S a w) : Fr S a.drew w := ⟨h.os, h.tape, h.output, h.size, h.block⟩
theorem Fr.undrewN {S : Nat → Prop} {a w : World} {n : Nat} (h : Fr S a w) : Fr S (a.drewN n) w := ⟨h.os, h.tape, h.output, h.size, h.block⟩

theorem info4 : (Tryz.prog.info? 4).map (fun i => (i.zero, i.size, i.bytes)) = some (some (.bool false), 1, 1) := by kernel_rfl

def BoolsAt (w : World) (b : Nat) (cs : List Bool) : Prop := w.heap[b]? = some (.cells (boolCells cs).toArray 4 (0, 0))

theorem boolCells_len (l : List Bool) : (boolCells l).length = l.length := by simp [boolCells]

theorem BoolsAt.cell {w : World} {b : Nat} {cs : List Bool} (h : BoolsAt w b cs) {k : Nat} (hk : k < cs.length) : w.cell? ⟨b, k, none⟩ = some (.bool cs[k]) := by
  have := cell_at h k
  simpa [boolCells, hk] using this
theorem BoolsAt.free {w : World} {b : Nat} {cs : List Bool} (h : BoolsAt w b cs) (k : Nat) : w.frozen? ⟨b, k, none⟩ = false := free_at h k
theorem BoolsAt.lt {w : World} {b : Nat} {cs : List Bool} (h : BoolsAt w b cs) : b < w.heap.size := lt_of_heap h
theorem BoolsAt.set {w : World} {b : Nat} {cs : List Bool} (h : BoolsAt w b cs) (k : Nat) (x : Bool) : BoolsAt (w.setCell ⟨b, k, none⟩ (.bool x)) b (cs.set k x) := by
  have := heap_setCell_same h k (.bool x)
  unfold BoolsAt
  rw [this]
  congr 2
  simp [boolCells, List.map_set]
theorem BoolsAt.slice {w : World} {b : Nat} {cs : List Bool} (h : BoolsAt w b cs) (hm : cs.length ≤ 1000000000) : SliceAt w 4 1 (.slice (some ⟨b, 0, none⟩) cs.length cs.length) cs.length (boolCells cs) :=
  SliceAt.of_owns (own_of_block (base := 0) h (Nat.zero_le _) (by simp [boolCells]) rfl (by unfold maxLen; omega))
theorem BoolsAt.fr {S : Nat → Prop} {w w' : World} {b : Nat} {cs : List Bool} (h : BoolsAt w b cs) (hf : Fr S w w') (hS : ¬ S b) : BoolsAt w' b cs := hf.at h hS

theorem wpList_mkb {P : Program} (w : World) {ops : Array Oper} {rest : List Oper} {o : Oper} {a : Act} {Q : Exit → Act → World → Prop}
    (hg : o.guard = none) (l c : Operand) (t : TypeId) (hop : o.op = Op.makeSlice t l c)
    (e : TypeId) (i : TypeInfo) (h1 : P.underlying t = some (.slice e)) (h2 : P.info? e = some i) (h3 : i.zero = some (.bool false)) (h4 : i.size = 1) (h5 : i.bytes = 1)
    (n : Nat) (hl : a.eval l = .int .i64 n) (hc : a.eval c = .int .i64 n) (b3 : n ≤ 1000000000)
    (hK : wpList P ops Q rest (a.put o.dst (.slice (some ⟨w.heap.size, 0, none⟩) n n)) (w.alloc (.cells (boolCells (List.replicate n false)).toArray e))) :
    wpList P ops Q (o :: rest) a w := by
  refine wpList_plain hg fun K hK' => ?_
  have hrun := run_make (P := P) w t e i (.bool false) h1 h2 h3 .i64 .i64 n n (by omega) (by omega) (by rw [h5]; omega) (by omega)
  have hm : madeCells (Value.bool false).cells ((n : Int).toNat * i.size) = (boolCells (List.replicate n false)).toArray := by
    rw [h4, ← Array.toList_inj]
    have := toList_madeCells_one (Value.bool false) n
    simp only [Int.toNat_natCast, Nat.mul_one]
    rw [show (Value.bool false).cells = #[Value.bool false] from rfl, this]
    simp [boolCells]
  rw [hm] at hrun
  unfold Oper.wp
  simp [execOp, hop, hl, hc, hrun, Result.andThen]
  exact hK' _ _ (by simpa using hK)

theorem fs3 {S : Nat → Prop} {a w : World} (h : Fr S a w := by repeat (first | exact Fr.refl _ _ | apply Fr.undrew | apply Fr.undrewN | apply Fr.drew | apply Fr.drewN | apply Fr.alloc)) : Fr S a w := h
theorem fs2 {S : Nat → Prop} {a w : World} (h : Fr S a w := by repeat (first | exact Fr.refl _ _ | apply Fr.alloc | apply Fr.drewN | apply Fr.drew | apply Fr.undrew | apply Fr.undrewN)) : Fr S a w := h
end Go.Proofs.YtcipnkemnepbaaaGreat
