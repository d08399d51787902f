/- Contracts at made diagrams, for the laws over a described function. -/
import Derived.Test.YtmmjijmmocabhaaJKnwW
import Derived.Test.YtmmjijmmocabhaaJLawK
import Derived.Test.YtmmjijmmocabhaaJLawT
namespace Go.Proofs.Ytmmjijmmocabhaa
open Go.RowKit
set_option linter.unusedVariables false

theorem dg_uniq {d d' : Dg} {n : Nat} {t : List Bool} (h : d.tab n t) (h' : d'.tab n t) : d.n = d'.n ∧ d.r = d'.r ∧ d.L = d'.L := by
  have e := h.2.eq
  rw [h'.2.eq] at e
  simp only [Prod.mk.injEq] at e
  exact ⟨by rw [h.1, h'.1], e.2.symm, e.1.symm⟩
theorem equal_dg {d d' : Dg} {n : Nat} {t : List Bool} {w : World} (hd : d.at w) (hd' : d'.at w) (h : d.tab n t) (h' : d'.tab n t) :
    Calls Try.prog 28 #[.agg #[.int .i64 d.n, .slice d.a d.L.length d.cap, .int .i64 d.r], .agg #[.int .i64 d'.n, .slice d'.a d'.L.length d'.cap, .int .i64 d'.r]] w fun e w' => e = .returned (.bool true) ∧ Same w w' := by
  have := equal_any d.n d'.n d.r d'.r d.a d'.a d.cap d'.cap d.L d'.L w hd hd' (by have := h.2.short; omega) (by have := h'.2.short; omega)
  rw [show decide (d.n = d'.n ∧ d.r = d'.r ∧ d.L = d'.L) = true by have := dg_uniq h h'; simp [this.1, this.2.1, this.2.2]] at this
  exact this
theorem from_dg (n : Nat) (t : List Bool) (aT : Option Addr) (cT m : Nat) (w : World) (hn : n ≤ 5) (hm : m = 2 ^ n) (ht : t.length = m) (hT : RowAt w (.slice aT m cT) m (boolCells t)) :
    Calls Try.prog 26 #[.int .i64 n, .slice aT m cT] w (DgR n t w) := by
  subst ht
  exact (fromTable_row n t aT cT w (by omega) hm hT).mono fun e w' h => DRet.dg h (IsTab.of (by omega) hm)
/-- The table of an order, and how many nodes its diagram has. -/
theorem perm_nodes (n : Nat) (t : List Bool) (o : List Int) (b m : Nat) (w : World) (hn : n ≤ 5) (hm : m = 2 ^ n) (hB : BoolsAt w b (permT o n t)) :
    Calls Try.prog 29 #[.slice (some ⟨b, 0, none⟩) m m] w fun e w' => e = .returned (.int .i64 (szF n t o)) ∧ Same w w' := by
  have hl : (permT o n t).length = m := by rw [permT_length, hm]
  have hR : RowAt w (.slice (some ⟨b, 0, none⟩) m m) m (boolCells (permT o n t)) := by
    have := (BoolsAt.slice hB (by rw [hl, hm]; have : 2 ^ n ≤ 2 ^ 5 := Nat.pow_le_pow_right (by omega) hn; omega)).row
    rw [hl] at this
    exact this
  have := nodes_any n (permT o n t) (some ⟨b, 0, none⟩) m m w hn hm hl hR
  rw [cnt_sz o (by omega)] at this
  exact this
theorem perm_row {n : Nat} {t : List Bool} {o : List Int} {b m : Nat} {w : World} (hn : n ≤ 5) (hm : m = 2 ^ n) (hB : BoolsAt w b (permT o n t)) : RowAt w (.slice (some ⟨b, 0, none⟩) m m) m (boolCells (permT o n t)) := by
  have hl : (permT o n t).length = m := by rw [permT_length, hm]
  have := (BoolsAt.slice hB (by rw [hl, hm]; have : 2 ^ n ≤ 2 ^ 5 := Nat.pow_le_pow_right (by omega) hn; omega)).row
  rw [hl] at this
  exact this
/-- The cells of a described function. -/
def Fn5.cells (f : Fn5) : Array Value := #[.int .u8 f.v, .int .u32 f.b] ++ (f.o.map (Value.int .u8)).toArray
end Go.Proofs.Ytmmjijmmocabhaa
