/- check: the first error among some diagrams. -/
import Derived.Test.YtaebjalpebgliaaCheck
namespace Go.Proofs.Ytaebjalpebgliaa
open Go.RowKit
set_option linter.unusedVariables false
set_option linter.unusedSimpArgs false

/-- A diagram as a value of the program. -/
structure Dg where
  n : Int
  a : Option Addr
  cap : Nat
  L : List Nd
  r : Int

def Dg.v (d : Dg) : Value := .agg #[.int .i64 d.n, .slice d.a d.L.length d.cap, .int .i64 d.r]
def Dg.at (w : World) (d : Dg) : Prop := SliceAt w 80 3 (.slice d.a d.L.length d.cap) d.L.length (ndCells d.L)
def dgCells : List Dg → List Value
  | [] => []
  | d :: l => .int .i64 d.n :: .slice d.a d.L.length d.cap :: .int .i64 d.r :: dgCells l

theorem dgCells_length (l : List Dg) : (dgCells l).length = l.length * 3 := by
  induction l with
  | nil => rfl
  | cons x l ih => simp [dgCells, ih]; omega

theorem dgCells_get (l : List Dg) (i : Nat) (h : i < l.length) :
    (dgCells l)[i * 3]? = some (.int .i64 l[i].n) ∧ (dgCells l)[i * 3 + 1]? = some (.slice l[i].a l[i].L.length l[i].cap) ∧ (dgCells l)[i * 3 + 2]? = some (.int .i64 l[i].r) := by
  induction l generalizing i with
  | nil => simp at h
  | cons x l ih =>
    cases i with
    | zero => simp [dgCells]
    | succ i =>
      have := ih i (by simpa using h)
      have e : (i + 1) * 3 = i * 3 + 1 + 1 + 1 := by omega
      rw [e]
      simpa [dgCells] using this

/-- Diagrams in a slice. -/
def DgsAt (w : World) (a : Option Addr) (cap : Nat) (l : List Dg) : Prop := SliceAt w 31 3 (.slice a l.length cap) l.length (dgCells l)

theorem DgsAt.cells {w : World} {a : Option Addr} {cap : Nat} {l : List Dg} (h : DgsAt w a cap l) {k : Nat} (hk : k < l.length) :
    ∃ b off, a = some ⟨b, off, none⟩ ∧ b < w.heap.size ∧ w.cell? ⟨b, off + k * 3, none⟩ = some (.int .i64 l[k].n) ∧ w.cell? ⟨b, off + k * 3 + 1, none⟩ = some (.slice l[k].a l[k].L.length l[k].cap) ∧ w.cell? ⟨b, off + k * 3 + 2, none⟩ = some (.int .i64 l[k].r) := by
  obtain ⟨b, off, ha, hbl, hc⟩ := SliceAt.cell h (by omega)
  have c3 := dgCells_get l k hk
  exact ⟨b, off, ha, hbl, hc _ _ c3.1, hc _ _ c3.2.1, hc _ _ c3.2.2⟩

/-- The first error of some diagrams; c: what Check answers for each. -/
def firstC (c : Dg → Int) : List Dg → Int
  | [] => 0
  | d :: l => if c d ≠ 0 then c d else firstC c l

theorem firstC_drop (c : Dg → Int) (l : List Dg) (k : Nat) (hk : k < l.length) : firstC c (l.drop k) = if c l[k] ≠ 0 then c l[k] else firstC c (l.drop (k + 1)) := by
  rw [List.drop_eq_getElem_cons hk, firstC]

def checksF (c : Dg → Int) (l : List Dg) : Int := if firstC c l ≠ 0 then firstC c l else if ∃ d ∈ l, d.n ≠ (l.head?.map Dg.n).getD 0 then 4 else 0

set_option maxRecDepth 100000 in
set_option maxHeartbeats 1000000 in
theorem checks_any (a : Option Addr) (cap : Nat) (l : List Dg) (c : Dg → Int) (w : World) (h : DgsAt w a cap l) (hl : l.length ≤ 1000)
    (hc : ∀ d ∈ l, ∀ W, Same w W → Calls Try.prog 23 #[d.v] W fun e w' => e = .returned (.int .i64 (c d)) ∧ Same W w') :
    Calls Try.prog 76 #[.slice a l.length cap] w fun e w' => e = .returned (.int .i64 (checksF c l)) ∧ Same w w' := by
  replace h := Lib.hid h
  replace hc := Lib.hid hc
  obtain ⟨R, hR⟩ : ∃ R, R = checksF c l := ⟨_, rfl⟩
  rw [← hR]
  replace hR := Lib.hid hR
  go_enter Try.func76, Try.ntmps76
  go_wp2_with fail
  go_loopw [10] (fun i wr => ∃ k : Nat, k ≤ l.length ∧ i = .int .i64 k ∧ firstC c l = firstC c (l.drop k) ∧ Same w wr) (fun i _ => l.length - (intOf i).toNat)
  case atStart => exact ⟨0, by omega, rfl, rfl, Fr.refl _ _⟩
  case round =>
    obtain ⟨k, hk, rfl, hf, hs⟩ := hrel
    replace hf := Lib.hid hf
    by_cases hlt : k < l.length
    · obtain ⟨b, off, ha, hb, x0, x1, x2⟩ := DgsAt.cells (SliceAt.same h.out hs) hlt
      replace hs := Lib.hid hs
      subst ha
      go_wp2_with fail
      refine (hc.out l[k] (List.getElem_mem hlt) _ (hs.out.alloc _)).mono ?_
      rintro e w1 ⟨rfl, hs1⟩
      replace hs1 := Lib.hid hs1
      obtain ⟨E, hE⟩ : ∃ E, E = c l[k] := ⟨_, rfl⟩
      rw [← hE]
      replace hE := Lib.hid hE
      by_cases h0 : E = 0
      · subst h0
        go_wp2_with fail
        go_roundw
        case rel => exact ⟨k + 1, by omega, by go_num, by rw [hf.out, firstC_drop c l k hlt, if_neg (by rw [← hE.out]; simp)], (hs.out.alloc _).same hs1.out⟩
        case measure => simp [intOf]; omega
      · have hb : (E != 0) = true := by simpa using h0
        replace h0 := Lib.hid h0
        go_wp2_with fail
        go_ret
        refine ⟨?_, (hs.out.alloc _).same hs1.out⟩
        have : firstC c l = E := by rw [hf.out, firstC_drop c l k hlt, if_pos (by rw [← hE.out]; exact h0.out), ← hE.out]
        rw [hR.out, checksF, this, if_pos h0.out]
        rfl
    · have hz : firstC c l = 0 := by rw [hf.out, List.drop_eq_nil_of_le (by omega)]; rfl
      replace hz := Lib.hid hz
      replace hs := Lib.hid hs
      go_wp2_with fail
      go_loopw [22] (fun i wr => ∃ k : Nat, k ≤ l.length ∧ i = .int .i64 k ∧ (∀ (j : Nat) (hj : j < l.length), j < k → l[j].n = (l.head?.map Dg.n).getD 0) ∧ Same w wr) (fun i _ => l.length - (intOf i).toNat)
      case atStart => exact ⟨0, by omega, rfl, fun _ _ h => by omega, hs.out⟩
      case round =>
        clear hs hk hlt
        obtain ⟨k, hk, rfl, hf, hs⟩ := hrel
        replace hf := Lib.hid hf
        by_cases hlt : k < l.length
        · obtain ⟨b, off, ha, hb, x0, x1, x2⟩ := DgsAt.cells (SliceAt.same h.out hs) hlt
          obtain ⟨b', off', ha', _, y0, y1, y2⟩ := DgsAt.cells (SliceAt.same h.out hs) (k := 0) (by omega)
          rw [ha] at ha'
          simp only [Option.some.injEq, Addr.mk.injEq, and_true] at ha'
          obtain ⟨rfl, rfl⟩ := ha'
          simp only [Nat.zero_mul, Nat.add_zero] at y0
          have h0l : (l.head?.map Dg.n).getD 0 = l[0].n := by
            cases l with
            | nil => exact absurd hlt (by simp)
            | cons d l => rfl
          replace h0l := Lib.hid h0l
          replace hs := Lib.hid hs
          have hb1 : b < wr.heap.size + 1 := by omega
          clear y1 y2
          subst ha
          by_cases he : l[k].n = l[0].n
          · have hb2 : (l[k].n != l[0].n) = false := by simpa using he
            replace he := Lib.hid he
            go_wp2_with fail
            go_quiet (fail)
            go_wp2_with fail
            go_roundw
            case rel =>
              refine ⟨k + 1, by omega, by go_num, fun j hj hjk => ?_, hs.out.same (show Same wr _ from (by repeat (first | exact Fr.refl _ _ | apply Fr.alloc | apply Fr.drewN | apply Fr.drew)))⟩
              by_cases hj' : j < k
              · exact hf.out j hj hj'
              · have : j = k := by omega
                subst this
                rw [he.out, h0l.out]
            case measure => simp [intOf]; omega
          · have hb2 : (l[k].n != l[0].n) = true := by simpa using he
            replace he := Lib.hid he
            go_wp2_with fail
            go_quiet (fail)
            go_wp2_with fail
            go_ret
            refine ⟨?_, hs.out.same (show Same wr _ from (by repeat (first | exact Fr.refl _ _ | apply Fr.alloc | apply Fr.drewN | apply Fr.drew)))⟩
            rw [hR.out, checksF, hz.out, if_neg (by simp), if_pos ⟨l[k], List.getElem_mem hlt, by rw [h0l.out]; exact he.out⟩]
            rfl
        · replace hs := Lib.hid hs
          go_wp2_with fail
          go_ret
          refine ⟨?_, hs.out⟩
          rw [hR.out, checksF, hz.out, if_neg (by simp), if_neg]
          · rfl
          · rintro ⟨d, hd, hne⟩
            obtain ⟨j, hj, rfl⟩ := List.mem_iff_getElem.1 hd
            exact hne (hf.out j hj (by omega))
end Go.Proofs.Ytaebjalpebgliaa
