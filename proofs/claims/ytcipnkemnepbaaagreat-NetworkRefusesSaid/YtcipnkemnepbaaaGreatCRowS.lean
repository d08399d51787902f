/-  -/
import Derived.Test.YtcipnkemnepbaaaGreatCRowK
import Derived.Test.YtcipnkemnepbaaaGreatCTable
import Derived.Carry
import Derived.ChangeSlices
import Derived.Deep.Grids
set_option maxRecDepth 100000
set_option linter.unusedVariables false
namespace Go.Proofs.YtcipnkemnepbaaaGreat
open Go.ChangeShapes Go.WideShapes Go.ChangeAt Go.RowKit Go.Joins Go.Deep
theorem cellsB : Tryz.prog.cellsOf 4 = 1 := by kernel_rfl
theorem cellsI : Tryz.prog.cellsOf 3 = 1 := by kernel_rfl
theorem laid : laidOutB Tryz.prog = true := by kernel_rfl
theorem spot_none {w : World} {a : Addr} {v : Value} (h : w.cell? a = some v) : a = ⟨a.block, a.off, none⟩ ∧ a.block < w.heap.size := by
 unfold World.cell? at h
 split at h
 · rename_i c T f hb
   have hlt : a.block < w.heap.size := gu hb
   split at h
   · cases h
   · rename_i hs
     refine ⟨?_, hlt⟩
     cases a with
     | mk b o s => cases s with
      | none => rfl
      | some x => simp at hs
 · cases h
theorem rowAt_of {w : World} {a : Addr} {cap n : Nat} {cells : List Value} (hl : cells.length = n) (hc : n ≤ cap) (hm : cap ≤ maxLen) (h : ∀ i u, cells[i]? = some u → w.cell? (a.add i) = some u) : RowAt w (.slice (some a) n cap) n cells := by
 refine ⟨hl, some a, cap, rfl, hc, hm, by simp, fun hn => ?_⟩
 have h0 := h 0 (cells[0]'(by omega)) (List.getElem?_eq_getElem _)
 obtain ⟨e, hlt⟩ := spot_none h0
 obtain ⟨b, o, sp⟩ := a
 have es : sp = none := congrArg Addr.spot e
 subst es
 exact ⟨b, o, rfl, hlt, fun j u hu => by
  have h1 := h j u hu
  unfold Addr.add at h1
  split at h1
  · rename_i hj; subst hj; exact h1
  · exact h1⟩
theorem open_boolsR {H : Type} {enc : TypeId × Value → H} {W : World} {v : Value} {d : DataW H} {p : List MemPlace} (h : DataW.Trod enc Tryz.prog W 0 (fun _ => true) true 52 v d p) (hv : ∃ a len cap, v = .slice a len cap) :
 ∃ (a : Option Addr) (t : List Bool) (cap : Nat), v = .slice a t.length cap ∧ RowAt W (.slice a t.length cap) t.length (gz t) := by
 obtain ⟨a, len, cap, rfl⟩ := hv
 obtain ⟨fuel, hf⟩ := h
 rcases open_bools Tryz.underlying52 Tryz.underlying4 cellsB hf with ⟨hc, _⟩ | ⟨a', len', cap', B, hc, _, hl, hm, _, hcell⟩
 · have hc' : Value.slice a len cap = .slice none 0 0 := by simpa [Value.cells] using hc
   cases hc'
   exact ⟨none, [], 0, rfl, RowAt.nil _⟩
 · have hc' : Value.slice a len cap = .slice (some a') len' cap' := by simpa [Value.cells] using hc
   cases hc'
   refine ⟨some a', (List.range len).map B, cap, by simp, ?_⟩
   simp only [List.length_map, List.length_range]
   refine rowAt_of (by simp [gz]) hl hm (fun i u hu => ?_)
   simp only [gz, List.map_map, List.getElem?_map] at hu
   by_cases hi : i < len
   · rw [List.getElem?_range hi] at hu
     simp at hu
     rw [← hu]
     exact hcell i (by omega)
   · rw [List.getElem?_eq_none (by simp; omega)] at hu
     simp at hu
theorem stays {H : Type} {enc : TypeId × Value → H} {t : TypeId} {W W' : World} {sp : Nat → Bool} {v : Value} {d : DataW H} {ps : List MemPlace} (hr : Tryz.prog.readableRec t = true) (hrow : t < Tryz.prog.types.size)
 (h : DataW.Trod enc Tryz.prog W 0 (fun _ => true) true t v d ps) (hs : Same W W') (hlt : ∀ x ∈ ps, x.block < W.heap.size) (hsp : ∀ p ∈ ps, sp p.block = true) : DataW.Trod enc Tryz.prog W' 0 sp true t v d ps :=
 WideElems.Trod_stays laid hr hrow h (fun x hx => (Fr.below hs).same (hlt x hx)) hsp
end Go.Proofs.YtcipnkemnepbaaaGreat
