/-  -/
import Derived.Test.YtcipnkemnepbaaaGreatCRowS
import Derived.Test.YtcipnkemnepbaaaGreatCGrpW
import Derived.Deep.Matrix
set_option maxRecDepth 100000
set_option linter.unusedVariables false
namespace Go.Proofs.YtcipnkemnepbaaaGreat
open Go.ChangeShapes Go.WideShapes Go.ChangeAt Go.RowKit Go.Joins Go.Deep
theorem open_groupsR {H : Type} {enc : TypeId × Value → H} {W : World} {v : Value} {d : DataW H} {p : List MemPlace} (h : DataW.Trod enc Tryz.prog W 0 (fun _ => true) true 51 v d p) (hv : ∃ a len cap, v = .slice a len cap) :
 ∃ (a : Option Addr) (gs : List Grp) (cap : Nat), v = .slice a gs.length cap ∧ GsAt W (.slice a gs.length cap) gs.length gs := by
 obtain ⟨a, len, cap, rfl⟩ := hv
 obtain ⟨fuel, hf⟩ := h
 rcases open_int_rows Tryz.underlying51 Tryz.underlying31 Tryz.underlying3 (by kernel_rfl) cellsI hf with ⟨hc, _⟩ | ⟨a', len', cap', A, L, C, Z, hc, _, hl, hm, _, hr⟩
 · have hc' : Value.slice a len cap = .slice none 0 0 := by simpa [Value.cells] using hc
   cases hc'
   exact ⟨none, [], 0, rfl, RowAt.nil _, by simp⟩
 · have hc' : Value.slice a len cap = .slice (some a') len' cap' := by simpa [Value.cells] using hc
   cases hc'
   have hrow : ∀ r, r < len → (Grp.mk (A r) (C r) ((Z r).take (L r))).l.length = L r := fun r hr' => by
    obtain ⟨_, h1, _, h2, _⟩ := hr r (by omega)
    simp only [List.length_take]; omega
   refine ⟨some a', (List.range len).map fun r => ⟨A r, C r, (Z r).take (L r)⟩, cap, by simp, ?_⟩
   simp only [List.length_map, List.length_range]
   refine ⟨rowAt_of (by simp) hl hm (fun i u hu => ?_), fun g hg => ?_⟩
   · simp only [List.map_map, List.getElem?_map] at hu
     by_cases hi : i < len
     · rw [List.getElem?_range hi] at hu
       simp only [Option.map_some, Function.comp, Option.some.injEq] at hu
       rw [← hu, (hr i (by omega)).1]
       unfold Grp.v
       rw [hrow i hi]
     · rw [List.getElem?_eq_none (by simp; omega)] at hu
       simp at hu
   · obtain ⟨r, hr1, rfl⟩ := List.mem_map.1 hg
     have hr2 : r < len := by simpa using hr1
     obtain ⟨h0, h1, h2, h3, _, h5, h6⟩ := hr r (by omega)
     unfold Grp.v
     rw [hrow r hr2]
     cases hA : A r with
     | none =>
      have hC := h5 hA
      have hL : L r = 0 := by omega
      rw [hL, hC]
      have : (Z r).take 0 = [] := rfl
      simp only [this]
      exact RowAt.nil _
     | some b =>
      refine rowAt_of (by simp [gw]; omega) h1 h2 (fun i u hu => ?_)
      simp only [gw, List.getElem?_map, List.getElem?_take] at hu
      by_cases hi : i < L r
      · rw [if_pos hi, List.getElem?_eq_getElem (by omega)] at hu
        simp at hu
        rw [← hu]
        have := (h6 b hA).2 i (by omega)
        rw [this]
        simp [List.getD, show i < (Z r).length by omega]
      · rw [if_neg hi] at hu
        simp at hu
end Go.Proofs.YtcipnkemnepbaaaGreat
