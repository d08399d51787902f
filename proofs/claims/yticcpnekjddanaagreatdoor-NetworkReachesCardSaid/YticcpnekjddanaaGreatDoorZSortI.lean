/-  -/
import Derived.Test.YticcpnekjddanaaGreatDoorZShelf
import Derived.Test.YticcpnekjddanaaGreatDoorZTable
import Derived.Sort.OwnSortedInts
import Derived.Lib.SlicesCompact
set_option linter.unusedVariables false
set_option linter.unusedSimpArgs false
namespace Go.Proofs.YticcpnekjddanaaGreatDoor
open Go.RowKit Go.Sort
def qeg (zs : List Int) : List Int := zs.mergeSort fun x y => decide (x ≤ y)
theorem qe4 (zs : List Int) : (qeg zs).length = zs.length := by simp [qeg]
theorem qo0 (base : Nat) (zs : List Int) (a : Option Addr) (cap : Nat) (w : World) (h : w.ownsRow base 3 1 (.slice a zs.length cap) zs.length (gw zs)) (hl : zs.length ≤ 1000000000) :
 Calls Tryz.prog 144 #[.slice a zs.length cap] w fun e w' => e = .returned (.tuple #[]) ∧
  w'.ownsRow base 3 1 (.slice a zs.length cap) zs.length (gw (qeg zs)) ∧ qaK (fun _ => False) w w' (.slice a zs.length cap) (.slice a zs.length cap) := by
 rcases h.2 with ⟨hnil, hz⟩ | ⟨g, c, cur, he, hbase, hb, h1, h2, h3, h4⟩
 · simp only [Value.slice.injEq] at hnil
   obtain ⟨rfl, _, rfl⟩ := hnil
   have hz0 : zs = [] := List.length_eq_zero_iff.1 hz
   subst hz0
   refine (Tryz.slices_Sort_int_none none 0 w).mono ?_
   rintro e w' ⟨rfl, rfl⟩
   have e0 : qeg [] = [] := by simp [qeg]
   rw [e0]
   exact ⟨rfl, h, qaK.refl _ _ _⟩
 · cases he
   refine (Tryz.slices_Sort_int g 0 cap zs w (holds_of_blockI hb (by simpa [gw] using h4)) (gu hb) (by omega)).mono ?_
   rintro e w' ⟨rfl, n, os, rfl⟩
   refine ⟨rfl, ownsRow_sortedI (ss := zs) (by simp) hbase hb h1 h2 h3, (Fr.refl _ _).grown (grownBy_sortedI _) (fun k hk _ => .inl (by rw [← hk]; rfl)), fun k hk => .inl hk⟩
theorem qfQ (zs : List Int) : (Go.Lib.compact zs).length ≤ zs.length := by
 unfold Go.Lib.compact Go.Lib.compactUpTo
 rw [List.length_map]
 have := List.length_filter_le (Go.Lib.keeps zs.toArray) (List.range zs.length)
 simpa using this
theorem qjv (base : Nat) (zs : List Int) (a : Option Addr) (cap : Nat) (w : World) (h : w.ownsRow base 3 1 (.slice a zs.length cap) zs.length (gw zs)) (hl : zs.length ≤ 1000000000) :
 Calls Tryz.prog 146 #[.slice a zs.length cap] w fun e w' => e = .returned (.slice a (Go.Lib.compact zs).length cap) ∧
  w'.ownsRow base 3 1 (.slice a (Go.Lib.compact zs).length cap) (Go.Lib.compact zs).length (gw (Go.Lib.compact zs)) ∧ qaK (fun _ => False) w w' (.slice a zs.length cap) (.slice a zs.length cap) := by
 rcases h.2 with ⟨hnil, hz⟩ | ⟨g, c, cur, he, hbase, hb, h1, h2, h3, h4⟩
 · simp only [Value.slice.injEq] at hnil
   obtain ⟨rfl, _, rfl⟩ := hnil
   have hz0 : zs = [] := List.length_eq_zero_iff.1 hz
   subst hz0
   refine (Tryz.slices_Compact_int_empty none 0 w).mono ?_
   rintro e w' ⟨rfl, rfl⟩
   exact ⟨rfl, h, qaK.refl _ _ _⟩
 · cases he
   have hcl := qfQ zs
   refine (Tryz.slices_Compact_int g 0 cap zs w (holds_of_blockI hb (by simpa [gw] using h4)) (by omega) h1).mono ?_
   rintro e w' ⟨rfl, q, rfl⟩
   obtain ⟨cz, hcz⟩ : ∃ cz, cz = Go.Lib.compact zs := ⟨_, rfl⟩
   rw [← hcz] at hcl ⊢
   have hlen : (cz ++ List.replicate (zs.length - cz.length) 0).length = zs.length := by simp; omega
   have hh := heap_sortedI (n := q) (os := #[]) (cz ++ List.replicate (zs.length - cz.length) 0).toArray hb
   have hg := grownBy_sortedI (w := w) (g := g) (n := q) (os := #[]) (cz ++ List.replicate (zs.length - cz.length) 0).toArray
   have ht := take_putCellsI cur (cz ++ List.replicate (zs.length - cz.length) 0) (by rw [hlen]; omega)
   rw [hlen] at ht
   simp only [grow_empty] at hh hg
   refine ⟨rfl, ⟨by simp [gw], .inr ⟨g, cap, _, rfl, hbase, hh, by omega, h2, by simpa [putCells] using h3, ?_⟩⟩, (Fr.refl _ _).grown hg (fun k hk _ => .inl (by rw [← hk]; rfl)), fun k hk => .inl hk⟩
   have h5 := congrArg (List.take cz.length) ht
   rw [List.take_take, Nat.min_eq_left hcl] at h5
   rw [Nat.mul_one, h5, List.map_append, List.take_append_of_le_length (by simp), List.take_of_length_le (by simp)]
   rfl
open Go.Lib in
theorem qlp {d : Array Int} (hs : ∀ i j, i ≤ j → j < d.size → d[i]! ≤ d[j]!) : ∀ m, m ≤ d.size →
 (compactUpTo d m).Pairwise (· < ·) ∧ (∀ x, x ∈ compactUpTo d m ↔ ∃ j, j < m ∧ d[j]! = x) := by
 intro m
 induction m with
 | zero => intro _; exact ⟨List.Pairwise.nil, fun x => ⟨fun h => by simp [compactUpTo] at h, fun ⟨j, hj, _⟩ => by omega⟩⟩
 | succ m ih =>
  intro hm
  obtain ⟨a1, a2⟩ := ih (by omega)
  rw [compactUpTo_succ]
  by_cases hk : keeps d m = true
  · rw [hk, if_pos rfl]
    refine ⟨List.pairwise_append.2 ⟨a1, List.pairwise_singleton _ _, fun x hx y hy => ?_⟩, fun x => ?_⟩
    · rw [List.mem_singleton.1 hy]
      obtain ⟨j, hj, rfl⟩ := (a2 x).1 hx
      have h1 := hs j (m - 1) (by omega) (by omega)
      have h2 := hs (m - 1) m (by omega) (by omega)
      have h3 : d[m]! ≠ d[m - 1]! := by
       unfold keeps at hk
       rcases of_decide_eq_true hk with h | h
       · omega
       · exact h
      omega
    · rw [List.mem_append, a2 x, List.mem_singleton]
      constructor
      · rintro (⟨j, hj, h⟩ | h)
        · exact ⟨j, by omega, h⟩
        · exact ⟨m, by omega, h.symm⟩
      · rintro ⟨j, hj, h⟩
        by_cases e : j = m
        · subst e; exact .inr h.symm
        · exact .inl ⟨j, by omega, h⟩
  · have hk' : keeps d m = false := by simpa using hk
    rw [hk']
    simp only [Bool.false_eq_true, if_false, List.append_nil]
    refine ⟨a1, fun x => ?_⟩
    rw [a2 x]
    unfold keeps at hk'
    have hk2 := of_decide_eq_false hk'
    have hm0 : m ≠ 0 := fun e => hk2 (.inl e)
    have he : d[m]! = d[m - 1]! := by
     apply Classical.byContradiction
     intro hc
     exact hk2 (.inr hc)
    constructor
    · rintro ⟨j, hj, h⟩; exact ⟨j, by omega, h⟩
    · rintro ⟨j, hj, h⟩
      by_cases e : j = m
      · subst e; exact ⟨j - 1, by omega, by rw [← he]; exact h⟩
      · exact ⟨j, by omega, h⟩
def qmY (zs : List Int) : List Int := Go.Lib.compact (qeg zs)
theorem qjw (zs : List Int) : (qmY zs).Pairwise (· < ·) ∧ ∀ x, x ∈ qmY zs ↔ x ∈ zs := by
 have hsort : (qeg zs).Pairwise (fun a b : Int => a ≤ b) := by
  unfold qeg
  have := List.pairwise_mergeSort (le := fun x y : Int => decide (x ≤ y)) (by intro a b c h1 h2; simp at *; omega) (by intro a b; simp; omega) zs
  simpa using this
 have hmem : ∀ x, x ∈ qeg zs ↔ x ∈ zs := fun x => List.mem_mergeSort
 unfold qmY
 generalize qeg zs = ys at *
 have hc := qlp (d := ys.toArray) (fun i j hij hj => by
  have hj' : j < ys.length := by simpa using hj
  have hi' : i < ys.length := by omega
  have e1 : ys.toArray[i]! = ys[i] := by simp [hi']
  have e2 : ys.toArray[j]! = ys[j] := by simp [hj']
  rw [e1, e2]
  rcases Nat.lt_or_eq_of_le hij with h | h
  · exact List.pairwise_iff_getElem.1 hsort i j hi' hj' h
  · subst h; exact Int.le_refl _) ys.length (by simp)
 refine ⟨hc.1, fun x => ?_⟩
 rw [← hmem]
 unfold Go.Lib.compact
 rw [hc.2 x]
 constructor
 · rintro ⟨j, hj, rfl⟩
   have e1 : ys.toArray[j]! = ys[j] := by simp [hj]
   rw [e1]
   exact List.getElem_mem hj
 · intro hx
   obtain ⟨j, hj, e⟩ := List.mem_iff_getElem.1 hx
   exact ⟨j, hj, by simp [hj, e]⟩
theorem qmZ (zs : List Int) : (qmY zs).length ≤ zs.length := by
 have := qfQ (qeg zs)
 rw [qe4] at this
 exact this
end Go.Proofs.YticcpnekjddanaaGreatDoor
