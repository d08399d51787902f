/-  -/
import Derived.Test.YticcpnekjddanaaGreatDoorZLNetE
import Derived.Test.YticcpnekjddanaaGreatDoorZMkM
import Derived.Test.YticcpnekjddanaaGreatDoorZReaP
set_option linter.unusedVariables false
set_option linter.unusedSimpArgs false
namespace Go.Proofs.YticcpnekjddanaaGreatDoor
open Go.RowKit
theorem qgf : ∀ {l : List Au}, (∀ A ∈ l, qbC A = 0) → qbP l = 0
 | [], _ => rfl
 | A :: l, h => by
  rw [qbP, if_neg (by simpa using h A List.mem_cons_self)]
  exact qgf (fun B hB => h B (List.mem_cons_of_mem _ hB))
theorem evL_lt {s e : Int} (h : e ∈ evL s) : e < 5 := by
 unfold evL qaz at h
 obtain ⟨x, hx, rfl⟩ := List.mem_map.1 h
 have := (qho.1 hx).1
 omega
structure qlU (N : Nw) : Prop where
 m3 : N.As.length ≤ 3
 made : ∀ A ∈ N.As, ∃ (s : Int) (g : List Nat), qlS (evL s) g A
 or' : qcY N.As.length N.o = 0
theorem qlU.err0 {N : Nw} (h : qlU N) : qbx N.As = 0 := by
 unfold qbx
 rw [if_neg (by have := h.m3; omega)]
 refine qgf (fun A hA => ?_)
 obtain ⟨s, g, hM⟩ := h.made A hA
 exact hM.ok (evL_err s)
theorem qlU.ok' {N : Nw} (h : qlU N) : qbs N := qbs.of h.err0 h.or'
theorem qlU.grp {N : Nw} (h : qlU N) : ql6 N := by
 refine ⟨h.ok', h.m3, fun A hA => ?_, fun A hA e he => ?_⟩
 · obtain ⟨s, g, hM⟩ := h.made A hA
   obtain ⟨n, h1, h2⟩ := hM.n5
   rw [h1]; omega
 · obtain ⟨s, g, hM⟩ := h.made A hA
   rw [hM.hal] at he
   exact evL_lt he
theorem qlU.net {N : Nw} (h : qlU N) : qby N := by
 have hall := h.grp.all
 refine ⟨?_, fun A hA => ?_, fun A hA => ?_, by omega⟩
 · unfold Nw.err
   rw [if_neg (by simpa using h.err0), if_neg (by simpa using h.or'), if_neg (by omega)]
 · obtain ⟨s, g, hM⟩ := h.made A hA
   exact (hM.small (qod s)).1
 · obtain ⟨s, g, hM⟩ := h.made A hA
   obtain ⟨n, h1, h2⟩ := hM.n5
   rw [h1]; omega
def qgs (or' : Nat) : Nat → List Int
 | 0 => []
 | i + 1 => (qgs or' i).take (or' / 2 ^ (2 * i) % (i + 1)) ++ (i : Int) :: (qgs or' i).drop (or' / 2 ^ (2 * i) % (i + 1))
theorem qgg (or' i : Nat) : List.Perm (qgs or' (i + 1)) ((i : Int) :: qgs or' i) := by
 have h := List.perm_middle (a := (i : Int)) (l₁ := (qgs or' i).take (or' / 2 ^ (2 * i) % (i + 1))) (l₂ := (qgs or' i).drop (or' / 2 ^ (2 * i) % (i + 1)))
 rw [List.take_append_drop] at h
 exact h
theorem qfp (or' : Nat) : ∀ k, (qgs or' k).length = k
 | 0 => rfl
 | k + 1 => by rw [(qgg or' k).length_eq, List.length_cons, qfp or' k]
theorem qj4 (or' : Nat) : ∀ k, (qgs or' k).Nodup ∧ ∀ x ∈ qgs or' k, 0 ≤ x ∧ x < (k : Int)
 | 0 => ⟨List.nodup_nil, fun x hx => by simp [qgs] at hx⟩
 | k + 1 => by
  obtain ⟨h1, h2⟩ := qj4 or' k
  refine ⟨(qgg or' k).nodup_iff.2 (List.nodup_cons.2 ⟨fun h => ?_, h1⟩), fun x hx => ?_⟩
  · have := h2 _ h
    omega
  · rcases List.mem_cons.1 ((qgg or' k).mem_iff.1 hx) with rfl | hx
    · omega
    · have := h2 x hx
      omega
theorem qpI (or' k : Nat) (hk : k ≤ 40) : qcY k (qgs or' k) = 0 := by
 unfold qcY
 rw [if_neg (by omega), if_neg (by rw [qfp]; omega)]
 exact (qfC _ _).2 ⟨(qj4 or' k).2, (qj4 or' k).1, fun x _ => by simp⟩
end Go.Proofs.YticcpnekjddanaaGreatDoor
