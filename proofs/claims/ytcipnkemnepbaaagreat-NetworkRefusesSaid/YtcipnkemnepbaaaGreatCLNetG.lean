/-  -/
import Derived.Test.YtcipnkemnepbaaaGreatCLNetE
import Derived.Test.YtcipnkemnepbaaaGreatCMkM
import Derived.Test.YtcipnkemnepbaaaGreatCReaP
set_option linter.unusedVariables false
set_option linter.unusedSimpArgs false
namespace Go.Proofs.YtcipnkemnepbaaaGreat
open Go.RowKit
theorem firstAu_nil : ∀ {l : List Au}, (∀ A ∈ l, autErr A = 0) → firstAu l = 0
 | [], _ => rfl
 | A :: l, h => by
  rw [firstAu, if_neg (by simpa using h A List.mem_cons_self)]
  exact firstAu_nil (fun B hB => h B (List.mem_cons_of_mem _ hB))
theorem evL_lt {s e : Int} (h : e ∈ evL s) : e < 5 := by
 unfold evL natI at h
 obtain ⟨x, hx, rfl⟩ := List.mem_map.1 h
 have := (filF_mem.1 hx).1
 omega
structure GrpN (N : Nw) : Prop where
 m3 : N.As.length ≤ 3
 made : ∀ A ∈ N.As, ∃ (s : Int) (g : List Nat), MkAu (evL s) g A
 or' : ordErr N.As.length N.o = 0
theorem GrpN.err0 {N : Nw} (h : GrpN N) : prodErr N.As = 0 := by
 unfold prodErr
 rw [if_neg (by have := h.m3; omega)]
 refine firstAu_nil (fun A hA => ?_)
 obtain ⟨s, g, hM⟩ := h.made A hA
 exact hM.ok (evL_err s)
theorem GrpN.ok' {N : Nw} (h : GrpN N) : NwOk N := NwOk.of h.err0 h.or'
theorem GrpN.grp {N : Nw} (h : GrpN N) : Grp3 N := by
 refine ⟨h.ok', h.m3, fun A hA => ?_, fun A hA e he => ?_⟩
 · obtain ⟨s, g, hM⟩ := h.made A hA
   obtain ⟨n, h1, h2⟩ := hM.n5
   rw [h1]; omega
 · obtain ⟨s, g, hM⟩ := h.made A hA
   rw [hM.hal] at he
   exact evL_lt he
theorem GrpN.net {N : Nw} (h : GrpN N) : NetOk N := by
 have hall := h.grp.all
 refine ⟨?_, fun A hA => ?_, fun A hA => ?_, by omega⟩
 · unfold Nw.err
   rw [if_neg (by simpa using h.err0), if_neg (by simpa using h.or'), if_neg (by omega)]
 · obtain ⟨s, g, hM⟩ := h.made A hA
   exact (hM.small (evL_len s)).1
 · obtain ⟨s, g, hM⟩ := h.made A hA
   obtain ⟨n, h1, h2⟩ := hM.n5
   rw [h1]; omega
def insO (or' : Nat) : Nat → List Int
 | 0 => []
 | i + 1 => (insO or' i).take (or' / 2 ^ (2 * i) % (i + 1)) ++ (i : Int) :: (insO or' i).drop (or' / 2 ^ (2 * i) % (i + 1))
theorem insO_perm (or' i : Nat) : List.Perm (insO or' (i + 1)) ((i : Int) :: insO or' i) := by
 have h := List.perm_middle (a := (i : Int)) (l₁ := (insO or' i).take (or' / 2 ^ (2 * i) % (i + 1))) (l₂ := (insO or' i).drop (or' / 2 ^ (2 * i) % (i + 1)))
 rw [List.take_append_drop] at h
 exact h
theorem insO_len (or' : Nat) : ∀ k, (insO or' k).length = k
 | 0 => rfl
 | k + 1 => by rw [(insO_perm or' k).length_eq, List.length_cons, insO_len or' k]
theorem insO_ok (or' : Nat) : ∀ k, (insO or' k).Nodup ∧ ∀ x ∈ insO or' k, 0 ≤ x ∧ x < (k : Int)
 | 0 => ⟨List.nodup_nil, fun x hx => by simp [insO] at hx⟩
 | k + 1 => by
  obtain ⟨h1, h2⟩ := insO_ok or' k
  refine ⟨(insO_perm or' k).nodup_iff.2 (List.nodup_cons.2 ⟨fun h => ?_, h1⟩), fun x hx => ?_⟩
  · have := h2 _ h
    omega
  · rcases List.mem_cons.1 ((insO_perm or' k).mem_iff.1 hx) with rfl | hx
    · omega
    · have := h2 x hx
      omega
theorem insO_err (or' k : Nat) (hk : k ≤ 40) : ordErr k (insO or' k) = 0 := by
 unfold ordErr
 rw [if_neg (by omega), if_neg (by rw [insO_len]; omega)]
 exact (dupF_zero _ _).2 ⟨(insO_ok or' k).2, (insO_ok or' k).1, fun x _ => by simp⟩
end Go.Proofs.YtcipnkemnepbaaaGreat
