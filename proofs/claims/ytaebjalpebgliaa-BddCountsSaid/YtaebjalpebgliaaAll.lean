/- bdd.All. -/
import Derived.Test.YtaebjalpebgliaaListN
import Derived.Test.YtaebjalpebgliaaBigP
namespace Go.Proofs.Ytaebjalpebgliaa
open Go.RowKit
set_option linter.unusedVariables false
set_option linter.unusedSimpArgs false

set_option maxRecDepth 100000 in
set_option maxHeartbeats 2000000 in
theorem all_limit (d : Dg) (n : Nat) (t : List Bool) (w : World) (hat : d.at w) (T : d.tab n t) (hc : 1024 < t.count true) :
    Calls Try.prog 34 #[d.v] w fun e w' => e = .returned (.tuple #[.slice none 0 0, .int .i64 3]) ∧ Same w w' := by
  have C := fun W (hW : Same w W) => check_tab d n t W (SliceAt.same hat hW) T
  obtain ⟨ho, hv, ht⟩ := T.2.ord
  have D := fun W (hW : Same w W) => counts_any n d.r d.a d.cap d.L W (SliceAt.same hat hW) (by have := T.2.short; omega) ho hv
  rw [ht] at D
  have e := T.1
  rw [Dg.v, e] at C ⊢
  obtain ⟨N, hN⟩ : ∃ N, N = t.count true := ⟨_, rfl⟩
  rw [← hN] at D hc
  have hc1 : (1024 : Int) < N := by omega
  replace C := Lib.hid C; replace D := Lib.hid D; replace ho := Lib.hid ho; replace hv := Lib.hid hv; replace ht := Lib.hid ht; replace T := Lib.hid T; replace hat := Lib.hid hat; replace e := Lib.hid e; replace hN := Lib.hid hN
  go_enter Try.func34, Try.ntmps34
  go_wp2_with fail
  refine (C.out _ (by repeat (first | exact Fr.refl _ _ | apply Fr.alloc | apply Fr.drewN | apply Fr.drew | apply Fr.undrew | apply Fr.undrewN))).mono ?_
  rintro e w1 ⟨rfl, hs1⟩
  have kb := hs1.at (heap_new w _) id
  have x0 := cell_at kb 0; have x1 := cell_at kb 1; have x2 := cell_at kb 2
  have xb := lt_of_heap kb
  have hw1 : Same w w1 := (show Same w _ from (by repeat (first | exact Fr.refl _ _ | apply Fr.alloc | apply Fr.drewN | apply Fr.drew | apply Fr.undrew | apply Fr.undrewN))).same hs1
  replace kb := Lib.hid kb; replace hs1 := Lib.hid hs1; replace hw1 := Lib.hid hw1
  go_wp2_with fail
  refine (D.out _ hw1.out).mono ?_
  rintro e w2 ⟨rfl, hs2⟩
  have hw2 := hw1.out.same hs2
  replace hs2 := Lib.hid hs2; replace hw2 := Lib.hid hw2
  go_wp2_with fail
  go_ret2
  exact ⟨rfl, hw2.out⟩

set_option maxRecDepth 100000 in
set_option maxHeartbeats 2000000 in
theorem all_rows (d : Dg) (n : Nat) (t : List Bool) (w : World) (hat : d.at w) (T : d.tab n t) (hc : t.count true ≤ 1024) :
    Calls Try.prog 34 #[d.v] w fun e w' => ∃ a c vals, e = .returned (.tuple #[.slice a (rowsL d.L n 0 d.r []).length c, .int .i64 0]) ∧
      w'.ownsRow w.heap.size 26 1 (.slice a (rowsL d.L n 0 d.r []).length c) (rowsL d.L n 0 d.r []).length vals ∧ RowsIs w' n vals (rowsL d.L n 0 d.r []) ∧ Same w w' := by
  have C := fun W (hW : Same w W) => check_tab d n t W (SliceAt.same hat hW) T
  obtain ⟨ho, hv, ht⟩ := T.2.ord
  have D := fun W (hW : Same w W) => counts_any n d.r d.a d.cap d.L W (SliceAt.same hat hW) (by have := T.2.short; omega) ho hv
  rw [ht] at D
  have hrl := rowsL_length ho n 0 d.r [] (by omega) hv (topF_range ho.val hv).1
  have e0 : ((0 : Nat) : Int) = 0 := rfl
  rw [e0, ht] at hrl
  have LI := fun W (hW : Same w W) => list_any n d.r d.a d.cap d.L (by have := T.2.short; omega) ho w.heap.size n 0 d.r [] none 0 [] [] none 0 0 W (by omega) hv (topF_range ho.val hv).1 rfl (.inl ⟨rfl, rfl, rfl⟩) (SliceAt.same hat hW) (SliceAt.nil _ _ _) (World.ownsRow_nil _ _ _ _) trivial rfl (by rw [hrl]; omega) hW.size
  have e := T.1
  rw [Dg.v, e] at C ⊢
  obtain ⟨rs, hrs⟩ : ∃ rs, rs = rowsL d.L n 0 d.r [] := ⟨_, rfl⟩
  rw [← hrs] at LI hrl ⊢
  obtain ⟨N, hN⟩ : ∃ N, N = t.count true := ⟨_, rfl⟩
  rw [← hN] at D hc
  have hc1 : ¬ (1024 : Int) < N := by omega
  have hc2 : (N : Int) ≤ 1024 := by omega
  replace C := Lib.hid C; replace D := Lib.hid D; replace ho := Lib.hid ho; replace hv := Lib.hid hv; replace ht := Lib.hid ht; replace T := Lib.hid T; replace hat := Lib.hid hat; replace e := Lib.hid e; replace hN := Lib.hid hN; replace LI := Lib.hid LI; replace hrl := Lib.hid hrl; replace hrs := Lib.hid hrs
  go_enter Try.func34, Try.ntmps34
  go_wp2_with fail
  refine (C.out _ (by repeat (first | exact Fr.refl _ _ | apply Fr.alloc | apply Fr.drewN | apply Fr.drew | apply Fr.undrew | apply Fr.undrewN))).mono ?_
  rintro e w1 ⟨rfl, hs1⟩
  have kb := hs1.at (heap_new w _) id
  have x0 := cell_at kb 0; have x1 := cell_at kb 1; have x2 := cell_at kb 2
  have xb := lt_of_heap kb
  have hw1 : Same w w1 := (show Same w _ from (by repeat (first | exact Fr.refl _ _ | apply Fr.alloc | apply Fr.drewN | apply Fr.drew | apply Fr.undrew | apply Fr.undrewN))).same hs1
  replace kb := Lib.hid kb; replace hs1 := Lib.hid hs1; replace hw1 := Lib.hid hw1
  go_wp2_with fail
  refine (D.out _ hw1.out).mono ?_
  rintro e w2 ⟨rfl, hs2⟩
  have hw2 := hw1.out.same hs2
  have kb2 := hs2.at kb.out id
  clear x0 x1 x2 xb
  have x0 := cell_at kb2 0; have x1 := cell_at kb2 1; have x2 := cell_at kb2 2
  have xb := lt_of_heap kb2
  replace hs2 := Lib.hid hs2; replace hw2 := Lib.hid hw2; replace kb2 := Lib.hid kb2
  go_wp2_with fail
  refine (LI.out _ hw2.out).mono ?_
  rintro e w3 ⟨a, c, vals, rfl, ho3, hr3, hG3⟩
  have hw3 : Same w w3 := grew_fresh hw2.out hG3 (fun k hk => by simp [Value.ownBlock] at hk)
  rw [Nat.zero_add] at ho3 ⊢
  replace ho3 := Lib.hid ho3; replace hr3 := Lib.hid hr3; replace hG3 := Lib.hid hG3; replace hw3 := Lib.hid hw3
  go_wp2_with fail
  go_ret2
  exact ⟨a, c, vals, rfl, ho3.out, hr3.out, hw3.out⟩
end Go.Proofs.Ytaebjalpebgliaa
