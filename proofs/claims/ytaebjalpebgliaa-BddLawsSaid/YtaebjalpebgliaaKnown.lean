/- The law's known: the chapter's examples hold. -/
import Derived.Test.YtaebjalpebgliaaAny
import Derived.Test.YtaebjalpebgliaaLSame
namespace Go.Proofs.Ytaebjalpebgliaa
open Go.RowKit
set_option linter.unusedVariables false
set_option linter.unusedSimpArgs false

theorem known_from (W : World) (b : Nat) (hb : BoolsAt W b [true, false, false, true]) :
    Calls Try.prog 25 #[.int .i64 2, .slice (some ⟨b, 0, none⟩) 4 4] W (DRet W 2 [(1, 1, 0), (1, 0, 1), (0, 2, 3)] 4) :=
  fromTable_ok 2 [true, false, false, true] (some ⟨b, 0, none⟩) 4 W (by decide) rfl (hb.slice (by decide))

def kx (a : Option Addr) (cap : Nat) : Dg := ⟨3, a, cap, [(0, 0, 1)], 2⟩
def ky (a : Option Addr) (cap : Nat) : Dg := ⟨3, a, cap, [(2, 0, 1)], 2⟩
def kz (a : Option Addr) (cap : Nat) : Dg := ⟨3, a, cap, [(2, 0, 1), (0, 0, 2)], 3⟩
theorem kx_tab (a : Option Addr) (cap : Nat) : (kx a cap).tab 3 [false, false, false, false, true, true, true, true] := ⟨rfl, by decide, rfl, rfl, by simp [kx, ky, kz]⟩
theorem ky_tab (a : Option Addr) (cap : Nat) : (ky a cap).tab 3 [false, true, false, true, false, true, false, true] := ⟨rfl, by decide, rfl, rfl, by simp [kx, ky, kz]⟩
theorem kz_tab (a : Option Addr) (cap : Nat) : (kz a cap).tab 3 [false, false, false, false, false, true, false, true] := ⟨rfl, by decide, rfl, rfl, by simp [kx, ky, kz]⟩

theorem known_and (W : World) (a a' : Option Addr) (cap cap' : Nat) (h : (kx a cap).at W) (h' : (ky a' cap').at W) :
    Calls Try.prog 16 #[.agg #[.int .i64 3, .slice a 1 cap, .int .i64 2], .agg #[.int .i64 3, .slice a' 1 cap', .int .i64 2]] W (DRet W 3 [(2, 0, 1), (0, 0, 2)] 3) :=
  and_right 3 (kx a cap) (ky a' cap') _ _ W (by decide) h h' (kx_tab a cap) (ky_tab a' cap')

theorem known_count (W : World) (a : Option Addr) (cap : Nat) (h : (kz a cap).at W) :
    Calls Try.prog 33 #[.agg #[.int .i64 3, .slice a 2 cap, .int .i64 3]] W fun e w' => e = .returned (.tuple #[.int .i64 2, .int .i64 0]) ∧ Same W w' :=
  count_tab (kz a cap) 3 _ W h (kz_tab a cap)

theorem known_any (W : World) (a : Option Addr) (cap : Nat) (h : (kz a cap).at W) :
    Calls Try.prog 35 #[.agg #[.int .i64 3, .slice a 2 cap, .int .i64 3]] W (AnyRet 3 [true, false, true] W) :=
  any_some (kz a cap) 3 _ W h (kz_tab a cap) (by simp [kz])

theorem known_equal (W : World) (a a' : Option Addr) (cap cap' : Nat) (L : List Nd) (hl : L = [(1, 1, 0), (1, 0, 1), (0, 2, 3)]) (h : SliceAt W 80 3 (.slice a 3 cap) 3 (ndCells L)) (h' : SliceAt W 80 3 (.slice a' 3 cap') 3 (ndCells L)) :
    Calls Try.prog 42 #[.agg #[.int .i64 2, .slice a 3 cap, .int .i64 4], .agg #[.int .i64 2, .slice a' 3 cap', .int .i64 4]] W fun e w' => e = .returned (.bool true) ∧ Same W w' := by
  subst hl
  have := equal_any 2 2 4 4 a a' cap cap' [(1, 1, 0), (1, 0, 1), (0, 2, 3)] [(1, 1, 0), (1, 0, 1), (0, 2, 3)] W h h' (by decide) (by decide)
  simpa using this

theorem known_same (W : World) (b b' : Nat) (h : BoolsAt W b [true, false, true]) (h' : BoolsAt W b' [true, false, true]) :
    Calls Try.prog 27 #[.slice (some ⟨b, 0, none⟩) 3 3, .slice (some ⟨b', 0, none⟩) 3 3] W fun e w' => e = .returned (.bool true) ∧ Same W w' :=
  rsame_true _ _ 3 3 [true, false, true] W (h.slice (by decide)) (h'.slice (by decide)) (by decide)

set_option maxRecDepth 100000 in
set_option maxHeartbeats 1000000 in
theorem known_true (w : World) : Calls Try.prog 12 #[] w fun e w' => e = .returned (.bool true) ∧ Same w w' := by
  go_enter Try.func12, Try.ntmps12
  go_wp2_with fail
  refine (known_from _ _ (heap_new _ _)).mono ?_
  rintro e w1 ⟨a1, c1, rfl, hO1, hs1⟩
  have hw1 := (show Same w _ from (by repeat (first | exact Fr.refl _ _ | apply Fr.alloc | apply Fr.drewN | apply Fr.drew))).same hs1
  replace hs1 := Lib.hid hs1
  replace hO1 := Lib.hid hO1
  replace hw1 := Lib.hid hw1
  go_wp2_with fail
  refine (variable_ok 3 0 _ (by decide) (by decide)).mono ?_
  rintro e w2 ⟨a2, c2, rfl, hO2, hs2⟩
  have k1 := hs2.at (heap_new _ _) id
  have hw2 := (hw1.out.same (by repeat (first | exact Fr.refl _ _ | apply Fr.alloc | apply Fr.drewN | apply Fr.drew))).same hs2
  replace hO1 := Lib.hid (hO1.out.same ((show Same w1 _ from (by repeat (first | exact Fr.refl _ _ | apply Fr.alloc | apply Fr.drewN | apply Fr.drew))).same hs2))
  replace k1 := Lib.hid k1
  replace hs2 := Lib.hid hs2
  replace hO2 := Lib.hid hO2
  replace hw2 := Lib.hid hw2
  go_wp2_with fail
  refine (variable_ok 3 2 _ (by decide) (by decide)).mono ?_
  rintro e w3 ⟨a3, c3, rfl, hO3, hs3⟩
  have h23 := (show Same w2 _ from (by repeat (first | exact Fr.refl _ _ | apply Fr.alloc | apply Fr.drewN | apply Fr.drew))).same hs3
  have k2 := hs3.at (heap_new _ _) id
  replace k1 := Lib.hid (h23.at k1.out id)
  have hw3 := hw2.out.same h23
  replace hO1 := Lib.hid (hO1.out.same h23)
  replace hO2 := Lib.hid (hO2.out.same h23)
  have l1 := lt_of_heap k1.out
  have l2 := lt_of_heap k2
  have x0 := cell_at k2 0
  have x1 := cell_at k2 1
  have x2 := cell_at k2 2
  replace k2 := Lib.hid k2
  replace hs3 := Lib.hid hs3
  replace hO3 := Lib.hid hO3
  replace hw3 := Lib.hid hw3
  clear h23
  go_wp2_with fail
  refine (known_and _ a2 a3 c2 c3 (SliceAt.same hO2.out (by repeat (first | exact Fr.refl _ _ | apply Fr.alloc | apply Fr.drewN | apply Fr.drew))) (SliceAt.same hO3.out (by repeat (first | exact Fr.refl _ _ | apply Fr.alloc | apply Fr.drewN | apply Fr.drew)))).mono ?_
  rintro e w4 ⟨a4, c4, rfl, hO4, hs4⟩
  have h34 := (show Same w3 _ from (by repeat (first | exact Fr.refl _ _ | apply Fr.alloc | apply Fr.drewN | apply Fr.drew))).same hs4
  have hw4 := hw3.out.same h34
  replace hO1 := Lib.hid (hO1.out.same h34)
  replace k1 := Lib.hid (h34.at k1.out id)
  replace hs4 := Lib.hid hs4
  replace hO4 := Lib.hid hO4
  replace hw4 := Lib.hid hw4
  clear h34 x0 x1 x2 l1 l2 k2 hO2 hO3
  go_wp2_with fail
  refine (known_count _ a4 c4 (SliceAt.same hO4.out (by repeat (first | exact Fr.refl _ _ | apply Fr.alloc | apply Fr.drewN | apply Fr.drew)))).mono ?_
  rintro e w5 ⟨rfl, hs5⟩
  have h45 := (show Same w4 _ from (by repeat (first | exact Fr.refl _ _ | apply Fr.alloc | apply Fr.drewN | apply Fr.drew))).same hs5
  have hw5 := hw4.out.same h45
  replace hO1 := Lib.hid (hO1.out.same h45)
  replace hO4 := Lib.hid (hO4.out.same h45)
  replace k1 := Lib.hid (h45.at k1.out id)
  have k4 := hs5.at (heap_new _ _) id
  have x0 := cell_at k4 0
  have x1 := cell_at k4 1
  have x2 := cell_at k4 2
  replace hs5 := Lib.hid hs5
  replace hw5 := Lib.hid hw5
  replace k4 := Lib.hid k4
  clear h45
  go_wp2_with fail
  refine (known_any _ a4 c4 hO4.out).mono ?_
  rintro e w6 ⟨b6, rfl, -, hB6, -, hs6⟩
  have hw6 := hw5.out.same hs6
  replace hO1 := Lib.hid (hO1.out.same hs6)
  have y0 := cell_at (hs6.at k1.out id) 0
  have y1 := cell_at (hs6.at k1.out id) 1
  have y2 := cell_at (hs6.at k1.out id) 2
  have yl := lt_of_heap (hs6.at k1.out id)
  have hk6 := Lib.hid (hs6.at k1.out id)
  replace hs6 := Lib.hid hs6
  replace hw6 := Lib.hid hw6
  replace hB6 := Lib.hid hB6
  clear x0 x1 x2 k4 k1 hO4
  go_wp2_with fail
  refine (known_equal _ a1 _ c1 3 _ rfl (hO1.out.same (by repeat (first | exact Fr.refl _ _ | apply Fr.alloc | apply Fr.drewN | apply Fr.drew))) (nodes_of_block (L := [(1, 1, 0), (1, 0, 1), (0, 2, 3)]) (heap_new_at (by simp) _) (by decide))).mono ?_
  rintro e w7 ⟨rfl, hs7⟩
  have h67 := (show Same w6 _ from (by repeat (first | exact Fr.refl _ _ | apply Fr.alloc | apply Fr.drewN | apply Fr.drew))).same hs7
  have hw7 := hw6.out.same h67
  have z0 := cell_at (h67.at hk6.out id) 0
  have z1 := cell_at (h67.at hk6.out id) 1
  have z2 := cell_at (h67.at hk6.out id) 2
  have zl := lt_of_heap (h67.at hk6.out id)
  have hB7 : BoolsAt w7 b6 [true, false, true] := h67.at hB6.out id
  replace hs7 := Lib.hid hs7
  replace hw7 := Lib.hid hw7
  replace hB7 := Lib.hid hB7
  clear h67 y0 y1 y2 yl
  go_wp2_with fail
  refine (known_same _ b6 _ ((show Same w7 _ from (by repeat (first | exact Fr.refl _ _ | apply Fr.alloc | apply Fr.drewN | apply Fr.drew))).at hB7.out id) (heap_new_at (by simp) _)).mono ?_
  rintro e w8 ⟨rfl, hs8⟩
  have hw8 := (hw7.out.same (by repeat (first | exact Fr.refl _ _ | apply Fr.alloc | apply Fr.drewN | apply Fr.drew))).same hs8
  replace hw8 := Lib.hid hw8
  clear hs8
  go_wp2_with fail
  go_ret
  exact ⟨rfl, hw8.out⟩
end Go.Proofs.Ytaebjalpebgliaa
