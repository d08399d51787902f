/- BddCombines. -/
import Derived.Test.YtaebjalpebgliaaLCombR
import Derived.Test.YtaebjalpebgliaaLCombS
import Derived.Test.YtaebjalpebgliaaLCombT
import Derived.Test.YtaebjalpebgliaaLCombU
import Derived.Test.YtaebjalpebgliaaLCombV
import Derived.Test.YtaebjalpebgliaaLCombW
namespace Go.Proofs.Ytaebjalpebgliaa
open Go.RowKit
set_option linter.unusedVariables false
set_option linter.unusedSimpArgs false

theorem comb_r18 {Q : Exit → Act → World → Prop} {T : Array Value} (hTs : T.size = 279) {W0 : World} {bo bx by_ : Nat} {x y : List Bool} {fx fy f0 f4 : Nat → Bool} {j j0 j2 : Nat} {a0 a1 a2 a3 a4 : Option Addr} {c0 c1 c2 c3 c4 : Nat} {wr : World}
    (t26 : T[26]'(by omega) = .slice (some ⟨bo, 0, none⟩) 5 5) (t8 : T[8]'(by omega) = .slice (some ⟨bx, 0, none⟩) x.length x.length) (t10 : T[10]'(by omega) = .slice (some ⟨by_, 0, none⟩) y.length y.length) (t27 : T[27]'(by omega) = .int .i64 j)
    (hX : BoolsAt W0 bx x) (hY : BoolsAt W0 by_ y) (hlt : j < x.length) (hlty : j < y.length) (hlx : x.length ≤ 32) (gx : fx j = x[j]) (gy : fy j = y[j]) (hbo0 : W0.heap.size ≤ bo)
    (hrel : LRel W0 bo f0 (fun i => fx i && fy i) (fun i => fx i || fy i) (fun i => fx i != fy i) f4 j0 j j2 a0 a1 a2 a3 a4 c0 c1 c2 c3 c4 wr)
    (hKK : ∀ f w' a1' a2' a3' c1' c2' c3', LRel W0 bo f0 (fun i => fx i && fy i) (fun i => fx i || fy i) (fun i => fx i != fy i) f4 j0 (j + 1) j2 a0 a1' a2' a3' a4 c0 c1' c2' c3' c4 w' → Q .normal ⟨fillF T f 106 50, []⟩ w') :
    Code.wp Try.prog (regionOf Try.f3 18) Q ⟨T, []⟩ wr := by
  cases h : x[j]
  · exact comb_r18f hTs t26 t8 t10 t27 hX hY hlt hlty hlx h gx gy hbo0 hrel hKK
  · exact comb_r18t hTs t26 t8 t10 t27 hX hY hlt hlty hlx h gx gy hbo0 hrel hKK

set_option maxRecDepth 100000 in
set_option maxHeartbeats 40000000 in
theorem bddCombines_any (v1 b1 : Int) (hv1 : 0 ≤ v1 ∧ v1 ≤ 255) (hb1 : 0 ≤ b1 ∧ b1 ≤ 4294967295) (v2 b2 : Int) (hv2 : 0 ≤ v2 ∧ v2 ≤ 255) (hb2 : 0 ≤ b2 ∧ b2 ≤ 4294967295) (v3 b3 : Int) (hv3 : 0 ≤ v3 ∧ v3 ≤ 255) (hb3 : 0 ≤ b3 ∧ b3 ≤ 4294967295) (w : World) :
    Calls Try.prog 3 #[.agg #[.int .u8 v1, .int .u32 b1], .agg #[.int .u8 v2, .int .u32 b2], .agg #[.int .u8 v3, .int .u32 b3]] w fun e w' => e = .returned (.bool true) ∧ Same w w' := by
  have T1 := fun W => ltable_any v1 b1 W hv1.1 hv1.2 hb1.1 hb1.2
  have T2 := fun W => ltable_any v2 b2 W hv2.1 hv2.2 hb2.1 hb2.2
  have T3 := fun W => ltable_any v3 b3 W hv3.1 hv3.2 hb3.1 hb3.2
  obtain ⟨n, hn⟩ : ∃ n : Nat, n = (v1 % 6).toNat := ⟨_, rfl⟩
  obtain ⟨m, hm⟩ : ∃ n : Nat, n = (v2 % 6).toNat := ⟨_, rfl⟩
  obtain ⟨k, hk⟩ : ∃ n : Nat, n = (v3 % 6).toNat := ⟨_, rfl⟩
  rw [← hn] at T1
  rw [← hm] at T2
  rw [← hk] at T3
  have n5 : n ≤ 5 := by omega
  have m5 : m ≤ 5 := by omega
  have k5 : k ≤ 5 := by omega
  clear hn hm hk hv1 hv2 hv3 hb1 hb2 hb3
  replace T1 := Lib.hid T1
  replace T2 := Lib.hid T2
  replace T3 := Lib.hid T3
  go_enter Try.func3, Try.ntmps3
  go_wp2_with fail
  refine (known_true _).mono ?_
  rintro e w1 ⟨rfl, hs1⟩
  have f1 := hs1.at (heap_old (heap_old (heap_new w _) _) _) id
  have f2 := hs1.at (heap_old (heap_new_at (k := w.heap.size + 1) (by simp) _) _) id
  have f3 := hs1.at (heap_new_at (k := w.heap.size + 1 + 1) (by simp) _) id
  have c10 := cell_at f1 0
  have c11 := cell_at f1 1
  have l1 := lt_of_heap f1
  have hw1 := (show Same w _ from (by repeat (first | exact Fr.refl _ _ | apply Fr.alloc | apply Fr.drewN | apply Fr.drew))).same hs1
  replace hw1 := Lib.hid hw1
  replace hs1 := Lib.hid hs1
  replace f1 := Lib.hid f1
  replace f2 := Lib.hid f2
  replace f3 := Lib.hid f3
  go_wp2_with fail
  refine (T1.out _).mono ?_
  rintro e w2 ⟨x, bx, hx, rfl, hX, -, hs2⟩
  have c20 := cell_at (hs2.at f2.out id) 0
  have c21 := cell_at (hs2.at f2.out id) 1
  have l2 := lt_of_heap (hs2.at f2.out id)
  have hw2 := hw1.out.same hs2
  replace f3 := Lib.hid (hs2.at f3.out id)
  replace hw2 := Lib.hid hw2
  replace hs2 := Lib.hid hs2
  replace hX := Lib.hid hX
  replace hx := Lib.hid hx
  go_wp2_with fail
  refine (T2.out _).mono ?_
  rintro e w3 ⟨y, by_, hy, rfl, hY, -, hs3⟩
  have c30 := cell_at (hs3.at f3.out id) 0
  have c31 := cell_at (hs3.at f3.out id) 1
  have l3 := lt_of_heap (hs3.at f3.out id)
  have hw3 := hw2.out.same hs3
  replace hX := Lib.hid (hX.out.fr hs3 id)
  replace hw3 := Lib.hid hw3
  replace hs3 := Lib.hid hs3
  replace hY := Lib.hid hY
  replace hy := Lib.hid hy
  go_wp2_with fail
  refine (T3.out _).mono ?_
  rintro e w4 ⟨z, bz, hz, rfl, hZ, -, hs4⟩
  have hw4 := hw3.out.same hs4
  replace hX := Lib.hid (hX.out.fr hs4 id)
  replace hY := Lib.hid (hY.out.fr hs4 id)
  replace hw4 := Lib.hid hw4
  replace hs4 := Lib.hid hs4
  replace hZ := Lib.hid hZ
  replace hz := Lib.hid hz
  clear c10 c11 l1 c20 c21 l2 c30 c31 l3 f1 f2 f3 hw1 hw2 hw3
  go_wp2_with fail
  refine (ldia_can n bx x w4 (by omega) hx.out hX.out).mono ?_
  rintro e w5 ⟨a5, L5, c5, r5, rfl, hC5, hs5⟩
  have hw5 := hw4.out.same hs5
  replace hX := Lib.hid (hX.out.fr hs5 id)
  replace hY := Lib.hid (hY.out.fr hs5 id)
  replace hZ := Lib.hid (hZ.out.fr hs5 id)
  replace hs5 := Lib.hid hs5
  replace hC5 := Lib.hid hC5
  replace hw5 := Lib.hid hw5
  clear hw4
  go_wp2_with fail
  refine (ldia_can m by_ y w5 (by omega) hy.out hY.out).mono ?_
  rintro e w6 ⟨a6, L6, c6, r6, rfl, hC6, hs6⟩
  have hw6 := hw5.out.same hs6
  replace hX := Lib.hid (hX.out.fr hs6 id)
  replace hY := Lib.hid (hY.out.fr hs6 id)
  replace hZ := Lib.hid (hZ.out.fr hs6 id)
  replace hC5 := Lib.hid (hC5.out.same hs6)
  replace hs6 := Lib.hid hs6
  replace hC6 := Lib.hid hC6
  replace hw6 := Lib.hid hw6
  clear hw5
  go_wp2_with fail
  refine (ldia_can k bz z w6 (by omega) hz.out hZ.out).mono ?_
  rintro e w7 ⟨a7, L7, c7, r7, rfl, hC7, hs7⟩
  have hw7 := hw6.out.same hs7
  replace hX := Lib.hid (hX.out.fr hs7 id)
  replace hY := Lib.hid (hY.out.fr hs7 id)
  replace hZ := Lib.hid (hZ.out.fr hs7 id)
  replace hC5 := Lib.hid (hC5.out.same hs7)
  replace hC6 := Lib.hid (hC6.out.same hs7)
  replace hs7 := Lib.hid hs7
  replace hC7 := Lib.hid hC7
  replace hw7 := Lib.hid hw7
  clear hw6
  go_wp2_with fail
  -- the three boxes
  refine (not_can n x a5 c5 L5 r5 _ (by omega) (hC5.out.same (by repeat (first | exact Fr.refl _ _ | apply Fr.alloc | apply Fr.drewN | apply Fr.drew | apply Fr.undrew | apply Fr.undrewN)))).mono ?_
  rintro e w8 ⟨n8, a8, L8, c8, r8, E8, rfl, hR8, hO8, hs8⟩
  have j1 := hs8.at (heap_old (heap_old (heap_new w7 _) _) _) id
  have j2 := hs8.at (heap_old (heap_new_at (k := w7.heap.size + 1) (by simp) _) _) id
  have j3 := hs8.at (heap_new_at (k := w7.heap.size + 1 + 1) (by simp) _) id
  have hs78 := (show Same w7 _ from (by repeat (first | exact Fr.refl _ _ | apply Fr.alloc | apply Fr.drewN | apply Fr.drew | apply Fr.undrew | apply Fr.undrewN))).same hs8
  have hw8 := hw7.out.same hs78
  replace hX := Lib.hid (hX.out.fr hs78 id)
  replace hY := Lib.hid (hY.out.fr hs78 id)
  replace hZ := Lib.hid (hZ.out.fr hs78 id)
  replace hC5 := Lib.hid (hC5.out.same hs78)
  replace hC6 := Lib.hid (hC6.out.same hs78)
  replace hC7 := Lib.hid (hC7.out.same hs78)
  replace hs8 := Lib.hid hs8
  replace hR8 := Lib.hid hR8
  replace hO8 := Lib.hid hO8
  replace hw8 := Lib.hid hw8
  clear hw7 hs78
  have q10 := cell_at j1 0; have q11 := cell_at j1 1; have q12 := cell_at j1 2
  have q20 := cell_at j2 0; have q21 := cell_at j2 1; have q22 := cell_at j2 2
  have q30 := cell_at j3 0; have q31 := cell_at j3 1; have q32 := cell_at j3 2
  have ql1 := lt_of_heap j1
  have ql2 := lt_of_heap j2
  have ql3 := lt_of_heap j3
  replace j1 := Lib.hid j1; replace j2 := Lib.hid j2; replace j3 := Lib.hid j3
  go_wp2_with fail
  refine ((bin_can n m x y a5 a6 c5 c6 L5 L6 r5 r6 _ (by omega) (hC5.out.same (by repeat (first | exact Fr.refl _ _ | apply Fr.alloc | apply Fr.drewN | apply Fr.drew | apply Fr.undrew | apply Fr.undrewN))) (hC6.out.same (by repeat (first | exact Fr.refl _ _ | apply Fr.alloc | apply Fr.drewN | apply Fr.drew | apply Fr.undrew | apply Fr.undrewN)))).1).mono ?_
  rintro e w9 ⟨n9, a9, L9, c9, r9, E9, rfl, hR9, hO9, hs9⟩
  have b8 := hs9.at (heap_new w8 _) id
  have h := (show Same w8 _ from (by repeat (first | exact Fr.refl _ _ | apply Fr.alloc | apply Fr.drewN | apply Fr.drew | apply Fr.undrew | apply Fr.undrewN))).same hs9
  replace hX := Lib.hid (hX.out.fr h id); replace hY := Lib.hid (hY.out.fr h id); replace hZ := Lib.hid (hZ.out.fr h id); replace hC5 := Lib.hid (hC5.out.same h); replace hC6 := Lib.hid (hC6.out.same h); replace hC7 := Lib.hid (hC7.out.same h); replace hO8 := Lib.hid (hO8.out.same h); replace hw8 := Lib.hid (hw8.out.same h); replace j1 := Lib.hid (h.at j1.out id); replace j2 := Lib.hid (h.at j2.out id); replace j3 := Lib.hid (h.at j3.out id)
  clear h q10 q11 q12 q20 q21 q22 q30 q31 q32 ql1 ql2 ql3
  have q10 := cell_at j1.out 0
  have q11 := cell_at j1.out 1
  have q12 := cell_at j1.out 2
  have q20 := cell_at j2.out 0
  have q21 := cell_at j2.out 1
  have q22 := cell_at j2.out 2
  have ql1 := lt_of_heap j1.out
  have ql2 := lt_of_heap j2.out
  replace hs9 := Lib.hid hs9; replace hR9 := Lib.hid hR9; replace hO9 := Lib.hid hO9; replace b8 := Lib.hid b8
  go_wp2_with fail
  refine ((bin_can n m x y a5 a6 c5 c6 L5 L6 r5 r6 _ (by omega) (hC5.out.same (by repeat (first | exact Fr.refl _ _ | apply Fr.alloc | apply Fr.drewN | apply Fr.drew | apply Fr.undrew | apply Fr.undrewN))) (hC6.out.same (by repeat (first | exact Fr.refl _ _ | apply Fr.alloc | apply Fr.drewN | apply Fr.drew | apply Fr.undrew | apply Fr.undrewN)))).2.1).mono ?_
  rintro e w10 ⟨n10, a10, L10, c10, r10, E10, rfl, hR10, hO10, hs10⟩
  have b9 := hs10.at (heap_new w9 _) id
  have h := (show Same w9 _ from (by repeat (first | exact Fr.refl _ _ | apply Fr.alloc | apply Fr.drewN | apply Fr.drew | apply Fr.undrew | apply Fr.undrewN))).same hs10
  replace hX := Lib.hid (hX.out.fr h id); replace hY := Lib.hid (hY.out.fr h id); replace hZ := Lib.hid (hZ.out.fr h id); replace hC5 := Lib.hid (hC5.out.same h); replace hC6 := Lib.hid (hC6.out.same h); replace hC7 := Lib.hid (hC7.out.same h); replace hO8 := Lib.hid (hO8.out.same h); replace hO9 := Lib.hid (hO9.out.same h); replace hw8 := Lib.hid (hw8.out.same h); replace j1 := Lib.hid (h.at j1.out id); replace j2 := Lib.hid (h.at j2.out id); replace j3 := Lib.hid (h.at j3.out id); replace b8 := Lib.hid (h.at b8.out id)
  clear h q10 q11 q12 q20 q21 q22 ql1 ql2
  have q10 := cell_at j1.out 0
  have q11 := cell_at j1.out 1
  have q12 := cell_at j1.out 2
  have q20 := cell_at j2.out 0
  have q21 := cell_at j2.out 1
  have q22 := cell_at j2.out 2
  have ql1 := lt_of_heap j1.out
  have ql2 := lt_of_heap j2.out
  replace hs10 := Lib.hid hs10; replace hR10 := Lib.hid hR10; replace hO10 := Lib.hid hO10; replace b9 := Lib.hid b9
  go_wp2_with fail
  refine ((bin_can n m x y a5 a6 c5 c6 L5 L6 r5 r6 _ (by omega) (hC5.out.same (by repeat (first | exact Fr.refl _ _ | apply Fr.alloc | apply Fr.drewN | apply Fr.drew | apply Fr.undrew | apply Fr.undrewN))) (hC6.out.same (by repeat (first | exact Fr.refl _ _ | apply Fr.alloc | apply Fr.drewN | apply Fr.drew | apply Fr.undrew | apply Fr.undrewN)))).2.2).mono ?_
  rintro e w11 ⟨n11, a11, L11, c11, r11, E11, rfl, hR11, hO11, hs11⟩
  have b10 := hs11.at (heap_new w10 _) id
  have h := (show Same w10 _ from (by repeat (first | exact Fr.refl _ _ | apply Fr.alloc | apply Fr.drewN | apply Fr.drew | apply Fr.undrew | apply Fr.undrewN))).same hs11
  replace hX := Lib.hid (hX.out.fr h id); replace hY := Lib.hid (hY.out.fr h id); replace hZ := Lib.hid (hZ.out.fr h id); replace hC5 := Lib.hid (hC5.out.same h); replace hC6 := Lib.hid (hC6.out.same h); replace hC7 := Lib.hid (hC7.out.same h); replace hO8 := Lib.hid (hO8.out.same h); replace hO9 := Lib.hid (hO9.out.same h); replace hO10 := Lib.hid (hO10.out.same h); replace hw8 := Lib.hid (hw8.out.same h); replace j1 := Lib.hid (h.at j1.out id); replace j2 := Lib.hid (h.at j2.out id); replace j3 := Lib.hid (h.at j3.out id); replace b8 := Lib.hid (h.at b8.out id); replace b9 := Lib.hid (h.at b9.out id)
  clear h q10 q11 q12 q20 q21 q22 ql1 ql2
  have q10 := cell_at j1.out 0
  have q11 := cell_at j1.out 1
  have q12 := cell_at j1.out 2
  have q20 := cell_at j2.out 0
  have q21 := cell_at j2.out 1
  have q22 := cell_at j2.out 2
  have q30 := cell_at j3.out 0
  have q31 := cell_at j3.out 1
  have q32 := cell_at j3.out 2
  have ql1 := lt_of_heap j1.out
  have ql2 := lt_of_heap j2.out
  have ql3 := lt_of_heap j3.out
  replace hs11 := Lib.hid hs11; replace hR11 := Lib.hid hR11; replace hO11 := Lib.hid hO11; replace b10 := Lib.hid b10
  go_wp2_with fail
  refine (ite_can n m k x y z a5 a6 a7 c5 c6 c7 L5 L6 L7 r5 r6 r7 _ (by omega) (hC5.out.same (by repeat (first | exact Fr.refl _ _ | apply Fr.alloc | apply Fr.drewN | apply Fr.drew | apply Fr.undrew | apply Fr.undrewN))) (hC6.out.same (by repeat (first | exact Fr.refl _ _ | apply Fr.alloc | apply Fr.drewN | apply Fr.drew | apply Fr.undrew | apply Fr.undrewN))) (hC7.out.same (by repeat (first | exact Fr.refl _ _ | apply Fr.alloc | apply Fr.drewN | apply Fr.drew | apply Fr.undrew | apply Fr.undrewN)))).mono ?_
  rintro e w12 ⟨n12, a12, L12, c12, r12, E12, rfl, hR12, hO12, hs12⟩
  have b11 := hs12.at (heap_new w11 _) id
  have h := (show Same w11 _ from (by repeat (first | exact Fr.refl _ _ | apply Fr.alloc | apply Fr.drewN | apply Fr.drew | apply Fr.undrew | apply Fr.undrewN))).same hs12
  replace hX := Lib.hid (hX.out.fr h id); replace hY := Lib.hid (hY.out.fr h id); replace hZ := Lib.hid (hZ.out.fr h id); replace hO8 := Lib.hid (hO8.out.same h); replace hO9 := Lib.hid (hO9.out.same h); replace hO10 := Lib.hid (hO10.out.same h); replace hO11 := Lib.hid (hO11.out.same h); replace hw8 := Lib.hid (hw8.out.same h); replace b8 := Lib.hid (h.at b8.out id); replace b9 := Lib.hid (h.at b9.out id); replace b10 := Lib.hid (h.at b10.out id)
  clear h q10 q11 q12 q20 q21 q22 q30 q31 q32 ql1 ql2 ql3 hC5 hC6 hC7 j1 j2 j3
  replace hs12 := Lib.hid hs12; replace hR12 := Lib.hid hR12; replace hO12 := Lib.hid hO12; replace b11 := Lib.hid b11
  go_wp2_with fail
  have hlx : x.length ≤ 32 := by rw [hx.out]; exact Nat.pow_le_pow_right (by omega) n5
  -- the loop
  obtain ⟨fx, hfx⟩ : ∃ f : Nat → Bool, f = fun i => x.getD i false := ⟨_, rfl⟩
  obtain ⟨fy, hfy⟩ : ∃ f : Nat → Bool, f = fun i => y.getD i false := ⟨_, rfl⟩
  obtain ⟨fz, hfz⟩ : ∃ f : Nat → Bool, f = fun i => z.getD i false := ⟨_, rfl⟩
  obtain ⟨W0, hW0⟩ : ∃ W0, W0 = w12.alloc (.cells #[.int .i64 n12, .slice a12 L12.length c12, .int .i64 r12] 31) := ⟨_, rfl⟩
  have hA : Same w12 W0 := by rw [hW0]; exact (by repeat (first | exact Fr.refl _ _ | apply Fr.alloc | apply Fr.drewN | apply Fr.drew | apply Fr.undrew | apply Fr.undrewN))
  have b12 : W0.heap[w12.heap.size]? = some (.cells #[.int .i64 n12, .slice a12 L12.length c12, .int .i64 r12] 31 (0, 0)) := by rw [hW0]; exact heap_new _ _
  have hW0s : W0.heap.size = w12.heap.size + 1 := by rw [hW0]; simp
  replace hX := Lib.hid (hX.out.fr hA id); replace hY := Lib.hid (hY.out.fr hA id); replace hZ := Lib.hid (hZ.out.fr hA id); replace hO8 := Lib.hid (hO8.out.same hA); replace hO9 := Lib.hid (hO9.out.same hA); replace hO10 := Lib.hid (hO10.out.same hA); replace hO11 := Lib.hid (hO11.out.same hA); replace hO12 := Lib.hid (hO12.out.same hA); replace hw8 := Lib.hid (hw8.out.same hA); replace b8 := Lib.hid (hA.at b8.out id); replace b9 := Lib.hid (hA.at b9.out id); replace b10 := Lib.hid (hA.at b10.out id); replace b11 := Lib.hid (hA.at b11.out id)
  replace hfx := Lib.hid hfx; replace hfy := Lib.hid hfy; replace hfz := Lib.hid hfz; replace b12 := Lib.hid b12; replace hW0 := Lib.hid hW0; replace hW0s := Lib.hid hW0s; replace hA := Lib.hid hA
  obtain ⟨i3, hi3, hi3z, hi3s, hi3b⟩ := info_parts info4
  obtain ⟨J1, hJ1⟩ : ∃ J : Nat → Nat, J = fun j => if n = m then j else 0 := ⟨_, rfl⟩
  obtain ⟨J2, hJ2⟩ : ∃ J : Nat → Nat, J = fun j => if n = m ∧ n = k then j else 0 := ⟨_, rfl⟩
  replace hJ1 := Lib.hid hJ1; replace hJ2 := Lib.hid hJ2
  go_loopw [27] (fun i wr => ∃ (j : Nat) (a0 a1 a2 a3 a4 : Option Addr) (c0 c1 c2 c3 c4 : Nat), i = .int .i64 j ∧ j ≤ x.length ∧ LRel W0 (w12.heap.size + 1) (fun i => !fx i) (fun i => fx i && fy i) (fun i => fx i || fy i) (fun i => fx i != fy i) (fun i => fx i && fy i || !fx i && fz i) j (J1 j) (J2 j) a0 a1 a2 a3 a4 c0 c1 c2 c3 c4 wr) (fun i _ => x.length - (intOf i).toNat)
  case atStart =>
    refine ⟨0, none, none, none, none, none, 0, 0, 0, 0, 0, rfl, by omega, ?_, ?_, ?_⟩
    · rw [hJ1.out, hJ2.out]
      simp only [ite_self]
      exact heap_new_at (by simp) _
    · rw [hJ1.out, hJ2.out]
      simp only [ite_self]
      exact Rws.nil _ _ 5
    · rw [hW0.out]; exact (by repeat (first | exact Fr.refl _ _ | apply Fr.alloc | apply Fr.drewN | apply Fr.drew | apply Fr.undrew | apply Fr.undrewN))
  case round =>
    obtain ⟨j, a0, a1, a2, a3, a4, c0, c1, c2, c3, c4, rfl, hj, hrel⟩ := hrel
    have hbo0 : W0.heap.size ≤ w12.heap.size + 1 := by have := hW0s.out; omega
    by_cases hlt : j < x.length
    · have gx : fx j = x[j] := by rw [hfx.out]; simp [hlt]
      replace hrel := Lib.hid hrel; replace gx := Lib.hid gx; replace hbo0 := Lib.hid hbo0
      go_upto_region 16 with fail
      refine comb_r16 (fx := fx) rfl rfl rfl rfl hX.out hlt hlx gx.out hbo0.out hrel.out ?_
      intro f w' a0' c0' hrel'
      clear hrel
      have hrel := Lib.hid hrel'
      clear hrel'
      simp only [fillF, Nat.reduceAdd, List.setIfInBounds_toArray, List.set_cons_zero, List.set_cons_succ]
      by_cases hnm : n = m
      · have hb : ((n : Int) == (m : Int)) = true := by simp [hnm]
        have eJ : J1 j = j := by rw [hJ1.out]; simp [hnm]
        have eJ' : J1 (j + 1) = j + 1 := by rw [hJ1.out]; simp [hnm]
        have hlty : j < y.length := by rw [hy.out, ← hnm, ← hx.out]; exact hlt
        have gy : fy j = y[j] := by rw [hfy.out]; simp [hlty]
        have hR := hrel.out
        rw [eJ] at hR
        clear hrel
        replace hR := Lib.hid hR; replace eJ := Lib.hid eJ; replace eJ' := Lib.hid eJ'; replace gy := Lib.hid gy; replace hnm := Lib.hid hnm
        go_upto_region 18 with fail
        refine comb_r18 (fx := fx) (fy := fy) rfl rfl rfl rfl rfl hX.out hY.out hlt hlty hlx gx.out gy.out hbo0.out hR.out ?_
        intro g w2' a1' a2' a3' c1' c2' c3' hrel'
        clear hR
        have hrel := Lib.hid hrel'
        clear hrel'
        simp only [fillF, Nat.reduceAdd, List.setIfInBounds_toArray, List.set_cons_zero, List.set_cons_succ]
        by_cases hnk : n = k
        · have hb2 : ((n : Int) == (k : Int)) = true := by simp [hnk]
          have eI : J2 j = j := by rw [hJ2.out]; exact if_pos ⟨hnm.out, hnk⟩
          have eI' : J2 (j + 1) = j + 1 := by rw [hJ2.out]; exact if_pos ⟨hnm.out, hnk⟩
          have hltz : j < z.length := by rw [hz.out, ← hnk, ← hx.out]; exact hlt
          have gz : fz j = z[j] := by rw [hfz.out]; simp [hltz]
          have hR := hrel.out
          rw [eI] at hR
          clear hrel
          replace hR := Lib.hid hR; replace eI := Lib.hid eI; replace eI' := Lib.hid eI'; replace gz := Lib.hid gz; replace hnk := Lib.hid hnk
          go_upto_region 20 with fail
          refine comb_r20 (fx := fx) (fy := fy) (fz := fz) rfl rfl rfl rfl rfl rfl hX.out hY.out hZ.out hlt hlty hltz hlx gx.out gy.out gz.out hbo0.out hR.out ?_
          intro u w3' a4' c4' hrel'
          clear hR
          have hrel := Lib.hid hrel'
          clear hrel'
          simp only [fillF, Nat.reduceAdd, List.setIfInBounds_toArray, List.set_cons_zero, List.set_cons_succ]
          go_wp2_with fail
          go_roundw
          case rel => exact ⟨j + 1, a0', a1', a2', a3', a4', c0', c1', c2', c3', c4', by go_num, by omega, by rw [eJ'.out, eI'.out]; exact hrel.out⟩
          case measure => simp [intOf]; omega
        · have hb2 : ((n : Int) == (k : Int)) = false := beq_eq_false_iff_ne.2 (by omega)
          have eI : J2 j = J2 (j + 1) := by rw [hJ2.out]; simp only [if_neg (fun h : n = m ∧ n = k => hnk h.2)]
          have hR := hrel.out
          rw [eI] at hR
          clear hrel
          replace hR := Lib.hid hR; replace eI := Lib.hid eI; replace hnk := Lib.hid hnk
          go_wp2_with fail
          go_roundw
          case rel => exact ⟨j + 1, a0', a1', a2', a3', a4, c0', c1', c2', c3', c4, by go_num, by omega, by rw [eJ'.out]; exact hR.out⟩
          case measure => simp [intOf]; omega
      · have hb : ((n : Int) == (m : Int)) = false := beq_eq_false_iff_ne.2 (by omega)
        have eJ : J1 j = J1 (j + 1) := by rw [hJ1.out]; simp only [if_neg hnm]
        have eI : J2 j = J2 (j + 1) := by rw [hJ2.out]; simp only [if_neg (fun h : n = m ∧ n = k => hnm h.1)]
        have hR := hrel.out
        rw [eJ, eI] at hR
        clear hrel
        replace hR := Lib.hid hR; replace eJ := Lib.hid eJ; replace eI := Lib.hid eI; replace hnm := Lib.hid hnm
        go_wp2_with fail
        go_roundw
        case rel => exact ⟨j + 1, a0', a1, a2, a3, a4, c0', c1, c2, c3, c4, by go_num, by omega, hR.out⟩
        case measure => simp [intOf]; omega
    ·
      have hje : j = x.length := by omega
      subst hje
      obtain ⟨hn8, ht8, hE8⟩ := hR8.out.yes trivial
      subst hn8
      subst hE8
      have hrows := hrel.rows
      have hsame := hrel.same
      have houter := hrel.outer
      replace hrows := Lib.hid hrows; replace hsame := Lib.hid hsame; replace houter := Lib.hid houter; replace hrel := Lib.hid hrel
      have s0 := SliceAt.of_owns (Rws.own (R1 := []) hrows.out).2
      have bxc := hsame.out.at b8.out id
      have C21 := fun W (hW : Same wr W) => is_can n (ite3 x (fls n) (tru n)) x.length L8 r8 a8 a0 c8 c0 W (by omega) (by rw [col_not x n hx.out, colF_length, hx.out]) (by rw [col_not x n hx.out, colF_length]) ht8 ((hO8.out.same hsame.out).same hW) (by
        have h := s0.same hW
        rw [col_not x n hx.out]
        rw [hfx.out] at h
        exact h)
      replace s0 := Lib.hid s0; replace bxc := Lib.hid bxc; replace C21 := Lib.hid C21; replace ht8 := Lib.hid ht8
      go_upto_region 21 with fail
      refine comb_r21 (O := _) rfl rfl rfl rfl rfl houter.out bxc.out rfl C21.out ?_
      intro f V1 hf hsV
      replace hsV := Lib.hid hsV
      simp only [fillF, Nat.reduceAdd, hf, List.setIfInBounds_toArray, List.set_cons_zero, List.set_cons_succ]
      clear hf s0 bxc C21
      by_cases hnm : n = m
      · have hb : ((n : Int) != (m : Int)) = false := by simp [hnm]
        have eJ1 : J1 x.length = x.length := by rw [hJ1.out]; exact if_pos hnm
        have hly : y.length = 2 ^ n := by rw [hy.out, hnm]
        obtain ⟨e91, e92, e93⟩ := hR9.out.yes hnm
        obtain ⟨e101, e102, e103⟩ := hR10.out.yes hnm
        obtain ⟨e111, e112, e113⟩ := hR11.out.yes hnm
        subst e91 e93 e101 e103 e111 e113
        have k9 := hsV.out.at (hsame.out.at b9.out id) id
        have k10 := hsV.out.at (hsame.out.at b10.out id) id
        have k11 := hsV.out.at (hsame.out.at b11.out id) id
        have k12 := hsV.out.at (hsame.out.at b12.out id) id
        have ko := hsV.out.at houter.out id
        have hrV := hrows.out.same hsV.out
        have s1 := SliceAt.of_owns (Rws.own (R1 := [_]) hrV).2
        have s2 := SliceAt.of_owns (Rws.own (R1 := [_, _]) hrV).2
        have s3 := SliceAt.of_owns (Rws.own (R1 := [_, _, _]) hrV).2
        have s4 := SliceAt.of_owns (Rws.own (R1 := [_, _, _, _]) (R2 := []) hrV).2
        rw [eJ1] at s1 s2 s3 ko
        have I9 := fun W (hW : Same V1 W) => is_can n (ite3 x y (fls n)) x.length L9 r9 a9 a1 c9 c1 W (by omega) (by rw [col_and x y n hx.out hly, colF_length, hx.out]) (by rw [col_and x y n hx.out hly, colF_length]) e92 (((hO9.out.same hsame.out).same hsV.out).same hW) (by
          have h := s1.same hW
          rw [col_and x y n hx.out hly]
          rw [hfx.out, hfy.out] at h
          exact h)
        have I10 := fun W (hW : Same V1 W) => is_can n (ite3 x (tru n) y) x.length L10 r10 a10 a2 c10 c2 W (by omega) (by rw [col_or x y n hx.out hly, colF_length, hx.out]) (by rw [col_or x y n hx.out hly, colF_length]) e102 (((hO10.out.same hsame.out).same hsV.out).same hW) (by
          have h := s2.same hW
          rw [col_or x y n hx.out hly]
          rw [hfx.out, hfy.out] at h
          exact h)
        have I11 := fun W (hW : Same V1 W) => is_can n (ite3 x (ite3 y (fls n) (tru n)) y) x.length L11 r11 a11 a3 c11 c3 W (by omega) (by rw [col_xor x y n hx.out hly, colF_length, hx.out]) (by rw [col_xor x y n hx.out hly, colF_length]) e112 (((hO11.out.same hsame.out).same hsV.out).same hW) (by
          have h := s3.same hW
          rw [col_xor x y n hx.out hly]
          rw [hfx.out, hfy.out] at h
          exact h)
        have q0 := cell_at k9 0
        have q1 := cell_at k9 1
        have q2 := cell_at k9 2
        have ql := lt_of_heap k9
        have u0 := cell_at ko 1
        have ul := lt_of_heap ko
        replace k9 := Lib.hid k9; replace k10 := Lib.hid k10; replace k11 := Lib.hid k11; replace k12 := Lib.hid k12; replace ko := Lib.hid ko; replace I9 := Lib.hid I9; replace I10 := Lib.hid I10; replace I11 := Lib.hid I11; replace s1 := Lib.hid s1; replace s2 := Lib.hid s2; replace s3 := Lib.hid s3; replace s4 := Lib.hid s4; replace e92 := Lib.hid e92; replace e102 := Lib.hid e102; replace e112 := Lib.hid e112; replace eJ1 := Lib.hid eJ1; replace hly := Lib.hid hly; replace hnm := Lib.hid hnm; replace hrV := Lib.hid hrV
        go_upto_region 25 with fail
        refine comb_r25 (O := _) rfl rfl rfl rfl rfl rfl rfl rfl rfl ko.out k9.out rfl (fun W hW => I9.out W hW) k10.out rfl (fun W hW => I10.out W hW) k11.out rfl (fun W hW => I11.out W hW) ?_
        intro f V4 hf hs4
        replace hs4 := Lib.hid hs4
        simp only [fillF, Nat.reduceAdd, hf, List.setIfInBounds_toArray, List.set_cons_zero, List.set_cons_succ]
        clear hf
        have q := hs4.out.at k12.out id
        have q0 := cell_at q 0
        have q1 := cell_at q 1
        have q2 := cell_at q 2
        have ql := lt_of_heap q
        replace q := Lib.hid q
        by_cases hnk : n = k
        · have hbk : ((n : Int) != (k : Int)) = false := by simp [hnk]
          have eJ2 : J2 x.length = x.length := by rw [hJ2.out]; exact if_pos ⟨hnm.out, hnk⟩
          have hlz : z.length = 2 ^ n := by rw [hz.out, hnk]
          obtain ⟨e121, e122, e123⟩ := hR12.out.yes ⟨hnm.out, hnk⟩
          subst e121 e123
          have ko4 := hs4.out.at ko.out id
          have s4' := s4.out.same hs4.out
          rw [eJ2] at s4' ko4
          have I12 := fun W (hW : Same V4 W) => is_can n (ite3 x y z) x.length L12 r12 a12 a4 c12 c4 W (by omega) (by rw [col_ite x y z (by rw [hx.out, hly.out]) (by rw [hly.out, hlz]), colF_length, hx.out]) (by rw [col_ite x y z (by rw [hx.out, hly.out]) (by rw [hly.out, hlz]), colF_length]) e122 ((((hO12.out.same hsame.out).same hsV.out).same hs4.out).same hW) (by
            have h := s4'.same hW
            rw [col_ite x y z (by rw [hx.out, hly.out]) (by rw [hly.out, hlz])]
            rw [hfx.out, hfy.out, hfz.out] at h
            exact h)
          have u0 := cell_at ko4 4
          have ul := lt_of_heap ko4
          replace hnk := Lib.hid hnk; replace eJ2 := Lib.hid eJ2; replace hlz := Lib.hid hlz; replace e122 := Lib.hid e122; replace ko4 := Lib.hid ko4; replace s4' := Lib.hid s4'; replace I12 := Lib.hid I12
          go_upto_region 29 with fail
          refine comb_r29 (O := _) rfl rfl rfl rfl rfl ko4.out q.out rfl I12.out ?_
          intro f V5 hs5
          have hFin : Same w V5 := (((hw8.out.same hsame.out).same hsV.out).same hs4.out).same hs5
          replace hFin := Lib.hid hFin
          clear hs5 q0 q1 q2 ql u0 ul
          simp only [fillF, Nat.reduceAdd, List.setIfInBounds_toArray, List.set_cons_zero, List.set_cons_succ]
          go_wp2_with fail
          go_ret
          exact ⟨rfl, hFin.out⟩
        · have hbk : ((n : Int) != (k : Int)) = true := by simp; omega
          obtain ⟨e121, e122, e123, e124⟩ := hR12.out.no (fun h => hnk h.2)
          subst e121 e122 e123 e124
          have N12 := fun W (hW : Same V4 W) => none_true a12 c12 W ((((hO12.out.same hsame.out).same hsV.out).same hs4.out).same hW)
          replace hnk := Lib.hid hnk; replace N12 := Lib.hid N12
          go_wp2_with fail
          refine (N12.out _ (Fr.refl _ _)).mono ?_
          rintro e V5 ⟨rfl, hs5⟩
          have hFin : Same w V5 := (((hw8.out.same hsame.out).same hsV.out).same hs4.out).same hs5
          replace hFin := Lib.hid hFin
          clear hs5
          go_wp2_with fail
          go_ret
          exact ⟨rfl, hFin.out⟩
      · have hb : ((n : Int) != (m : Int)) = true := by simp; omega
        obtain ⟨e91, e92, e93, e94⟩ := hR9.out.no hnm
        obtain ⟨e101, e102, e103, e104⟩ := hR10.out.no hnm
        obtain ⟨e111, e112, e113, e114⟩ := hR11.out.no hnm
        obtain ⟨e121, e122, e123, e124⟩ := hR12.out.no (fun h => hnm h.1)
        subst e91 e92 e93 e94 e101 e102 e103 e104 e111 e112 e113 e114 e121 e122 e123 e124
        replace hnm := Lib.hid hnm
        have k9 := hsV.out.at (hsame.out.at b9.out id) id
        have k10 := hsV.out.at (hsame.out.at b10.out id) id
        have k11 := hsV.out.at (hsame.out.at b11.out id) id
        have k12 := hsV.out.at (hsame.out.at b12.out id) id
        have N9 := fun W (hW : Same V1 W) => none_true a9 c9 W (((hO9.out.same hsame.out).same hsV.out).same hW)
        have N10 := fun W (hW : Same V1 W) => none_true a10 c10 W (((hO10.out.same hsame.out).same hsV.out).same hW)
        have N11 := fun W (hW : Same V1 W) => none_true a11 c11 W (((hO11.out.same hsame.out).same hsV.out).same hW)
        have N12 := fun W (hW : Same V1 W) => none_true a12 c12 W (((hO12.out.same hsame.out).same hsV.out).same hW)
        have q0 := cell_at k9 0
        have q1 := cell_at k9 1
        have q2 := cell_at k9 2
        have ql := lt_of_heap k9
        replace k9 := Lib.hid k9; replace k10 := Lib.hid k10; replace k11 := Lib.hid k11; replace k12 := Lib.hid k12; replace N9 := Lib.hid N9; replace N10 := Lib.hid N10; replace N11 := Lib.hid N11; replace N12 := Lib.hid N12
        go_wp2_with fail
        refine (N9.out _ (Fr.refl _ _)).mono ?_
        rintro e V2 ⟨rfl, hs2'⟩
        clear q0 q1 q2 ql
        have q := hs2'.at k10.out id
        have q0 := cell_at q 0
        have q1 := cell_at q 1
        have q2 := cell_at q 2
        have ql := lt_of_heap q
        replace q := Lib.hid q; replace hs2' := Lib.hid hs2'
        go_wp2_with fail
        refine (N10.out _ hs2'.out).mono ?_
        rintro e V3 ⟨rfl, hs3'⟩
        have hs3 := hs2'.out.same hs3'
        clear q0 q1 q2 ql q
        have q := hs3.at k11.out id
        have q0 := cell_at q 0
        have q1 := cell_at q 1
        have q2 := cell_at q 2
        have ql := lt_of_heap q
        replace q := Lib.hid q; replace hs3' := Lib.hid hs3'
        replace hs3 := Lib.hid hs3
        go_wp2_with fail
        refine (N11.out _ hs3.out).mono ?_
        rintro e V4 ⟨rfl, hs4'⟩
        have hs4 := hs3.out.same hs4'
        clear q0 q1 q2 ql q
        have q := hs4.at k12.out id
        have q0 := cell_at q 0
        have q1 := cell_at q 1
        have q2 := cell_at q 2
        have ql := lt_of_heap q
        replace q := Lib.hid q; replace hs4' := Lib.hid hs4'
        replace hs4 := Lib.hid hs4
        go_wp2_with fail
        refine (N12.out _ hs4.out).mono ?_
        rintro e V5 ⟨rfl, hs5'⟩
        have hFin : Same w V5 := (((hw8.out.same hsame.out).same hsV.out).same hs4.out).same hs5'
        replace hFin := Lib.hid hFin
        clear hs5'
        go_wp2_with fail
        go_ret
        exact ⟨rfl, hFin.out⟩
end Go.Proofs.Ytaebjalpebgliaa
