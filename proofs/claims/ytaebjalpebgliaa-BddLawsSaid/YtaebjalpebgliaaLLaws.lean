/- BddLaws: the law's walk. Printed by wip/mklaws.py. -/
import Derived.Test.YtaebjalpebgliaaLawP
import Derived.Test.YtaebjalpebgliaaKnown
namespace Go.Proofs.Ytaebjalpebgliaa
open Go.RowKit
set_option linter.unusedVariables false
set_option linter.unusedSimpArgs false

set_option maxRecDepth 100000 in
set_option maxHeartbeats 8000000 in
theorem bddLaws_any (v b : Int) (hv : 0 ≤ v ∧ v ≤ 255) (hb : 0 ≤ b ∧ b ≤ 4294967295) (v2 b2 : Int) (hv2 : 0 ≤ v2 ∧ v2 ≤ 255) (hb2 : 0 ≤ b2 ∧ b2 ≤ 4294967295) (va : Int) (hva : 0 ≤ va ∧ va ≤ 255) (w : World) :
    Calls Try.prog 9 #[.agg #[.int .u8 v, .int .u32 b], .agg #[.int .u8 v2, .int .u32 b2], .int .u8 va] w fun e w' => e = .returned (.bool true) ∧ Same w w' := by
  obtain ⟨n, hn⟩ : ∃ n : Nat, (n : Int) = v % 6 := ⟨(v % 6).toNat, by omega⟩
  have hn5 : n ≤ 5 := by omega
  have hn10 : n ≤ 10 := by omega
  have hnt : (v % 6).toNat = n := by omega
  have hTX := fun W => ltable_any v b W hv.1 hv.2 hb.1 hb.2
  have hTY := fun W => ltable_any v b2 W hv.1 hv.2 hb2.1 hb2.2
  rw [hnt] at hTX hTY
  clear hnt
  replace hTX := Lib.hid hTX; replace hTY := Lib.hid hTY; replace hn := Lib.hid hn; replace hv := Lib.hid hv; replace hb := Lib.hid hb; replace hv2 := Lib.hid hv2; replace hb2 := Lib.hid hb2; replace hva := Lib.hid hva
  go_enter Try.func9, Try.ntmps9
  go_wp2_with fail
  refine (known_true _).mono ?_
  rintro e w1 ⟨rfl, hs1⟩
  have hw := (show Same w _ from (by repeat (first | exact Fr.refl _ _ | apply Fr.alloc | apply Fr.drewN | apply Fr.drew | apply Fr.undrew | apply Fr.undrewN))).same hs1
  have kf := hs1.at (heap_old (heap_new w _) _) id
  have kg : w1.heap[w.heap.size + 1]? = some (.cells #[.int .u8 v2, .int .u32 b2] 24 (0, 0)) := hs1.at (heap_new_at (by simp) _) id
  have x0 := cell_at kf 0
  have x1 := cell_at kf 1
  have xb := lt_of_heap kf
  have y0 := cell_at kg 0
  have y1 := cell_at kg 1
  have yf := free_at kg 0
  have yb := lt_of_heap kg
  replace hs1 := Lib.hid hs1; replace hw := Lib.hid hw; replace kf := Lib.hid kf; replace kg := Lib.hid kg
  go_wp2_with fail
  refine (hTX.out _).mono ?_
  rintro e w2 ⟨x, bx, hx, rfl, hBx, hbx, hs2⟩
  have kg2 : w2.heap[w.heap.size + 1]? = some (.cells #[.int .u8 v, .int .u32 b2] 24 (0, 0)) := hs2.at (by rw [heap_setCell_same kg.out]; rfl) id
  have hw2 : Same w w2 := (hw.out.setCell _ _ (fun h => by simp only at h; omega)).same hs2
  clear x0 x1 xb y0 y1 yf yb
  have y0 := cell_at kg2 0
  have y1 := cell_at kg2 1
  have yb := lt_of_heap kg2
  clear hw
  replace hs2 := Lib.hid hs2; replace hw2 := Lib.hid hw2; replace kg2 := Lib.hid kg2; replace hBx := Lib.hid hBx; replace hbx := Lib.hid hbx; replace hx := Lib.hid hx
  go_wp2_with fail
  refine (hTY.out _).mono ?_
  rintro e w3 ⟨y, by', hy, rfl, hBy, hby, hs3⟩
  have hBx3 := hBx.out.fr hs3 id
  have hw := hw2.out.same hs3
  have hp : 2 ^ n ≤ 32 := Nat.pow_le_pow_right (by omega) hn5
  have hxl : x.length ≤ 1000 := by rw [hx.out]; omega
  have hyl : y.length ≤ 1000 := by rw [hy]; omega
  clear y0 y1 yb hp hw2
  obtain ⟨OX, rX, TX⟩ : ∃ O r, IsTab n x O r := ⟨_, _, IsTab.of hn10 hx.out⟩
  obtain ⟨OY, rY, TY⟩ : ∃ O r, IsTab n y O r := ⟨_, _, IsTab.of hn10 hy⟩
  obtain ⟨ON, rN, TN⟩ : ∃ O r, IsTab n (ite3 x (fls n) (tru n)) O r := ⟨_, _, IsTab.of hn10 (law_not hx.out)⟩
  obtain ⟨OM, rM, TM⟩ : ∃ O r, IsTab n (ite3 y (fls n) (tru n)) O r := ⟨_, _, IsTab.of hn10 (law_not hy)⟩
  obtain ⟨OA, rA, TA⟩ : ∃ O r, IsTab n (ite3 x y (fls n)) O r := ⟨_, _, IsTab.of hn10 (law_and hx.out hy)⟩
  obtain ⟨OL, rL, TL⟩ : ∃ O r, IsTab n (ite3 (ite3 x y (fls n)) (fls n) (tru n)) O r := ⟨_, _, IsTab.of hn10 (law_not (law_and hx.out hy))⟩
  replace hs3 := Lib.hid hs3; replace hw := Lib.hid hw; replace hBx3 := Lib.hid hBx3; replace hBy := Lib.hid hBy; replace hby := Lib.hid hby; replace hy := Lib.hid hy; replace TX := Lib.hid TX; replace TY := Lib.hid TY; replace TN := Lib.hid TN; replace TM := Lib.hid TM; replace TA := Lib.hid TA; replace TL := Lib.hid TL
  go_wp2_with fail
  refine (from_is hn10 TX.out (hBx3.out.fr (show Same w3 _ from (by repeat (first | exact Fr.refl _ _ | apply Fr.undrew | apply Fr.undrewN | apply Fr.drew | apply Fr.drewN | apply Fr.alloc))) id) hxl).mono ?_
  rintro e w4 ⟨a_a, c_a, rfl, hO_a, hs4⟩
  have h4 : Same w3 w4 := (show Same w3 _ from (by repeat (first | exact Fr.refl _ _ | apply Fr.undrew | apply Fr.undrewN | apply Fr.drew | apply Fr.drewN | apply Fr.alloc))).same hs4
  replace hBx3 := Lib.hid (hBx3.out.fr h4 id)
  replace hBy := Lib.hid (hBy.out.fr h4 id)
  replace hw := Lib.hid (hw.out.same h4)
  replace hs4 := Lib.hid hs4; replace h4 := Lib.hid h4
  replace hO_a := Lib.hid hO_a
  go_wp2_with fail
  refine (from_is hn10 TY.out (hBy.out.fr (show Same w4 _ from (by repeat (first | exact Fr.refl _ _ | apply Fr.undrew | apply Fr.undrewN | apply Fr.drew | apply Fr.drewN | apply Fr.alloc))) id) hyl).mono ?_
  rintro e w5 ⟨a_b, c_b, rfl, hO_b, hs5⟩
  have h5 : Same w4 w5 := (show Same w4 _ from (by repeat (first | exact Fr.refl _ _ | apply Fr.undrew | apply Fr.undrewN | apply Fr.drew | apply Fr.drewN | apply Fr.alloc))).same hs5
  have k_a : BoxAt w5 w4.heap.size n a_a OX c_a (rX) := ⟨by first | exact hs5.at (heap_new w4 _) id | exact hs5.at (heap_old (heap_new w4 _) _) id, hO_a.out.same h5⟩
  replace k_a := Lib.hid k_a
  replace hBx3 := Lib.hid (hBx3.out.fr h5 id)
  replace hBy := Lib.hid (hBy.out.fr h5 id)
  replace hw := Lib.hid (hw.out.same h5)
  replace hs5 := Lib.hid hs5; replace h5 := Lib.hid h5
  replace hO_b := Lib.hid hO_b
  have f_a_0 := cell_at k_a.out.1 0
  have f_a_1 := cell_at k_a.out.1 1
  have f_a_2 := cell_at k_a.out.1 2
  have f_a_b := lt_of_heap k_a.out.1
  go_wp2_with fail
  refine (not_is hn10 TX.out rfl TN.out (k_a.out.2.same (by repeat (first | exact Fr.refl _ _ | apply Fr.undrew | apply Fr.undrewN | apply Fr.drew | apply Fr.drewN | apply Fr.alloc)))).mono ?_
  rintro e w6 ⟨a_na, c_na, rfl, hO_na, hs6⟩
  have h6 : Same w5 w6 := (show Same w5 _ from (by repeat (first | exact Fr.refl _ _ | apply Fr.undrew | apply Fr.undrewN | apply Fr.drew | apply Fr.drewN | apply Fr.alloc))).same hs6
  have k_b : BoxAt w6 w5.heap.size n a_b OY c_b (rY) := ⟨by first | exact hs6.at (heap_new w5 _) id | exact hs6.at (heap_old (heap_new w5 _) _) id, hO_b.out.same h6⟩
  replace k_b := Lib.hid k_b
  replace k_a := Lib.hid (k_a.out.same h6)
  replace hw := Lib.hid (hw.out.same h6)
  clear f_a_0 f_a_1 f_a_2 f_a_b
  replace hs6 := Lib.hid hs6; replace h6 := Lib.hid h6
  replace hO_na := Lib.hid hO_na
  have f_b_0 := cell_at k_b.out.1 0
  have f_b_1 := cell_at k_b.out.1 1
  have f_b_2 := cell_at k_b.out.1 2
  have f_b_b := lt_of_heap k_b.out.1
  go_wp2_with fail
  refine (not_is hn10 TY.out rfl TM.out (k_b.out.2.same (by repeat (first | exact Fr.refl _ _ | apply Fr.undrew | apply Fr.undrewN | apply Fr.drew | apply Fr.drewN | apply Fr.alloc)))).mono ?_
  rintro e w7 ⟨a_nb, c_nb, rfl, hO_nb, hs7⟩
  have h7 : Same w6 w7 := (show Same w6 _ from (by repeat (first | exact Fr.refl _ _ | apply Fr.undrew | apply Fr.undrewN | apply Fr.drew | apply Fr.drewN | apply Fr.alloc))).same hs7
  have k_na : BoxAt w7 w6.heap.size n a_na ON c_na (rN) := ⟨by first | exact hs7.at (heap_new w6 _) id | exact hs7.at (heap_old (heap_new w6 _) _) id, hO_na.out.same h7⟩
  replace k_na := Lib.hid k_na
  replace k_a := Lib.hid (k_a.out.same h7)
  replace k_b := Lib.hid (k_b.out.same h7)
  replace hw := Lib.hid (hw.out.same h7)
  clear f_b_0 f_b_1 f_b_2 f_b_b
  replace hs7 := Lib.hid hs7; replace h7 := Lib.hid h7
  replace hO_nb := Lib.hid hO_nb
  have f_a_0 := cell_at k_a.out.1 0
  have f_a_1 := cell_at k_a.out.1 1
  have f_a_2 := cell_at k_a.out.1 2
  have f_a_b := lt_of_heap k_a.out.1
  have f_b_0 := cell_at k_b.out.1 0
  have f_b_1 := cell_at k_b.out.1 1
  have f_b_2 := cell_at k_b.out.1 2
  have f_b_b := lt_of_heap k_b.out.1
  go_wp2_with fail
  refine (and_is hn10 TX.out TY.out rfl TA.out (k_a.out.2.same (by repeat (first | exact Fr.refl _ _ | apply Fr.undrew | apply Fr.undrewN | apply Fr.drew | apply Fr.drewN | apply Fr.alloc))) (k_b.out.2.same (by repeat (first | exact Fr.refl _ _ | apply Fr.undrew | apply Fr.undrewN | apply Fr.drew | apply Fr.drewN | apply Fr.alloc)))).mono ?_
  rintro e w8 ⟨a_an, c_an, rfl, hO_an, hs8⟩
  have h8 : Same w7 w8 := (show Same w7 _ from (by repeat (first | exact Fr.refl _ _ | apply Fr.undrew | apply Fr.undrewN | apply Fr.drew | apply Fr.drewN | apply Fr.alloc))).same hs8
  have k_nb : BoxAt w8 w7.heap.size n a_nb OM c_nb (rM) := ⟨by first | exact hs8.at (heap_new w7 _) id | exact hs8.at (heap_old (heap_new w7 _) _) id, hO_nb.out.same h8⟩
  replace k_nb := Lib.hid k_nb
  replace k_a := Lib.hid (k_a.out.same h8)
  replace k_b := Lib.hid (k_b.out.same h8)
  replace k_na := Lib.hid (k_na.out.same h8)
  replace hw := Lib.hid (hw.out.same h8)
  clear f_a_0 f_a_1 f_a_2 f_a_b f_b_0 f_b_1 f_b_2 f_b_b
  replace hs8 := Lib.hid hs8; replace h8 := Lib.hid h8
  replace hO_an := Lib.hid hO_an
  have f_na_0 := cell_at k_na.out.1 0
  have f_na_1 := cell_at k_na.out.1 1
  have f_na_2 := cell_at k_na.out.1 2
  have f_na_b := lt_of_heap k_na.out.1
  have f_nb_0 := cell_at k_nb.out.1 0
  have f_nb_1 := cell_at k_nb.out.1 1
  have f_nb_2 := cell_at k_nb.out.1 2
  have f_nb_b := lt_of_heap k_nb.out.1
  go_wp2_with fail
  refine (or_is hn10 TN.out TM.out (law1 hx.out hy.out) TL.out (k_na.out.2.same (by repeat (first | exact Fr.refl _ _ | apply Fr.undrew | apply Fr.undrewN | apply Fr.drew | apply Fr.drewN | apply Fr.alloc))) (k_nb.out.2.same (by repeat (first | exact Fr.refl _ _ | apply Fr.undrew | apply Fr.undrewN | apply Fr.drew | apply Fr.drewN | apply Fr.alloc)))).mono ?_
  rintro e w9 ⟨a_or, c_or, rfl, hO_or, hs9⟩
  have h9 : Same w8 w9 := (show Same w8 _ from (by repeat (first | exact Fr.refl _ _ | apply Fr.undrew | apply Fr.undrewN | apply Fr.drew | apply Fr.drewN | apply Fr.alloc))).same hs9
  have k_an : BoxAt w9 w8.heap.size n a_an OA c_an (rA) := ⟨by first | exact hs9.at (heap_new w8 _) id | exact hs9.at (heap_old (heap_new w8 _) _) id, hO_an.out.same h9⟩
  replace k_an := Lib.hid k_an
  replace k_a := Lib.hid (k_a.out.same h9)
  replace k_b := Lib.hid (k_b.out.same h9)
  replace k_na := Lib.hid (k_na.out.same h9)
  replace k_nb := Lib.hid (k_nb.out.same h9)
  replace hw := Lib.hid (hw.out.same h9)
  clear f_na_0 f_na_1 f_na_2 f_na_b f_nb_0 f_nb_1 f_nb_2 f_nb_b
  replace hs9 := Lib.hid hs9; replace h9 := Lib.hid h9
  replace hO_or := Lib.hid hO_or
  have f_an_0 := cell_at k_an.out.1 0
  have f_an_1 := cell_at k_an.out.1 1
  have f_an_2 := cell_at k_an.out.1 2
  have f_an_b := lt_of_heap k_an.out.1
  go_wp2_with fail
  refine (not_is hn10 TA.out rfl TL.out (k_an.out.2.same (by repeat (first | exact Fr.refl _ _ | apply Fr.undrew | apply Fr.undrewN | apply Fr.drew | apply Fr.drewN | apply Fr.alloc)))).mono ?_
  rintro e w10 ⟨a_le, c_le, rfl, hO_le, hs10⟩
  have h10 : Same w9 w10 := (show Same w9 _ from (by repeat (first | exact Fr.refl _ _ | apply Fr.undrew | apply Fr.undrewN | apply Fr.drew | apply Fr.drewN | apply Fr.alloc))).same hs10
  have k_or : BoxAt w10 w9.heap.size n a_or OL c_or (rL) := ⟨by first | exact hs10.at (heap_new w9 _) id | exact hs10.at (heap_old (heap_new w9 _) _) id, hO_or.out.same h10⟩
  replace k_or := Lib.hid k_or
  replace k_a := Lib.hid (k_a.out.same h10)
  replace k_b := Lib.hid (k_b.out.same h10)
  replace k_na := Lib.hid (k_na.out.same h10)
  replace k_nb := Lib.hid (k_nb.out.same h10)
  replace k_an := Lib.hid (k_an.out.same h10)
  replace hw := Lib.hid (hw.out.same h10)
  clear f_an_0 f_an_1 f_an_2 f_an_b
  replace hs10 := Lib.hid hs10; replace h10 := Lib.hid h10
  replace hO_le := Lib.hid hO_le
  have f_a_0 := cell_at k_a.out.1 0
  have f_a_1 := cell_at k_a.out.1 1
  have f_a_2 := cell_at k_a.out.1 2
  have f_a_b := lt_of_heap k_a.out.1
  have f_an_0 := cell_at k_an.out.1 0
  have f_an_1 := cell_at k_an.out.1 1
  have f_an_2 := cell_at k_an.out.1 2
  have f_an_b := lt_of_heap k_an.out.1
  go_wp2_with fail
  refine (or_is hn10 TX.out TA.out (law2 hx.out hy.out) TX.out (k_a.out.2.same (by repeat (first | exact Fr.refl _ _ | apply Fr.undrew | apply Fr.undrewN | apply Fr.drew | apply Fr.drewN | apply Fr.alloc))) (k_an.out.2.same (by repeat (first | exact Fr.refl _ _ | apply Fr.undrew | apply Fr.undrewN | apply Fr.drew | apply Fr.drewN | apply Fr.alloc)))).mono ?_
  rintro e w11 ⟨a_ab, c_ab, rfl, hO_ab, hs11⟩
  have h11 : Same w10 w11 := (show Same w10 _ from (by repeat (first | exact Fr.refl _ _ | apply Fr.undrew | apply Fr.undrewN | apply Fr.drew | apply Fr.drewN | apply Fr.alloc))).same hs11
  have k_le : BoxAt w11 w10.heap.size n a_le OL c_le (rL) := ⟨by first | exact hs11.at (heap_new w10 _) id | exact hs11.at (heap_old (heap_new w10 _) _) id, hO_le.out.same h11⟩
  replace k_le := Lib.hid k_le
  replace k_a := Lib.hid (k_a.out.same h11)
  replace k_b := Lib.hid (k_b.out.same h11)
  replace k_na := Lib.hid (k_na.out.same h11)
  replace k_nb := Lib.hid (k_nb.out.same h11)
  replace k_an := Lib.hid (k_an.out.same h11)
  replace k_or := Lib.hid (k_or.out.same h11)
  replace hw := Lib.hid (hw.out.same h11)
  clear f_a_0 f_a_1 f_a_2 f_a_b f_an_0 f_an_1 f_an_2 f_an_b
  replace hs11 := Lib.hid hs11; replace h11 := Lib.hid h11
  replace hO_ab := Lib.hid hO_ab
  have f_na_0 := cell_at k_na.out.1 0
  have f_na_1 := cell_at k_na.out.1 1
  have f_na_2 := cell_at k_na.out.1 2
  have f_na_b := lt_of_heap k_na.out.1
  go_wp2_with fail
  refine (not_is hn10 TN.out (law3 hx.out) TX.out (k_na.out.2.same (by repeat (first | exact Fr.refl _ _ | apply Fr.undrew | apply Fr.undrewN | apply Fr.drew | apply Fr.drewN | apply Fr.alloc)))).mono ?_
  rintro e w12 ⟨a_tw, c_tw, rfl, hO_tw, hs12⟩
  have h12 : Same w11 w12 := (show Same w11 _ from (by repeat (first | exact Fr.refl _ _ | apply Fr.undrew | apply Fr.undrewN | apply Fr.drew | apply Fr.drewN | apply Fr.alloc))).same hs12
  have k_ab : BoxAt w12 w11.heap.size n a_ab OX c_ab (rX) := ⟨by first | exact hs12.at (heap_new w11 _) id | exact hs12.at (heap_old (heap_new w11 _) _) id, hO_ab.out.same h12⟩
  replace k_ab := Lib.hid k_ab
  replace k_a := Lib.hid (k_a.out.same h12)
  replace k_b := Lib.hid (k_b.out.same h12)
  replace k_na := Lib.hid (k_na.out.same h12)
  replace k_nb := Lib.hid (k_nb.out.same h12)
  replace k_an := Lib.hid (k_an.out.same h12)
  replace k_or := Lib.hid (k_or.out.same h12)
  replace k_le := Lib.hid (k_le.out.same h12)
  replace hw := Lib.hid (hw.out.same h12)
  clear f_na_0 f_na_1 f_na_2 f_na_b
  replace hs12 := Lib.hid hs12; replace h12 := Lib.hid h12
  replace hO_tw := Lib.hid hO_tw
  have f_le_0 := cell_at k_le.out.1 0
  have f_le_1 := cell_at k_le.out.1 1
  have f_le_2 := cell_at k_le.out.1 2
  have f_le_b := lt_of_heap k_le.out.1
  have f_or_0 := cell_at k_or.out.1 0
  have f_or_1 := cell_at k_or.out.1 1
  have f_or_2 := cell_at k_or.out.1 2
  have f_or_b := lt_of_heap k_or.out.1
  go_wp2_with fail
  refine (eq_is (Nat.le_trans TL.out.short (by omega)) (k_le.out.2.same (by repeat (first | exact Fr.refl _ _ | apply Fr.undrew | apply Fr.undrewN | apply Fr.drew | apply Fr.drewN | apply Fr.alloc))) (k_or.out.2.same (by repeat (first | exact Fr.refl _ _ | apply Fr.undrew | apply Fr.undrewN | apply Fr.drew | apply Fr.drewN | apply Fr.alloc)))).mono ?_
  rintro e w13 ⟨rfl, hs13⟩
  have h13 : Same w12 w13 := (show Same w12 _ from (by repeat (first | exact Fr.refl _ _ | apply Fr.undrew | apply Fr.undrewN | apply Fr.drew | apply Fr.drewN | apply Fr.alloc))).same hs13
  have k_tw : BoxAt w13 w12.heap.size n a_tw OX c_tw (rX) := ⟨by first | exact hs13.at (heap_new w12 _) id | exact hs13.at (heap_old (heap_new w12 _) _) id, hO_tw.out.same h13⟩
  replace k_tw := Lib.hid k_tw
  replace k_a := Lib.hid (k_a.out.same h13)
  replace k_b := Lib.hid (k_b.out.same h13)
  replace k_na := Lib.hid (k_na.out.same h13)
  replace k_nb := Lib.hid (k_nb.out.same h13)
  replace k_an := Lib.hid (k_an.out.same h13)
  replace k_or := Lib.hid (k_or.out.same h13)
  replace k_le := Lib.hid (k_le.out.same h13)
  replace k_ab := Lib.hid (k_ab.out.same h13)
  replace hw := Lib.hid (hw.out.same h13)
  clear f_le_0 f_le_1 f_le_2 f_le_b f_or_0 f_or_1 f_or_2 f_or_b
  replace hs13 := Lib.hid hs13; replace h13 := Lib.hid h13
  have f_ab_0 := cell_at k_ab.out.1 0
  have f_ab_1 := cell_at k_ab.out.1 1
  have f_ab_2 := cell_at k_ab.out.1 2
  have f_ab_b := lt_of_heap k_ab.out.1
  have f_a_0 := cell_at k_a.out.1 0
  have f_a_1 := cell_at k_a.out.1 1
  have f_a_2 := cell_at k_a.out.1 2
  have f_a_b := lt_of_heap k_a.out.1
  go_wp2_with fail
  refine (eq_is (Nat.le_trans TX.out.short (by omega)) (k_ab.out.2.same (by repeat (first | exact Fr.refl _ _ | apply Fr.undrew | apply Fr.undrewN | apply Fr.drew | apply Fr.drewN | apply Fr.alloc))) (k_a.out.2.same (by repeat (first | exact Fr.refl _ _ | apply Fr.undrew | apply Fr.undrewN | apply Fr.drew | apply Fr.drewN | apply Fr.alloc)))).mono ?_
  rintro e w14 ⟨rfl, hs14⟩
  have h14 : Same w13 w14 := (show Same w13 _ from (by repeat (first | exact Fr.refl _ _ | apply Fr.undrew | apply Fr.undrewN | apply Fr.drew | apply Fr.drewN | apply Fr.alloc))).same hs14
  replace k_a := Lib.hid (k_a.out.same h14)
  replace k_b := Lib.hid (k_b.out.same h14)
  replace k_na := Lib.hid (k_na.out.same h14)
  replace k_nb := Lib.hid (k_nb.out.same h14)
  replace k_an := Lib.hid (k_an.out.same h14)
  replace k_or := Lib.hid (k_or.out.same h14)
  replace k_le := Lib.hid (k_le.out.same h14)
  replace k_ab := Lib.hid (k_ab.out.same h14)
  replace k_tw := Lib.hid (k_tw.out.same h14)
  replace hw := Lib.hid (hw.out.same h14)
  clear f_ab_0 f_ab_1 f_ab_2 f_ab_b f_a_0 f_a_1 f_a_2 f_a_b
  replace hs14 := Lib.hid hs14; replace h14 := Lib.hid h14
  have f_tw_0 := cell_at k_tw.out.1 0
  have f_tw_1 := cell_at k_tw.out.1 1
  have f_tw_2 := cell_at k_tw.out.1 2
  have f_tw_b := lt_of_heap k_tw.out.1
  have f_a_0 := cell_at k_a.out.1 0
  have f_a_1 := cell_at k_a.out.1 1
  have f_a_2 := cell_at k_a.out.1 2
  have f_a_b := lt_of_heap k_a.out.1
  go_wp2_with fail
  refine (eq_is (Nat.le_trans TX.out.short (by omega)) (k_tw.out.2.same (by repeat (first | exact Fr.refl _ _ | apply Fr.undrew | apply Fr.undrewN | apply Fr.drew | apply Fr.drewN | apply Fr.alloc))) (k_a.out.2.same (by repeat (first | exact Fr.refl _ _ | apply Fr.undrew | apply Fr.undrewN | apply Fr.drew | apply Fr.drewN | apply Fr.alloc)))).mono ?_
  rintro e w15 ⟨rfl, hs15⟩
  have h15 : Same w14 w15 := (show Same w14 _ from (by repeat (first | exact Fr.refl _ _ | apply Fr.undrew | apply Fr.undrewN | apply Fr.drew | apply Fr.drewN | apply Fr.alloc))).same hs15
  replace k_a := Lib.hid (k_a.out.same h15)
  replace k_b := Lib.hid (k_b.out.same h15)
  replace k_na := Lib.hid (k_na.out.same h15)
  replace k_nb := Lib.hid (k_nb.out.same h15)
  replace k_an := Lib.hid (k_an.out.same h15)
  replace k_or := Lib.hid (k_or.out.same h15)
  replace k_le := Lib.hid (k_le.out.same h15)
  replace k_ab := Lib.hid (k_ab.out.same h15)
  replace k_tw := Lib.hid (k_tw.out.same h15)
  replace hw := Lib.hid (hw.out.same h15)
  clear f_tw_0 f_tw_1 f_tw_2 f_tw_b f_a_0 f_a_1 f_a_2 f_a_b
  replace hs15 := Lib.hid hs15; replace h15 := Lib.hid h15
  have f_an_0 := cell_at k_an.out.1 0
  have f_an_1 := cell_at k_an.out.1 1
  have f_an_2 := cell_at k_an.out.1 2
  have f_an_b := lt_of_heap k_an.out.1
  go_wp2_with fail
  refine (chk_is TA.out (k_an.out.2.same (by repeat (first | exact Fr.refl _ _ | apply Fr.undrew | apply Fr.undrewN | apply Fr.drew | apply Fr.drewN | apply Fr.alloc)))).mono ?_
  rintro e w16 ⟨rfl, hs16⟩
  have h16 : Same w15 w16 := (show Same w15 _ from (by repeat (first | exact Fr.refl _ _ | apply Fr.undrew | apply Fr.undrewN | apply Fr.drew | apply Fr.drewN | apply Fr.alloc))).same hs16
  replace k_a := Lib.hid (k_a.out.same h16)
  replace k_b := Lib.hid (k_b.out.same h16)
  replace k_na := Lib.hid (k_na.out.same h16)
  replace k_nb := Lib.hid (k_nb.out.same h16)
  replace k_an := Lib.hid (k_an.out.same h16)
  replace k_or := Lib.hid (k_or.out.same h16)
  replace k_le := Lib.hid (k_le.out.same h16)
  replace k_ab := Lib.hid (k_ab.out.same h16)
  replace k_tw := Lib.hid (k_tw.out.same h16)
  replace hw := Lib.hid (hw.out.same h16)
  clear f_an_0 f_an_1 f_an_2 f_an_b
  replace hs16 := Lib.hid hs16; replace h16 := Lib.hid h16
  by_cases hn0 : n = 0
  · have hn1 : (n : Int) = 0 := by omega
    have hn2 : ((n : Int) == 0) = true := by simpa using hn0
    go_wp2_with fail
    go_ret
    exact ⟨(by first | rfl | simp), hw.out⟩
  have hn1 : ¬ (n : Int) = 0 := by omega
  have hn2 : ((n : Int) == 0) = false := by simpa using hn0
  have hmt : (wrap64 va).tmod (n : Int) = va % (n : Int) := by rw [IntWalk.wrap64_in va (by have := hva.out; omega)]; exact Int.tmod_eq_emod_of_nonneg hva.out.1
  have hme1 : 0 ≤ va % (n : Int) := Int.emod_nonneg _ hn1
  have hme2 : va % (n : Int) < n := Int.emod_lt_of_pos _ (by omega)
  obtain ⟨u, hu⟩ : ∃ u : Nat, va % (n : Int) = u := ⟨(va % (n : Int)).toNat, by omega⟩
  have hun : u < n := by omega
  rw [hu] at hmt
  obtain ⟨OW, rW, TW⟩ : ∃ O r, IsTab n (oneT (pickB false) n u x) O r := ⟨_, _, IsTab.of hn10 (oneT_length _ _ _ _)⟩
  obtain ⟨OH, rH, TH⟩ : ∃ O r, IsTab n (oneT (pickB true) n u x) O r := ⟨_, _, IsTab.of hn10 (oneT_length _ _ _ _)⟩
  obtain ⟨OS, rS, TS⟩ : ∃ O r, IsTab n (oneT (qOp false) n u x) O r := ⟨_, _, IsTab.of hn10 (oneT_length _ _ _ _)⟩
  obtain ⟨OZ, rZ, TZ⟩ : ∃ O r, IsTab n (oneT (qOp true) n u (ite3 x (fls n) (tru n))) O r := ⟨_, _, IsTab.of hn10 (oneT_length _ _ _ _)⟩
  have TQ := var_tab hn10 hun
  clear hme1 hme2
  obtain ⟨OQ, hOQ⟩ : ∃ O, O = [((u : Int), (0 : Int), (1 : Int))] := ⟨_, rfl⟩
  have VAR := fun W => var_is hn10 u hun W
  rw [← hOQ] at TQ VAR
  replace hmt := Lib.hid hmt; replace hu := Lib.hid hu; replace hun := Lib.hid hun; replace TW := Lib.hid TW; replace TH := Lib.hid TH; replace TS := Lib.hid TS; replace TZ := Lib.hid TZ; replace TQ := Lib.hid TQ; replace VAR := Lib.hid VAR; replace hOQ := Lib.hid hOQ
  go_wp2_with fail
  rw [hmt.out]
  refine (VAR.out _).mono ?_
  rintro e w17 ⟨a_q, c_q, rfl, hO_q, hs17⟩
  have h17 : Same w16 w17 := (show Same w16 _ from (by repeat (first | exact Fr.refl _ _ | apply Fr.undrew | apply Fr.undrewN | apply Fr.drew | apply Fr.drewN | apply Fr.alloc))).same hs17
  replace k_a := Lib.hid (k_a.out.same h17)
  replace k_b := Lib.hid (k_b.out.same h17)
  replace k_na := Lib.hid (k_na.out.same h17)
  replace k_nb := Lib.hid (k_nb.out.same h17)
  replace k_an := Lib.hid (k_an.out.same h17)
  replace k_or := Lib.hid (k_or.out.same h17)
  replace k_le := Lib.hid (k_le.out.same h17)
  replace k_ab := Lib.hid (k_ab.out.same h17)
  replace k_tw := Lib.hid (k_tw.out.same h17)
  replace hw := Lib.hid (hw.out.same h17)
  replace hs17 := Lib.hid hs17; replace h17 := Lib.hid h17
  replace hO_q := Lib.hid hO_q
  have f_a_0 := cell_at k_a.out.1 0
  have f_a_1 := cell_at k_a.out.1 1
  have f_a_2 := cell_at k_a.out.1 2
  have f_a_b := lt_of_heap k_a.out.1
  go_wp2_with fail
  refine (restr_is hn10 TX.out u hun.out false rfl TW.out (k_a.out.2.same (by repeat (first | exact Fr.refl _ _ | apply Fr.undrew | apply Fr.undrewN | apply Fr.drew | apply Fr.drewN | apply Fr.alloc)))).mono ?_
  rintro e w18 ⟨a_lo, c_lo, rfl, hO_lo, hs18⟩
  have h18 : Same w17 w18 := (show Same w17 _ from (by repeat (first | exact Fr.refl _ _ | apply Fr.undrew | apply Fr.undrewN | apply Fr.drew | apply Fr.drewN | apply Fr.alloc))).same hs18
  have k_q : BoxAt w18 w17.heap.size n a_q OQ c_q (2) := ⟨by first | exact hs18.at (heap_new w17 _) id | exact hs18.at (heap_old (heap_new w17 _) _) id, hO_q.out.same h18⟩
  replace k_q := Lib.hid k_q
  replace k_a := Lib.hid (k_a.out.same h18)
  replace k_b := Lib.hid (k_b.out.same h18)
  replace k_na := Lib.hid (k_na.out.same h18)
  replace k_nb := Lib.hid (k_nb.out.same h18)
  replace k_an := Lib.hid (k_an.out.same h18)
  replace k_or := Lib.hid (k_or.out.same h18)
  replace k_le := Lib.hid (k_le.out.same h18)
  replace k_ab := Lib.hid (k_ab.out.same h18)
  replace k_tw := Lib.hid (k_tw.out.same h18)
  replace hw := Lib.hid (hw.out.same h18)
  clear f_a_0 f_a_1 f_a_2 f_a_b
  replace hs18 := Lib.hid hs18; replace h18 := Lib.hid h18
  replace hO_lo := Lib.hid hO_lo
  have f_a_0 := cell_at k_a.out.1 0
  have f_a_1 := cell_at k_a.out.1 1
  have f_a_2 := cell_at k_a.out.1 2
  have f_a_b := lt_of_heap k_a.out.1
  go_wp2_with fail
  refine (restr_is hn10 TX.out u hun.out true rfl TH.out (k_a.out.2.same (by repeat (first | exact Fr.refl _ _ | apply Fr.undrew | apply Fr.undrewN | apply Fr.drew | apply Fr.drewN | apply Fr.alloc)))).mono ?_
  rintro e w19 ⟨a_hi, c_hi, rfl, hO_hi, hs19⟩
  have h19 : Same w18 w19 := (show Same w18 _ from (by repeat (first | exact Fr.refl _ _ | apply Fr.undrew | apply Fr.undrewN | apply Fr.drew | apply Fr.drewN | apply Fr.alloc))).same hs19
  have k_lo : BoxAt w19 w18.heap.size n a_lo OW c_lo (rW) := ⟨by first | exact hs19.at (heap_new w18 _) id | exact hs19.at (heap_old (heap_new w18 _) _) id, hO_lo.out.same h19⟩
  replace k_lo := Lib.hid k_lo
  replace k_a := Lib.hid (k_a.out.same h19)
  replace k_b := Lib.hid (k_b.out.same h19)
  replace k_na := Lib.hid (k_na.out.same h19)
  replace k_nb := Lib.hid (k_nb.out.same h19)
  replace k_an := Lib.hid (k_an.out.same h19)
  replace k_or := Lib.hid (k_or.out.same h19)
  replace k_le := Lib.hid (k_le.out.same h19)
  replace k_ab := Lib.hid (k_ab.out.same h19)
  replace k_tw := Lib.hid (k_tw.out.same h19)
  replace k_q := Lib.hid (k_q.out.same h19)
  replace hw := Lib.hid (hw.out.same h19)
  clear f_a_0 f_a_1 f_a_2 f_a_b
  replace hs19 := Lib.hid hs19; replace h19 := Lib.hid h19
  replace hO_hi := Lib.hid hO_hi
  have f_q_0 := cell_at k_q.out.1 0
  have f_q_1 := cell_at k_q.out.1 1
  have f_q_2 := cell_at k_q.out.1 2
  have f_q_b := lt_of_heap k_q.out.1
  have f_lo_0 := cell_at k_lo.out.1 0
  have f_lo_1 := cell_at k_lo.out.1 1
  have f_lo_2 := cell_at k_lo.out.1 2
  have f_lo_b := lt_of_heap k_lo.out.1
  go_wp2_with fail
  refine (ite_is hn10 TQ.out TH.out TW.out (law4 hx.out) TX.out (k_q.out.2.same (by repeat (first | exact Fr.refl _ _ | apply Fr.undrew | apply Fr.undrewN | apply Fr.drew | apply Fr.drewN | apply Fr.alloc))) (hO_hi.out.same (by repeat (first | exact Fr.refl _ _ | apply Fr.undrew | apply Fr.undrewN | apply Fr.drew | apply Fr.drewN | apply Fr.alloc))) (k_lo.out.2.same (by repeat (first | exact Fr.refl _ _ | apply Fr.undrew | apply Fr.undrewN | apply Fr.drew | apply Fr.drewN | apply Fr.alloc)))).mono ?_
  rintro e w20 ⟨a_ag, c_ag, rfl, hO_ag, hs20⟩
  have h20 : Same w19 w20 := (show Same w19 _ from (by repeat (first | exact Fr.refl _ _ | apply Fr.undrew | apply Fr.undrewN | apply Fr.drew | apply Fr.drewN | apply Fr.alloc))).same hs20
  have k_hi : BoxAt w20 w19.heap.size n a_hi OH c_hi (rH) := ⟨by first | exact hs20.at (heap_new w19 _) id | exact hs20.at (heap_old (heap_new w19 _) _) id, hO_hi.out.same h20⟩
  replace k_hi := Lib.hid k_hi
  replace k_a := Lib.hid (k_a.out.same h20)
  replace k_b := Lib.hid (k_b.out.same h20)
  replace k_na := Lib.hid (k_na.out.same h20)
  replace k_nb := Lib.hid (k_nb.out.same h20)
  replace k_an := Lib.hid (k_an.out.same h20)
  replace k_or := Lib.hid (k_or.out.same h20)
  replace k_le := Lib.hid (k_le.out.same h20)
  replace k_ab := Lib.hid (k_ab.out.same h20)
  replace k_tw := Lib.hid (k_tw.out.same h20)
  replace k_q := Lib.hid (k_q.out.same h20)
  replace k_lo := Lib.hid (k_lo.out.same h20)
  replace hw := Lib.hid (hw.out.same h20)
  clear f_q_0 f_q_1 f_q_2 f_q_b f_lo_0 f_lo_1 f_lo_2 f_lo_b
  replace hs20 := Lib.hid hs20; replace h20 := Lib.hid h20
  replace hO_ag := Lib.hid hO_ag
  have f_a_0 := cell_at k_a.out.1 0
  have f_a_1 := cell_at k_a.out.1 1
  have f_a_2 := cell_at k_a.out.1 2
  have f_a_b := lt_of_heap k_a.out.1
  go_wp2_with fail
  refine (ex_is hn10 TX.out u hun.out rfl TS.out (k_a.out.2.same (by repeat (first | exact Fr.refl _ _ | apply Fr.undrew | apply Fr.undrewN | apply Fr.drew | apply Fr.drewN | apply Fr.alloc))) (heap_new_at (by simp) _)).mono ?_
  rintro e w21 ⟨a_so, c_so, rfl, hO_so, hs21⟩
  have h21 : Same w20 w21 := (show Same w20 _ from (by repeat (first | exact Fr.refl _ _ | apply Fr.undrew | apply Fr.undrewN | apply Fr.drew | apply Fr.drewN | apply Fr.alloc))).same hs21
  have k_ag : BoxAt w21 w20.heap.size n a_ag OX c_ag (rX) := ⟨by first | exact hs21.at (heap_new w20 _) id | exact hs21.at (heap_old (heap_new w20 _) _) id, hO_ag.out.same h21⟩
  replace k_ag := Lib.hid k_ag
  replace k_a := Lib.hid (k_a.out.same h21)
  replace k_b := Lib.hid (k_b.out.same h21)
  replace k_na := Lib.hid (k_na.out.same h21)
  replace k_nb := Lib.hid (k_nb.out.same h21)
  replace k_an := Lib.hid (k_an.out.same h21)
  replace k_or := Lib.hid (k_or.out.same h21)
  replace k_le := Lib.hid (k_le.out.same h21)
  replace k_ab := Lib.hid (k_ab.out.same h21)
  replace k_tw := Lib.hid (k_tw.out.same h21)
  replace k_q := Lib.hid (k_q.out.same h21)
  replace k_lo := Lib.hid (k_lo.out.same h21)
  replace k_hi := Lib.hid (k_hi.out.same h21)
  replace hw := Lib.hid (hw.out.same h21)
  clear f_a_0 f_a_1 f_a_2 f_a_b
  replace hs21 := Lib.hid hs21; replace h21 := Lib.hid h21
  replace hO_so := Lib.hid hO_so
  have f_lo_0 := cell_at k_lo.out.1 0
  have f_lo_1 := cell_at k_lo.out.1 1
  have f_lo_2 := cell_at k_lo.out.1 2
  have f_lo_b := lt_of_heap k_lo.out.1
  have f_hi_0 := cell_at k_hi.out.1 0
  have f_hi_1 := cell_at k_hi.out.1 1
  have f_hi_2 := cell_at k_hi.out.1 2
  have f_hi_b := lt_of_heap k_hi.out.1
  go_wp2_with fail
  refine (or_is hn10 TW.out TH.out (law5 hx.out) TS.out (k_lo.out.2.same (by repeat (first | exact Fr.refl _ _ | apply Fr.undrew | apply Fr.undrewN | apply Fr.drew | apply Fr.drewN | apply Fr.alloc))) (k_hi.out.2.same (by repeat (first | exact Fr.refl _ _ | apply Fr.undrew | apply Fr.undrewN | apply Fr.drew | apply Fr.drewN | apply Fr.alloc)))).mono ?_
  rintro e w22 ⟨a_bo, c_bo, rfl, hO_bo, hs22⟩
  have h22 : Same w21 w22 := (show Same w21 _ from (by repeat (first | exact Fr.refl _ _ | apply Fr.undrew | apply Fr.undrewN | apply Fr.drew | apply Fr.drewN | apply Fr.alloc))).same hs22
  have k_so : BoxAt w22 w21.heap.size n a_so OS c_so (rS) := ⟨by first | exact hs22.at (heap_new w21 _) id | exact hs22.at (heap_old (heap_new w21 _) _) id, hO_so.out.same h22⟩
  replace k_so := Lib.hid k_so
  replace k_a := Lib.hid (k_a.out.same h22)
  replace k_b := Lib.hid (k_b.out.same h22)
  replace k_na := Lib.hid (k_na.out.same h22)
  replace k_nb := Lib.hid (k_nb.out.same h22)
  replace k_an := Lib.hid (k_an.out.same h22)
  replace k_or := Lib.hid (k_or.out.same h22)
  replace k_le := Lib.hid (k_le.out.same h22)
  replace k_ab := Lib.hid (k_ab.out.same h22)
  replace k_tw := Lib.hid (k_tw.out.same h22)
  replace k_q := Lib.hid (k_q.out.same h22)
  replace k_lo := Lib.hid (k_lo.out.same h22)
  replace k_hi := Lib.hid (k_hi.out.same h22)
  replace k_ag := Lib.hid (k_ag.out.same h22)
  replace hw := Lib.hid (hw.out.same h22)
  clear f_lo_0 f_lo_1 f_lo_2 f_lo_b f_hi_0 f_hi_1 f_hi_2 f_hi_b
  replace hs22 := Lib.hid hs22; replace h22 := Lib.hid h22
  replace hO_bo := Lib.hid hO_bo
  have f_na_0 := cell_at k_na.out.1 0
  have f_na_1 := cell_at k_na.out.1 1
  have f_na_2 := cell_at k_na.out.1 2
  have f_na_b := lt_of_heap k_na.out.1
  go_wp2_with fail
  refine (fa_is hn10 TN.out u hun.out rfl TZ.out (k_na.out.2.same (by repeat (first | exact Fr.refl _ _ | apply Fr.undrew | apply Fr.undrewN | apply Fr.drew | apply Fr.drewN | apply Fr.alloc))) (heap_new_at (by simp) _)).mono ?_
  rintro e w23 ⟨a_nn, c_nn, rfl, hO_nn, hs23⟩
  have h23 : Same w22 w23 := (show Same w22 _ from (by repeat (first | exact Fr.refl _ _ | apply Fr.undrew | apply Fr.undrewN | apply Fr.drew | apply Fr.drewN | apply Fr.alloc))).same hs23
  have k_bo : BoxAt w23 w22.heap.size n a_bo OS c_bo (rS) := ⟨by first | exact hs23.at (heap_new w22 _) id | exact hs23.at (heap_old (heap_new w22 _) _) id, hO_bo.out.same h23⟩
  replace k_bo := Lib.hid k_bo
  replace k_a := Lib.hid (k_a.out.same h23)
  replace k_b := Lib.hid (k_b.out.same h23)
  replace k_na := Lib.hid (k_na.out.same h23)
  replace k_nb := Lib.hid (k_nb.out.same h23)
  replace k_an := Lib.hid (k_an.out.same h23)
  replace k_or := Lib.hid (k_or.out.same h23)
  replace k_le := Lib.hid (k_le.out.same h23)
  replace k_ab := Lib.hid (k_ab.out.same h23)
  replace k_tw := Lib.hid (k_tw.out.same h23)
  replace k_q := Lib.hid (k_q.out.same h23)
  replace k_lo := Lib.hid (k_lo.out.same h23)
  replace k_hi := Lib.hid (k_hi.out.same h23)
  replace k_ag := Lib.hid (k_ag.out.same h23)
  replace k_so := Lib.hid (k_so.out.same h23)
  replace hw := Lib.hid (hw.out.same h23)
  clear f_na_0 f_na_1 f_na_2 f_na_b
  replace hs23 := Lib.hid hs23; replace h23 := Lib.hid h23
  replace hO_nn := Lib.hid hO_nn
  go_wp2_with fail
  refine (not_is hn10 TZ.out (law6 hx.out hun.out) TS.out (hO_nn.out.same (by repeat (first | exact Fr.refl _ _ | apply Fr.undrew | apply Fr.undrewN | apply Fr.drew | apply Fr.drewN | apply Fr.alloc)))).mono ?_
  rintro e w24 ⟨a_du, c_du, rfl, hO_du, hs24⟩
  have h24 : Same w23 w24 := (show Same w23 _ from (by repeat (first | exact Fr.refl _ _ | apply Fr.undrew | apply Fr.undrewN | apply Fr.drew | apply Fr.drewN | apply Fr.alloc))).same hs24
  have k_nn : BoxAt w24 w23.heap.size n a_nn OZ c_nn (rZ) := ⟨by first | exact hs24.at (heap_new w23 _) id | exact hs24.at (heap_old (heap_new w23 _) _) id, hO_nn.out.same h24⟩
  replace k_nn := Lib.hid k_nn
  replace k_a := Lib.hid (k_a.out.same h24)
  replace k_b := Lib.hid (k_b.out.same h24)
  replace k_na := Lib.hid (k_na.out.same h24)
  replace k_nb := Lib.hid (k_nb.out.same h24)
  replace k_an := Lib.hid (k_an.out.same h24)
  replace k_or := Lib.hid (k_or.out.same h24)
  replace k_le := Lib.hid (k_le.out.same h24)
  replace k_ab := Lib.hid (k_ab.out.same h24)
  replace k_tw := Lib.hid (k_tw.out.same h24)
  replace k_q := Lib.hid (k_q.out.same h24)
  replace k_lo := Lib.hid (k_lo.out.same h24)
  replace k_hi := Lib.hid (k_hi.out.same h24)
  replace k_ag := Lib.hid (k_ag.out.same h24)
  replace k_so := Lib.hid (k_so.out.same h24)
  replace k_bo := Lib.hid (k_bo.out.same h24)
  replace hw := Lib.hid (hw.out.same h24)
  replace hs24 := Lib.hid hs24; replace h24 := Lib.hid h24
  replace hO_du := Lib.hid hO_du
  have f_ag_0 := cell_at k_ag.out.1 0
  have f_ag_1 := cell_at k_ag.out.1 1
  have f_ag_2 := cell_at k_ag.out.1 2
  have f_ag_b := lt_of_heap k_ag.out.1
  have f_a_0 := cell_at k_a.out.1 0
  have f_a_1 := cell_at k_a.out.1 1
  have f_a_2 := cell_at k_a.out.1 2
  have f_a_b := lt_of_heap k_a.out.1
  go_wp2_with fail
  refine (eq_is (Nat.le_trans TX.out.short (by omega)) (k_ag.out.2.same (by repeat (first | exact Fr.refl _ _ | apply Fr.undrew | apply Fr.undrewN | apply Fr.drew | apply Fr.drewN | apply Fr.alloc))) (k_a.out.2.same (by repeat (first | exact Fr.refl _ _ | apply Fr.undrew | apply Fr.undrewN | apply Fr.drew | apply Fr.drewN | apply Fr.alloc)))).mono ?_
  rintro e w25 ⟨rfl, hs25⟩
  have h25 : Same w24 w25 := (show Same w24 _ from (by repeat (first | exact Fr.refl _ _ | apply Fr.undrew | apply Fr.undrewN | apply Fr.drew | apply Fr.drewN | apply Fr.alloc))).same hs25
  have k_du : BoxAt w25 w24.heap.size n a_du OS c_du (rS) := ⟨by first | exact hs25.at (heap_new w24 _) id | exact hs25.at (heap_old (heap_new w24 _) _) id, hO_du.out.same h25⟩
  replace k_du := Lib.hid k_du
  replace k_a := Lib.hid (k_a.out.same h25)
  replace k_b := Lib.hid (k_b.out.same h25)
  replace k_na := Lib.hid (k_na.out.same h25)
  replace k_nb := Lib.hid (k_nb.out.same h25)
  replace k_an := Lib.hid (k_an.out.same h25)
  replace k_or := Lib.hid (k_or.out.same h25)
  replace k_le := Lib.hid (k_le.out.same h25)
  replace k_ab := Lib.hid (k_ab.out.same h25)
  replace k_tw := Lib.hid (k_tw.out.same h25)
  replace k_q := Lib.hid (k_q.out.same h25)
  replace k_lo := Lib.hid (k_lo.out.same h25)
  replace k_hi := Lib.hid (k_hi.out.same h25)
  replace k_ag := Lib.hid (k_ag.out.same h25)
  replace k_so := Lib.hid (k_so.out.same h25)
  replace k_bo := Lib.hid (k_bo.out.same h25)
  replace k_nn := Lib.hid (k_nn.out.same h25)
  replace hw := Lib.hid (hw.out.same h25)
  clear f_ag_0 f_ag_1 f_ag_2 f_ag_b f_a_0 f_a_1 f_a_2 f_a_b
  replace hs25 := Lib.hid hs25; replace h25 := Lib.hid h25
  have f_so_0 := cell_at k_so.out.1 0
  have f_so_1 := cell_at k_so.out.1 1
  have f_so_2 := cell_at k_so.out.1 2
  have f_so_b := lt_of_heap k_so.out.1
  have f_bo_0 := cell_at k_bo.out.1 0
  have f_bo_1 := cell_at k_bo.out.1 1
  have f_bo_2 := cell_at k_bo.out.1 2
  have f_bo_b := lt_of_heap k_bo.out.1
  go_wp2_with fail
  refine (eq_is (Nat.le_trans TS.out.short (by omega)) (k_so.out.2.same (by repeat (first | exact Fr.refl _ _ | apply Fr.undrew | apply Fr.undrewN | apply Fr.drew | apply Fr.drewN | apply Fr.alloc))) (k_bo.out.2.same (by repeat (first | exact Fr.refl _ _ | apply Fr.undrew | apply Fr.undrewN | apply Fr.drew | apply Fr.drewN | apply Fr.alloc)))).mono ?_
  rintro e w26 ⟨rfl, hs26⟩
  have h26 : Same w25 w26 := (show Same w25 _ from (by repeat (first | exact Fr.refl _ _ | apply Fr.undrew | apply Fr.undrewN | apply Fr.drew | apply Fr.drewN | apply Fr.alloc))).same hs26
  replace k_a := Lib.hid (k_a.out.same h26)
  replace k_b := Lib.hid (k_b.out.same h26)
  replace k_na := Lib.hid (k_na.out.same h26)
  replace k_nb := Lib.hid (k_nb.out.same h26)
  replace k_an := Lib.hid (k_an.out.same h26)
  replace k_or := Lib.hid (k_or.out.same h26)
  replace k_le := Lib.hid (k_le.out.same h26)
  replace k_ab := Lib.hid (k_ab.out.same h26)
  replace k_tw := Lib.hid (k_tw.out.same h26)
  replace k_q := Lib.hid (k_q.out.same h26)
  replace k_lo := Lib.hid (k_lo.out.same h26)
  replace k_hi := Lib.hid (k_hi.out.same h26)
  replace k_ag := Lib.hid (k_ag.out.same h26)
  replace k_so := Lib.hid (k_so.out.same h26)
  replace k_bo := Lib.hid (k_bo.out.same h26)
  replace k_nn := Lib.hid (k_nn.out.same h26)
  replace k_du := Lib.hid (k_du.out.same h26)
  replace hw := Lib.hid (hw.out.same h26)
  clear f_so_0 f_so_1 f_so_2 f_so_b f_bo_0 f_bo_1 f_bo_2 f_bo_b
  replace hs26 := Lib.hid hs26; replace h26 := Lib.hid h26
  have f_so_0 := cell_at k_so.out.1 0
  have f_so_1 := cell_at k_so.out.1 1
  have f_so_2 := cell_at k_so.out.1 2
  have f_so_b := lt_of_heap k_so.out.1
  have f_du_0 := cell_at k_du.out.1 0
  have f_du_1 := cell_at k_du.out.1 1
  have f_du_2 := cell_at k_du.out.1 2
  have f_du_b := lt_of_heap k_du.out.1
  go_wp2_with fail
  refine (eq_is (Nat.le_trans TS.out.short (by omega)) (k_so.out.2.same (by repeat (first | exact Fr.refl _ _ | apply Fr.undrew | apply Fr.undrewN | apply Fr.drew | apply Fr.drewN | apply Fr.alloc))) (k_du.out.2.same (by repeat (first | exact Fr.refl _ _ | apply Fr.undrew | apply Fr.undrewN | apply Fr.drew | apply Fr.drewN | apply Fr.alloc)))).mono ?_
  rintro e w27 ⟨rfl, hs27⟩
  have h27 : Same w26 w27 := (show Same w26 _ from (by repeat (first | exact Fr.refl _ _ | apply Fr.undrew | apply Fr.undrewN | apply Fr.drew | apply Fr.drewN | apply Fr.alloc))).same hs27
  replace k_a := Lib.hid (k_a.out.same h27)
  replace k_b := Lib.hid (k_b.out.same h27)
  replace k_na := Lib.hid (k_na.out.same h27)
  replace k_nb := Lib.hid (k_nb.out.same h27)
  replace k_an := Lib.hid (k_an.out.same h27)
  replace k_or := Lib.hid (k_or.out.same h27)
  replace k_le := Lib.hid (k_le.out.same h27)
  replace k_ab := Lib.hid (k_ab.out.same h27)
  replace k_tw := Lib.hid (k_tw.out.same h27)
  replace k_q := Lib.hid (k_q.out.same h27)
  replace k_lo := Lib.hid (k_lo.out.same h27)
  replace k_hi := Lib.hid (k_hi.out.same h27)
  replace k_ag := Lib.hid (k_ag.out.same h27)
  replace k_so := Lib.hid (k_so.out.same h27)
  replace k_bo := Lib.hid (k_bo.out.same h27)
  replace k_nn := Lib.hid (k_nn.out.same h27)
  replace k_du := Lib.hid (k_du.out.same h27)
  replace hw := Lib.hid (hw.out.same h27)
  clear f_so_0 f_so_1 f_so_2 f_so_b f_du_0 f_du_1 f_du_2 f_du_b
  replace hs27 := Lib.hid hs27; replace h27 := Lib.hid h27
  go_wp2_with fail
  go_ret
  exact ⟨(by first | rfl | simp), hw.out⟩
end Go.Proofs.Ytaebjalpebgliaa
