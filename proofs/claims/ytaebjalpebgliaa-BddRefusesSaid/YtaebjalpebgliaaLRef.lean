/- BddRefuses. -/
import Derived.Test.YtaebjalpebgliaaKnown
import Derived.Test.YtaebjalpebgliaaLSame
import Derived.Test.YtaebjalpebgliaaTab
import Derived.Test.YtaebjalpebgliaaFromE
import Derived.Test.YtaebjalpebgliaaT1
namespace Go.Proofs.Ytaebjalpebgliaa
open Go.RowKit
set_option linter.unusedVariables false
set_option linter.unusedSimpArgs false

theorem pow2_nat (n : Nat) : pow2 n = ((2 ^ n : Nat) : Int) := by
  induction n with
  | zero => rfl
  | succ n ih => simp only [pow2, ih, Nat.pow_succ]; omega

set_option maxRecDepth 100000 in
theorem table_limit (d : Dg) (n : Nat) (t : List Bool) (w : World) (hn : 10 < n) (hat : d.at w) (T : d.tab n t) :
    Calls Try.prog 26 #[d.v] w fun e w' => e = .returned (.tuple #[.slice none 0 0, .int .i64 3]) ∧ Same w w' := by
  have C := fun W (hW : Same w W) => check_tab d n t W (SliceAt.same hat hW) T
  have e := T.1
  rw [Dg.v, e] at C ⊢
  have h10 : ¬ (n : Int) ≤ 10 := by omega
  have h10' : (10 : Int) < n := by omega
  replace C := Lib.hid C; replace hat := Lib.hid hat; replace T := Lib.hid T; replace e := Lib.hid e
  go_enter Try.func26, Try.ntmps26
  go_wp2_with fail
  refine (C.out _ (by repeat (first | exact Fr.refl _ _ | apply Fr.alloc | apply Fr.drewN | apply Fr.drew | apply Fr.undrew | apply Fr.undrewN))).mono ?_
  rintro e w1 ⟨rfl, hs1⟩
  have kb := hs1.at (heap_new _ _) id
  have x0 := cell_at kb 0; have x1 := cell_at kb 1; have x2 := cell_at kb 2
  have xb := lt_of_heap kb
  have hw1 := (show Same w _ from (by repeat (first | exact Fr.refl _ _ | apply Fr.alloc | apply Fr.drewN | apply Fr.drew | apply Fr.undrew | apply Fr.undrewN))).same hs1
  replace kb := Lib.hid kb; replace hs1 := Lib.hid hs1; replace hw1 := Lib.hid hw1
  go_wp2_with fail
  go_ret2
  exact ⟨rfl, hw1.out⟩

/-- What FromTable returns. -/
def FTRet (n : Int) (t : List Bool) (w : World) (e : Ending) (w' : World) : Prop :=
  ∃ nn a L c r E, e = .returned (.tuple #[.agg #[.int .i64 nn, .slice a L.length c, .int .i64 r], .int .i64 E]) ∧ SliceAt w' 80 3 (.slice a L.length c) L.length (ndCells L) ∧ Same w w' ∧
    ((E = 2 ∧ (n < 0 ∨ 40 < n) ∧ nn = 0 ∧ L = [] ∧ r = 0) ∨ (E = 3 ∧ (10 < n ∧ n ≤ 40) ∧ nn = 0 ∧ L = [] ∧ r = 0) ∨ (E = 4 ∧ (0 ≤ n ∧ n ≤ 10 ∧ t.length ≠ 2 ^ n.toNat) ∧ nn = 0 ∧ L = [] ∧ r = 0) ∨
      (E = 0 ∧ (0 ≤ n ∧ n ≤ 10 ∧ t.length = 2 ^ n.toNat) ∧ nn = n ∧ tableF n.toNat [] 0 t = (L, r)))

theorem fromTable_any (n : Int) (t : List Bool) (aT : Option Addr) (capT : Nat) (w : World) (hT : RowAt w (.slice aT t.length capT) t.length (boolCells t)) :
    Calls Try.prog 25 #[.int .i64 n, .slice aT t.length capT] w (FTRet n t w) := by
  by_cases h1 : n < 0 ∨ 40 < n
  · refine (fromTable_range n aT _ capT w h1).mono ?_
    rintro e w' ⟨rfl, hs⟩
    exact ⟨0, none, [], 0, 0, 2, rfl, SliceAt.nil _ _ _, hs, .inl ⟨rfl, h1, rfl, rfl, rfl⟩⟩
  · by_cases h2 : 10 < n
    · refine (fromTable_limit n aT _ capT w ⟨h2, by omega⟩).mono ?_
      rintro e w' ⟨rfl, hs⟩
      exact ⟨0, none, [], 0, 0, 3, rfl, SliceAt.nil _ _ _, hs, .inr (.inl ⟨rfl, ⟨h2, by omega⟩, rfl, rfl, rfl⟩)⟩
    · obtain ⟨k, rfl⟩ : ∃ k : Nat, n = k := ⟨n.toNat, by omega⟩
      by_cases h3 : t.length = 2 ^ k
      · refine (fromTable_row k t aT capT w (by omega) h3 hT).mono ?_
        rintro e w' ⟨a, c, rfl, hO, hs⟩
        exact ⟨k, a, _, c, _, 0, rfl, hO, hs, .inr (.inr (.inr ⟨rfl, ⟨by omega, by omega, h3⟩, rfl, rfl⟩))⟩
      · refine (fromTable_size k aT _ capT w (by omega) h3).mono ?_
        rintro e w' ⟨rfl, hs⟩
        exact ⟨0, none, [], 0, 0, 4, rfl, SliceAt.nil _ _ _, hs, .inr (.inr (.inl ⟨rfl, ⟨by omega, by omega, h3⟩, rfl, rfl, rfl⟩))⟩

def CORet (n : Int) (w : World) (e : Ending) (w' : World) : Prop :=
  ∃ nn a c r E, e = .returned (.tuple #[.agg #[.int .i64 nn, .slice a 0 c, .int .i64 r], .int .i64 E]) ∧ SliceAt w' 80 3 (.slice a 0 c) 0 [] ∧ Same w w' ∧ ((E = 2 ∧ (n < 0 ∨ 40 < n) ∧ nn = 0 ∧ r = 0) ∨ (E = 0 ∧ (0 ≤ n ∧ n ≤ 40) ∧ nn = n ∧ r = 1))

theorem constant_any (n : Int) (w : World) : Calls Try.prog 28 #[.int .i64 n, .bool true] w (CORet n w) := by
  by_cases h1 : n < 0 ∨ 40 < n
  · refine (constant_bad n true w h1).mono ?_
    rintro e w' ⟨rfl, hs⟩
    exact ⟨0, none, 0, 0, 2, rfl, SliceAt.nil _ _ _, hs, .inl ⟨rfl, h1, rfl, rfl⟩⟩
  · refine (constant_ok n true w (by omega)).mono ?_
    rintro e w' ⟨a, c, rfl, hO, hs⟩
    exact ⟨n, a, c, 1, 0, rfl, hO, hs, .inr ⟨rfl, by omega, rfl, rfl⟩⟩

set_option maxRecDepth 100000 in
set_option maxHeartbeats 4000000 in
theorem bddRefuses_any (n : Int) (hn : -9223372036854775808 ≤ n ∧ n ≤ 9223372036854775807) (t : List Bool) (aT : Option Addr) (capT : Nat) (w : World) (hT : RowAt w (.slice aT t.length capT) t.length (boolCells t)) :
    Calls Try.prog 6 #[.int .i64 n, .slice aT t.length capT] w fun e w' => e = .returned (.bool true) ∧ Same w w' := by
  replace hT := Lib.hid hT
  by_cases hlen : 70 < t.length
  · have hl : ((t.length : Int) > 70) = True := by simp; omega
    have hl2 : (70 : Int) < t.length := by omega
    go_enter Try.func6, Try.ntmps6
    go_wp2_with fail
    refine (known_true _).mono ?_
    rintro e w1 ⟨rfl, hs1⟩
    replace hs1 := Lib.hid hs1
    go_wp2_with fail
    refine (known_true _).mono ?_
    rintro e w2 ⟨rfl, hs2⟩
    have hs := hs1.out.same hs2
    replace hs := Lib.hid hs
    go_wp2_with fail
    go_ret
    exact ⟨rfl, hs.out⟩
  · have hl : (t.length : Int) ≤ 70 := by omega
    go_enter Try.func6, Try.ntmps6
    go_wp2_with fail
    refine (known_true _).mono ?_
    rintro e w1 ⟨rfl, hs1⟩
    replace hs1 := Lib.hid hs1
    go_wp2_with fail
    refine (fromTable_any n t aT capT w1 (hT.out.same hs1.out)).mono ?_
    rintro e w2 ⟨n2, a2, L2, c2, r2, E2, rfl, hO2, hs2, hE2⟩
    have hw2 := hs1.out.same hs2
    replace hO2 := Lib.hid hO2; replace hs2 := Lib.hid hs2; replace hE2 := Lib.hid hE2; replace hw2 := Lib.hid hw2
    go_wp2_with fail
    refine (constant_any n _).mono ?_
    rintro e w3 ⟨n3, a3, c3, r3, E3, rfl, hO3, hs3, hE3⟩
    have k2 := hs3.at (heap_new w2 _) id
    have h23 := (show Same w2 _ from (by repeat (first | exact Fr.refl _ _ | apply Fr.alloc | apply Fr.drewN | apply Fr.drew | apply Fr.undrew | apply Fr.undrewN))).same hs3
    have hw3 := hw2.out.same h23
    replace hO2 := Lib.hid (hO2.out.same h23)
    replace hO3 := Lib.hid hO3; replace hs3 := Lib.hid hs3; replace hE3 := Lib.hid hE3; replace hw3 := Lib.hid hw3; replace k2 := Lib.hid k2; replace h23 := Lib.hid h23
    go_wp2_with fail
    refine (variable_range n n _ (by omega)).mono ?_
    rintro e w4 ⟨rfl, hs4⟩
    have k3 := hs4.at (heap_new w3 _) id
    have h34 := (show Same w3 _ from (by repeat (first | exact Fr.refl _ _ | apply Fr.alloc | apply Fr.drewN | apply Fr.drew | apply Fr.undrew | apply Fr.undrewN))).same hs4
    have hw4 := hw3.out.same h34
    replace hO2 := Lib.hid (hO2.out.same h34)
    replace hO3 := Lib.hid (hO3.out.same h34)
    replace k2 := Lib.hid (h34.at k2.out id)
    replace hs4 := Lib.hid hs4; replace hw4 := Lib.hid hw4; replace k3 := Lib.hid k3; replace h34 := Lib.hid h34
    go_wp2_with fail
    refine (variable_ok 11 10 _ (by omega) (by omega)).mono ?_
    rintro e w5 ⟨a5, c5, rfl, hO5, hs5⟩
    have h45 := (show Same w4 _ from (by repeat (first | exact Fr.refl _ _ | apply Fr.alloc | apply Fr.drewN | apply Fr.drew | apply Fr.undrew | apply Fr.undrewN))).same hs5
    have hw5 := hw4.out.same h45
    replace hO2 := Lib.hid (hO2.out.same h45)
    replace hO3 := Lib.hid (hO3.out.same h45)
    replace k2 := Lib.hid (h45.at k2.out id)
    replace k3 := Lib.hid (h45.at k3.out id)
    replace hs5 := Lib.hid hs5; replace hw5 := Lib.hid hw5; replace h45 := Lib.hid h45; replace hO5 := Lib.hid hO5
    go_wp2_with fail
    refine (table_limit ⟨11, a5, c5, [(10, 0, 1)], 2⟩ 11 (varT 11 10) _ (by omega) (hO5.out.same (by repeat (first | exact Fr.refl _ _ | apply Fr.alloc | apply Fr.drewN | apply Fr.drew | apply Fr.undrew | apply Fr.undrewN))) ⟨rfl, by omega, varT_length 11 10, table_var (by omega) (by omega), by simp⟩).mono ?_
    rintro e w6 ⟨rfl, hs6⟩
    have h56 := (show Same w5 _ from (by repeat (first | exact Fr.refl _ _ | apply Fr.alloc | apply Fr.drewN | apply Fr.drew | apply Fr.undrew | apply Fr.undrewN))).same hs6
    have hw6 := hw5.out.same h56
    replace hO2 := Lib.hid (hO2.out.same h56)
    replace hO3 := Lib.hid (hO3.out.same h56)
    replace k2 := Lib.hid (h56.at k2.out id)
    replace k3 := Lib.hid (h56.at k3.out id)
    replace hs6 := Lib.hid hs6; replace hw6 := Lib.hid hw6; replace h56 := Lib.hid h56
    have x0 := cell_at k2.out 0; have x1 := cell_at k2.out 1; have x2 := cell_at k2.out 2
    have xl := lt_of_heap k2.out
    have y0 := cell_at k3.out 0; have y1 := cell_at k3.out 1; have y2 := cell_at k3.out 2
    have yl := lt_of_heap k3.out
    have D2 : (E2 = 2 ∧ (n < 0 ∨ 40 < n) ∧ n2 = 0 ∧ L2 = [] ∧ r2 = 0 ∧ E3 = 2 ∧ n3 = 0 ∧ r3 = 0) ∨ (E3 = 0 ∧ 0 ≤ n ∧ n ≤ 40 ∧ n = n3 ∧ r3 = 1 ∧ ((E2 = 3 ∧ 10 < n ∧ n2 = 0 ∧ L2 = [] ∧ r2 = 0) ∨ (E2 = 4 ∧ (n ≤ 10 ∧ t.length ≠ 2 ^ n.toNat) ∧ n2 = 0 ∧ L2 = [] ∧ r2 = 0) ∨ (E2 = 0 ∧ (n ≤ 10 ∧ t.length = 2 ^ n.toNat) ∧ n = n2 ∧ tableF n.toNat [] 0 t = (L2, r2)))) := by
      rcases hE2.out with ⟨h1, h2, h3, h4, h5⟩ | ⟨h1, h2, h3, h4, h5⟩ | ⟨h1, h2, h3, h4, h5⟩ | ⟨h1, h2, h3, h4⟩
      · rcases hE3.out with ⟨g1, g2, g3, g4⟩ | ⟨g1, g2, g3, g4⟩
        · exact .inl ⟨h1, h2, h3, h4, h5, g1, g3, g4⟩
        · omega
      · rcases hE3.out with ⟨g1, g2, g3, g4⟩ | ⟨g1, g2, g3, g4⟩
        · omega
        · exact .inr ⟨g1, g2.1, g2.2, g3.symm, g4, .inl ⟨h1, h2.1, h3, h4, h5⟩⟩
      · rcases hE3.out with ⟨g1, g2, g3, g4⟩ | ⟨g1, g2, g3, g4⟩
        · omega
        · exact .inr ⟨g1, g2.1, g2.2, g3.symm, g4, .inr (.inl ⟨h1, ⟨h2.2.1, h2.2.2⟩, h3, h4, h5⟩)⟩
      · rcases hE3.out with ⟨g1, g2, g3, g4⟩ | ⟨g1, g2, g3, g4⟩
        · omega
        · exact .inr ⟨g1, g2.1, g2.2, g3.symm, g4, .inr (.inr ⟨h1, ⟨h2.2.1, h2.2.2⟩, h3.symm, h4⟩)⟩
    clear hE2 hE3
    rcases D2 with ⟨rfl, hr, rfl, rfl, rfl, rfl, rfl, rfl⟩ | ⟨rfl, g1, g2, rfl, rfl, D⟩
    · have N2 := fun W (hW : Same w6 W) => none_true a2 c2 W (hO2.out.same hW)
      have N3 := fun W (hW : Same w6 W) => none_true a3 c3 W (hO3.out.same hW)
      have hr2 : (n < 0 ∨ 40 < n) = True := eq_true hr
      replace N2 := Lib.hid N2; replace N3 := Lib.hid N3
      by_cases hneg : n < 0
      · clear hr
        replace hr2 := Lib.hid hr2
        go_wp2_with fail
        refine (N2.out _ (by repeat (first | exact Fr.refl _ _ | apply Fr.alloc | apply Fr.drewN | apply Fr.drew | apply Fr.undrew | apply Fr.undrewN))).mono ?_
        rintro e w7 ⟨rfl, hs7⟩
        have h67 : Same w6 w7 := hs7
        have hw7 := hw6.out.same h67
        replace k3 := Lib.hid (h67.at k3.out id)
        clear y0 y1 y2 yl x0 x1 x2 xl
        have y0 := cell_at k3.out 0; have y1 := cell_at k3.out 1; have y2 := cell_at k3.out 2
        have yl := lt_of_heap k3.out
        replace hs7 := Lib.hid hs7; replace h67 := Lib.hid h67; replace hw7 := Lib.hid hw7
        go_wp2_with fail
        refine (N3.out _ h67.out).mono ?_
        rintro e w8 ⟨rfl, hs8⟩
        have hw8 := hw7.out.same hs8
        replace hs8 := Lib.hid hs8; replace hw8 := Lib.hid hw8
        go_wp2_with fail
        go_ret
        exact ⟨rfl, hw8.out⟩
      · have h40 : 40 < n := by omega
        have h0 : 0 ≤ n := by omega
        clear hr hneg
        replace hr2 := Lib.hid hr2
        go_wp2_with fail
        refine (N2.out _ (by repeat (first | exact Fr.refl _ _ | apply Fr.alloc | apply Fr.drewN | apply Fr.drew | apply Fr.undrew | apply Fr.undrewN))).mono ?_
        rintro e w7 ⟨rfl, hs7⟩
        have h67 : Same w6 w7 := hs7
        have hw7 := hw6.out.same h67
        replace k3 := Lib.hid (h67.at k3.out id)
        clear y0 y1 y2 yl x0 x1 x2 xl
        have y0 := cell_at k3.out 0; have y1 := cell_at k3.out 1; have y2 := cell_at k3.out 2
        have yl := lt_of_heap k3.out
        replace hs7 := Lib.hid hs7; replace h67 := Lib.hid h67; replace hw7 := Lib.hid hw7
        go_wp2_with fail
        refine (N3.out _ h67.out).mono ?_
        rintro e w8 ⟨rfl, hs8⟩
        have hw8 := hw7.out.same hs8
        replace hs8 := Lib.hid hs8; replace hw8 := Lib.hid hw8
        go_wp2_with fail
        go_ret
        exact ⟨rfl, hw8.out⟩
    · have h0 : ¬ n < 0 := by omega
      have h40 : ¬ 40 < n := by omega
      have S3 := fun W (hW : Same w6 W) => same_any n n 1 1 a3 none c3 0 [] [] W (hO3.out.same hW) (SliceAt.nil _ _ _) (by simp) (by simp)
      simp only [List.length_nil, and_self, decide_true] at S3
      replace S3 := Lib.hid S3
      go_wp2_with fail
      refine (S3.out _ (by repeat (first | exact Fr.refl _ _ | apply Fr.alloc | apply Fr.drewN | apply Fr.drew | apply Fr.undrew | apply Fr.undrewN))).mono ?_
      rintro e w7 ⟨rfl, hs7⟩
      have h67 : Same w6 w7 := (show Same w6 _ from (by repeat (first | exact Fr.refl _ _ | apply Fr.alloc | apply Fr.drewN | apply Fr.drew | apply Fr.undrew | apply Fr.undrewN))).same hs7
      have hw7 := hw6.out.same h67
      replace k2 := Lib.hid (h67.at k2.out id)
      replace hO2 := Lib.hid (hO2.out.same h67)
      have hT7 := hT.out.same hw7
      clear y0 y1 y2 yl x0 x1 x2 xl
      have x0 := cell_at k2.out 0; have x1 := cell_at k2.out 1; have x2 := cell_at k2.out 2
      have xl := lt_of_heap k2.out
      replace hs7 := Lib.hid hs7; replace h67 := Lib.hid h67; replace hw7 := Lib.hid hw7; replace hT7 := Lib.hid hT7
      rcases D with ⟨rfl, h10, rfl, rfl, rfl⟩ | ⟨rfl, ⟨h10, hne⟩, rfl, rfl, rfl⟩ | ⟨rfl, ⟨h10, heq⟩, rfl, htab⟩
      · have N2 := none_true a2 c2 w7 hO2.out
        replace N2 := Lib.hid N2
        go_wp2_with fail
        refine (N2.out).mono ?_
        rintro e w8 ⟨rfl, hs8⟩
        have hw8 := hw7.out.same hs8
        replace hs8 := Lib.hid hs8; replace hw8 := Lib.hid hw8
        go_wp2_with fail
        go_ret
        exact ⟨rfl, hw8.out⟩
      · have N2 := none_true a2 c2 w7 hO2.out
        have h10' : ¬ 10 < n := by omega
        obtain ⟨k, rfl⟩ : ∃ k : Nat, n = k := ⟨n.toNat, by omega⟩
        have PW := power_any k w7 (by omega)
        obtain ⟨m, hm⟩ : ∃ m, m = 2 ^ k := ⟨_, rfl⟩
        have hnem : t.length ≠ m := by rw [hm]; exact hne
        rw [pow2_nat, ← hm] at PW
        have hp : ((t.length : Int) != (m : Int)) = true := by
          simp only [bne_iff_ne, ne_eq]
          omega
        replace N2 := Lib.hid N2; replace PW := Lib.hid PW; replace hne := Lib.hid hne; replace hm := Lib.hid hm; replace hnem := Lib.hid hnem
        go_wp2_with fail
        refine PW.out.mono ?_
        rintro e w8 ⟨rfl, rfl⟩
        go_wp2_with fail
        refine N2.out.mono ?_
        rintro e w8 ⟨rfl, hs8⟩
        have hw8 := hw7.out.same hs8
        replace hs8 := Lib.hid hs8; replace hw8 := Lib.hid hw8
        go_wp2_with fail
        go_ret
        exact ⟨rfl, hw8.out⟩
      · have h10' : ¬ 10 < n := by omega
        obtain ⟨k, rfl⟩ : ∃ k : Nat, n = k := ⟨n.toNat, by omega⟩
        have hk : (k : Int).toNat = k := rfl
        rw [hk] at heq htab
        have PW := power_any k w7 (by omega)
        rw [pow2_nat, ← heq] at PW
        have IS := is_row k t a2 aT c2 capT w7 (by omega) heq hT7.out (by rw [htab]; exact hO2.out)
        rw [htab] at IS
        simp only at IS
        replace IS := Lib.hid IS; replace PW := Lib.hid PW; replace heq := Lib.hid heq; replace htab := Lib.hid htab
        go_wp2_with fail
        refine PW.out.mono ?_
        rintro e w8 ⟨rfl, rfl⟩
        go_wp2_with fail
        refine IS.out.mono ?_
        rintro e w8 ⟨rfl, hs8⟩
        have hw8 := hw7.out.same hs8
        replace hs8 := Lib.hid hs8; replace hw8 := Lib.hid hw8
        go_wp2_with fail
        go_ret
        exact ⟨rfl, hw8.out⟩
end Go.Proofs.Ytaebjalpebgliaa
