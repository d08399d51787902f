/- The law's same, none, is; the reference's Same. -/
import Derived.Test.YtaebjalpebgliaaLDia
import Derived.Test.YtaebjalpebgliaaAny
namespace Go.Proofs.Ytaebjalpebgliaa
open Go.RowKit
set_option linter.unusedVariables false
set_option linter.unusedSimpArgs false

set_option maxRecDepth 100000 in
set_option maxHeartbeats 1000000 in
theorem same_nds (n n' r r' : Int) (a a' : Option Addr) (cap cap' : Nat) (L L' : List Nd) (w : World) (h : NodesAt w a L cap) (h' : NodesAt w a' L' cap') (hl : L.length ≤ 1000000) (hl' : L'.length ≤ 1000000) :
    Calls Try.prog 31 #[.agg #[.int .i64 n, .slice a L.length cap, .int .i64 r], .agg #[.int .i64 n', .slice a' L'.length cap', .int .i64 r']] w fun e w' => e = .returned (.bool (decide (n = n' ∧ r = r' ∧ L = L'))) ∧ Same w w' := by
  obtain ⟨R, hR⟩ : ∃ R : Bool, R = decide (n = n' ∧ r = r' ∧ L = L') := ⟨_, rfl⟩
  rw [← hR]
  replace hR := Lib.hid hR
  by_cases hn : n = n'
  · subst hn
    by_cases hr : r = r'
    · subst hr
      by_cases hlen : L.length = L'.length
      · replace h := Lib.hid h
        rw [← hlen]
        replace h' := Lib.hid h'
        replace hlen := Lib.hid hlen
        go_enter Try.func31, Try.ntmps31
        go_wp2
        go_loopw [5] (fun i wr => (∃ k : Nat, k ≤ L.length ∧ i = .int .i64 k ∧ ∀ (j : Nat), j < k → L[j]? = L'[j]?) ∧ ∃ m, wr = ((w.alloc (.cells #[.int .i64 n, .slice a L.length cap, .int .i64 r] 31)).alloc (.cells #[.int .i64 n, .slice a' L.length cap', .int .i64 r] 31)).drewN m) (fun i _ => L.length - (intOf i).toNat)
        case atStart => exact ⟨⟨0, by omega, rfl, fun _ h => by omega⟩, 0, rfl⟩
        case round =>
          obtain ⟨⟨k, hk, rfl, hf⟩, m, rfl⟩ := hrel
          replace hf := Lib.hid hf
          by_cases hlt : k < L.length
          · have hlt' : k < L'.length := by rw [← hlen.out]; exact hlt
            obtain ⟨b, off, ha, hb, h1, h2, h3⟩ := h.out.node hlt
            obtain ⟨b', off', ha', hb', h1', h2', h3'⟩ := h'.out.node hlt'
            replace hlt' := Lib.hid hlt'
            subst ha
            subst ha'
            by_cases hx : L[k] = L'[k]'(hlt'.out)
            · have hn := nde_true hx
              replace hx := Lib.hid hx
              go_wp2
              go_quiet (fail)
              go_wp2
              go_roundw
              case rel =>
                refine ⟨⟨k + 1, by omega, by go_num, fun j hj => ?_⟩, _, rfl⟩
                by_cases hjk : j < k
                · exact hf.out j hjk
                · have : j = k := by omega
                  subst this
                  rw [List.getElem?_eq_getElem hlt, List.getElem?_eq_getElem hlt'.out, hx.out]
              case measure => simp [intOf]; omega
            · have hn := nde_false hx
              replace hx := Lib.hid hx
              go_wp2
              go_quiet (fail)
              go_wp2
              go_ret
              refine ⟨?_, (by repeat (first | exact Fr.refl _ _ | apply Fr.alloc | apply Fr.drewN | apply Fr.drew))⟩
              rw [hR.out]
              have : ¬ L = L' := fun e => hx.out (by subst e; rfl)
              simp [this]
          · go_wp2
            go_ret
            refine ⟨?_, (by repeat (first | exact Fr.refl _ _ | apply Fr.alloc | apply Fr.drewN | apply Fr.drew))⟩
            rw [hR.out]
            have : L = L' := by
              apply List.ext_getElem?
              intro j
              by_cases hj : j < k
              · exact hf.out j hj
              · rw [List.getElem?_eq_none (by omega), List.getElem?_eq_none (by have := hlen.out; omega)]
            simp [this]
      · have hne : ¬ L = L' := fun e => hlen (by rw [e])
        have hb : (L.length : Int) ≠ L'.length := by omega
        replace hlen := Lib.hid hlen
        replace hne := Lib.hid hne
        clear h h'
        go_enter Try.func31, Try.ntmps31
        go_wp2
        go_ret
        refine ⟨?_, (by repeat (first | exact Fr.refl _ _ | apply Fr.alloc | apply Fr.drewN | apply Fr.drew))⟩
        rw [hR.out]
        simp [hne.out]
    · have hb : (r != r') = true := by simpa using hr
      replace hr := Lib.hid hr
      clear h h'
      go_enter Try.func31, Try.ntmps31
      go_wp2
      go_ret
      refine ⟨?_, (by repeat (first | exact Fr.refl _ _ | apply Fr.alloc | apply Fr.drewN | apply Fr.drew))⟩
      rw [hR.out]
      simp [hr.out]
  · have hb : (n != n') = true := by simpa using hn
    replace hn := Lib.hid hn
    clear h h'
    go_enter Try.func31, Try.ntmps31
    go_wp2
    go_ret
    refine ⟨?_, (by repeat (first | exact Fr.refl _ _ | apply Fr.alloc | apply Fr.drewN | apply Fr.drew))⟩
    rw [hR.out]
    simp [hn.out]


theorem same_any (n n' r r' : Int) (a a' : Option Addr) (cap cap' : Nat) (L L' : List Nd) (w : World) (h : SliceAt w 80 3 (.slice a L.length cap) L.length (ndCells L)) (h' : SliceAt w 80 3 (.slice a' L'.length cap') L'.length (ndCells L')) (hl : L.length ≤ 1000000) (hl' : L'.length ≤ 1000000) :
    Calls Try.prog 31 #[.agg #[.int .i64 n, .slice a L.length cap, .int .i64 r], .agg #[.int .i64 n', .slice a' L'.length cap', .int .i64 r']] w fun e w' => e = .returned (.bool (decide (n = n' ∧ r = r' ∧ L = L'))) ∧ Same w w' :=
  same_nds n n' r r' a a' cap cap' L L' w h.nds h'.nds hl hl'

set_option maxHeartbeats 400000 in
theorem none_true (a : Option Addr) (cap : Nat) (w : World) (h : SliceAt w 80 3 (.slice a 0 cap) 0 []) :
    Calls Try.prog 21 #[.agg #[.int .i64 0, .slice a 0 cap, .int .i64 0]] w fun e w' => e = .returned (.bool true) ∧ Same w w' := by
  have F := fun W (hW : Same w W) => same_any 0 0 0 0 a none cap 0 [] [] W (h.same hW) (SliceAt.nil _ _ _) (by simp) (by simp)
  simp only [List.length_nil, and_self, decide_true] at F
  replace F := Lib.hid F
  clear h
  go_enter Try.func21, Try.ntmps21
  go_wp2_with fail
  refine (F.out _ (by repeat (first | exact Fr.refl _ _ | apply Fr.alloc | apply Fr.drewN | apply Fr.drew))).mono ?_
  rintro e w1 ⟨rfl, hs⟩
  replace hs := Lib.hid hs
  go_wp2_with fail
  go_ret
  exact ⟨rfl, (show Same w _ from (by repeat (first | exact Fr.refl _ _ | apply Fr.alloc | apply Fr.drewN | apply Fr.drew))).same hs.out⟩

set_option maxRecDepth 100000 in
set_option maxHeartbeats 400000 in
theorem is_row (n : Nat) (t : List Bool) (a aT : Option Addr) (cap capT : Nat) (w : World) (hn : n ≤ 10) (ht : t.length = 2 ^ n) (hT : RowAt w (.slice aT t.length capT) t.length (boolCells t))
    (h : SliceAt w 80 3 (.slice a (tableF n [] 0 t).1.length cap) (tableF n [] 0 t).1.length (ndCells (tableF n [] 0 t).1)) :
    Calls Try.prog 20 #[.agg #[.int .i64 n, .slice a (tableF n [] 0 t).1.length cap, .int .i64 (tableF n [] 0 t).2], .int .i64 0, .int .i64 n, .slice aT t.length capT] w fun e w' => e = .returned (.bool true) ∧ Same w w' := by
  have F := fun W (hW : Same w W) => ldiagram_row n aT capT t W hn ht (hT.same hW)
  have hsh := tab_short hn t
  obtain ⟨L, r, hLr⟩ : ∃ L r, tableF n [] 0 t = (L, r) := ⟨_, _, rfl⟩
  rw [hLr] at F h hsh ⊢
  simp only at F h hsh ⊢
  have G := fun W a' cap' (hW : Same w W) (h' : SliceAt W 80 3 (.slice a' L.length cap') L.length (ndCells L)) => same_any n n r r a a' cap cap' L L W (h.same hW) h' (by omega) (by omega)
  simp only [and_self, decide_true] at G
  replace F := Lib.hid F
  replace G := Lib.hid G
  clear h hT ht hLr
  go_enter Try.func20, Try.ntmps20
  go_wp2_with fail
  refine wp_region_sched (Lk w.heap.size) [0, 0, 0, 1, 0, 0, 2, 3, 0, 0] [0, 1, 2, 4, 5, 3, 6, 7, 8, 9] (by kernel_rfl) (by kernel_rfl) ?_
  repeat (first | (refine sched_w rfl rfl (fun _ hK => ?_); go_simp; refine hK _ ?_; clear hK) | (refine sched_s rfl rfl (fun _ hK => ?_); go_simp; first | (refine hK _ ?_; clear hK) | (refine ⟨_, fun _ => rfl, hK _ ?_⟩; clear hK)))
  refine sched_g rfl rfl (fun _ hK => ?_)
  go_simp
  refine (F.out _ (by repeat (first | exact Fr.refl _ _ | apply Fr.alloc | apply Fr.drewN | apply Fr.drew | apply Fr.undrew | apply Fr.undrewN))).mono ?_
  rintro e w1 ⟨a1, cap1, rfl, hL1, hs1⟩
  refine hK _ _ (Kp.of_same hs1) ?_
  clear hK
  try simp only [Act.put, List.setIfInBounds_toArray, List.set_cons_zero, List.set_cons_succ]
  have hw1 : Same w w1 := (show Same w _ from (by repeat (first | exact Fr.refl _ _ | apply Fr.alloc | apply Fr.drewN | apply Fr.drew | apply Fr.undrew | apply Fr.undrewN))).same hs1
  replace hw1 := Lib.hid hw1
  replace hL1 := Lib.hid hL1
  replace hs1 := Lib.hid hs1
  refine sched_l rfl (by decide) (fun _ hK => ?_); go_simp
  refine (G.out _ _ _ hw1.out hL1.out).mono ?_
  rintro e w2 ⟨rfl, hs2⟩
  replace hs2 := Lib.hid hs2
  refine hK _ _ ?_; clear hK; try simp only [Act.put, List.setIfInBounds_toArray, List.set_cons_zero, List.set_cons_succ]
  repeat (first | (refine sched_w rfl rfl (fun _ hK => ?_); go_simp; refine hK _ ?_; clear hK) | (refine sched_s rfl rfl (fun _ hK => ?_); go_simp; first | (refine hK _ ?_; clear hK) | (refine ⟨_, fun _ => rfl, hK _ ?_⟩; clear hK)))
  refine sched_nil (NoPanic.normal ?_)
  go_wp2_with fail
  go_ret
  exact ⟨rfl, hw1.out.same hs2.out⟩

theorem is_true (n : Nat) (t : List Bool) (a aT : Option Addr) (cap capT : Nat) (w : World) (hn : n ≤ 10) (ht : t.length = 2 ^ n) (hT : SliceAt w 4 1 (.slice aT t.length capT) t.length (boolCells t))
    (h : SliceAt w 80 3 (.slice a (tableF n [] 0 t).1.length cap) (tableF n [] 0 t).1.length (ndCells (tableF n [] 0 t).1)) :
    Calls Try.prog 20 #[.agg #[.int .i64 n, .slice a (tableF n [] 0 t).1.length cap, .int .i64 (tableF n [] 0 t).2], .int .i64 0, .int .i64 n, .slice aT t.length capT] w fun e w' => e = .returned (.bool true) ∧ Same w w' :=
  is_row n t a aT cap capT w hn ht hT.row h


set_option maxHeartbeats 400000 in
/-- The reference's Same of equal tables. -/
theorem rsame_true (a a' : Option Addr) (cap cap' : Nat) (t : List Bool) (w : World) (h : SliceAt w 4 1 (.slice a t.length cap) t.length (boolCells t)) (h' : SliceAt w 4 1 (.slice a' t.length cap') t.length (boolCells t)) (hl : t.length ≤ 1000000) :
    Calls Try.prog 27 #[.slice a t.length cap, .slice a' t.length cap'] w fun e w' => e = .returned (.bool true) ∧ Same w w' := by
  replace h := Lib.hid h
  replace h' := Lib.hid h'
  go_enter Try.func27, Try.ntmps27
  go_wp2
  go_loopw [5] (fun i wr => (∃ k : Nat, k ≤ t.length ∧ i = .int .i64 k) ∧ ∃ m, wr = w.drewN m) (fun i _ => t.length - (intOf i).toNat)
  case atStart => exact ⟨⟨0, by omega, rfl⟩, 0, rfl⟩
  case round =>
    obtain ⟨⟨k, hk, rfl⟩, m, rfl⟩ := hrel
    by_cases hlt : k < t.length
    · obtain ⟨b, off, ha, hb, hc⟩ := h.out.cell (by omega)
      obtain ⟨b', off', ha', hb', hc'⟩ := h'.out.cell (by omega)
      subst ha
      subst ha'
      have x := hc k _ (boolCells_get t k hlt)
      have x' := hc' k _ (boolCells_get t k hlt)
      clear hc hc'
      go_wp2
      go_quiet (fail)
      go_wp2
      go_roundw
      case rel => exact ⟨⟨k + 1, by omega, by go_num⟩, _, rfl⟩
      case measure => simp [intOf]; omega
    · go_wp2
      go_ret
      exact ⟨rfl, (by repeat (first | exact Fr.refl _ _ | apply Fr.alloc | apply Fr.drewN | apply Fr.drew))⟩

theorem known_from (W : World) (b : Nat) (hb : BoolsAt W b [true, false, false, true]) :
    Calls Try.prog 25 #[.int .i64 2, .slice (some ⟨b, 0, none⟩) 4 4] W (DRet W 2 [(1, 1, 0), (1, 0, 1), (0, 2, 3)] 4) :=
  fromTable_ok 2 [true, false, false, true] (some ⟨b, 0, none⟩) 4 W (by decide) rfl (hb.slice (by decide))

def kx (a : Option Addr) (cap : Nat) : Dg := ⟨3, a, cap, [(0, 0, 1)], 2⟩
def ky (a : Option Addr) (cap : Nat) : Dg := ⟨3, a, cap, [(2, 0, 1)], 2⟩
def kz (a : Option Addr) (cap : Nat) : Dg := ⟨3, a, cap, [(2, 0, 1), (0, 0, 2)], 3⟩
theorem kx_tab (a : Option Addr) (cap : Nat) : (kx a cap).tab 3 [false, false, false, false, true, true, true, true] := ⟨rfl, by decide, rfl, rfl, by simp [kx, ky, kz]⟩
theorem ky_tab (a : Option Addr) (cap : Nat) : (ky a cap).tab 3 [false, true, false, true, false, true, false, true] := ⟨rfl, by decide, rfl, rfl, by simp [kx, ky, kz]⟩
theorem kz_tab (a : Option Addr) (cap : Nat) : (kz a cap).tab 3 [false, false, false, false, false, true, false, true] := ⟨rfl, by decide, rfl, rfl, by simp [kx, ky, kz]⟩

theorem known_and (W : World) (a a' : Option Addr) (cap cap' : Nat) (h : (kx a cap).at W) (h' : (ky a' cap').at W) :
    Calls Try.prog 16 #[.agg #[.int .i64 3, .slice a 1 cap, .int .i64 2], .agg #[.int .i64 3, .slice a' 1 cap', .int .i64 2]] W (DRet W 3 [(2, 0, 1), (0, 0, 2)] 3) :=
  and_right 3 (kx a cap) (ky a' cap') _ _ W (by decide) h h' (kx_tab a cap) (ky_tab a' cap')

theorem known_count (W : World) (a : Option Addr) (cap : Nat) (h : (kz a cap).at W) :
    Calls Try.prog 33 #[.agg #[.int .i64 3, .slice a 2 cap, .int .i64 3]] W fun e w' => e = .returned (.tuple #[.int .i64 2, .int .i64 0]) ∧ Same W w' :=
  count_tab (kz a cap) 3 _ W h (kz_tab a cap)

theorem known_any (W : World) (a : Option Addr) (cap : Nat) (h : (kz a cap).at W) :
    Calls Try.prog 35 #[.agg #[.int .i64 3, .slice a 2 cap, .int .i64 3]] W (AnyRet 3 [true, false, true] W) :=
  any_some (kz a cap) 3 _ W h (kz_tab a cap) (by simp [kz])

theorem known_equal (W : World) (a a' : Option Addr) (cap cap' : Nat) (L : List Nd) (hl : L = [(1, 1, 0), (1, 0, 1), (0, 2, 3)]) (h : SliceAt W 80 3 (.slice a 3 cap) 3 (ndCells L)) (h' : SliceAt W 80 3 (.slice a' 3 cap') 3 (ndCells L)) :
    Calls Try.prog 42 #[.agg #[.int .i64 2, .slice a 3 cap, .int .i64 4], .agg #[.int .i64 2, .slice a' 3 cap', .int .i64 4]] W fun e w' => e = .returned (.bool true) ∧ Same W w' := by
  subst hl
  have := equal_any 2 2 4 4 a a' cap cap' [(1, 1, 0), (1, 0, 1), (0, 2, 3)] [(1, 1, 0), (1, 0, 1), (0, 2, 3)] W h h' (by decide) (by decide)
  simpa using this

theorem known_same (W : World) (b b' : Nat) (h : BoolsAt W b [true, false, true]) (h' : BoolsAt W b' [true, false, true]) :
    Calls Try.prog 27 #[.slice (some ⟨b, 0, none⟩) 3 3, .slice (some ⟨b', 0, none⟩) 3 3] W fun e w' => e = .returned (.bool true) ∧ Same W w' :=
  rsame_true _ _ 3 3 [true, false, true] W (h.slice (by decide)) (h'.slice (by decide)) (by decide)

set_option maxRecDepth 100000 in
set_option maxHeartbeats 1000000 in
theorem known_true (w : World) : Calls Try.prog 12 #[] w fun e w' => e = .returned (.bool true) ∧ Same w w' := by
  go_enter Try.func12, Try.ntmps12
  go_wp2_with fail
  refine (known_from _ _ (heap_new _ _)).mono ?_
  rintro e w1 ⟨a1, c1, rfl, hO1, hs1⟩
  have hw1 := (show Same w _ from (by repeat (first | exact Fr.refl _ _ | apply Fr.alloc | apply Fr.drewN | apply Fr.drew))).same hs1
  replace hs1 := Lib.hid hs1
  replace hO1 := Lib.hid hO1
  replace hw1 := Lib.hid hw1
  go_wp2_with fail
  refine (variable_ok 3 0 _ (by decide) (by decide)).mono ?_
  rintro e w2 ⟨a2, c2, rfl, hO2, hs2⟩
  have k1 := hs2.at (heap_new _ _) id
  have hw2 := (hw1.out.same (by repeat (first | exact Fr.refl _ _ | apply Fr.alloc | apply Fr.drewN | apply Fr.drew))).same hs2
  replace hO1 := Lib.hid (hO1.out.same ((show Same w1 _ from (by repeat (first | exact Fr.refl _ _ | apply Fr.alloc | apply Fr.drewN | apply Fr.drew))).same hs2))
  replace k1 := Lib.hid k1
  replace hs2 := Lib.hid hs2
  replace hO2 := Lib.hid hO2
  replace hw2 := Lib.hid hw2
  go_wp2_with fail
  refine (variable_ok 3 2 _ (by decide) (by decide)).mono ?_
  rintro e w3 ⟨a3, c3, rfl, hO3, hs3⟩
  have h23 := (show Same w2 _ from (by repeat (first | exact Fr.refl _ _ | apply Fr.alloc | apply Fr.drewN | apply Fr.drew))).same hs3
  have k2 := hs3.at (heap_new _ _) id
  replace k1 := Lib.hid (h23.at k1.out id)
  have hw3 := hw2.out.same h23
  replace hO1 := Lib.hid (hO1.out.same h23)
  replace hO2 := Lib.hid (hO2.out.same h23)
  have l1 := lt_of_heap k1.out
  have l2 := lt_of_heap k2
  have x0 := cell_at k2 0
  have x1 := cell_at k2 1
  have x2 := cell_at k2 2
  replace k2 := Lib.hid k2
  replace hs3 := Lib.hid hs3
  replace hO3 := Lib.hid hO3
  replace hw3 := Lib.hid hw3
  clear h23
  go_wp2_with fail
  refine (known_and _ a2 a3 c2 c3 (SliceAt.same hO2.out (by repeat (first | exact Fr.refl _ _ | apply Fr.alloc | apply Fr.drewN | apply Fr.drew))) (SliceAt.same hO3.out (by repeat (first | exact Fr.refl _ _ | apply Fr.alloc | apply Fr.drewN | apply Fr.drew)))).mono ?_
  rintro e w4 ⟨a4, c4, rfl, hO4, hs4⟩
  have h34 := (show Same w3 _ from (by repeat (first | exact Fr.refl _ _ | apply Fr.alloc | apply Fr.drewN | apply Fr.drew))).same hs4
  have hw4 := hw3.out.same h34
  replace hO1 := Lib.hid (hO1.out.same h34)
  replace k1 := Lib.hid (h34.at k1.out id)
  replace hs4 := Lib.hid hs4
  replace hO4 := Lib.hid hO4
  replace hw4 := Lib.hid hw4
  clear h34 x0 x1 x2 l1 l2 k2 hO2 hO3
  go_wp2_with fail
  refine (known_count _ a4 c4 (SliceAt.same hO4.out (by repeat (first | exact Fr.refl _ _ | apply Fr.alloc | apply Fr.drewN | apply Fr.drew)))).mono ?_
  rintro e w5 ⟨rfl, hs5⟩
  have h45 := (show Same w4 _ from (by repeat (first | exact Fr.refl _ _ | apply Fr.alloc | apply Fr.drewN | apply Fr.drew))).same hs5
  have hw5 := hw4.out.same h45
  replace hO1 := Lib.hid (hO1.out.same h45)
  replace hO4 := Lib.hid (hO4.out.same h45)
  replace k1 := Lib.hid (h45.at k1.out id)
  have k4 := hs5.at (heap_new _ _) id
  have x0 := cell_at k4 0
  have x1 := cell_at k4 1
  have x2 := cell_at k4 2
  replace hs5 := Lib.hid hs5
  replace hw5 := Lib.hid hw5
  replace k4 := Lib.hid k4
  clear h45
  go_wp2_with fail
  refine (known_any _ a4 c4 hO4.out).mono ?_
  rintro e w6 ⟨b6, rfl, -, hB6, -, hs6⟩
  have hw6 := hw5.out.same hs6
  replace hO1 := Lib.hid (hO1.out.same hs6)
  have y0 := cell_at (hs6.at k1.out id) 0
  have y1 := cell_at (hs6.at k1.out id) 1
  have y2 := cell_at (hs6.at k1.out id) 2
  have yl := lt_of_heap (hs6.at k1.out id)
  have hk6 := Lib.hid (hs6.at k1.out id)
  replace hs6 := Lib.hid hs6
  replace hw6 := Lib.hid hw6
  replace hB6 := Lib.hid hB6
  clear x0 x1 x2 k4 k1 hO4
  go_wp2_with fail
  refine (known_equal _ a1 _ c1 3 _ rfl (hO1.out.same (by repeat (first | exact Fr.refl _ _ | apply Fr.alloc | apply Fr.drewN | apply Fr.drew))) (nodes_of_block (L := [(1, 1, 0), (1, 0, 1), (0, 2, 3)]) (heap_new_at (by simp) _) (by decide))).mono ?_
  rintro e w7 ⟨rfl, hs7⟩
  have h67 := (show Same w6 _ from (by repeat (first | exact Fr.refl _ _ | apply Fr.alloc | apply Fr.drewN | apply Fr.drew))).same hs7
  have hw7 := hw6.out.same h67
  have z0 := cell_at (h67.at hk6.out id) 0
  have z1 := cell_at (h67.at hk6.out id) 1
  have z2 := cell_at (h67.at hk6.out id) 2
  have zl := lt_of_heap (h67.at hk6.out id)
  have hB7 : BoolsAt w7 b6 [true, false, true] := h67.at hB6.out id
  replace hs7 := Lib.hid hs7
  replace hw7 := Lib.hid hw7
  replace hB7 := Lib.hid hB7
  clear h67 y0 y1 y2 yl
  go_wp2_with fail
  refine (known_same _ b6 _ ((show Same w7 _ from (by repeat (first | exact Fr.refl _ _ | apply Fr.alloc | apply Fr.drewN | apply Fr.drew))).at hB7.out id) (heap_new_at (by simp) _)).mono ?_
  rintro e w8 ⟨rfl, hs8⟩
  have hw8 := (hw7.out.same (by repeat (first | exact Fr.refl _ _ | apply Fr.alloc | apply Fr.drewN | apply Fr.drew))).same hs8
  replace hw8 := Lib.hid hw8
  clear hs8
  go_wp2_with fail
  go_ret
  exact ⟨rfl, hw8.out⟩
end Go.Proofs.Ytaebjalpebgliaa
