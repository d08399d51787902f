/- BddTables. -/
import Derived.Test.YtaebjalpebgliaaKnown
import Derived.Test.YtaebjalpebgliaaLSame
import Derived.Test.YtaebjalpebgliaaTab
namespace Go.Proofs.Ytaebjalpebgliaa
open Go.RowKit
set_option linter.unusedVariables false
set_option linter.unusedSimpArgs false

theorem is_can' (n : Nat) (t : List Bool) (L : List Nd) (r : Int) (a : Option Addr) (c b : Nat) (w : World) (hn : n ≤ 10) (ht : t.length = 2 ^ n) (h : tableF n [] 0 t = (L, r)) (hO : SliceAt w 80 3 (.slice a L.length c) L.length (ndCells L))
    (hT : BoolsAt w b t) :
    Calls Try.prog 20 #[.agg #[.int .i64 n, .slice a L.length c, .int .i64 r], .int .i64 0, .int .i64 n, .slice (some ⟨b, 0, none⟩) t.length t.length] w fun e w' => e = .returned (.bool true) ∧ Same w w' := by
  have h2 : 2 ^ n ≤ 2 ^ 10 := Nat.pow_le_pow_right (by omega) hn
  have := is_true n t a (some ⟨b, 0, none⟩) c t.length w hn ht (hT.slice (by omega)) (by rw [h]; exact hO)
  rw [h] at this
  exact this

theorem SliceAt.empty {w w' : World} {T : TypeId} {sz : Nat} {v : Value} (h : SliceAt w T sz v 0 []) : SliceAt w' T sz v 0 [] := by
  obtain ⟨hl, a, c, he, h1, h2, h3, _⟩ := h
  exact ⟨hl, a, c, he, h1, h2, h3, fun h => absurd h (Nat.lt_irrefl 0)⟩

set_option maxRecDepth 100000 in
set_option maxHeartbeats 4000000 in
theorem bddTables_any (v b : Int) (hv : 0 ≤ v ∧ v ≤ 255) (hb : 0 ≤ b ∧ b ≤ 4294967295) (i : Int) (hi : -9223372036854775808 ≤ i ∧ i ≤ 9223372036854775807) (value : Bool) (w : World) :
    Calls Try.prog 5 #[.agg #[.int .u8 v, .int .u32 b], .int .i64 i, .bool value] w fun e w' => e = .returned (.bool true) ∧ Same w w' := by
  have T1 := fun W => ltable_any v b W hv.1 hv.2 hb.1 hb.2
  obtain ⟨n, hn⟩ : ∃ n : Nat, n = (v % 6).toNat := ⟨_, rfl⟩
  rw [← hn] at T1
  have n5 : n ≤ 5 := by omega
  obtain ⟨m, hm⟩ : ∃ m, m = 2 ^ n := ⟨_, rfl⟩
  have hm2 : m ≤ 32 := by rw [hm]; exact Nat.pow_le_pow_right (by omega) n5
  clear hn hv hb
  replace T1 := Lib.hid T1; replace hm := Lib.hid hm
  go_enter Try.func5, Try.ntmps5
  go_wp2_with fail
  refine (known_true _).mono ?_
  rintro e w1 ⟨rfl, hs1⟩
  have f1 := hs1.at (heap_new w _) id
  have c10 := cell_at f1 0
  have c11 := cell_at f1 1
  have l1 := lt_of_heap f1
  have hw1 := (show Same w _ from (by repeat (first | exact Fr.refl _ _ | apply Fr.alloc | apply Fr.drewN | apply Fr.drew | apply Fr.undrew | apply Fr.undrewN))).same hs1
  replace f1 := Lib.hid f1; replace hs1 := Lib.hid hs1; replace hw1 := Lib.hid hw1
  go_wp2_with fail
  refine (T1.out _).mono ?_
  rintro e w2 ⟨t, bt, ht, rfl, hT, hbt, hs2⟩
  have hw2 := hw1.out.same hs2
  have FT := fromTable_ok n t (some ⟨bt, 0, none⟩) t.length w2 (by omega) ht (hT.slice (by rw [ht, ← hm.out]; omega))
  have IT := IsTab.of (n := n) (by omega) ht
  obtain ⟨L, r, hLr⟩ : ∃ L r, tableF n [] 0 t = (L, r) := ⟨_, _, rfl⟩
  rw [hLr] at FT IT
  simp only at FT IT
  replace hT := Lib.hid hT; replace hs2 := Lib.hid hs2; replace hw2 := Lib.hid hw2; replace ht := Lib.hid ht; replace FT := Lib.hid FT; replace IT := Lib.hid IT; replace hLr := Lib.hid hLr; replace hbt := Lib.hid hbt
  clear c10 c11 l1 f1
  go_wp2_with fail
  refine FT.out.mono ?_
  rintro e w3 ⟨a3, c3, rfl, hO3, hs3⟩
  have hw3 := hw2.out.same hs3
  replace hT := Lib.hid (hT.out.fr hs3 id)
  replace hO3 := Lib.hid hO3; replace hs3 := Lib.hid hs3; replace hw3 := Lib.hid hw3
  go_wp2_with fail
  refine (table_tab ⟨n, a3, c3, L, r⟩ n t _ (by omega) (hO3.out.same (by repeat (first | exact Fr.refl _ _ | apply Fr.alloc | apply Fr.drewN | apply Fr.drew | apply Fr.undrew | apply Fr.undrewN))) ⟨rfl, IT.out⟩).mono ?_
  rintro e w4 ⟨b4, rfl, hB4, -, hs4⟩
  have h34 : Same w3 w4 := (show Same w3 _ from (by repeat (first | exact Fr.refl _ _ | apply Fr.alloc | apply Fr.drewN | apply Fr.drew | apply Fr.undrew | apply Fr.undrewN))).same hs4
  have k3 := hs4.at (heap_new w3 _) id
  have q0 := cell_at k3 0
  have q1 := cell_at k3 1
  have q2 := cell_at k3 2
  have ql := lt_of_heap k3
  have hw4 := hw3.out.same h34
  replace hT := Lib.hid (hT.out.fr h34 id)
  replace hO3 := Lib.hid (hO3.out.same h34)
  replace k3 := Lib.hid k3; replace hs4 := Lib.hid hs4; replace hw4 := Lib.hid hw4; replace h34 := Lib.hid h34; replace hB4 := Lib.hid hB4
  go_wp2_with fail
  refine (is_can' n t L r a3 c3 bt w4 (by omega) ht.out hLr.out hO3.out hT.out).mono ?_
  rintro e w5 ⟨rfl, hs5⟩
  have hw5 := hw4.out.same hs5
  have hRS := rsame_true (some ⟨b4, 0, none⟩) (some ⟨bt, 0, none⟩) t.length t.length t w5 (((hB4.out.fr hs5 id).slice (by rw [ht.out, ← hm.out]; omega))) (((hT.out.fr hs5 id).slice (by rw [ht.out, ← hm.out]; omega))) (by rw [ht.out, ← hm.out]; omega)
  replace hT := Lib.hid (hT.out.fr hs5 id)
  replace hs5 := Lib.hid hs5; replace hw5 := Lib.hid hw5; replace hRS := Lib.hid hRS
  clear q0 q1 q2 ql
  go_wp2_with fail
  refine hRS.out.mono ?_
  rintro e w6 ⟨rfl, hs6⟩
  have hw6 := hw5.out.same hs6
  replace hT := Lib.hid (hT.out.fr hs6 id)
  replace hs6 := Lib.hid hs6; replace hw6 := Lib.hid hw6
  go_wp2_with fail
  obtain ⟨R7, hR7⟩ : ∃ R7 : Int, R7 = if value then 1 else 0 := ⟨_, rfl⟩
  have CO := constant_ok n value w6 (by omega)
  rw [← hR7] at CO
  replace hR7 := Lib.hid hR7
  refine CO.mono ?_
  rintro e w7 ⟨a7, c7, rfl, hO7, hs7⟩
  have hw7 := hw6.out.same hs7
  replace hT := Lib.hid (hT.out.fr hs7 id)
  replace hs7 := Lib.hid hs7; replace hw7 := Lib.hid hw7; replace hO7 := Lib.hid hO7
  go_wp2_with fail
  have hml : t.length ≤ 32 := by rw [ht.out, ← hm.out]; exact hm2
  have hbw : w.heap.size ≤ bt := Nat.le_trans hw1.out.size hbt.out
  have hb7 := hT.out.lt
  have hne : bt ≠ w7.heap.size := by omega
  go_loopw [15] (fun i wr => ∃ (k : Nat) (cs : List Bool), i = .int .i64 k ∧ k ≤ t.length ∧ cs.length = t.length ∧ (∀ q, q < k → cs.getD q false = value) ∧ BoolsAt wr bt cs ∧ wr.heap[w7.heap.size]? = some (.cells #[.int .i64 n, .slice a7 0 c7, .int .i64 R7] 31 (0, 0)) ∧ Same w wr ∧ (0 < wr.heap.size)) (fun i _ => t.length - (intOf i).toNat)
  case atStart => exact ⟨0, t, rfl, by omega, rfl, fun q h => by omega, (hT.out.fr (S := fun _ => False) (by repeat (first | exact Fr.refl _ _ | apply Fr.alloc | apply Fr.drewN | apply Fr.drew | apply Fr.undrew | apply Fr.undrewN)) id), heap_new _ _, hw7.out.alloc _, by simp⟩
  case round =>
    obtain ⟨k, cs, rfl, hk, hcs, hgood, hB, hbx, hs, -⟩ := hrel
    have y0 := cell_at hbx 0
    have y1 := cell_at hbx 1
    have y2 := cell_at hbx 2
    have yl := lt_of_heap hbx
    have bl := hB.lt
    by_cases hlt : k < t.length
    · have cb := hB.cell (k := k) (by omega)
      have fb := hB.free k
      replace hcs := Lib.hid hcs; replace hgood := Lib.hid hgood; replace hB := Lib.hid hB; replace hbx := Lib.hid hbx; replace hs := Lib.hid hs; replace hk := Lib.hid hk
      go_wp2_with fail
      go_roundw
      case rel =>
        refine ⟨k + 1, _, by go_num, by omega, ?_, ?_, hB.out.set k value, ?_, hs.out.setCell _ _ (fun h => by simp only at h; omega), by simp [World.setCell]; omega⟩
        · simp [hcs.out]
        · intro q hq
          by_cases hqk : q = k
          · subst hqk
            have : q < cs.length := by rw [hcs.out]; exact hlt
            simp [List.getD, this]
          · have h1 := hgood.out q (by omega)
            rw [← h1]
            simp only [List.getD_eq_getElem?_getD]
            rw [List.getElem?_set_ne (by omega)]
        · rw [heap_setCell_other (by simp only; omega)]; exact hbx.out
      case measure => simp [intOf]; omega
    · have hct : cs = List.replicate (2 ^ n) value := by
        refine List.ext_getElem (by rw [hcs, ht.out]; simp) (fun q h1 h2 => ?_)
        have := hgood q (by omega)
        simp only [List.getD_eq_getElem?_getD, List.getElem?_eq_getElem h1, Option.getD_some] at this
        simp [this]
      have hTC := table_const (n := n) (by omega) value
      rw [← hR7.out, ← hct] at hTC
      have hO7' : SliceAt wr 80 3 (.slice a7 0 c7) 0 [] := SliceAt.empty hO7.out
      have IC := is_can' n cs [] R7 a7 c7 bt wr (by omega) (by rw [hcs, ht.out]) hTC hO7' hB
      simp only [List.length_nil] at IC
      rw [hcs] at IC
      replace hcs := Lib.hid hcs; replace hgood := Lib.hid hgood; replace hB := Lib.hid hB; replace hbx := Lib.hid hbx; replace hs := Lib.hid hs; replace hk := Lib.hid hk; replace hct := Lib.hid hct; replace hTC := Lib.hid hTC; replace IC := Lib.hid IC
      go_wp2_with fail
      refine IC.out.mono ?_
      rintro e w8 ⟨rfl, hs8⟩
      have hw8 := hs.out.same hs8
      replace hB := Lib.hid (hB.out.fr hs8 id)
      clear y0 y1 y2 yl bl
      replace hs8 := Lib.hid hs8; replace hw8 := Lib.hid hw8
      by_cases hir : i < 0 ∨ (n : Int) ≤ i
      · have VR := variable_range (n : Int) i w8 (by omega)
        replace VR := Lib.hid VR; replace hir := Lib.hid hir
        go_wp2_with fail
        refine VR.out.mono ?_
        rintro e w9 ⟨rfl, hs9⟩
        have NT := fun W (hW : Same w9 W) => none_true Option.none 0 W (SliceAt.nil _ _ _)
        have hw9 := hw8.out.same hs9
        replace hs9 := Lib.hid hs9; replace hw9 := Lib.hid hw9; replace NT := Lib.hid NT
        rcases hir.out with h | h
        · go_wp2_with fail
          refine (NT.out _ (by repeat (first | exact Fr.refl _ _ | apply Fr.alloc | apply Fr.drewN | apply Fr.drew | apply Fr.undrew | apply Fr.undrewN))).mono ?_
          rintro e w10 ⟨rfl, hs10⟩
          have hF := (hw9.out.same (by repeat (first | exact Fr.refl _ _ | apply Fr.alloc | apply Fr.drewN | apply Fr.drew | apply Fr.undrew | apply Fr.undrewN))).same hs10
          replace hF := Lib.hid hF; replace hs10 := Lib.hid hs10
          go_wp2_with fail
          go_ret
          exact ⟨rfl, hF.out⟩
        · go_wp2_with fail
          all_goals
            refine (NT.out _ (by repeat (first | exact Fr.refl _ _ | apply Fr.alloc | apply Fr.drewN | apply Fr.drew | apply Fr.undrew | apply Fr.undrewN))).mono ?_
            rintro e w10 ⟨rfl, hs10⟩
            have hF := (hw9.out.same (by repeat (first | exact Fr.refl _ _ | apply Fr.alloc | apply Fr.drewN | apply Fr.drew | apply Fr.undrew | apply Fr.undrewN))).same hs10
            replace hF := Lib.hid hF; replace hs10 := Lib.hid hs10
            go_wp2_with fail
            go_ret
            exact ⟨rfl, hF.out⟩
      · obtain ⟨p, rfl⟩ : ∃ p : Nat, i = p := ⟨i.toNat, by omega⟩
        have hp0 : (0 : Int) ≤ p := by omega
        have hpn : (p : Int) < n := by omega
        have hp : p < n := by omega
        have hd1 : decide ((p : Int) < 0) = false := decide_eq_false (by omega)
        have hd2 : decide ((n : Int) ≤ (p : Int)) = false := decide_eq_false (by omega)
        have hd3 : decide (n ≤ p) = false := decide_eq_false (by omega)
        clear hir hi
        go_wp2_with fail
        refine (variable_ok (n : Int) p w8 (by omega) (by omega)).mono ?_
        rintro e w9 ⟨a9, c9, rfl, hO9, hs9⟩
        have hw9 := hw8.out.same hs9
        replace hB := Lib.hid (hB.out.fr hs9 id)
        have hb9 := hB.out.lt
        have hne9 : bt ≠ w9.heap.size := by omega
        have hcl := hcs.out
        have hO9' : ∀ W : World, Same w9 W → True := fun _ _ => trivial
        replace hO9 := Lib.hid hO9; replace hs9 := Lib.hid hs9; replace hw9 := Lib.hid hw9; replace hcl := Lib.hid hcl
        go_wp2_with fail
        go_loopw [18] (fun i wr => ∃ (k : Nat) (ds : List Bool), i = .int .i64 k ∧ k ≤ t.length ∧ ds.length = t.length ∧ (∀ q, q < k → ds.getD q false = bitF n q p) ∧ BoolsAt wr bt ds ∧ wr.heap[w9.heap.size]? = some (.cells #[.int .i64 n, .slice a9 1 c9, .int .i64 2] 31 (0, 0)) ∧ SliceAt wr 80 3 (.slice a9 1 c9) 1 (ndCells [((p : Int), 0, 1)]) ∧ Same w wr) (fun i _ => t.length - (intOf i).toNat)
        case atStart => exact ⟨0, cs, rfl, by omega, hcl.out, fun q h => by omega, (hB.out.fr (S := fun _ => False) (by repeat (first | exact Fr.refl _ _ | apply Fr.alloc | apply Fr.drewN | apply Fr.drew | apply Fr.undrew | apply Fr.undrewN)) id), heap_new _ _, hO9.out.same (by repeat (first | exact Fr.refl _ _ | apply Fr.alloc | apply Fr.drewN | apply Fr.drew | apply Fr.undrew | apply Fr.undrewN)), hw9.out.alloc _⟩
        case round =>
          obtain ⟨k, ds, rfl, hk, hds, hgood, hB, hbx, hO, hs⟩ := hrel
          have y0 := cell_at hbx 0
          have y1 := cell_at hbx 1
          have y2 := cell_at hbx 2
          have yl := lt_of_heap hbx
          have bl := hB.lt
          by_cases hlt : k < t.length
          · have cb := hB.cell (k := k) (by omega)
            have fb := hB.free k
            have BT := bit_any n k p wr hp (by omega) (by rw [← ht.out]; exact hlt)
            replace hds := Lib.hid hds; replace hgood := Lib.hid hgood; replace hB := Lib.hid hB; replace hbx := Lib.hid hbx; replace hO := Lib.hid hO; replace hs := Lib.hid hs; replace hk := Lib.hid hk; replace BT := Lib.hid BT
            go_wp2_with fail
            refine BT.out.mono ?_
            rintro e w' ⟨rfl, rfl⟩
            go_wp2_with fail
            go_roundw
            case rel =>
              refine ⟨k + 1, _, by go_num, by omega, ?_, ?_, hB.out.set k _, ?_, ?_, hs.out.setCell _ _ (fun h => by simp only at h; omega)⟩
              · simp [hds.out]
              · intro q hq
                by_cases hqk : q = k
                · subst hqk
                  have : q < ds.length := by rw [hds.out]; exact hlt
                  simp [List.getD, this]
                · have h1 := hgood.out q (by omega)
                  rw [← h1]
                  simp only [List.getD_eq_getElem?_getD]
                  rw [List.getElem?_set_ne (by omega)]
              · rw [heap_setCell_other (by simp only; omega)]; exact hbx.out
              · refine hO.out.fr (S := fun q => q = bt) ((Fr.refl _ _).setCell _ _ (fun _ => rfl)) (fun q cur hq h => ?_)
                rw [h] at hq
                have := hB.out
                unfold BoolsAt at this
                rw [this] at hq
                simp at hq
            case measure => simp [intOf]; omega
          · have hct : ds = varT n p := by
              refine List.ext_getElem (by rw [hds, ht.out, varT_length]) (fun q h1 h2 => ?_)
              have := hgood q (by omega)
              simp only [List.getD_eq_getElem?_getD, List.getElem?_eq_getElem h1, Option.getD_some] at this
              simp [varT, this]
            have hTV := table_var (n := n) (i := p) (by omega) hp
            rw [← hct] at hTV
            have IC2 := is_can' n ds [((p : Int), 0, 1)] 2 a9 c9 bt wr (by omega) (by rw [hds, ht.out]) hTV hO hB
            rw [hds] at IC2
            simp only [List.length_cons, List.length_nil, Nat.zero_add] at IC2
            replace hds := Lib.hid hds; replace hgood := Lib.hid hgood; replace hB := Lib.hid hB; replace hbx := Lib.hid hbx; replace hO := Lib.hid hO; replace hs := Lib.hid hs; replace hk := Lib.hid hk; replace hct := Lib.hid hct; replace hTV := Lib.hid hTV; replace IC2 := Lib.hid IC2
            go_wp2_with fail
            refine IC2.out.mono ?_
            rintro e w10 ⟨rfl, hs10⟩
            have hF := hs.out.same hs10
            replace hF := Lib.hid hF; replace hs10 := Lib.hid hs10
            go_wp2_with fail
            go_ret
            exact ⟨rfl, hF.out⟩
end Go.Proofs.Ytaebjalpebgliaa
