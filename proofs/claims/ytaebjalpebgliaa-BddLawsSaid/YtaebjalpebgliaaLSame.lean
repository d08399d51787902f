/- The law's same, none, is; the reference's Same. -/
import Derived.Test.YtaebjalpebgliaaLDia
namespace Go.Proofs.Ytaebjalpebgliaa
open Go.RowKit
set_option linter.unusedVariables false
set_option linter.unusedSimpArgs false

set_option maxRecDepth 100000 in
set_option maxHeartbeats 1000000 in
theorem same_any (n n' r r' : Int) (a a' : Option Addr) (cap cap' : Nat) (L L' : List Nd) (w : World) (h : SliceAt w 80 3 (.slice a L.length cap) L.length (ndCells L)) (h' : SliceAt w 80 3 (.slice a' L'.length cap') L'.length (ndCells L')) (hl : L.length ≤ 1000000) (hl' : L'.length ≤ 1000000) :
    Calls Try.prog 31 #[.agg #[.int .i64 n, .slice a L.length cap, .int .i64 r], .agg #[.int .i64 n', .slice a' L'.length cap', .int .i64 r']] w fun e w' => e = .returned (.bool (decide (n = n' ∧ r = r' ∧ L = L'))) ∧ Same w w' := by
  obtain ⟨R, hR⟩ : ∃ R : Bool, R = decide (n = n' ∧ r = r' ∧ L = L') := ⟨_, rfl⟩
  rw [← hR]
  replace hR := Lib.hid hR
  by_cases hn : n = n'
  · subst hn
    by_cases hr : r = r'
    · subst hr
      by_cases hlen : L.length = L'.length
      · replace h := Lib.hid h
        rw [← hlen] at h' ⊢
        replace h' := Lib.hid h'
        replace hlen := Lib.hid hlen
        go_enter Try.func31, Try.ntmps31
        go_wp2
        go_loopw [5] (fun i wr => (∃ k : Nat, k ≤ L.length ∧ i = .int .i64 k ∧ ∀ (j : Nat), j < k → L[j]? = L'[j]?) ∧ ∃ m, wr = ((w.alloc (.cells #[.int .i64 n, .slice a L.length cap, .int .i64 r] 31)).alloc (.cells #[.int .i64 n, .slice a' L.length cap', .int .i64 r] 31)).drewN m) (fun i _ => L.length - (intOf i).toNat)
        case atStart => exact ⟨⟨0, by omega, rfl, fun _ h => by omega⟩, 0, rfl⟩
        case round =>
          obtain ⟨⟨k, hk, rfl, hf⟩, m, rfl⟩ := hrel
          replace hf := Lib.hid hf
          by_cases hlt : k < L.length
          · have hlt' : k < L'.length := by rw [← hlen.out]; exact hlt
            obtain ⟨b, off, ha, hb, h1, h2, h3⟩ := h.out.node hlt
            have h'' := h'.out
            rw [hlen.out] at h''
            obtain ⟨b', off', ha', hb', h1', h2', h3'⟩ := h''.node hlt'
            clear h''
            replace hlt' := Lib.hid hlt'
            subst ha
            subst ha'
            by_cases hx : L[k] = L'[k]'(hlt'.out)
            · have hn := nde_true hx
              replace hx := Lib.hid hx
              go_wp2
              go_quiet (fail)
              go_wp2
              go_roundw
              case rel =>
                refine ⟨⟨k + 1, by omega, by go_num, fun j hj => ?_⟩, _, rfl⟩
                by_cases hjk : j < k
                · exact hf.out j hjk
                · have : j = k := by omega
                  subst this
                  rw [List.getElem?_eq_getElem hlt, List.getElem?_eq_getElem hlt'.out, hx.out]
              case measure => simp [intOf]; omega
            · have hn := nde_false hx
              replace hx := Lib.hid hx
              go_wp2
              go_quiet (fail)
              go_wp2
              go_ret
              refine ⟨?_, (by repeat (first | exact Fr.refl _ _ | apply Fr.alloc | apply Fr.drewN | apply Fr.drew))⟩
              rw [hR.out]
              have : ¬ L = L' := fun e => hx.out (by subst e; rfl)
              simp [this]
          · go_wp2
            go_ret
            refine ⟨?_, (by repeat (first | exact Fr.refl _ _ | apply Fr.alloc | apply Fr.drewN | apply Fr.drew))⟩
            rw [hR.out]
            have : L = L' := by
              apply List.ext_getElem?
              intro j
              by_cases hj : j < k
              · exact hf.out j hj
              · rw [List.getElem?_eq_none (by omega), List.getElem?_eq_none (by have := hlen.out; omega)]
            simp [this]
      · have hne : ¬ L = L' := fun e => hlen (by rw [e])
        have hb : (L.length : Int) ≠ L'.length := by omega
        replace hlen := Lib.hid hlen
        replace hne := Lib.hid hne
        clear h h'
        go_enter Try.func31, Try.ntmps31
        go_wp2
        go_ret
        refine ⟨?_, (by repeat (first | exact Fr.refl _ _ | apply Fr.alloc | apply Fr.drewN | apply Fr.drew))⟩
        rw [hR.out]
        simp [hne.out]
    · have hb : (r != r') = true := by simpa using hr
      replace hr := Lib.hid hr
      clear h h'
      go_enter Try.func31, Try.ntmps31
      go_wp2
      go_ret
      refine ⟨?_, (by repeat (first | exact Fr.refl _ _ | apply Fr.alloc | apply Fr.drewN | apply Fr.drew))⟩
      rw [hR.out]
      simp [hr.out]
  · have hb : (n != n') = true := by simpa using hn
    replace hn := Lib.hid hn
    clear h h'
    go_enter Try.func31, Try.ntmps31
    go_wp2
    go_ret
    refine ⟨?_, (by repeat (first | exact Fr.refl _ _ | apply Fr.alloc | apply Fr.drewN | apply Fr.drew))⟩
    rw [hR.out]
    simp [hn.out]

set_option maxHeartbeats 400000 in
theorem none_true (a : Option Addr) (cap : Nat) (w : World) (h : SliceAt w 80 3 (.slice a 0 cap) 0 []) :
    Calls Try.prog 21 #[.agg #[.int .i64 0, .slice a 0 cap, .int .i64 0]] w fun e w' => e = .returned (.bool true) ∧ Same w w' := by
  have F := fun W (hW : Same w W) => same_any 0 0 0 0 a none cap 0 [] [] W (h.same hW) (SliceAt.nil _ _ _) (by simp) (by simp)
  simp only [List.length_nil, and_self, decide_true] at F
  replace F := Lib.hid F
  clear h
  go_enter Try.func21, Try.ntmps21
  go_wp2_with fail
  refine (F.out _ (by repeat (first | exact Fr.refl _ _ | apply Fr.alloc | apply Fr.drewN | apply Fr.drew))).mono ?_
  rintro e w1 ⟨rfl, hs⟩
  replace hs := Lib.hid hs
  go_wp2_with fail
  go_ret
  exact ⟨rfl, (show Same w _ from (by repeat (first | exact Fr.refl _ _ | apply Fr.alloc | apply Fr.drewN | apply Fr.drew))).same hs.out⟩

set_option maxRecDepth 100000 in
set_option maxHeartbeats 400000 in
theorem is_row (n : Nat) (t : List Bool) (a aT : Option Addr) (cap capT : Nat) (w : World) (hn : n ≤ 10) (ht : t.length = 2 ^ n) (hT : RowAt w (.slice aT t.length capT) t.length (boolCells t))
    (h : SliceAt w 80 3 (.slice a (tableF n [] 0 t).1.length cap) (tableF n [] 0 t).1.length (ndCells (tableF n [] 0 t).1)) :
    Calls Try.prog 20 #[.agg #[.int .i64 n, .slice a (tableF n [] 0 t).1.length cap, .int .i64 (tableF n [] 0 t).2], .int .i64 0, .int .i64 n, .slice aT t.length capT] w fun e w' => e = .returned (.bool true) ∧ Same w w' := by
  have F := fun W (hW : Same w W) => ldiagram_row n aT capT t W hn ht (hT.same hW)
  have hsh := tab_short hn t
  obtain ⟨L, r, hLr⟩ : ∃ L r, tableF n [] 0 t = (L, r) := ⟨_, _, rfl⟩
  rw [hLr] at F h hsh ⊢
  simp only at F h hsh ⊢
  have G := fun W a' cap' (hW : Same w W) (h' : SliceAt W 80 3 (.slice a' L.length cap') L.length (ndCells L)) => same_any n n r r a a' cap cap' L L W (h.same hW) h' (by omega) (by omega)
  simp only [and_self, decide_true] at G
  replace F := Lib.hid F
  replace G := Lib.hid G
  clear h hT ht hLr
  go_enter Try.func20, Try.ntmps20
  go_wp2_with fail
  refine wp_region_sched (Lk w.heap.size) [0, 0, 0, 1, 0, 0, 2, 3, 0, 0] [0, 1, 2, 4, 5, 3, 6, 7, 8, 9] (by kernel_rfl) (by kernel_rfl) ?_
  repeat (first | (refine sched_w rfl rfl (fun _ hK => ?_); go_simp; refine hK _ ?_; clear hK) | (refine sched_s rfl rfl (fun _ hK => ?_); go_simp; first | (refine hK _ ?_; clear hK) | (refine ⟨_, fun _ => rfl, hK _ ?_⟩; clear hK)))
  refine sched_g rfl rfl (fun _ hK => ?_)
  go_simp
  refine (F.out _ (by repeat (first | exact Fr.refl _ _ | apply Fr.alloc | apply Fr.drewN | apply Fr.drew | apply Fr.undrew | apply Fr.undrewN))).mono ?_
  rintro e w1 ⟨a1, cap1, rfl, hL1, hs1⟩
  refine hK _ _ (Kp.of_same hs1) ?_
  clear hK
  try simp only [Act.put, List.setIfInBounds_toArray, List.set_cons_zero, List.set_cons_succ]
  have hw1 : Same w w1 := (show Same w _ from (by repeat (first | exact Fr.refl _ _ | apply Fr.alloc | apply Fr.drewN | apply Fr.drew | apply Fr.undrew | apply Fr.undrewN))).same hs1
  replace hw1 := Lib.hid hw1
  replace hL1 := Lib.hid hL1
  replace hs1 := Lib.hid hs1
  refine sched_l rfl (by decide) (fun _ hK => ?_); go_simp
  refine (G.out _ _ _ hw1.out hL1.out).mono ?_
  rintro e w2 ⟨rfl, hs2⟩
  replace hs2 := Lib.hid hs2
  refine hK _ _ ?_; clear hK; try simp only [Act.put, List.setIfInBounds_toArray, List.set_cons_zero, List.set_cons_succ]
  repeat (first | (refine sched_w rfl rfl (fun _ hK => ?_); go_simp; refine hK _ ?_; clear hK) | (refine sched_s rfl rfl (fun _ hK => ?_); go_simp; first | (refine hK _ ?_; clear hK) | (refine ⟨_, fun _ => rfl, hK _ ?_⟩; clear hK)))
  refine sched_nil (NoPanic.normal ?_)
  go_wp2_with fail
  go_ret
  exact ⟨rfl, hw1.out.same hs2.out⟩

theorem is_true (n : Nat) (t : List Bool) (a aT : Option Addr) (cap capT : Nat) (w : World) (hn : n ≤ 10) (ht : t.length = 2 ^ n) (hT : SliceAt w 4 1 (.slice aT t.length capT) t.length (boolCells t))
    (h : SliceAt w 80 3 (.slice a (tableF n [] 0 t).1.length cap) (tableF n [] 0 t).1.length (ndCells (tableF n [] 0 t).1)) :
    Calls Try.prog 20 #[.agg #[.int .i64 n, .slice a (tableF n [] 0 t).1.length cap, .int .i64 (tableF n [] 0 t).2], .int .i64 0, .int .i64 n, .slice aT t.length capT] w fun e w' => e = .returned (.bool true) ∧ Same w w' :=
  is_row n t a aT cap capT w hn ht hT.row h


set_option maxHeartbeats 400000 in
/-- The reference's Same of equal tables. -/
theorem rsame_true (a a' : Option Addr) (cap cap' : Nat) (t : List Bool) (w : World) (h : SliceAt w 4 1 (.slice a t.length cap) t.length (boolCells t)) (h' : SliceAt w 4 1 (.slice a' t.length cap') t.length (boolCells t)) (hl : t.length ≤ 1000000) :
    Calls Try.prog 27 #[.slice a t.length cap, .slice a' t.length cap'] w fun e w' => e = .returned (.bool true) ∧ Same w w' := by
  replace h := Lib.hid h
  replace h' := Lib.hid h'
  go_enter Try.func27, Try.ntmps27
  go_wp2
  go_loopw [5] (fun i wr => (∃ k : Nat, k ≤ t.length ∧ i = .int .i64 k) ∧ ∃ m, wr = w.drewN m) (fun i _ => t.length - (intOf i).toNat)
  case atStart => exact ⟨⟨0, by omega, rfl⟩, 0, rfl⟩
  case round =>
    obtain ⟨⟨k, hk, rfl⟩, m, rfl⟩ := hrel
    by_cases hlt : k < t.length
    · obtain ⟨b, off, ha, hb, hc⟩ := h.out.cell (by omega)
      obtain ⟨b', off', ha', hb', hc'⟩ := h'.out.cell (by omega)
      subst ha
      subst ha'
      have x := hc k _ (boolCells_get t k hlt)
      have x' := hc' k _ (boolCells_get t k hlt)
      clear hc hc'
      go_wp2
      go_quiet (fail)
      go_wp2
      go_roundw
      case rel => exact ⟨⟨k + 1, by omega, by go_num⟩, _, rfl⟩
      case measure => simp [intOf]; omega
    · go_wp2
      go_ret
      exact ⟨rfl, (by repeat (first | exact Fr.refl _ _ | apply Fr.alloc | apply Fr.drewN | apply Fr.drew))⟩
end Go.Proofs.Ytaebjalpebgliaa
