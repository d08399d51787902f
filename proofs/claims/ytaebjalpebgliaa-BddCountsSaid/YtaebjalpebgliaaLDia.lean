/- The law's Diagram, same, none, is. -/
import Derived.Test.YtaebjalpebgliaaRBuild
import Derived.Test.YtaebjalpebgliaaMade
import Derived.Test.YtaebjalpebgliaaFrom
import Derived.Test.YtaebjalpebgliaaOpsR
namespace Go.Proofs.Ytaebjalpebgliaa
open Go.RowKit
set_option linter.unusedVariables false
set_option linter.unusedSimpArgs false

def L2 (b c : Nat) : Nat → Prop := fun k => k = b ∨ k = c
@[go_sem, simp] theorem L2_left (b c : Nat) : L2 b c b = True := by simp [L2]
@[go_sem, simp] theorem L2_right (b c : Nat) : L2 b c c = True := by simp [L2]

/-- The loop of Diagram, ahead of node k: block b is the diagram. -/
structure DiaRel (w : World) (n r : Int) (L : List Nd) (b : Nat) (k : Nat) (wr : World) (a : Option Addr) (cap : Nat) : Prop where
  le : k ≤ L.length
  blk : wr.heap[b]? = some (.cells #[.int .i64 n, .slice a k cap, .int .i64 r] 31 (0, 0))
  own : wr.ownsRow w.heap.size 80 3 (.slice a k cap) k (ndCells (L.take k))
  res : wr.heap[w.heap.size]? = some (.cells #[.int .i64 0, .slice none 0 0, .int .i64 0] 31 (0, 0))
  same : Same w wr

theorem DiaRel.grew {w wr W w4 : World} {n r : Int} {L : List Nd} {b k : Nat} {a an : Option Addr} {cap cn : Nat} (h : DiaRel w n r L b k wr a cap) (hb : w.heap.size ≤ b) (hs : Same wr W)
    (hG : Grew (fun _ => False) W w4 (.slice a k cap) (.slice an (k + 1) cn)) {i : Nat} {o : Obj} (hi : wr.heap[i]? = some o) (ho : ∀ cur, o ≠ .cells cur 80 (0, 0)) : w4.heap[i]? = some o := by
  refine hG.1.at (hs.at hi id) ?_
  rintro (h' | h')
  · obtain ⟨cur, hc⟩ := own_block h.own h'
    rw [hi] at hc
    exact ho cur (Option.some.inj hc)
  · exact h'

theorem DiaRel.next {w wr W w4 : World} {n r : Int} {L : List Nd} {b k : Nat} {a an : Option Addr} {cap cn : Nat} (h : DiaRel w n r L b k wr a cap) (hk : k < L.length) (hb : w.heap.size < b) (hs : Same wr W)
    (hO : w4.ownsRow w.heap.size 80 3 (.slice an (k + 1) cn) (k + 1) (ndCells (L.take k) ++ [.int .i64 L[k].1, .int .i64 L[k].2.1, .int .i64 L[k].2.2]))
    (hG : Grew (fun _ => False) W w4 (.slice a k cap) (.slice an (k + 1) cn)) :
    w4.heap[b]? = some (.cells #[.int .i64 n, .slice a k cap, .int .i64 r] 31 (0, 0)) ∧ DiaRel w n r L b (k + 1) (w4.setCell ⟨b, 1, none⟩ (.slice an (k + 1) cn)) an cn := by
  have hb4 := h.grew (Nat.le_of_lt hb) hs hG h.blk (by simp)
  have hr4 := h.grew (Nat.le_of_lt hb) hs hG h.res (by simp)
  have s4 : Same w w4 := (h.same.same hs).trans hG.1 (fun i hi hh => by
    rcases hh with hh | hh
    · have := h.own.lt i hh
      omega
    · exact hh)
  refine ⟨hb4, hk, by rw [heap_setCell_same hb4]; rfl, ?_, ?_, s4.setCell _ _ (fun hh => by simp only at hh; omega)⟩
  · rw [List.take_succ_eq_append_getElem hk, ndCells_append]
    refine owns_fr (S := fun i => i = b) (by simpa [ndCells] using hO) ((Fr.refl _ _).setCell _ _ (fun _ => rfl)) (fun i hi hh => ?_)
    obtain ⟨cur, hc⟩ := own_block hO hi
    rw [hh, hb4] at hc
    simp at hc
  · rw [heap_setCell_other (by simp only; omega)]; exact hr4

theorem DiaRel.nodes {w wr W w4 : World} {n r : Int} {L : List Nd} {b k : Nat} {a an : Option Addr} {cap cn : Nat} {a1 : Option Addr} {cap1 : Nat} (h : DiaRel w n r L b k wr a cap) (hb : w.heap.size < b) (hs : Same wr W)
    (hL : SliceAt wr 83 3 (.slice a1 L.length cap1) L.length (ndCells L))
    (hG : Grew (fun _ => False) W w4 (.slice a k cap) (.slice an (k + 1) cn)) : SliceAt (w4.setCell ⟨b, 1, none⟩ (.slice an (k + 1) cn)) 83 3 (.slice a1 L.length cap1) L.length (ndCells L) := by
  obtain ⟨hl, a', cap', he, h1, h2, h3, hx⟩ := hL
  refine ⟨hl, a', cap', he, h1, h2, h3, fun hn => ?_⟩
  obtain ⟨b', off, cur, ha, hh, hc⟩ := hx hn
  refine ⟨b', off, cur, ha, ?_, hc⟩
  have := h.grew (Nat.le_of_lt hb) hs hG hh (by simp)
  rw [heap_setCell_other]
  · exact this
  · rintro rfl
    have e := h.grew (Nat.le_of_lt hb) hs hG h.blk (by simp)
    rw [e] at this
    simp at this

/-- A call returns a diagram alone. -/
def D1Ret (w : World) (n : Int) (O : List Nd) (r : Int) (e : Ending) (w' : World) : Prop :=
  ∃ ao co, e = .returned (.agg #[.int .i64 n, .slice ao O.length co, .int .i64 r]) ∧ SliceAt w' 80 3 (.slice ao O.length co) O.length (ndCells O) ∧ Same w w'

set_option maxRecDepth 100000 in
set_option maxHeartbeats 1000000 in
theorem ldiagram_row (n : Nat) (aT : Option Addr) (capT : Nat) (t : List Bool) (w : World) (hn : n ≤ 10) (ht : t.length = 2 ^ n) (hT : RowAt w (.slice aT t.length capT) t.length (boolCells t)) :
    Calls Try.prog 14 #[.int .i64 n, .slice aT t.length capT] w (D1Ret w n (tableF n [] 0 t).1 (tableF n [] 0 t).2) := by
  have F := fun W (hW : Same w W) => rdiagram_row n aT capT t W (by omega) ht (hT.same hW)
  have hsh := tab_short hn t
  obtain ⟨L, r, hLr⟩ : ∃ L r, tableF n [] 0 t = (L, r) := ⟨_, _, rfl⟩
  rw [hLr] at F hsh ⊢
  simp only at F hsh ⊢
  replace F := Lib.hid F
  clear hT ht hLr
  obtain ⟨i0, hi, hz0, hz1, hz2⟩ := info_parts info80
  go_enter Try.func14, Try.ntmps14
  go_wp2_with fail
  refine (F.out _ (by repeat (first | exact Fr.refl _ _ | apply Fr.alloc | apply Fr.drewN | apply Fr.drew))).mono ?_
  rintro e w1 ⟨a1, cap1, rfl, hL1, hs1⟩
  have kt1 := hs1.at (heap_new _ _) id
  have hw1 : Same w w1 := (show Same w _ from (by repeat (first | exact Fr.refl _ _ | apply Fr.alloc | apply Fr.drewN | apply Fr.drew))).same hs1
  have hw1s : w.heap.size < w1.heap.size := lt_of_heap kt1
  replace kt1 := Lib.hid kt1
  replace hs1 := Lib.hid hs1
  replace hw1 := Lib.hid hw1
  replace hL1 := Lib.hid hL1
  go_wp2_with fail
  go_loopw [8] (fun i wr => ∃ (k : Nat) (a : Option Addr) (cap : Nat), i = .int .i64 k ∧ DiaRel w n r L w1.heap.size k wr a cap ∧ SliceAt wr 83 3 (.slice a1 L.length cap1) L.length (ndCells L)) (fun i _ => L.length - (intOf i).toNat)
  case atStart =>
    exact ⟨0, none, 0, rfl, ⟨Nat.zero_le _, heap_new _ _, World.ownsRow_nil _ _ _ _, heap_old kt1.out _, hw1.out.alloc _⟩, hL1.out.same (by repeat (first | exact Fr.refl _ _ | apply Fr.alloc | apply Fr.drewN | apply Fr.drew))⟩
  case round =>
    obtain ⟨k, a, cap, rfl, hrel, hLr⟩ := hrel
    by_cases hlt : k < L.length
    · obtain ⟨b, off, rfl, hb, x0, x1, x2⟩ := hLr.node hlt
      have e1 := cell_at hrel.blk 1
      have g1 := free_at hrel.blk 1
      have eb := lt_of_heap hrel.blk
      have hLn := hLr
      replace hLn := Lib.hid hLn
      have hsz : w.heap.size ≤ wr.heap.size := hrel.same.size
      replace hrel := Lib.hid hrel
      clear hLr
      go_wp2_with fail
      refine wp_region_sched (L2 b w1.heap.size) [0, 1, 0, 0, 0, 0, 1, 0, 0, 0, 0, 1, 0, 0, 0, 0, 1, 0, 2, 3, 0, 3] [0, 2, 3, 4, 5, 7, 8, 9, 10, 12, 13, 14, 15, 1, 6, 11, 16, 17, 18, 19, 20, 21] (by kernel_rfl) (by kernel_rfl) ?_
      repeat (first | (refine sched_w rfl rfl (fun _ hK => ?_); go_simp; refine hK _ ?_; clear hK) | (refine sched_s rfl rfl (fun _ hK => ?_); go_simp; first | (refine hK _ ?_; clear hK) | (refine ⟨_, fun _ => rfl, hK _ ?_⟩; clear hK)))
      refine sched_g rfl rfl (fun _ hK => ?_); go_simp; refine hK _ _ (Kp.of_same (by repeat (first | exact Fr.refl _ _ | apply Fr.alloc | apply Fr.drewN | apply Fr.drew | apply Fr.undrew | apply Fr.undrewN))) ?_; clear hK
      refine sched_l rfl (by decide) (fun _ hK => ?_)
      refine step_append1 rfl (.tmp 24) (.tmp 41) 29 rfl w.heap.size 80 i0 (.agg #[.int .i64 0, .int .i64 0, .int .i64 0]) 3 24 Try.underlying29 hi hz0 hz1 hz2 rfl (by decide) (by decide) a k cap (ndCells (L.take k)) rfl (owns_same hrel.out.own (by repeat (first | exact Fr.refl _ _ | apply Fr.alloc | apply Fr.drewN | apply Fr.drew))) (by omega) wr.heap.size [.int .i64 L[k].1, .int .i64 L[k].2.1, .int .i64 L[k].2.2] rfl rfl (heap_new_at (by simp) _) (by simp [Value.oneCell']) (by simp; omega) ?_
      intro an cn w4 hO4 hG4
      have hN := hrel.out.next hlt (by omega) (by repeat (first | exact Fr.refl _ _ | apply Fr.alloc | apply Fr.drewN | apply Fr.drew)) hO4 hG4
      have hL4 := hrel.out.nodes (by omega) (by repeat (first | exact Fr.refl _ _ | apply Fr.alloc | apply Fr.drewN | apply Fr.drew)) hLn.out hG4
      have kd := hN.1
      have y0 := cell_at kd 1
      have y1 := free_at kd 1
      have y2 := lt_of_heap kd
      replace hN := Lib.hid hN
      replace hL4 := Lib.hid hL4
      clear hO4 hG4 kd
      refine hK _ _ ?_; clear hK; try simp only [Act.put, List.setIfInBounds_toArray, List.set_cons_zero, List.set_cons_succ]
      repeat (first | (refine sched_w rfl rfl (fun _ hK => ?_); go_simp; refine hK _ ?_; clear hK) | (refine sched_s rfl rfl (fun _ hK => ?_); go_simp; first | (refine hK _ ?_; clear hK) | (refine ⟨_, fun _ => rfl, hK _ ?_⟩; clear hK)))
      refine sched_l rfl (by decide) (fun _ hK => ?_); go_simp
      refine hK _ _ ?_; clear hK; try simp only [Act.put, List.setIfInBounds_toArray, List.set_cons_zero, List.set_cons_succ]
      refine sched_nil (NoPanic.normal ?_)
      have hF := hN.out.2 
      replace hF := Lib.hid hF
      go_wp2_with fail
      go_roundw
      case rel => exact ⟨k + 1, an, cn, by go_num, hF.out, hL4.out⟩
      case measure => simp [intOf]; omega
    · have hk : k = L.length := by have := hrel.le; omega
      subst hk
      have e0 := cell_at hrel.blk 0
      have e1 := cell_at hrel.blk 1
      have e2 := cell_at hrel.blk 2
      have eb := lt_of_heap hrel.blk
      have kt := hrel.res
      have hs := hrel.same
      have hO := SliceAt.of_owns hrel.own
      rw [List.take_length] at hO
      obtain ⟨⟨t0, t1, t2, f0, f1, f2, tb⟩, d0, d1, d2, hF, hK, hSl⟩ := res3 (a := .int .i64 n) (c := .slice a L.length cap) (d := .int .i64 r) kt hs (by omega); replace hF := Lib.hid hF; replace hK := Lib.hid hK; replace hSl := Lib.hid hSl; replace kt := Lib.hid kt; replace hs := Lib.hid hs
      have hOF := hSl.out _ _ _ _ _ hO (by decide)
      replace hOF := Lib.hid hOF
      replace hO := Lib.hid hO
      replace hrel := Lib.hid hrel
      replace hLr := Lib.hid hLr
      go_wp2_with fail
      refine bodyPost_ret (v := .agg #[.int .i64 n, .slice a L.length cap, .int .i64 r]) (by simp [results, Try.results14, go_sem, d0, d1, d2]) rfl ?_
      exact ⟨a, cap, rfl, hOF.out, hF.out⟩

theorem ldiagram_any (n : Nat) (aT : Option Addr) (capT : Nat) (t : List Bool) (w : World) (hn : n ≤ 10) (ht : t.length = 2 ^ n) (hT : SliceAt w 4 1 (.slice aT t.length capT) t.length (boolCells t)) :
    Calls Try.prog 14 #[.int .i64 n, .slice aT t.length capT] w (D1Ret w n (tableF n [] 0 t).1 (tableF n [] 0 t).2) :=
  ldiagram_row n aT capT t w hn ht hT.row

end Go.Proofs.Ytaebjalpebgliaa
