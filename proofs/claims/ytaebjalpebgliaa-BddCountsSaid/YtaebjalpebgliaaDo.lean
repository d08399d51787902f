/- The closures Not$1, And$1, Or$1, Ite$1 that combine calls: one call of ite each. Printed by wip/mkdo.py. -/
import Derived.Test.YtaebjalpebgliaaIte
import Derived.Test.YtaebjalpebgliaaAdd
namespace Go.Proofs.Ytaebjalpebgliaa
open Go.RowKit
set_option linter.unusedVariables false
set_option linter.unusedSimpArgs false

/-- A call on a builder with an empty memory mm. -/
def DoRet (w : World) (B p m mm : Nat) (a : Option Addr) (cap : Nat) (N N' : List Nd) (k : Int) (e : Ending) (w' : World) : Prop :=
  e = .returned (.int .i64 k) ∧ ∃ a' cap', BuilderAt w' B p m a' cap' N' ∧ Grew (fun i => BB p m i ∨ i = mm) w w' (.slice a N.length cap) (.slice a' N'.length cap')

theorem ints_cell {w : World} {a : Option Addr} {cap : Nat} {l : List Int} (h : SliceAt w 3 1 (.slice a l.length cap) l.length (intCells l)) (hn : 0 < l.length) :
    ∃ b off, a = some ⟨b, off, none⟩ ∧ b < w.heap.size ∧ ∀ j (hj : j < l.length), w.cell? ⟨b, off + j, none⟩ = some (.int .i64 l[j]) := by
  obtain ⟨b, off, ha, hb, hc⟩ := h.cell hn
  refine ⟨b, off, ha, hb, fun j hj => hc j _ ?_⟩
  rw [intCells_get l j hj]
  simp [List.getD, hj]

set_option maxRecDepth 100000 in
set_option maxHeartbeats 1000000 in
theorem not_do (fuel : Nat) (B p m mm : Nat) (a : Option Addr) (cap : Nat) (N : List Nd) (ar : Option Addr) (capr : Nat) (f : Int) (s' : Is) (k : Int) (w : World) (hB : BuilderAt w B p m a cap N) (hM : MapAt ndv (Value.int .i64) w mm ([] : List (Nd × Int))) (hne : mm ≠ m)
    (hN : VNd N) (hl : SliceAt w 3 1 (.slice ar 1 capr) 1 (intCells [f])) (hf : VNum N f) (he : iteF fuel (N, []) f 0 1 = some (s', k)) (hlen : s'.1.length ≤ 100000) :
    Calls Try.prog 49 #[.pointer (some ⟨p, 0, none⟩), .slice ar 1 capr, .map (some mm)] w (DoRet w B p m mm a cap N s'.1 k) := by
  have FIN : ∀ W, Same w W → Calls Try.prog 50 #[.pointer (some ⟨p, 0, none⟩), .int .i64 f, .int .i64 0, .int .i64 1, .map (some mm)] W (IRet W B p m mm a cap N s' k) :=
    fun W hs => ite_any fuel B p m mm a cap (N, []) f 0 1 s' k W (hB.same hs) (hM.of_block (hs.block _ hM.lt id)) hne hN (fun _ _ h => by simp [mget] at h) hf ⟨by omega, by simp; omega⟩ ⟨by omega, by simp; omega⟩ he hlen
  obtain ⟨b, off, rfl, hb, hc⟩ := ints_cell (l := [f]) hl (by simp)
  have c0 := hc 0 (by simp)
  simp only [Nat.add_zero, List.getElem_cons_zero, List.getElem_cons_succ] at c0
  clear hl hc hB hM hN he hf
  replace FIN := Lib.hid FIN
  go_enter Try.func49, Try.ntmps49
  go_wp2_with fail
  refine (FIN.out _ (by repeat (first | exact Fr.refl _ _ | apply Fr.alloc | apply Fr.drewN | apply Fr.drew))).mono ?_
  rintro e w1 ⟨rfl, a', cap', h1, _, h2⟩
  go_wp2_with fail
  go_ret
  exact ⟨rfl, a', cap', h1, (Grew.of_same _ (by repeat (first | exact Fr.refl _ _ | apply Fr.alloc | apply Fr.drewN | apply Fr.drew))).trans h2⟩

set_option maxRecDepth 100000 in
set_option maxHeartbeats 1000000 in
theorem and_do (fuel : Nat) (B p m mm : Nat) (a : Option Addr) (cap : Nat) (N : List Nd) (ar : Option Addr) (capr : Nat) (f g : Int) (s' : Is) (k : Int) (w : World) (hB : BuilderAt w B p m a cap N) (hM : MapAt ndv (Value.int .i64) w mm ([] : List (Nd × Int))) (hne : mm ≠ m)
    (hN : VNd N) (hl : SliceAt w 3 1 (.slice ar 2 capr) 2 (intCells [f, g])) (hf : VNum N f) (hg : VNum N g) (he : iteF fuel (N, []) f g 0 = some (s', k)) (hlen : s'.1.length ≤ 100000) :
    Calls Try.prog 51 #[.pointer (some ⟨p, 0, none⟩), .slice ar 2 capr, .map (some mm)] w (DoRet w B p m mm a cap N s'.1 k) := by
  have FIN : ∀ W, Same w W → Calls Try.prog 50 #[.pointer (some ⟨p, 0, none⟩), .int .i64 f, .int .i64 g, .int .i64 0, .map (some mm)] W (IRet W B p m mm a cap N s' k) :=
    fun W hs => ite_any fuel B p m mm a cap (N, []) f g 0 s' k W (hB.same hs) (hM.of_block (hs.block _ hM.lt id)) hne hN (fun _ _ h => by simp [mget] at h) hf hg ⟨by omega, by simp; omega⟩ he hlen
  obtain ⟨b, off, rfl, hb, hc⟩ := ints_cell (l := [f, g]) hl (by simp)
  have c0 := hc 0 (by simp)
  have c1 := hc 1 (by simp)
  simp only [Nat.add_zero, List.getElem_cons_zero, List.getElem_cons_succ] at c0 c1
  clear hl hc hB hM hN he hf hg
  replace FIN := Lib.hid FIN
  go_enter Try.func51, Try.ntmps51
  go_wp2_with fail
  refine wp_region_sched (fun _ => True) [0, 0, 0, 1, 0, 0, 1, 0, 3, 0] [0, 1, 2, 4, 5, 7, 3, 6, 8, 9] (by kernel_rfl) (by kernel_rfl) ?_
  repeat (first | (refine sched_w rfl rfl (fun _ hK => ?_); go_simp; refine hK _ ?_; clear hK) | (refine sched_s rfl rfl (fun _ hK => ?_); go_simp; first | (refine hK _ ?_; clear hK) | (refine ⟨_, fun _ => rfl, hK _ ?_⟩; clear hK)))
  refine sched_l rfl (by decide) (fun _ hK => ?_); go_simp
  refine (FIN.out _ (by repeat (first | exact Fr.refl _ _ | apply Fr.alloc | apply Fr.drewN | apply Fr.drew))).mono ?_
  rintro e w1 ⟨rfl, a', cap', h1, _, h2⟩
  refine hK _ _ ?_; clear hK; try simp only [Act.put, List.setIfInBounds_toArray, List.set_cons_zero, List.set_cons_succ]
  repeat (first | (refine sched_w rfl rfl (fun _ hK => ?_); go_simp; refine hK _ ?_; clear hK) | (refine sched_s rfl rfl (fun _ hK => ?_); go_simp; first | (refine hK _ ?_; clear hK) | (refine ⟨_, fun _ => rfl, hK _ ?_⟩; clear hK)))
  refine sched_nil (NoPanic.normal ?_)
  go_wp2_with fail
  go_ret
  exact ⟨rfl, a', cap', h1, (Grew.of_same _ (by repeat (first | exact Fr.refl _ _ | apply Fr.alloc | apply Fr.drewN | apply Fr.drew))).trans h2⟩

set_option maxRecDepth 100000 in
set_option maxHeartbeats 1000000 in
theorem or_do (fuel : Nat) (B p m mm : Nat) (a : Option Addr) (cap : Nat) (N : List Nd) (ar : Option Addr) (capr : Nat) (f g : Int) (s' : Is) (k : Int) (w : World) (hB : BuilderAt w B p m a cap N) (hM : MapAt ndv (Value.int .i64) w mm ([] : List (Nd × Int))) (hne : mm ≠ m)
    (hN : VNd N) (hl : SliceAt w 3 1 (.slice ar 2 capr) 2 (intCells [f, g])) (hf : VNum N f) (hg : VNum N g) (he : iteF fuel (N, []) f 1 g = some (s', k)) (hlen : s'.1.length ≤ 100000) :
    Calls Try.prog 52 #[.pointer (some ⟨p, 0, none⟩), .slice ar 2 capr, .map (some mm)] w (DoRet w B p m mm a cap N s'.1 k) := by
  have FIN : ∀ W, Same w W → Calls Try.prog 50 #[.pointer (some ⟨p, 0, none⟩), .int .i64 f, .int .i64 1, .int .i64 g, .map (some mm)] W (IRet W B p m mm a cap N s' k) :=
    fun W hs => ite_any fuel B p m mm a cap (N, []) f 1 g s' k W (hB.same hs) (hM.of_block (hs.block _ hM.lt id)) hne hN (fun _ _ h => by simp [mget] at h) hf ⟨by omega, by simp; omega⟩ hg he hlen
  obtain ⟨b, off, rfl, hb, hc⟩ := ints_cell (l := [f, g]) hl (by simp)
  have c0 := hc 0 (by simp)
  have c1 := hc 1 (by simp)
  simp only [Nat.add_zero, List.getElem_cons_zero, List.getElem_cons_succ] at c0 c1
  clear hl hc hB hM hN he hf hg
  replace FIN := Lib.hid FIN
  go_enter Try.func52, Try.ntmps52
  go_wp2_with fail
  refine wp_region_sched (fun _ => True) [0, 0, 0, 1, 0, 0, 1, 0, 3, 0] [0, 1, 2, 4, 5, 7, 3, 6, 8, 9] (by kernel_rfl) (by kernel_rfl) ?_
  repeat (first | (refine sched_w rfl rfl (fun _ hK => ?_); go_simp; refine hK _ ?_; clear hK) | (refine sched_s rfl rfl (fun _ hK => ?_); go_simp; first | (refine hK _ ?_; clear hK) | (refine ⟨_, fun _ => rfl, hK _ ?_⟩; clear hK)))
  refine sched_l rfl (by decide) (fun _ hK => ?_); go_simp
  refine (FIN.out _ (by repeat (first | exact Fr.refl _ _ | apply Fr.alloc | apply Fr.drewN | apply Fr.drew))).mono ?_
  rintro e w1 ⟨rfl, a', cap', h1, _, h2⟩
  refine hK _ _ ?_; clear hK; try simp only [Act.put, List.setIfInBounds_toArray, List.set_cons_zero, List.set_cons_succ]
  repeat (first | (refine sched_w rfl rfl (fun _ hK => ?_); go_simp; refine hK _ ?_; clear hK) | (refine sched_s rfl rfl (fun _ hK => ?_); go_simp; first | (refine hK _ ?_; clear hK) | (refine ⟨_, fun _ => rfl, hK _ ?_⟩; clear hK)))
  refine sched_nil (NoPanic.normal ?_)
  go_wp2_with fail
  go_ret
  exact ⟨rfl, a', cap', h1, (Grew.of_same _ (by repeat (first | exact Fr.refl _ _ | apply Fr.alloc | apply Fr.drewN | apply Fr.drew))).trans h2⟩

set_option maxRecDepth 100000 in
set_option maxHeartbeats 1000000 in
theorem ite_do (fuel : Nat) (B p m mm : Nat) (a : Option Addr) (cap : Nat) (N : List Nd) (ar : Option Addr) (capr : Nat) (f g h : Int) (s' : Is) (k : Int) (w : World) (hB : BuilderAt w B p m a cap N) (hM : MapAt ndv (Value.int .i64) w mm ([] : List (Nd × Int))) (hne : mm ≠ m)
    (hN : VNd N) (hl : SliceAt w 3 1 (.slice ar 3 capr) 3 (intCells [f, g, h])) (hf : VNum N f) (hg : VNum N g) (hh : VNum N h) (he : iteF fuel (N, []) f g h = some (s', k)) (hlen : s'.1.length ≤ 100000) :
    Calls Try.prog 54 #[.pointer (some ⟨p, 0, none⟩), .slice ar 3 capr, .map (some mm)] w (DoRet w B p m mm a cap N s'.1 k) := by
  have FIN : ∀ W, Same w W → Calls Try.prog 50 #[.pointer (some ⟨p, 0, none⟩), .int .i64 f, .int .i64 g, .int .i64 h, .map (some mm)] W (IRet W B p m mm a cap N s' k) :=
    fun W hs => ite_any fuel B p m mm a cap (N, []) f g h s' k W (hB.same hs) (hM.of_block (hs.block _ hM.lt id)) hne hN (fun _ _ h => by simp [mget] at h) hf hg hh he hlen
  obtain ⟨b, off, rfl, hb, hc⟩ := ints_cell (l := [f, g, h]) hl (by simp)
  have c0 := hc 0 (by simp)
  have c1 := hc 1 (by simp)
  have c2 := hc 2 (by simp)
  simp only [Nat.add_zero, List.getElem_cons_zero, List.getElem_cons_succ] at c0 c1 c2
  clear hl hc hB hM hN he hf hg hh
  replace FIN := Lib.hid FIN
  go_enter Try.func54, Try.ntmps54
  go_wp2_with fail
  refine wp_region_sched (fun _ => True) [0, 0, 0, 1, 0, 0, 1, 0, 0, 1, 0, 3, 0] [0, 1, 2, 4, 5, 7, 8, 10, 3, 6, 9, 11, 12] (by kernel_rfl) (by kernel_rfl) ?_
  repeat (first | (refine sched_w rfl rfl (fun _ hK => ?_); go_simp; refine hK _ ?_; clear hK) | (refine sched_s rfl rfl (fun _ hK => ?_); go_simp; first | (refine hK _ ?_; clear hK) | (refine ⟨_, fun _ => rfl, hK _ ?_⟩; clear hK)))
  refine sched_l rfl (by decide) (fun _ hK => ?_); go_simp
  refine (FIN.out _ (by repeat (first | exact Fr.refl _ _ | apply Fr.alloc | apply Fr.drewN | apply Fr.drew))).mono ?_
  rintro e w1 ⟨rfl, a', cap', h1, _, h2⟩
  refine hK _ _ ?_; clear hK; try simp only [Act.put, List.setIfInBounds_toArray, List.set_cons_zero, List.set_cons_succ]
  repeat (first | (refine sched_w rfl rfl (fun _ hK => ?_); go_simp; refine hK _ ?_; clear hK) | (refine sched_s rfl rfl (fun _ hK => ?_); go_simp; first | (refine hK _ ?_; clear hK) | (refine ⟨_, fun _ => rfl, hK _ ?_⟩; clear hK)))
  refine sched_nil (NoPanic.normal ?_)
  go_wp2_with fail
  go_ret
  exact ⟨rfl, a', cap', h1, (Grew.of_same _ (by repeat (first | exact Fr.refl _ _ | apply Fr.alloc | apply Fr.drewN | apply Fr.drew))).trans h2⟩

theorem ints_block {w : World} {a : Option Addr} {cap : Nat} {l : List Int} (h : SliceAt w 3 1 (.slice a l.length cap) l.length (intCells l)) (hn : 0 < l.length) :
    ∃ b off cur, a = some ⟨b, off, none⟩ ∧ w.heap[b]? = some (.cells cur 3 (0, 0)) ∧ ∀ j (hj : j < l.length), w.cell? ⟨b, off + j, none⟩ = some (.int .i64 l[j]) := by
  obtain ⟨b, off, ha, hb, hc⟩ := ints_cell h hn
  obtain ⟨_, a', cap', he, _, _, _, hx⟩ := h
  obtain ⟨b', off', cur, ha', hh, _⟩ := hx hn
  cases he
  rw [ha] at ha'
  cases ha'
  exact ⟨b, off, cur, ha, hh, hc⟩

set_option maxRecDepth 100000 in
set_option maxHeartbeats 1000000 in
theorem xor_do (fuel : Nat) (B p m mm : Nat) (a : Option Addr) (cap : Nat) (N : List Nd) (ar : Option Addr) (capr : Nat) (f g : Int) (s1 s' : Is) (ng k : Int) (w : World) (hB : BuilderAt w B p m a cap N) (hM : MapAt ndv (Value.int .i64) w mm ([] : List (Nd × Int))) (hne : mm ≠ m)
    (hN : VNd N) (hl : SliceAt w 3 1 (.slice ar 2 capr) 2 (intCells [f, g])) (hf : VNum N f) (hg : VNum N g) (he : iteF fuel (N, []) g 0 1 = some (s1, ng)) (he2 : iteF fuel s1 f ng g = some (s', k)) (hlen : s'.1.length ≤ 100000) :
    Calls Try.prog 53 #[.pointer (some ⟨p, 0, none⟩), .slice ar 2 capr, .map (some mm)] w (DoRet w B p m mm a cap N s'.1 k) := by
  have hVM0 : VM N ([] : List (Nd × Int)) := fun _ _ h => by simp [mget] at h
  obtain ⟨a1, a2, a3, a4⟩ := iteF_valid _ _ _ _ _ _ _ he hN hVM0 hg ⟨by omega, by simp; omega⟩ ⟨by omega, by simp; omega⟩
  obtain ⟨b1, b2, b3, b4⟩ := iteF_valid _ _ _ _ _ _ _ he2 a1 a2 (hf.mono a4) a3 (hg.mono a4)
  have F1 : ∀ W, Same w W → Calls Try.prog 50 #[.pointer (some ⟨p, 0, none⟩), .int .i64 g, .int .i64 0, .int .i64 1, .map (some mm)] W (IRet W B p m mm a cap N s1 ng) :=
    fun W hs => ite_any fuel B p m mm a cap (N, []) g 0 1 s1 ng W (hB.same hs) (hM.of_block (hs.block _ hM.lt id)) hne hN hVM0 hg ⟨by omega, by simp; omega⟩ ⟨by omega, by simp; omega⟩ he (by omega)
  have F2 : ∀ a' cap' W, BuilderAt W B p m a' cap' s1.1 → MapAt ndv (Value.int .i64) W mm s1.2 → Calls Try.prog 50 #[.pointer (some ⟨p, 0, none⟩), .int .i64 f, .int .i64 ng, .int .i64 g, .map (some mm)] W (IRet W B p m mm a' cap' s1.1 s' k) :=
    fun a' cap' W hB1 hM1 => ite_any fuel B p m mm a' cap' s1 f ng g s' k W hB1 hM1 hne a1 a2 (hf.mono a4) a3 (hg.mono a4) he2 hlen
  obtain ⟨b, off, cur, rfl, hbk, hc⟩ := ints_block (l := [f, g]) hl (by simp)
  have hb := lt_of_heap hbk
  have c0 := hc 0 (by simp)
  have c1 := hc 1 (by simp)
  simp only [Nat.add_zero, List.getElem_cons_zero, List.getElem_cons_succ] at c0 c1
  have hKp : ∀ W w1 (a' : Option Addr) (cap' : Nat), Same w W → Grew (fun i => BB p m i ∨ i = mm) W w1 (.slice a N.length cap) (.slice a' s1.1.length cap') → Kp (Lk b) w w1 := by
    intro W w1 a' cap' hs hG
    have := ite_keeps (hB.same hs) (hM.of_block (hs.block _ hM.lt id)) hG (hs.at hbk id) (by decide) (by decide)
    exact ⟨Nat.le_trans hs.size hG.1.size, fun k hk _ => by rw [show k = b from hk, this, hbk]⟩
  clear hl hc hB hM hN he he2 hf hg a1 a2 a3 b1 b2 b3 hVM0 hbk
  replace F1 := Lib.hid F1
  replace F2 := Lib.hid F2
  replace hKp := Lib.hid hKp
  go_enter Try.func53, Try.ntmps53
  go_wp2_with fail
  refine wp_region_sched (Lk b) [0, 0, 0, 1, 0, 0, 0, 1, 0, 2, 0, 0, 1, 0, 3, 0] [0, 1, 2, 4, 5, 6, 8, 10, 11, 13, 3, 7, 12, 9, 14, 15] (by kernel_rfl) (by kernel_rfl) ?_
  repeat (first | (refine sched_w rfl rfl (fun _ hK => ?_); go_simp; refine hK _ ?_; clear hK) | (refine sched_s rfl rfl (fun _ hK => ?_); go_simp; first | (refine hK _ ?_; clear hK) | (refine ⟨_, fun _ => rfl, hK _ ?_⟩; clear hK)))
  refine sched_g rfl rfl (fun _ hK => ?_)
  go_simp
  refine (F1.out _ (by repeat (first | exact Fr.refl _ _ | apply Fr.alloc | apply Fr.drewN | apply Fr.drew))).mono ?_
  rintro e w1 ⟨rfl, a', cap', h1, h1m, h2⟩
  refine hK _ _ (hKp.out _ _ _ _ (by repeat (first | exact Fr.refl _ _ | apply Fr.alloc | apply Fr.drewN | apply Fr.drew)) h2) ?_
  clear hK
  try simp only [Act.put, List.setIfInBounds_toArray, List.set_cons_zero, List.set_cons_succ]
  have h2' : Grew (fun i => BB p m i ∨ i = mm) w w1 (.slice a N.length cap) (.slice a' s1.1.length cap') := (Grew.of_same _ (by repeat (first | exact Fr.refl _ _ | apply Fr.alloc | apply Fr.drewN | apply Fr.drew))).trans h2
  replace h1 := Lib.hid h1
  replace h1m := Lib.hid h1m
  replace h2' := Lib.hid h2'
  clear h2 c0 c1
  repeat (first | (refine sched_w rfl rfl (fun _ hK => ?_); go_simp; refine hK _ ?_; clear hK) | (refine sched_s rfl rfl (fun _ hK => ?_); go_simp; first | (refine hK _ ?_; clear hK) | (refine ⟨_, fun _ => rfl, hK _ ?_⟩; clear hK)))
  refine sched_l rfl (by decide) (fun _ hK => ?_); go_simp
  refine (F2.out a' cap' _ h1.out h1m.out).mono ?_
  rintro e w2 ⟨rfl, a'', cap'', h3, _, h4⟩
  replace h4 := Lib.hid h4
  replace h3 := Lib.hid h3
  refine hK _ _ ?_; clear hK; try simp only [Act.put, List.setIfInBounds_toArray, List.set_cons_zero, List.set_cons_succ]
  repeat (first | (refine sched_w rfl rfl (fun _ hK => ?_); go_simp; refine hK _ ?_; clear hK) | (refine sched_s rfl rfl (fun _ hK => ?_); go_simp; first | (refine hK _ ?_; clear hK) | (refine ⟨_, fun _ => rfl, hK _ ?_⟩; clear hK)))
  refine sched_nil (NoPanic.normal ?_)
  go_wp2_with fail
  go_ret
  exact ⟨rfl, a'', cap'', h3.out, h2'.out.trans h4.out⟩
end Go.Proofs.Ytaebjalpebgliaa
