/- The closures Not$1, And$1, Or$1, Ite$1 that combine calls: one call of ite each. Printed by wip/mkdo.py. -/
import Derived.Test.YtaebjalpebgliaaIte
import Derived.Test.YtaebjalpebgliaaAdd
namespace Go.Proofs.Ytaebjalpebgliaa
open Go.RowKit
set_option linter.unusedVariables false
set_option linter.unusedSimpArgs false

/-- A call on a builder with an empty memory mm. -/
def DoRet (w : World) (B p m mm : Nat) (a : Option Addr) (cap : Nat) (N N' : List Nd) (k : Int) (e : Ending) (w' : World) : Prop :=
  e = .returned (.int .i64 k) ∧ ∃ a' cap', BuilderAt w' B p m a' cap' N' ∧ Grew (fun i => BB p m i ∨ i = mm) w w' (.slice a N.length cap) (.slice a' N'.length cap')

theorem ints_cell {w : World} {a : Option Addr} {cap : Nat} {l : List Int} (h : SliceAt w 3 1 (.slice a l.length cap) l.length (intCells l)) (hn : 0 < l.length) :
    ∃ b off, a = some ⟨b, off, none⟩ ∧ b < w.heap.size ∧ ∀ j (hj : j < l.length), w.cell? ⟨b, off + j, none⟩ = some (.int .i64 l[j]) := by
  obtain ⟨b, off, ha, hb, hc⟩ := h.cell hn
  refine ⟨b, off, ha, hb, fun j hj => hc j _ ?_⟩
  rw [intCells_get l j hj]
  simp [List.getD, hj]

set_option maxRecDepth 100000 in
set_option maxHeartbeats 1000000 in
theorem not_do (fuel : Nat) (B p m mm : Nat) (a : Option Addr) (cap : Nat) (N : List Nd) (ar : Option Addr) (capr : Nat) (f : Int) (s' : Is) (k : Int) (w : World) (hB : BuilderAt w B p m a cap N) (hM : MapAt ndv (Value.int .i64) w mm ([] : List (Nd × Int))) (hne : mm ≠ m)
    (hN : VNd N) (hl : SliceAt w 3 1 (.slice ar 1 capr) 1 (intCells [f])) (hf : VNum N f) (he : iteF fuel (N, []) f 0 1 = some (s', k)) (hlen : s'.1.length ≤ 100000) :
    Calls Try.prog 49 #[.pointer (some ⟨p, 0, none⟩), .slice ar 1 capr, .map (some mm)] w (DoRet w B p m mm a cap N s'.1 k) := by
  have FIN : ∀ W, Same w W → Calls Try.prog 50 #[.pointer (some ⟨p, 0, none⟩), .int .i64 f, .int .i64 0, .int .i64 1, .map (some mm)] W (IRet W B p m mm a cap N s' k) :=
    fun W hs => ite_any fuel B p m mm a cap (N, []) f 0 1 s' k W (hB.same hs) (hM.of_block (hs.block _ hM.lt id)) hne hN (fun _ _ h => by simp [mget] at h) hf ⟨by omega, by simp; omega⟩ ⟨by omega, by simp; omega⟩ he hlen
  obtain ⟨b, off, rfl, hb, hc⟩ := ints_cell (l := [f]) hl (by simp)
  have c0 := hc 0 (by simp)
  simp only [Nat.add_zero, List.getElem_cons_zero, List.getElem_cons_succ] at c0
  clear hl hc hB hM hN he hf
  replace FIN := Lib.hid FIN
  go_enter Try.func49, Try.ntmps49
  go_wp2_with fail
  refine (FIN.out _ (by repeat (first | exact Fr.refl _ _ | apply Fr.alloc | apply Fr.drewN | apply Fr.drew))).mono ?_
  rintro e w1 ⟨rfl, a', cap', h1, _, h2⟩
  go_wp2_with fail
  go_ret
  exact ⟨rfl, a', cap', h1, (Grew.of_same _ (by repeat (first | exact Fr.refl _ _ | apply Fr.alloc | apply Fr.drewN | apply Fr.drew))).trans h2⟩

set_option maxRecDepth 100000 in
set_option maxHeartbeats 1000000 in
theorem and_do (fuel : Nat) (B p m mm : Nat) (a : Option Addr) (cap : Nat) (N : List Nd) (ar : Option Addr) (capr : Nat) (f g : Int) (s' : Is) (k : Int) (w : World) (hB : BuilderAt w B p m a cap N) (hM : MapAt ndv (Value.int .i64) w mm ([] : List (Nd × Int))) (hne : mm ≠ m)
    (hN : VNd N) (hl : SliceAt w 3 1 (.slice ar 2 capr) 2 (intCells [f, g])) (hf : VNum N f) (hg : VNum N g) (he : iteF fuel (N, []) f g 0 = some (s', k)) (hlen : s'.1.length ≤ 100000) :
    Calls Try.prog 51 #[.pointer (some ⟨p, 0, none⟩), .slice ar 2 capr, .map (some mm)] w (DoRet w B p m mm a cap N s'.1 k) := by
  have FIN : ∀ W, Same w W → Calls Try.prog 50 #[.pointer (some ⟨p, 0, none⟩), .int .i64 f, .int .i64 g, .int .i64 0, .map (some mm)] W (IRet W B p m mm a cap N s' k) :=
    fun W hs => ite_any fuel B p m mm a cap (N, []) f g 0 s' k W (hB.same hs) (hM.of_block (hs.block _ hM.lt id)) hne hN (fun _ _ h => by simp [mget] at h) hf hg ⟨by omega, by simp; omega⟩ he hlen
  obtain ⟨b, off, rfl, hb, hc⟩ := ints_cell (l := [f, g]) hl (by simp)
  have c0 := hc 0 (by simp)
  have c1 := hc 1 (by simp)
  simp only [Nat.add_zero, List.getElem_cons_zero, List.getElem_cons_succ] at c0 c1
  clear hl hc hB hM hN he hf hg
  replace FIN := Lib.hid FIN
  go_enter Try.func51, Try.ntmps51
  go_wp2_with fail
  refine wp_region_sched (fun _ => True) [0, 0, 0, 1, 0, 0, 1, 0, 3, 0] [0, 1, 2, 4, 5, 7, 3, 6, 8, 9] (by kernel_rfl) (by kernel_rfl) ?_
  repeat (first | (refine sched_w rfl rfl (fun _ hK => ?_); go_simp; refine hK _ ?_; clear hK) | (refine sched_s rfl rfl (fun _ hK => ?_); go_simp; first | (refine hK _ ?_; clear hK) | (refine ⟨_, fun _ => rfl, hK _ ?_⟩; clear hK)))
  refine sched_l rfl (by decide) (fun _ hK => ?_); go_simp
  refine (FIN.out _ (by repeat (first | exact Fr.refl _ _ | apply Fr.alloc | apply Fr.drewN | apply Fr.drew))).mono ?_
  rintro e w1 ⟨rfl, a', cap', h1, _, h2⟩
  refine hK _ _ ?_; clear hK; try simp only [Act.put, List.setIfInBounds_toArray, List.set_cons_zero, List.set_cons_succ]
  repeat (first | (refine sched_w rfl rfl (fun _ hK => ?_); go_simp; refine hK _ ?_; clear hK) | (refine sched_s rfl rfl (fun _ hK => ?_); go_simp; first | (refine hK _ ?_; clear hK) | (refine ⟨_, fun _ => rfl, hK _ ?_⟩; clear hK)))
  refine sched_nil (NoPanic.normal ?_)
  go_wp2_with fail
  go_ret
  exact ⟨rfl, a', cap', h1, (Grew.of_same _ (by repeat (first | exact Fr.refl _ _ | apply Fr.alloc | apply Fr.drewN | apply Fr.drew))).trans h2⟩

set_option maxRecDepth 100000 in
set_option maxHeartbeats 1000000 in
theorem or_do (fuel : Nat) (B p m mm : Nat) (a : Option Addr) (cap : Nat) (N : List Nd) (ar : Option Addr) (capr : Nat) (f g : Int) (s' : Is) (k : Int) (w : World) (hB : BuilderAt w B p m a cap N) (hM : MapAt ndv (Value.int .i64) w mm ([] : List (Nd × Int))) (hne : mm ≠ m)
    (hN : VNd N) (hl : SliceAt w 3 1 (.slice ar 2 capr) 2 (intCells [f, g])) (hf : VNum N f) (hg : VNum N g) (he : iteF fuel (N, []) f 1 g = some (s', k)) (hlen : s'.1.length ≤ 100000) :
    Calls Try.prog 52 #[.pointer (some ⟨p, 0, none⟩), .slice ar 2 capr, .map (some mm)] w (DoRet w B p m mm a cap N s'.1 k) := by
  have FIN : ∀ W, Same w W → Calls Try.prog 50 #[.pointer (some ⟨p, 0, none⟩), .int .i64 f, .int .i64 1, .int .i64 g, .map (some mm)] W (IRet W B p m mm a cap N s' k) :=
    fun W hs => ite_any fuel B p m mm a cap (N, []) f 1 g s' k W (hB.same hs) (hM.of_block (hs.block _ hM.lt id)) hne hN (fun _ _ h => by simp [mget] at h) hf ⟨by omega, by simp; omega⟩ hg he hlen
  obtain ⟨b, off, rfl, hb, hc⟩ := ints_cell (l := [f, g]) hl (by simp)
  have c0 := hc 0 (by simp)
  have c1 := hc 1 (by simp)
  simp only [Nat.add_zero, List.getElem_cons_zero, List.getElem_cons_succ] at c0 c1
  clear hl hc hB hM hN he hf hg
  replace FIN := Lib.hid FIN
  go_enter Try.func52, Try.ntmps52
  go_wp2_with fail
  refine wp_region_sched (fun _ => True) [0, 0, 0, 1, 0, 0, 1, 0, 3, 0] [0, 1, 2, 4, 5, 7, 3, 6, 8, 9] (by kernel_rfl) (by kernel_rfl) ?_
  repeat (first | (refine sched_w rfl rfl (fun _ hK => ?_); go_simp; refine hK _ ?_; clear hK) | (refine sched_s rfl rfl (fun _ hK => ?_); go_simp; first | (refine hK _ ?_; clear hK) | (refine ⟨_, fun _ => rfl, hK _ ?_⟩; clear hK)))
  refine sched_l rfl (by decide) (fun _ hK => ?_); go_simp
  refine (FIN.out _ (by repeat (first | exact Fr.refl _ _ | apply Fr.alloc | apply Fr.drewN | apply Fr.drew))).mono ?_
  rintro e w1 ⟨rfl, a', cap', h1, _, h2⟩
  refine hK _ _ ?_; clear hK; try simp only [Act.put, List.setIfInBounds_toArray, List.set_cons_zero, List.set_cons_succ]
  repeat (first | (refine sched_w rfl rfl (fun _ hK => ?_); go_simp; refine hK _ ?_; clear hK) | (refine sched_s rfl rfl (fun _ hK => ?_); go_simp; first | (refine hK _ ?_; clear hK) | (refine ⟨_, fun _ => rfl, hK _ ?_⟩; clear hK)))
  refine sched_nil (NoPanic.normal ?_)
  go_wp2_with fail
  go_ret
  exact ⟨rfl, a', cap', h1, (Grew.of_same _ (by repeat (first | exact Fr.refl _ _ | apply Fr.alloc | apply Fr.drewN | apply Fr.drew))).trans h2⟩

set_option maxRecDepth 100000 in
set_option maxHeartbeats 1000000 in
theorem ite_do (fuel : Nat) (B p m mm : Nat) (a : Option Addr) (cap : Nat) (N : List Nd) (ar : Option Addr) (capr : Nat) (f g h : Int) (s' : Is) (k : Int) (w : World) (hB : BuilderAt w B p m a cap N) (hM : MapAt ndv (Value.int .i64) w mm ([] : List (Nd × Int))) (hne : mm ≠ m)
    (hN : VNd N) (hl : SliceAt w 3 1 (.slice ar 3 capr) 3 (intCells [f, g, h])) (hf : VNum N f) (hg : VNum N g) (hh : VNum N h) (he : iteF fuel (N, []) f g h = some (s', k)) (hlen : s'.1.length ≤ 100000) :
    Calls Try.prog 54 #[.pointer (some ⟨p, 0, none⟩), .slice ar 3 capr, .map (some mm)] w (DoRet w B p m mm a cap N s'.1 k) := by
  have FIN : ∀ W, Same w W → Calls Try.prog 50 #[.pointer (some ⟨p, 0, none⟩), .int .i64 f, .int .i64 g, .int .i64 h, .map (some mm)] W (IRet W B p m mm a cap N s' k) :=
    fun W hs => ite_any fuel B p m mm a cap (N, []) f g h s' k W (hB.same hs) (hM.of_block (hs.block _ hM.lt id)) hne hN (fun _ _ h => by simp [mget] at h) hf hg hh he hlen
  obtain ⟨b, off, rfl, hb, hc⟩ := ints_cell (l := [f, g, h]) hl (by simp)
  have c0 := hc 0 (by simp)
  have c1 := hc 1 (by simp)
  have c2 := hc 2 (by simp)
  simp only [Nat.add_zero, List.getElem_cons_zero, List.getElem_cons_succ] at c0 c1 c2
  clear hl hc hB hM hN he hf hg hh
  replace FIN := Lib.hid FIN
  go_enter Try.func54, Try.ntmps54
  go_wp2_with fail
  refine wp_region_sched (fun _ => True) [0, 0, 0, 1, 0, 0, 1, 0, 0, 1, 0, 3, 0] [0, 1, 2, 4, 5, 7, 8, 10, 3, 6, 9, 11, 12] (by kernel_rfl) (by kernel_rfl) ?_
  repeat (first | (refine sched_w rfl rfl (fun _ hK => ?_); go_simp; refine hK _ ?_; clear hK) | (refine sched_s rfl rfl (fun _ hK => ?_); go_simp; first | (refine hK _ ?_; clear hK) | (refine ⟨_, fun _ => rfl, hK _ ?_⟩; clear hK)))
  refine sched_l rfl (by decide) (fun _ hK => ?_); go_simp
  refine (FIN.out _ (by repeat (first | exact Fr.refl _ _ | apply Fr.alloc | apply Fr.drewN | apply Fr.drew))).mono ?_
  rintro e w1 ⟨rfl, a', cap', h1, _, h2⟩
  refine hK _ _ ?_; clear hK; try simp only [Act.put, List.setIfInBounds_toArray, List.set_cons_zero, List.set_cons_succ]
  repeat (first | (refine sched_w rfl rfl (fun _ hK => ?_); go_simp; refine hK _ ?_; clear hK) | (refine sched_s rfl rfl (fun _ hK => ?_); go_simp; first | (refine hK _ ?_; clear hK) | (refine ⟨_, fun _ => rfl, hK _ ?_⟩; clear hK)))
  refine sched_nil (NoPanic.normal ?_)
  go_wp2_with fail
  go_ret
  exact ⟨rfl, a', cap', h1, (Grew.of_same _ (by repeat (first | exact Fr.refl _ _ | apply Fr.alloc | apply Fr.drewN | apply Fr.drew))).trans h2⟩

end Go.Proofs.Ytaebjalpebgliaa
