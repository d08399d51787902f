/- The closure Xor$1: two calls of ite. -/
import Derived.Test.YtaebjalpebgliaaDo
namespace Go.Proofs.Ytaebjalpebgliaa
open Go.RowKit
set_option linter.unusedVariables false
set_option linter.unusedSimpArgs false

theorem ints_block {w : World} {a : Option Addr} {cap : Nat} {l : List Int} (h : SliceAt w 3 1 (.slice a l.length cap) l.length (intCells l)) (hn : 0 < l.length) :
    ∃ b off cur, a = some ⟨b, off, none⟩ ∧ w.heap[b]? = some (.cells cur 3 (0, 0)) ∧ ∀ j (hj : j < l.length), w.cell? ⟨b, off + j, none⟩ = some (.int .i64 l[j]) := by
  obtain ⟨b, off, ha, hb, hc⟩ := ints_cell h hn
  obtain ⟨_, a', cap', he, _, _, _, hx⟩ := h
  obtain ⟨b', off', cur, ha', hh, _⟩ := hx hn
  cases he
  rw [ha] at ha'
  cases ha'
  exact ⟨b, off, cur, ha, hh, hc⟩

set_option maxRecDepth 100000 in
set_option maxHeartbeats 1000000 in
theorem xor_do (fuel : Nat) (B p m mm : Nat) (a : Option Addr) (cap : Nat) (N : List Nd) (ar : Option Addr) (capr : Nat) (f g : Int) (s1 s' : Is) (ng k : Int) (w : World) (hB : BuilderAt w B p m a cap N) (hM : MapAt ndv (Value.int .i64) w mm ([] : List (Nd × Int))) (hne : mm ≠ m)
    (hN : VNd N) (hl : SliceAt w 3 1 (.slice ar 2 capr) 2 (intCells [f, g])) (hf : VNum N f) (hg : VNum N g) (he : iteF fuel (N, []) g 0 1 = some (s1, ng)) (he2 : iteF fuel s1 f ng g = some (s', k)) (hlen : s'.1.length ≤ 100000) :
    Calls Try.prog 53 #[.pointer (some ⟨p, 0, none⟩), .slice ar 2 capr, .map (some mm)] w (DoRet w B p m mm a cap N s'.1 k) := by
  have hVM0 : VM N ([] : List (Nd × Int)) := fun _ _ h => by simp [mget] at h
  obtain ⟨a1, a2, a3, a4⟩ := iteF_valid _ _ _ _ _ _ _ he hN hVM0 hg ⟨by omega, by simp; omega⟩ ⟨by omega, by simp; omega⟩
  obtain ⟨b1, b2, b3, b4⟩ := iteF_valid _ _ _ _ _ _ _ he2 a1 a2 (hf.mono a4) a3 (hg.mono a4)
  have F1 : ∀ W, Same w W → Calls Try.prog 50 #[.pointer (some ⟨p, 0, none⟩), .int .i64 g, .int .i64 0, .int .i64 1, .map (some mm)] W (IRet W B p m mm a cap N s1 ng) :=
    fun W hs => ite_any fuel B p m mm a cap (N, []) g 0 1 s1 ng W (hB.same hs) (hM.of_block (hs.block _ hM.lt id)) hne hN hVM0 hg ⟨by omega, by simp; omega⟩ ⟨by omega, by simp; omega⟩ he (by omega)
  have F2 : ∀ a' cap' W, BuilderAt W B p m a' cap' s1.1 → MapAt ndv (Value.int .i64) W mm s1.2 → Calls Try.prog 50 #[.pointer (some ⟨p, 0, none⟩), .int .i64 f, .int .i64 ng, .int .i64 g, .map (some mm)] W (IRet W B p m mm a' cap' s1.1 s' k) :=
    fun a' cap' W hB1 hM1 => ite_any fuel B p m mm a' cap' s1 f ng g s' k W hB1 hM1 hne a1 a2 (hf.mono a4) a3 (hg.mono a4) he2 hlen
  obtain ⟨b, off, cur, rfl, hbk, hc⟩ := ints_block (l := [f, g]) hl (by simp)
  have hb := lt_of_heap hbk
  have c0 := hc 0 (by simp)
  have c1 := hc 1 (by simp)
  simp only [Nat.add_zero, List.getElem_cons_zero, List.getElem_cons_succ] at c0 c1
  have hKp : ∀ W w1 (a' : Option Addr) (cap' : Nat), Same w W → Grew (fun i => BB p m i ∨ i = mm) W w1 (.slice a N.length cap) (.slice a' s1.1.length cap') → Kp (Lk b) w w1 := by
    intro W w1 a' cap' hs hG
    have := ite_keeps (hB.same hs) (hM.of_block (hs.block _ hM.lt id)) hG (hs.at hbk id) (by decide) (by decide)
    exact ⟨Nat.le_trans hs.size hG.1.size, fun k hk _ => by rw [show k = b from hk, this, hbk]⟩
  clear hl hc hB hM hN he he2 hf hg a1 a2 a3 b1 b2 b3 hVM0 hbk
  replace F1 := Lib.hid F1
  replace F2 := Lib.hid F2
  replace hKp := Lib.hid hKp
  go_enter Try.func53, Try.ntmps53
  go_wp2_with fail
  refine wp_region_sched (Lk b) [0, 0, 0, 1, 0, 0, 0, 1, 0, 2, 0, 0, 1, 0, 3, 0] [0, 1, 2, 4, 5, 6, 8, 10, 11, 13, 3, 7, 12, 9, 14, 15] (by kernel_rfl) (by kernel_rfl) ?_
  repeat (first | (refine sched_w rfl rfl (fun _ hK => ?_); go_simp; refine hK _ ?_; clear hK) | (refine sched_s rfl rfl (fun _ hK => ?_); go_simp; first | (refine hK _ ?_; clear hK) | (refine ⟨_, fun _ => rfl, hK _ ?_⟩; clear hK)))
  refine sched_g rfl rfl (fun _ hK => ?_)
  go_simp
  refine (F1.out _ (by repeat (first | exact Fr.refl _ _ | apply Fr.alloc | apply Fr.drewN | apply Fr.drew))).mono ?_
  rintro e w1 ⟨rfl, a', cap', h1, h1m, h2⟩
  refine hK _ _ (hKp.out _ _ _ _ (by repeat (first | exact Fr.refl _ _ | apply Fr.alloc | apply Fr.drewN | apply Fr.drew)) h2) ?_
  clear hK
  try simp only [Act.put, List.setIfInBounds_toArray, List.set_cons_zero, List.set_cons_succ]
  have h2' : Grew (fun i => BB p m i ∨ i = mm) w w1 (.slice a N.length cap) (.slice a' s1.1.length cap') := (Grew.of_same _ (by repeat (first | exact Fr.refl _ _ | apply Fr.alloc | apply Fr.drewN | apply Fr.drew))).trans h2
  replace h1 := Lib.hid h1
  replace h1m := Lib.hid h1m
  replace h2' := Lib.hid h2'
  clear h2 c0 c1
  repeat (first | (refine sched_w rfl rfl (fun _ hK => ?_); go_simp; refine hK _ ?_; clear hK) | (refine sched_s rfl rfl (fun _ hK => ?_); go_simp; first | (refine hK _ ?_; clear hK) | (refine ⟨_, fun _ => rfl, hK _ ?_⟩; clear hK)))
  refine sched_l rfl (by decide) (fun _ hK => ?_); go_simp
  refine (F2.out a' cap' _ h1.out h1m.out).mono ?_
  rintro e w2 ⟨rfl, a'', cap'', h3, _, h4⟩
  replace h4 := Lib.hid h4
  replace h3 := Lib.hid h3
  refine hK _ _ ?_; clear hK; try simp only [Act.put, List.setIfInBounds_toArray, List.set_cons_zero, List.set_cons_succ]
  repeat (first | (refine sched_w rfl rfl (fun _ hK => ?_); go_simp; refine hK _ ?_; clear hK) | (refine sched_s rfl rfl (fun _ hK => ?_); go_simp; first | (refine hK _ ?_; clear hK) | (refine ⟨_, fun _ => rfl, hK _ ?_⟩; clear hK)))
  refine sched_nil (NoPanic.normal ?_)
  go_wp2_with fail
  go_ret
  exact ⟨rfl, a'', cap'', h3.out, h2'.out.trans h4.out⟩
end Go.Proofs.Ytaebjalpebgliaa
