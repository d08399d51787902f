/- The builder: number for all nodes; begin, top, part. -/
import Derived.Test.YtaebjalpebgliaaNum
namespace Go.Proofs.Ytaebjalpebgliaa
open Go.RowKit
set_option linter.unusedVariables false

theorem BuilderAt.fr {S : Nat → Prop} {w w' : World} {B p m : Nat} {a : Option Addr} {cap : Nat} {N : List Nd} (hB : BuilderAt w B p m a cap N) (hf : Fr S w w') (h1 : ¬ S p) (h2 : ¬ S m) (h3 : ∀ k, (Value.slice a N.length cap).ownBlock = some k → ¬ S k) : BuilderAt w' B p m a cap N :=
  ⟨hf.at hB.blk h1, owns_fr hB.own hf h3, hB.map.of_block (hf.block m hB.map.lt h2), hB.pb, hB.mb⟩

theorem BuilderAt.same {w w' : World} {B p m : Nat} {a : Option Addr} {cap : Nat} {N : List Nd} (hB : BuilderAt w B p m a cap N) (hf : Same w w') : BuilderAt w' B p m a cap N :=
  hB.fr hf id id (fun _ _ => id)

/-- A call on a builder: it returns k, and the builder's nodes are N' behind it; besides its own blocks those of S may have turned. -/
def BRet (S : Nat → Prop) (w : World) (B p m : Nat) (a : Option Addr) (cap : Nat) (N N' : List Nd) (k : Int) (e : Ending) (w' : World) : Prop :=
  e = .returned (.int .i64 k) ∧ ∃ a' cap', BuilderAt w' B p m a' cap' N' ∧ Grew (fun i => BB p m i ∨ S i) w w' (.slice a N.length cap) (.slice a' N'.length cap')

theorem BRet.of_same {S : Nat → Prop} {w w' : World} {B p m : Nat} {a : Option Addr} {cap : Nat} {N : List Nd} {k : Int} {e : Ending} (hB : BuilderAt w B p m a cap N) (he : e = .returned (.int .i64 k)) (hf : Same w w') : BRet S w B p m a cap N N k e w' :=
  ⟨he, a, cap, hB.same hf, Grew.of_same _ hf⟩

theorem number_any (S : Nat → Prop) (B p m : Nat) (a : Option Addr) (cap : Nat) (N : List Nd) (v l h : Int) (w : World) (hB : BuilderAt w B p m a cap N) (hlen : N.length ≤ 100000) :
    Calls Try.prog 79 #[.pointer (some ⟨p, 0, none⟩), .agg #[.int .i64 v, .int .i64 l, .int .i64 h]] w (BRet S w B p m a cap N (numF N (v, l, h)).1 (numF N (v, l, h)).2) := by
  by_cases hlh : l = h
  · subst hlh
    have e1 : numF N (v, l, l) = (N, l) := by simp [numF]
    rw [e1]
    exact (number_same p v l w).mono fun e w' ⟨he, hs⟩ => .of_same hB he hs
  · by_cases hf : findFrom N (v, l, h) 2 = 0
    · have e1 : numF N (v, l, h) = (N ++ [(v, l, h)], (N.length : Int) + 2) := by simp [numF, hlh, hf]
      rw [e1]
      refine (number_miss B p m a cap N v l h w hB hlh hf hlen).mono fun e w' ⟨he, a', cap', h1, h2⟩ => ⟨he, a', cap', h1, ?_⟩
      refine ⟨h2.1.mono ?_, by simpa using h2.2⟩
      rintro i _ (h' | h')
      · exact .inl h'
      · exact .inr (.inl h')
    · have e1 : numF N (v, l, h) = (N, findFrom N (v, l, h) 2) := by simp [numF, hlh, hf]
      rw [e1]
      exact (number_hit B p m a cap N v l h w hB hlh hf).mono fun e w' ⟨he, hs⟩ => .of_same hB he hs

/-- The cells of a builder's node, at the addresses that the walk reckons. -/
theorem BuilderAt.node {w : World} {B p m : Nat} {a : Option Addr} {cap : Nat} {N : List Nd} (hB : BuilderAt w B p m a cap N) {k : Int} (h2 : 2 ≤ k) (hk : k < N.length + 2) :
    ∃ b off, a = some ⟨b, off, none⟩ ∧ b < w.heap.size ∧ w.cell? ⟨b, off + (k - 2).toNat * 3, none⟩ = some (.int .i64 (nodeF N k).1) ∧ w.cell? ⟨b, off + (k - 2).toNat * 3 + 1, none⟩ = some (.int .i64 (nodeF N k).2.1) ∧ w.cell? ⟨b, off + (k - 2).toNat * 3 + 2, none⟩ = some (.int .i64 (nodeF N k).2.2) := by
  have hlt : (k - 2).toNat < N.length := by omega
  have := (SliceAt.of_owns hB.own).node hlt
  simpa [nodeF, hlt] using this

set_option maxHeartbeats 400000 in
theorem top_any (B p m : Nat) (a : Option Addr) (cap : Nat) (N : List Nd) (k : Int) (w : World) (hB : BuilderAt w B p m a cap N) (hk : k < N.length + 2) (hlen : N.length ≤ 100000) (hk0 : 0 ≤ k) :
    Calls Try.prog 77 #[.pointer (some ⟨p, 0, none⟩), .int .i64 k] w fun e w' => e = .returned (.int .i64 (topF N k)) ∧ w = w' := by
  by_cases h2 : k < 2
  · have e1 : topF N k = 40 := by simp [topF, h2]
    rw [e1]
    clear e1 hB
    go_enter Try.func77, Try.ntmps77
    go_wp2
    go_ret
    exact ⟨rfl, rfl⟩
  · have e1 : topF N k = (nodeF N k).1 := by simp [topF, h2]
    rw [e1]
    have c0 : w.cell? ⟨p, 0, none⟩ = some (.slice a N.length cap) := cell_at hB.blk 0
    obtain ⟨b, off, rfl, hb, n0, n1, n2⟩ := hB.node (by omega) hk
    clear e1 hB
    go_enter Try.func77, Try.ntmps77
    go_wp2
    go_ret
    exact ⟨rfl, rfl⟩

set_option maxHeartbeats 400000 in
theorem part_any (B p m : Nat) (a : Option Addr) (cap : Nat) (N : List Nd) (k v : Int) (bb : Bool) (w : World) (hB : BuilderAt w B p m a cap N) (hk : k < N.length + 2) (hlen : N.length ≤ 100000) (hk0 : 0 ≤ k) (hv : v < 40) :
    Calls Try.prog 78 #[.pointer (some ⟨p, 0, none⟩), .int .i64 k, .int .i64 v, .bool bb] w fun e w' => e = .returned (.int .i64 (partF N k v bb)) ∧ w = w' := by
  by_cases ht : topF N k = v
  · have h2 : 2 ≤ k := by
      rcases Int.lt_or_le k 2 with h | h
      · simp [topF, h] at ht; omega
      · exact h
    have c0 : w.cell? ⟨p, 0, none⟩ = some (.slice a N.length cap) := cell_at hB.blk 0
    have ht' : (topF N k != v) = false := by simp [ht]
    have HB := Lib.hid hB
    obtain ⟨b, off, rfl, hb, n0, n1, n2⟩ := hB.node h2 hk
    cases bb
    · have e1 : partF N k v false = (nodeF N k).2.1 := by simp [partF, ht]
      rw [e1]
      clear e1 hB ht
      go_enter Try.func78, Try.ntmps78
      go_wp2_with (go_at_call 77; refine (top_any B p m _ cap N k _ HB.out hk hlen hk0).mono ?_; rintro e w' ⟨rfl, rfl⟩)
      go_ret
      exact ⟨rfl, rfl⟩
    · have e1 : partF N k v true = (nodeF N k).2.2 := by simp [partF, ht]
      rw [e1]
      clear e1 hB ht
      go_enter Try.func78, Try.ntmps78
      go_wp2_with (go_at_call 77; refine (top_any B p m _ cap N k _ HB.out hk hlen hk0).mono ?_; rintro e w' ⟨rfl, rfl⟩)
      go_ret
      exact ⟨rfl, rfl⟩
  · have e1 : partF N k v bb = k := by simp [partF, ht]
    rw [e1]
    have ht' : (topF N k != v) = true := by simp [ht]
    have HB := Lib.hid hB
    clear e1 hB ht
    go_enter Try.func78, Try.ntmps78
    go_wp2_with (go_at_call 77; refine (top_any B p m _ cap N k _ HB.out hk hlen hk0).mono ?_; rintro e w' ⟨rfl, rfl⟩)
    go_ret
    exact ⟨rfl, rfl⟩

set_option maxHeartbeats 400000 in
theorem begin_any (w : World) :
    Calls Try.prog 57 #[] w fun e w' => ∃ p m, e = .returned (.pointer (some ⟨p, 0, none⟩)) ∧ BuilderAt w' w.heap.size p m none 0 [] ∧ Same w w' := by
  have hmm := @run_makeMap Try.prog
  go_enter Try.func57, Try.ntmps57
  go_wp2
  go_ret
  refine ⟨_, w.heap.size, rfl, ⟨heap_new_at (by simp) _, World.ownsRow_nil _ _ _ _, ?_, by simp, Nat.le_refl _⟩, (by repeat (first | exact Fr.refl _ _ | apply Fr.alloc | apply Fr.drewN | apply Fr.drew))⟩
  exact (mapAt_made w).of_block (Below.heap_alloc _ _ _ (by simp))

end Go.Proofs.Ytaebjalpebgliaa
