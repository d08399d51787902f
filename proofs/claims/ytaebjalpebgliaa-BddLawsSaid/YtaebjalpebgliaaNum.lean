/- The builder: number. -/
import Derived.Test.YtaebjalpebgliaaRows
import Derived.Test.YtaebjalpebgliaaFacts
import Derived.WalkKit
import Derived.WalkSpells
import Derived.WalkLawsBesides
import Derived.Deep.QuietTactic
import Derived.BigQuiet
import Derived.Lib.Hide
import Derived.Deep.AppendLies
import Derived.Deep.RegionHeld3
import Derived.Deep.RegionLaw
import Derived.Deep.DeepCutAuto
import Derived.Deep.DeepMust
import Derived.StillTailTactics
namespace Go.Proofs.Ytaebjalpebgliaa
open Go.RowKit
set_option linter.unusedVariables false

/-- The builder at block p: its table of known nodes is block m, its nodes are N. -/
structure BuilderAt (w : World) (B p m : Nat) (a : Option Addr) (cap : Nat) (N : List Nd) : Prop where
  blk : w.heap[p]? = some (.cells #[.slice a N.length cap, .map (some m)] 117 (0, 0))
  own : w.ownsRow B 80 3 (.slice a N.length cap) N.length (ndCells N)
  map : MapAt ndv (Value.int .i64) w m (knownFrom N 2)
  pb : B ≤ p
  mb : B ≤ m

theorem BuilderAt.keep {w W w1 : World} {B p m : Nat} {a : Option Addr} {cap : Nat} {N : List Nd} {v' : Value} (hB : BuilderAt w B p m a cap N) (hs : Same w W) (hg : Grew (fun _ => False) W w1 (.slice a N.length cap) v') :
    w1.heap[p]? = some (.cells #[.slice a N.length cap, .map (some m)] 117 (0, 0)) := by
  refine hg.1.at (hs.at hB.blk id) ?_
  rintro (h | h)
  · obtain ⟨cur, hc⟩ := own_block hB.own h
    rw [hB.blk] at hc
    simp at hc
  · exact h

/-- The blocks of a builder, but for the row of its nodes. -/
def BB (p m : Nat) : Nat → Prop := fun k => k = p ∨ k = m

theorem info80 : (Try.prog.info? 80).map (fun i => (i.zero, i.size, i.bytes)) = some (some (.agg #[.int .i64 0, .int .i64 0, .int .i64 0]), 3, 24) := by kernel_rfl

set_option maxHeartbeats 400000 in
theorem number_same (p : Nat) (v l : Int) (w : World) :
    Calls Try.prog 79 #[.pointer (some ⟨p, 0, none⟩), .agg #[.int .i64 v, .int .i64 l, .int .i64 l]] w fun e w' =>
      e = .returned (.int .i64 l) ∧ Same w w' := by
  go_enter Try.func79, Try.ntmps79
  go_wp2
  go_ret
  exact ⟨rfl, (Fr.refl _ _).alloc _⟩

set_option maxHeartbeats 400000 in
theorem number_hit (B p m : Nat) (a : Option Addr) (cap : Nat) (N : List Nd) (v l h : Int) (w : World) (hB : BuilderAt w B p m a cap N) (hne : l ≠ h) (hf : findFrom N (v, l, h) 2 ≠ 0) :
    Calls Try.prog 79 #[.pointer (some ⟨p, 0, none⟩), .agg #[.int .i64 v, .int .i64 l, .int .i64 h]] w fun e w' =>
      e = .returned (.int .i64 (findFrom N (v, l, h) 2)) ∧ Same w w' := by
  have hpl := lt_of_heap hB.blk
  have c1 : w.cell? ⟨p, 1, none⟩ = some (.map (some m)) := cell_at hB.blk 1
  have hg : mget (knownFrom N 2) (v, l, h) = some (findFrom N (v, l, h) 2) := by rw [mget_known N _ 2 (by omega), if_neg hf]
  have hl : ∀ w' : World, w'.heap[m]? = w.heap[m]? → (Instr.lookup 115 (.map (some m)) (.agg #[.int .i64 v, .int .i64 l, .int .i64 h]) true).run Try.prog w' = .ok (.tuple #[.int .i64 (findFrom N (v, l, h) 2), .bool true]) w' :=
    fun w' hw' => lookup_hit keyB mapB (hB.map.of_block hw') hg true
  have hlb : ∀ o n, (Instr.lookup 115 (.map (some m)) (.agg #[.int .i64 v, .int .i64 l, .int .i64 h]) true).run Try.prog ((w.alloc o).drewN n) = .ok (.tuple #[.int .i64 (findFrom N (v, l, h) 2), .bool true]) ((w.alloc o).drewN n) :=
    fun o n => hl _ (Below.heap_alloc w o m hB.map.lt)
  have hne' : (l == h) = false := by simpa using hne
  clear hl hg hB hf hne
  go_enter Try.func79, Try.ntmps79
  go_wp2
  go_quiet (fail)
  go_wp2
  go_ret
  exact ⟨rfl, ((Fr.refl _ _).alloc _).drewN _⟩

/-- Behind the append, and the store into the builder. -/
structure NumMid (w W : World) (B p m : Nat) (a : Option Addr) (cap : Nat) (a' : Option Addr) (cap' : Nat) (N : List Nd) (v l h : Int) : Prop where
  blk : W.heap[p]? = some (.cells #[.slice a' (N.length + 1) cap', .map (some m)] 117 (0, 0))
  own : W.ownsRow B 80 3 (.slice a' (N.length + 1) cap') (N.length + 1) (ndCells (N ++ [(v, l, h)]))
  map : MapAt ndv (Value.int .i64) W m (knownFrom N 2)
  box : W.heap[w.heap.size]? = some (.cells #[.int .i64 v, .int .i64 l, .int .i64 h] 80 (0, 0))
  grew : Grew (BB p m) w W (.slice a N.length cap) (.slice a' (N.length + 1) cap')
  pb : B ≤ p
  mb : B ≤ m

theorem map_ne_cells {w : World} {m : Nat} {K V : Type} {enc : K → Value} {venc : V → Value} {M : List (K × V)} (h : MapAt enc venc w m M) {k : Nat} {cur : Array Value} {T : TypeId} {fr : Nat × Nat} (hk : w.heap[k]? = some (.cells cur T fr)) : m ≠ k := by
  rintro rfl
  obtain ⟨es, clock, h1, _⟩ := h
  rw [h1] at hk
  cases hk

theorem NumMid.mk' {w W w1 : World} {B p m : Nat} {a a' : Option Addr} {cap cap' : Nat} {N : List Nd} {v l h : Int} (hB : BuilderAt w B p m a cap N) (hs : Same (w.alloc (.cells #[.int .i64 v, .int .i64 l, .int .i64 h] 80)) W)
    (hown : w1.ownsRow B 80 3 (.slice a' (N.length + 1) cap') (N.length + 1) (ndCells N ++ [.int .i64 v, .int .i64 l, .int .i64 h])) (hg : Grew (fun _ => False) W w1 (.slice a N.length cap) (.slice a' (N.length + 1) cap')) :
    NumMid w (w1.setCell ⟨p, 0, none⟩ (.slice a' (N.length + 1) cap')) B p m a cap a' cap' N v l h := by
  have hsw : Same w W := ((Fr.refl _ w).alloc _).same hs
  have hp := hB.keep hsw hg
  have hpl := lt_of_heap hB.blk
  have own_ne : ∀ k, (Value.slice a N.length cap).ownBlock = some k → ∃ cur, w.heap[k]? = some (.cells cur 80 (0, 0)) := fun k hk => own_block hB.own hk
  have hm : w1.heap[m]? = w.heap[m]? := by
    rw [hg.1.block m (Nat.lt_of_lt_of_le hB.map.lt hsw.size) ?_, hsw.block m hB.map.lt id]
    rintro (h' | h')
    · obtain ⟨cur, hc⟩ := own_ne m h'
      exact map_ne_cells hB.map hc rfl
    · exact h'
  have hmp := map_ne_cells hB.map hB.blk
  refine ⟨by rw [heap_setCell_same hp]; rfl, ?_, hB.map.of_block ?_, ?_, ?_, ?_, ?_⟩
  · rw [ndCells_append]
    refine owns_fr (S := fun k => k = p) hown ((Fr.refl _ _).setCell _ _ (fun _ => rfl)) ?_
    intro k hk e
    subst e
    obtain ⟨cur, hc⟩ := own_block hown hk
    rw [hp] at hc
    simp at hc
  · rw [heap_setCell_other hmp]; exact hm
  · rw [heap_setCell_other (by show w.heap.size ≠ p; omega)]
    refine hg.1.at (hs.at (heap_new w _) id) ?_
    rintro (h' | h')
    · obtain ⟨cur, hc⟩ := own_ne _ h'
      have := lt_of_heap hc
      omega
    · exact h'
  · have g1 : Grew (BB p m) w w1 (.slice a N.length cap) (.slice a' (N.length + 1) cap') := by
      refine Grew.trans (v1 := .slice a N.length cap) (Grew.of_same _ hsw) ⟨hg.1.mono ?_, hg.2⟩
      rintro i _ (h' | h')
      · exact .inl h'
      · exact h'.elim
    exact ⟨g1.1.setCell _ _ (fun _ => .inr (.inl rfl)), g1.2⟩
  · exact hB.pb
  · exact hB.mb

theorem NumMid.done {w W : World} {B p m : Nat} {a a' : Option Addr} {cap cap' : Nat} {N : List Nd} {v l h : Int} {ob : Obj} (M : NumMid w W B p m a cap a' cap' N v l h) (hf : findFrom N (v, l, h) 2 = 0)
    (hob : MapAt ndv (Value.int .i64) (setObj W.drew m ob) m (mput (knownFrom N 2) (v, l, h) (N.length + 2))) :
    (setObj W.drew m ob).heap[p]? = some (.cells #[.slice a' (N.length + 1) cap', .map (some m)] 117 (0, 0)) ∧
    BuilderAt (setObj W.drew m ob) B p m a' cap' (N ++ [(v, l, h)]) ∧ Grew (BB p m) w (setObj W.drew m ob) (.slice a N.length cap) (.slice a' (N.length + 1) cap') := by
  have hmp := map_ne_cells M.map M.blk
  have hf' : Fr (fun k => k = m) W (setObj W.drew m ob) := ((Fr.refl _ W).drew).setObj _ _ (fun _ => rfl)
  have hp := hf'.at M.blk (fun e => hmp e.symm)
  refine ⟨hp, ⟨by simpa using hp, ?_, ?_, M.pb, M.mb⟩, ?_⟩
  · have := owns_fr M.own hf' (fun k hk e => by
      subst e
      obtain ⟨cur, hc⟩ := own_block M.own hk
      exact map_ne_cells M.map hc rfl)
    simpa using this
  · have e := mput_known N (v, l, h) 2 (by omega) hf
    rw [show (2 : Int) + N.length = N.length + 2 by omega] at e
    rw [← e]
    exact hob
  · exact ⟨M.grew.1.trans hf' (fun i _ e => .inr (.inr e)), M.grew.2⟩

set_option maxRecDepth 100000 in
set_option maxHeartbeats 1000000 in
theorem number_miss (B p m : Nat) (a : Option Addr) (cap : Nat) (N : List Nd) (v l h : Int) (w : World) (hB : BuilderAt w B p m a cap N) (hne : l ≠ h) (hf : findFrom N (v, l, h) 2 = 0) (hlen : N.length ≤ 100000) :
    Calls Try.prog 79 #[.pointer (some ⟨p, 0, none⟩), .agg #[.int .i64 v, .int .i64 l, .int .i64 h]] w fun e w' =>
      e = .returned (.int .i64 (N.length + 2)) ∧ ∃ a' cap', BuilderAt w' B p m a' cap' (N ++ [(v, l, h)]) ∧ Grew (BB p m) w w' (.slice a N.length cap) (.slice a' (N.length + 1) cap') := by
  have hpl := lt_of_heap hB.blk
  have c0 : w.cell? ⟨p, 0, none⟩ = some (.slice a N.length cap) := cell_at hB.blk 0
  have c1 : w.cell? ⟨p, 1, none⟩ = some (.map (some m)) := cell_at hB.blk 1
  have f0 : w.frozen? ⟨p, 0, none⟩ = false := free_at hB.blk 0
  have hg : mget (knownFrom N 2) (v, l, h) = none := by rw [mget_known N _ 2 (by omega), if_pos hf]
  have hl : ∀ w' : World, w'.heap[m]? = w.heap[m]? → (Instr.lookup 115 (.map (some m)) (.agg #[.int .i64 v, .int .i64 l, .int .i64 h]) true).run Try.prog w' = .ok (.tuple #[.int .i64 0, .bool false]) w' :=
    fun w' hw' => lookup_miss keyB mapB (hB.map.of_block hw') hg (zeroI _) true
  have hlb : ∀ o n, (Instr.lookup 115 (.map (some m)) (.agg #[.int .i64 v, .int .i64 l, .int .i64 h]) true).run Try.prog ((w.alloc o).drewN n) = .ok (.tuple #[.int .i64 0, .bool false]) ((w.alloc o).drewN n) :=
    fun o n => hl _ (Below.heap_alloc w o m hB.map.lt)
  have hne' : (l == h) = false := by simpa using hne
  have HB := Lib.hid hB
  have HF := Lib.hid hf
  clear hl hg hf hne hB
  go_enter Try.func79, Try.ntmps79
  go_wp2
  go_quiet (fail)
  go_wp2
  obtain ⟨i0, hi, hz0, hz1, hz2⟩ := info_parts info80
  go_region_law (refine step_append1 rfl (.tmp 29) (.tmp 31) 29 rfl B 80 i0 (.agg #[.int .i64 0, .int .i64 0, .int .i64 0]) 3 24 Try.underlying29 hi hz0 hz1 hz2 rfl (by decide) (by decide) a N.length cap (ndCells N) rfl (owns_same HB.out.own (by repeat (first | exact Fr.refl _ _ | apply Fr.alloc | apply Fr.drewN | apply Fr.drew))) (by omega) (w.heap.size + 1) [.int .i64 v, .int .i64 l, .int .i64 h] rfl rfl (heap_new_at (by simp) _) (by simp [Value.oneCell']) (by have := HB.out.pb; simp; omega) ?_; intro a' cap' w1 hown hgrow; have M := NumMid.mk' HB.out (by repeat (first | exact Fr.refl _ _ | apply Fr.alloc | apply Fr.drewN | apply Fr.drew)) hown hgrow; have hp1 := HB.out.keep (by repeat (first | exact Fr.refl _ _ | apply Fr.alloc | apply Fr.drewN | apply Fr.drew)) hgrow; have q0 := cell_at hp1 0; have q1 := free_at hp1 0; replace M := Lib.hid M; clear hown hgrow hp1)
  all_goals
    generalize w1.setCell ⟨p, 0, none⟩ (.slice a' (N.length + 1) cap') = W2 at *
    clear q0 q1 c0 c1 f0 hlb
    have d0 : W2.cell? ⟨p, 0, none⟩ = some (.slice a' (N.length + 1) cap') := cell_at M.out.blk 0
    have d1 : W2.cell? ⟨p, 1, none⟩ = some (.map (some m)) := cell_at M.out.blk 1
    have e0 : W2.cell? ⟨w.heap.size, 0, none⟩ = some (.int .i64 v) := cell_at M.out.box 0
    have e1 : W2.cell? ⟨w.heap.size, 1, none⟩ = some (.int .i64 l) := cell_at M.out.box 1
    have e2 : W2.cell? ⟨w.heap.size, 2, none⟩ = some (.int .i64 h) := cell_at M.out.box 2
    go_wp2
    have hw1 : IntKind.i64.wrap ((N.length : Int) + 1 + 1) = N.length + 2 := by rw [IntWalk.i64_in _ (by omega)]; omega
    go_still_tail 11, (by kernel_rfl)
    clear hw1
    change wpList _ _ _ _ _ W2.drew
    refine wpList_mput rfl (.tmp 38) (.tmp 39) (.tmp 45) rfl keyB mapB m (knownFrom N 2) rfl (M.out.map.of_block rfl) (v, l, h) rfl ((N.length : Int) + 2) rfl ?_
    intro ob hob
    have R := M.out.done HF.out hob
    have g0 : (setObj W2.drew m ob).cell? ⟨p, 0, none⟩ = some (.slice a' (N.length + 1) cap') := cell_at R.1 0
    replace R := Lib.hid R
    clear d0 d1 e0 e1 e2 M hob
    refine wpList_nil ?_
    go_wp2
    go_ret
    exact ⟨rfl, a', cap', R.out.2⟩

end Go.Proofs.Ytaebjalpebgliaa
