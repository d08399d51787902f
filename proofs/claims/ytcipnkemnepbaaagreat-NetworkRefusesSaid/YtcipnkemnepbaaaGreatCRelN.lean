/-  -/
import Derived.Test.YtcipnkemnepbaaaGreatRows
import Derived.Test.YtcipnkemnepbaaaGreatCFacts
import Derived.WalkKit
import Derived.WalkSpells
import Derived.WalkLawsBesides
import Derived.Deep.QuietTactic
import Derived.BigQuiet
import Derived.Lib.Hide
import Derived.Deep.AppendLies
import Derived.Deep.RegionHeld3
import Derived.Deep.RegionLaw
import Derived.Deep.DeepCutAuto
import Derived.Deep.DeepMust
import Derived.StillTailTactics
set_option maxRecDepth 100000
set_option maxHeartbeats 1000000
set_option linter.unusedVariables false
set_option linter.unusedSimpArgs false
namespace Go.Proofs.YtcipnkemnepbaaaGreat
open Go.RowKit
structure BuilderAt (w : World) (B p m : Nat) (a : Option Addr) (cap : Nat) (N : List Nd) : Prop where
 blk : w.heap[p]? = some (.cells #[.slice a N.length cap, .map (some m)] 138 (0, 0))
 own : w.ownsRow B 142 3 (.slice a N.length cap) N.length (ndCells N)
 map : MapAt ndv (Value.int .i64) w m (knownFrom N 2)
 pb : B ≤ p
 mb : B ≤ m
theorem BuilderAt.keep {w W w1 : World} {B p m : Nat} {a : Option Addr} {cap : Nat} {N : List Nd} {v' : Value} (hB : BuilderAt w B p m a cap N) (hs : Same w W) (hg : Grew (fun _ => False) W w1 (.slice a N.length cap) v') :
 w1.heap[p]? = some (.cells #[.slice a N.length cap, .map (some m)] 138 (0, 0)) := by
 refine hg.1.at (hs.at hB.blk id) ?_
 rintro (h | h)
 · obtain ⟨cur, hc⟩ := own_block hB.own h
   rw [hB.blk] at hc
   simp at hc
 · exact h
def BB (p m : Nat) : Nat → Prop := fun k => k = p ∨ k = m
theorem info142 : (Tryz.prog.info? 142).map (fun i => (i.zero, i.size, i.bytes)) = some (some (.agg #[.int .i64 0, .int .i64 0, .int .i64 0]), 3, 24) := by kernel_rfl
theorem number_same (p : Nat) (v l : Int) (w : World) :
 Calls Tryz.prog 81 #[.pointer (some ⟨p, 0, none⟩), .agg #[.int .i64 v, .int .i64 l, .int .i64 l]] w fun e w' =>
  e = .returned (.int .i64 l) ∧ Same w w' := by
 go_enter Tryz.func81, Tryz.ntmps81
 go_wp2
 go_ret
 exact ⟨rfl, (Fr.refl _ _).alloc _⟩
theorem number_hit (B p m : Nat) (a : Option Addr) (cap : Nat) (N : List Nd) (v l h : Int) (w : World) (hB : BuilderAt w B p m a cap N) (hne : l ≠ h) (hf : findFrom N (v, l, h) 2 ≠ 0) :
 Calls Tryz.prog 81 #[.pointer (some ⟨p, 0, none⟩), .agg #[.int .i64 v, .int .i64 l, .int .i64 h]] w fun e w' =>
  e = .returned (.int .i64 (findFrom N (v, l, h) 2)) ∧ Same w w' := by
 have hpl := gu hB.blk
 have c1 : w.cell? ⟨p, 1, none⟩ = some (.map (some m)) := gn hB.blk 1
 have hg : mget (knownFrom N 2) (v, l, h) = some (findFrom N (v, l, h) 2) := by rw [mget_known N _ 2 (by omega), if_neg hf]
 have hl : ∀ w' : World, w'.heap[m]? = w.heap[m]? → (Instr.lookup 136 (.map (some m)) (.agg #[.int .i64 v, .int .i64 l, .int .i64 h]) true).run Tryz.prog w' = .ok (.tuple #[.int .i64 (findFrom N (v, l, h) 2), .bool true]) w' :=
  fun w' hw' => lookup_hit keyB mapB (hB.map.of_block hw') hg true
 have hlb : ∀ o n, (Instr.lookup 136 (.map (some m)) (.agg #[.int .i64 v, .int .i64 l, .int .i64 h]) true).run Tryz.prog ((w.alloc o).drewN n) = .ok (.tuple #[.int .i64 (findFrom N (v, l, h) 2), .bool true]) ((w.alloc o).drewN n) :=
  fun o n => hl _ (Below.heap_alloc w o m hB.map.lt)
 have hne' : (l == h) = false := by simpa using hne
 clear hl hg hB hf hne
 go_enter Tryz.func81, Tryz.ntmps81
 go_wp2
 go_quiet (fail)
 go_wp2
 go_ret
 exact ⟨rfl, ((Fr.refl _ _).alloc _).drewN _⟩
structure NumMid (w W : World) (B p m : Nat) (a : Option Addr) (cap : Nat) (a' : Option Addr) (cap' : Nat) (N : List Nd) (v l h : Int) : Prop where
 blk : W.heap[p]? = some (.cells #[.slice a' (N.length + 1) cap', .map (some m)] 138 (0, 0))
 own : W.ownsRow B 142 3 (.slice a' (N.length + 1) cap') (N.length + 1) (ndCells (N ++ [(v, l, h)]))
 map : MapAt ndv (Value.int .i64) W m (knownFrom N 2)
 box : W.heap[w.heap.size]? = some (.cells #[.int .i64 v, .int .i64 l, .int .i64 h] 142 (0, 0))
 grew : Grew (BB p m) w W (.slice a N.length cap) (.slice a' (N.length + 1) cap')
 pb : B ≤ p
 mb : B ≤ m
theorem map_ne_cells {w : World} {m : Nat} {K V : Type} {enc : K → Value} {venc : V → Value} {M : List (K × V)} (h : MapAt enc venc w m M) {k : Nat} {cur : Array Value} {T : TypeId} {fr : Nat × Nat} (hk : w.heap[k]? = some (.cells cur T fr)) : m ≠ k := by
 rintro rfl
 obtain ⟨es, clock, h1, _⟩ := h
 rw [h1] at hk
 cases hk
theorem NumMid.mk' {w W w1 : World} {B p m : Nat} {a a' : Option Addr} {cap cap' : Nat} {N : List Nd} {v l h : Int} (hB : BuilderAt w B p m a cap N) (hs : Same (w.alloc (.cells #[.int .i64 v, .int .i64 l, .int .i64 h] 142)) W)
 (hown : w1.ownsRow B 142 3 (.slice a' (N.length + 1) cap') (N.length + 1) (ndCells N ++ [.int .i64 v, .int .i64 l, .int .i64 h])) (hg : Grew (fun _ => False) W w1 (.slice a N.length cap) (.slice a' (N.length + 1) cap')) :
 NumMid w (w1.setCell ⟨p, 0, none⟩ (.slice a' (N.length + 1) cap')) B p m a cap a' cap' N v l h := by
 have hsw : Same w W := ((Fr.refl _ w).alloc _).same hs
 have hp := hB.keep hsw hg
 have hpl := gu hB.blk
 have own_ne : ∀ k, (Value.slice a N.length cap).ownBlock = some k → ∃ cur, w.heap[k]? = some (.cells cur 142 (0, 0)) := fun k hk => own_block hB.own hk
 have hm : w1.heap[m]? = w.heap[m]? := by
  rw [hg.1.block m (Nat.lt_of_lt_of_le hB.map.lt hsw.size) ?_, hsw.block m hB.map.lt id]
  rintro (h' | h')
  · obtain ⟨cur, hc⟩ := own_ne m h'
    exact map_ne_cells hB.map hc rfl
  · exact h'
 have hmp := map_ne_cells hB.map hB.blk
 refine ⟨by rw [heap_setCell_same hp]; rfl, ?_, hB.map.of_block ?_, ?_, ?_, ?_, ?_⟩
 · rw [ndCells_append]
   refine owns_fr (S := fun k => k = p) hown ((Fr.refl _ _).setCell _ _ (fun _ => rfl)) ?_
   intro k hk e
   subst e
   obtain ⟨cur, hc⟩ := own_block hown hk
   rw [hp] at hc
   simp at hc
 · rw [heap_setCell_other hmp]; exact hm
 · rw [heap_setCell_other (by show w.heap.size ≠ p; omega)]
   refine hg.1.at (hs.at (gv w _) id) ?_
   rintro (h' | h')
   · obtain ⟨cur, hc⟩ := own_ne _ h'
     have := gu hc
     omega
   · exact h'
 · have g1 : Grew (BB p m) w w1 (.slice a N.length cap) (.slice a' (N.length + 1) cap') := by
     refine Grew.trans (v1 := .slice a N.length cap) (Grew.of_same _ hsw) ⟨hg.1.mono ?_, hg.2⟩
     rintro i _ (h' | h')
     · exact .inl h'
     · exact h'.elim
   exact ⟨g1.1.setCell _ _ (fun _ => .inr (.inl rfl)), g1.2⟩
 · exact hB.pb
 · exact hB.mb
theorem NumMid.done {w W : World} {B p m : Nat} {a a' : Option Addr} {cap cap' : Nat} {N : List Nd} {v l h : Int} {ob : Obj} (M : NumMid w W B p m a cap a' cap' N v l h) (hf : findFrom N (v, l, h) 2 = 0)
 (hob : MapAt ndv (Value.int .i64) (setObj W.drew m ob) m (mput (knownFrom N 2) (v, l, h) (N.length + 2))) :
 (setObj W.drew m ob).heap[p]? = some (.cells #[.slice a' (N.length + 1) cap', .map (some m)] 138 (0, 0)) ∧
 BuilderAt (setObj W.drew m ob) B p m a' cap' (N ++ [(v, l, h)]) ∧ Grew (BB p m) w (setObj W.drew m ob) (.slice a N.length cap) (.slice a' (N.length + 1) cap') := by
 have hmp := map_ne_cells M.map M.blk
 have hf' : Fr (fun k => k = m) W (setObj W.drew m ob) := ((Fr.refl _ W).drew).setObj _ _ (fun _ => rfl)
 have hp := hf'.at M.blk (fun e => hmp e.symm)
 refine ⟨hp, ⟨by simpa using hp, ?_, ?_, M.pb, M.mb⟩, ?_⟩
 · have := owns_fr M.own hf' (fun k hk e => by
     subst e
     obtain ⟨cur, hc⟩ := own_block M.own hk
     exact map_ne_cells M.map hc rfl)
   simpa using this
 · have e := mput_known N (v, l, h) 2 (by omega) hf
   rw [show (2 : Int) + N.length = N.length + 2 by omega] at e
   rw [← e]
   exact hob
 · exact ⟨M.grew.1.trans hf' (fun i _ e => .inr (.inr e)), M.grew.2⟩
theorem number_miss (B p m : Nat) (a : Option Addr) (cap : Nat) (N : List Nd) (v l h : Int) (w : World) (hB : BuilderAt w B p m a cap N) (hne : l ≠ h) (hf : findFrom N (v, l, h) 2 = 0) (hlen : N.length ≤ 90000000) :
 Calls Tryz.prog 81 #[.pointer (some ⟨p, 0, none⟩), .agg #[.int .i64 v, .int .i64 l, .int .i64 h]] w fun e w' =>
  e = .returned (.int .i64 (N.length + 2)) ∧ ∃ a' cap', BuilderAt w' B p m a' cap' (N ++ [(v, l, h)]) ∧ Grew (BB p m) w w' (.slice a N.length cap) (.slice a' (N.length + 1) cap') := by
 have hpl := gu hB.blk
 have c0 : w.cell? ⟨p, 0, none⟩ = some (.slice a N.length cap) := gn hB.blk 0
 have c1 : w.cell? ⟨p, 1, none⟩ = some (.map (some m)) := gn hB.blk 1
 have f0 : w.frozen? ⟨p, 0, none⟩ = false := free_at hB.blk 0
 have hg : mget (knownFrom N 2) (v, l, h) = none := by rw [mget_known N _ 2 (by omega), if_pos hf]
 have hl : ∀ w' : World, w'.heap[m]? = w.heap[m]? → (Instr.lookup 136 (.map (some m)) (.agg #[.int .i64 v, .int .i64 l, .int .i64 h]) true).run Tryz.prog w' = .ok (.tuple #[.int .i64 0, .bool false]) w' :=
  fun w' hw' => lookup_miss keyB mapB (hB.map.of_block hw') hg (zeroI _) true
 have hlb : ∀ o n, (Instr.lookup 136 (.map (some m)) (.agg #[.int .i64 v, .int .i64 l, .int .i64 h]) true).run Tryz.prog ((w.alloc o).drewN n) = .ok (.tuple #[.int .i64 0, .bool false]) ((w.alloc o).drewN n) :=
  fun o n => hl _ (Below.heap_alloc w o m hB.map.lt)
 have hne' : (l == h) = false := by simpa using hne
 have HB := gi hB
 have HF := gi hf
 clear hl hg hf hne hB
 go_enter Tryz.func81, Tryz.ntmps81
 go_wp2
 go_quiet (fail)
 go_wp2
 obtain ⟨i0, hi, hz0, hz1, hz2⟩ := info_parts info142
 go_region_law (refine step_append1 rfl (.tmp 29) (.tmp 31) 54 rfl B 142 i0 (.agg #[.int .i64 0, .int .i64 0, .int .i64 0]) 3 24 Tryz.underlying54 hi hz0 hz1 hz2 rfl (by decide) (by decide) a N.length cap (ndCells N) rfl (owns_same HB.out.own fs1) (by omega) (w.heap.size + 1) [.int .i64 v, .int .i64 l, .int .i64 h] rfl rfl (heap_new_at (by simp) _) (by simp [Value.oneCell']) (by have := HB.out.pb; simp; omega) ?_; intro a' cap' w1 hown hgrow; have M := NumMid.mk' HB.out fs1 hown hgrow; have hp1 := HB.out.keep fs1 hgrow; have q0 := gn hp1 0; have q1 := free_at hp1 0; replace M := gi M; clear hown hgrow hp1)
 all_goals
  generalize w1.setCell ⟨p, 0, none⟩ (.slice a' (N.length + 1) cap') = W2 at *
  clear q0 q1 c0 c1 f0 hlb
  have d0 : W2.cell? ⟨p, 0, none⟩ = some (.slice a' (N.length + 1) cap') := gn M.out.blk 0
  have d1 : W2.cell? ⟨p, 1, none⟩ = some (.map (some m)) := gn M.out.blk 1
  have e0 : W2.cell? ⟨w.heap.size, 0, none⟩ = some (.int .i64 v) := gn M.out.box 0
  have e1 : W2.cell? ⟨w.heap.size, 1, none⟩ = some (.int .i64 l) := gn M.out.box 1
  have e2 : W2.cell? ⟨w.heap.size, 2, none⟩ = some (.int .i64 h) := gn M.out.box 2
  go_wp2
  have hw1 : IntKind.i64.wrap ((N.length : Int) + 1 + 1) = N.length + 2 := by rw [IntWalk.i64_in _ (by omega)]; omega
  go_still_tail 11, (by kernel_rfl)
  clear hw1
  change wpList _ _ _ _ _ W2.drew
  refine wpList_mput rfl (.tmp 38) (.tmp 39) (.tmp 45) rfl keyB mapB m (knownFrom N 2) rfl (M.out.map.of_block rfl) (v, l, h) rfl ((N.length : Int) + 2) rfl ?_
  intro ob hob
  have R := M.out.done HF.out hob
  have g0 : (setObj W2.drew m ob).cell? ⟨p, 0, none⟩ = some (.slice a' (N.length + 1) cap') := gn R.1 0
  replace R := gi R
  clear d0 d1 e0 e1 e2 M hob
  refine wpList_nil ?_
  go_wp2
  go_ret
  exact ⟨rfl, a', cap', R.out.2⟩
theorem BuilderAt.fr {S : Nat → Prop} {w w' : World} {B p m : Nat} {a : Option Addr} {cap : Nat} {N : List Nd} (hB : BuilderAt w B p m a cap N) (hf : Fr S w w') (h1 : ¬ S p) (h2 : ¬ S m) (h3 : ∀ k, (Value.slice a N.length cap).ownBlock = some k → ¬ S k) : BuilderAt w' B p m a cap N :=
 ⟨hf.at hB.blk h1, owns_fr hB.own hf h3, hB.map.of_block (hf.block m hB.map.lt h2), hB.pb, hB.mb⟩
theorem BuilderAt.same {w w' : World} {B p m : Nat} {a : Option Addr} {cap : Nat} {N : List Nd} (hB : BuilderAt w B p m a cap N) (hf : Same w w') : BuilderAt w' B p m a cap N :=
 hB.fr hf id id (fun _ _ => id)
def BRet (S : Nat → Prop) (w : World) (B p m : Nat) (a : Option Addr) (cap : Nat) (N N' : List Nd) (k : Int) (e : Ending) (w' : World) : Prop :=
 e = .returned (.int .i64 k) ∧ ∃ a' cap', BuilderAt w' B p m a' cap' N' ∧ Grew (fun i => BB p m i ∨ S i) w w' (.slice a N.length cap) (.slice a' N'.length cap')
theorem BRet.of_same {S : Nat → Prop} {w w' : World} {B p m : Nat} {a : Option Addr} {cap : Nat} {N : List Nd} {k : Int} {e : Ending} (hB : BuilderAt w B p m a cap N) (he : e = .returned (.int .i64 k)) (hf : Same w w') : BRet S w B p m a cap N N k e w' :=
 ⟨he, a, cap, hB.same hf, Grew.of_same _ hf⟩
theorem number_any (S : Nat → Prop) (B p m : Nat) (a : Option Addr) (cap : Nat) (N : List Nd) (v l h : Int) (w : World) (hB : BuilderAt w B p m a cap N) (hlen : N.length ≤ 90000000) :
 Calls Tryz.prog 81 #[.pointer (some ⟨p, 0, none⟩), .agg #[.int .i64 v, .int .i64 l, .int .i64 h]] w (BRet S w B p m a cap N (numF N (v, l, h)).1 (numF N (v, l, h)).2) := by
 by_cases hlh : l = h
 · subst hlh
   have e1 : numF N (v, l, l) = (N, l) := by simp [numF]
   rw [e1]
   exact (number_same p v l w).mono fun e w' ⟨he, hs⟩ => .of_same hB he hs
 · by_cases hf : findFrom N (v, l, h) 2 = 0
   · have e1 : numF N (v, l, h) = (N ++ [(v, l, h)], (N.length : Int) + 2) := by simp [numF, hlh, hf]
     rw [e1]
     refine (number_miss B p m a cap N v l h w hB hlh hf hlen).mono fun e w' ⟨he, a', cap', h1, h2⟩ => ⟨he, a', cap', h1, ?_⟩
     refine ⟨h2.1.mono ?_, by simpa using h2.2⟩
     rintro i _ (h' | h')
     · exact .inl h'
     · exact .inr (.inl h')
   · have e1 : numF N (v, l, h) = (N, findFrom N (v, l, h) 2) := by simp [numF, hlh, hf]
     rw [e1]
     exact (number_hit B p m a cap N v l h w hB hlh hf).mono fun e w' ⟨he, hs⟩ => .of_same hB he hs
theorem BuilderAt.node {w : World} {B p m : Nat} {a : Option Addr} {cap : Nat} {N : List Nd} (hB : BuilderAt w B p m a cap N) {k : Int} (h2 : 2 ≤ k) (hk : k < N.length + 2) :
 ∃ b off, a = some ⟨b, off, none⟩ ∧ b < w.heap.size ∧ w.cell? ⟨b, off + (k - 2).toNat * 3, none⟩ = some (.int .i64 (nodeF N k).1) ∧ w.cell? ⟨b, off + (k - 2).toNat * 3 + 1, none⟩ = some (.int .i64 (nodeF N k).2.1) ∧ w.cell? ⟨b, off + (k - 2).toNat * 3 + 2, none⟩ = some (.int .i64 (nodeF N k).2.2) := by
 have hlt : (k - 2).toNat < N.length := by omega
 have := (SliceAt.of_owns hB.own).node hlt
 simpa [nodeF, hlt] using this
theorem top_any (B p m : Nat) (a : Option Addr) (cap : Nat) (N : List Nd) (k : Int) (w : World) (hB : BuilderAt w B p m a cap N) (hk : k < N.length + 2) (hlen : N.length ≤ 90000000) (hk0 : 0 ≤ k) :
 Calls Tryz.prog 110 #[.pointer (some ⟨p, 0, none⟩), .int .i64 k] w fun e w' => e = .returned (.int .i64 (topF N k)) ∧ w = w' := by
 by_cases h2 : k < 2
 · have e1 : topF N k = 40 := by simp [topF, h2]
   rw [e1]
   clear e1 hB
   go_enter Tryz.func110, Tryz.ntmps110
   go_wp2
   go_ret
   exact ⟨rfl, rfl⟩
 · have e1 : topF N k = (nodeF N k).1 := by simp [topF, h2]
   rw [e1]
   have c0 : w.cell? ⟨p, 0, none⟩ = some (.slice a N.length cap) := gn hB.blk 0
   obtain ⟨b, off, rfl, hb, n0, n1, n2⟩ := hB.node (by omega) hk
   clear e1 hB
   go_enter Tryz.func110, Tryz.ntmps110
   go_wp2
   go_ret
   exact ⟨rfl, rfl⟩
theorem part_any (B p m : Nat) (a : Option Addr) (cap : Nat) (N : List Nd) (k v : Int) (bb : Bool) (w : World) (hB : BuilderAt w B p m a cap N) (hk : k < N.length + 2) (hlen : N.length ≤ 90000000) (hk0 : 0 ≤ k) (hv : v < 40) :
 Calls Tryz.prog 111 #[.pointer (some ⟨p, 0, none⟩), .int .i64 k, .int .i64 v, .bool bb] w fun e w' => e = .returned (.int .i64 (partF N k v bb)) ∧ w = w' := by
 by_cases ht : topF N k = v
 · have h2 : 2 ≤ k := by
     rcases Int.lt_or_le k 2 with h | h
     · simp [topF, h] at ht; omega
     · exact h
   have c0 : w.cell? ⟨p, 0, none⟩ = some (.slice a N.length cap) := gn hB.blk 0
   have ht' : (topF N k != v) = false := by simp [ht]
   have HB := gi hB
   obtain ⟨b, off, rfl, hb, n0, n1, n2⟩ := hB.node h2 hk
   cases bb
   · have e1 : partF N k v false = (nodeF N k).2.1 := by simp [partF, ht]
     rw [e1]
     clear e1 hB ht
     go_enter Tryz.func111, Tryz.ntmps111
     go_wp2_with (go_at_call 110; refine (top_any B p m _ cap N k _ HB.out hk hlen hk0).mono ?_; rintro e w' ⟨rfl, rfl⟩)
     go_ret
     exact ⟨rfl, rfl⟩
   · have e1 : partF N k v true = (nodeF N k).2.2 := by simp [partF, ht]
     rw [e1]
     clear e1 hB ht
     go_enter Tryz.func111, Tryz.ntmps111
     go_wp2_with (go_at_call 110; refine (top_any B p m _ cap N k _ HB.out hk hlen hk0).mono ?_; rintro e w' ⟨rfl, rfl⟩)
     go_ret
     exact ⟨rfl, rfl⟩
 · have e1 : partF N k v bb = k := by simp [partF, ht]
   rw [e1]
   have ht' : (topF N k != v) = true := by simp [ht]
   have HB := gi hB
   clear e1 hB ht
   go_enter Tryz.func111, Tryz.ntmps111
   go_wp2_with (go_at_call 110; refine (top_any B p m _ cap N k _ HB.out hk hlen hk0).mono ?_; rintro e w' ⟨rfl, rfl⟩)
   go_ret
   exact ⟨rfl, rfl⟩
theorem begin_any (w : World) :
 Calls Tryz.prog 49 #[] w fun e w' => ∃ p m, e = .returned (.pointer (some ⟨p, 0, none⟩)) ∧ BuilderAt w' w.heap.size p m none 0 [] ∧ Same w w' := by
 have hmm := @run_makeMap Tryz.prog
 go_enter Tryz.func49, Tryz.ntmps49
 go_wp2
 go_ret
 refine ⟨_, w.heap.size, rfl, ⟨heap_new_at (by simp) _, World.ownsRow_nil _ _ _ _, ?_, by simp, Nat.le_refl _⟩, fs1⟩
 exact (mapAt_made w).of_block (Below.heap_alloc _ _ _ (by simp))
end Go.Proofs.YtcipnkemnepbaaaGreat
namespace Go.Proofs.YtcipnkemnepbaaaGreat
open Go.RowKit
structure RBAt (w : World) (z : Int) (B p m : Nat) (a : Option Addr) (cap : Nat) (N : List Nd) : Prop where
 blk : w.heap[p]? = some (.cells #[.int .i64 z, .slice a N.length cap, .map (some m)] 215 (0, 0))
 own : w.ownsRow B 142 3 (.slice a N.length cap) N.length (ndCells N)
 map : MapAt ndv (Value.int .i64) w m (knownFrom N 2)
 pb : B ≤ p
 mb : B ≤ m
theorem RBAt.keep {w W w1 : World} {z : Int} {B p m : Nat} {a : Option Addr} {cap : Nat} {N : List Nd} {v' : Value} (hB : RBAt w z B p m a cap N) (hs : Same w W) (hg : Grew (fun _ => False) W w1 (.slice a N.length cap) v') :
 w1.heap[p]? = some (.cells #[.int .i64 z, .slice a N.length cap, .map (some m)] 215 (0, 0)) := by
 refine hg.1.at (hs.at hB.blk id) ?_
 rintro (h | h)
 · obtain ⟨cur, hc⟩ := own_block hB.own h
   rw [hB.blk] at hc
   simp at hc
 · exact h
theorem node_same (p : Nat) (v l : Int) (w : World) :
 Calls Tryz.prog 171 #[.pointer (some ⟨p, 0, none⟩), .agg #[.int .i64 v, .int .i64 l, .int .i64 l]] w fun e w' =>
  e = .returned (.int .i64 l) ∧ Same w w' := by
 go_enter Tryz.func171, Tryz.ntmps171
 go_wp2
 go_ret
 exact ⟨rfl, (Fr.refl _ _).alloc _⟩
theorem node_hit (z : Int) (B p m : Nat) (a : Option Addr) (cap : Nat) (N : List Nd) (v l h : Int) (w : World) (hB : RBAt w z B p m a cap N) (hne : l ≠ h) (hf : findFrom N (v, l, h) 2 ≠ 0) :
 Calls Tryz.prog 171 #[.pointer (some ⟨p, 0, none⟩), .agg #[.int .i64 v, .int .i64 l, .int .i64 h]] w fun e w' =>
  e = .returned (.int .i64 (findFrom N (v, l, h) 2)) ∧ Same w w' := by
 have hpl := gu hB.blk
 have c2 : w.cell? ⟨p, 2, none⟩ = some (.map (some m)) := gn hB.blk 2
 have hg : mget (knownFrom N 2) (v, l, h) = some (findFrom N (v, l, h) 2) := by rw [mget_known N _ 2 (by omega), if_neg hf]
 have hl : ∀ w' : World, w'.heap[m]? = w.heap[m]? → (Instr.lookup 136 (.map (some m)) (.agg #[.int .i64 v, .int .i64 l, .int .i64 h]) true).run Tryz.prog w' = .ok (.tuple #[.int .i64 (findFrom N (v, l, h) 2), .bool true]) w' :=
  fun w' hw' => lookup_hit keyB mapB (hB.map.of_block hw') hg true
 have hlb : ∀ o n, (Instr.lookup 136 (.map (some m)) (.agg #[.int .i64 v, .int .i64 l, .int .i64 h]) true).run Tryz.prog ((w.alloc o).drewN n) = .ok (.tuple #[.int .i64 (findFrom N (v, l, h) 2), .bool true]) ((w.alloc o).drewN n) :=
  fun o n => hl _ (Below.heap_alloc w o m hB.map.lt)
 have hne' : (l == h) = false := by simpa using hne
 clear hl hg hB hf hne
 go_enter Tryz.func171, Tryz.ntmps171
 go_wp2
 go_quiet (fail)
 go_wp2
 go_ret
 exact ⟨rfl, ((Fr.refl _ _).alloc _).drewN _⟩
structure NodMid (w W : World) (z : Int) (B p m : Nat) (a : Option Addr) (cap : Nat) (a' : Option Addr) (cap' : Nat) (N : List Nd) (v l h : Int) : Prop where
 blk : W.heap[p]? = some (.cells #[.int .i64 z, .slice a' (N.length + 1) cap', .map (some m)] 215 (0, 0))
 own : W.ownsRow B 142 3 (.slice a' (N.length + 1) cap') (N.length + 1) (ndCells (N ++ [(v, l, h)]))
 map : MapAt ndv (Value.int .i64) W m (knownFrom N 2)
 box : W.heap[w.heap.size]? = some (.cells #[.int .i64 v, .int .i64 l, .int .i64 h] 142 (0, 0))
 grew : Grew (BB p m) w W (.slice a N.length cap) (.slice a' (N.length + 1) cap')
 pb : B ≤ p
 mb : B ≤ m
theorem NodMid.mk' {w W w1 : World} {z : Int} {B p m : Nat} {a a' : Option Addr} {cap cap' : Nat} {N : List Nd} {v l h : Int} (hB : RBAt w z B p m a cap N) (hs : Same (w.alloc (.cells #[.int .i64 v, .int .i64 l, .int .i64 h] 142)) W)
 (hown : w1.ownsRow B 142 3 (.slice a' (N.length + 1) cap') (N.length + 1) (ndCells N ++ [.int .i64 v, .int .i64 l, .int .i64 h])) (hg : Grew (fun _ => False) W w1 (.slice a N.length cap) (.slice a' (N.length + 1) cap')) :
 NodMid w (w1.setCell ⟨p, 1, none⟩ (.slice a' (N.length + 1) cap')) z B p m a cap a' cap' N v l h := by
 have hsw : Same w W := ((Fr.refl _ w).alloc _).same hs
 have hp := hB.keep hsw hg
 have hpl := gu hB.blk
 have own_ne : ∀ k, (Value.slice a N.length cap).ownBlock = some k → ∃ cur, w.heap[k]? = some (.cells cur 142 (0, 0)) := fun k hk => own_block hB.own hk
 have hm : w1.heap[m]? = w.heap[m]? := by
  rw [hg.1.block m (Nat.lt_of_lt_of_le hB.map.lt hsw.size) ?_, hsw.block m hB.map.lt id]
  rintro (h' | h')
  · obtain ⟨cur, hc⟩ := own_ne m h'
    exact map_ne_cells hB.map hc rfl
  · exact h'
 have hmp := map_ne_cells hB.map hB.blk
 refine ⟨by rw [heap_setCell_same hp]; rfl, ?_, hB.map.of_block ?_, ?_, ?_, ?_, ?_⟩
 · rw [ndCells_append]
   refine owns_fr (S := fun k => k = p) hown ((Fr.refl _ _).setCell _ _ (fun _ => rfl)) ?_
   intro k hk e
   subst e
   obtain ⟨cur, hc⟩ := own_block hown hk
   rw [hp] at hc
   simp at hc
 · rw [heap_setCell_other hmp]; exact hm
 · rw [heap_setCell_other (by show w.heap.size ≠ p; omega)]
   refine hg.1.at (hs.at (gv w _) id) ?_
   rintro (h' | h')
   · obtain ⟨cur, hc⟩ := own_ne _ h'
     have := gu hc
     omega
   · exact h'
 · have g1 : Grew (BB p m) w w1 (.slice a N.length cap) (.slice a' (N.length + 1) cap') := by
     refine Grew.trans (v1 := .slice a N.length cap) (Grew.of_same _ hsw) ⟨hg.1.mono ?_, hg.2⟩
     rintro i _ (h' | h')
     · exact .inl h'
     · exact h'.elim
   exact ⟨g1.1.setCell _ _ (fun _ => .inr (.inl rfl)), g1.2⟩
 · exact hB.pb
 · exact hB.mb
theorem NodMid.done {w W : World} {z : Int} {B p m : Nat} {a a' : Option Addr} {cap cap' : Nat} {N : List Nd} {v l h : Int} {ob : Obj} (M : NodMid w W z B p m a cap a' cap' N v l h) (hf : findFrom N (v, l, h) 2 = 0)
 (hob : MapAt ndv (Value.int .i64) (setObj W.drew m ob) m (mput (knownFrom N 2) (v, l, h) (N.length + 2))) :
 (setObj W.drew m ob).heap[p]? = some (.cells #[.int .i64 z, .slice a' (N.length + 1) cap', .map (some m)] 215 (0, 0)) ∧
 RBAt (setObj W.drew m ob) z B p m a' cap' (N ++ [(v, l, h)]) ∧ Grew (BB p m) w (setObj W.drew m ob) (.slice a N.length cap) (.slice a' (N.length + 1) cap') := by
 have hmp := map_ne_cells M.map M.blk
 have hf' : Fr (fun k => k = m) W (setObj W.drew m ob) := ((Fr.refl _ W).drew).setObj _ _ (fun _ => rfl)
 have hp := hf'.at M.blk (fun e => hmp e.symm)
 refine ⟨hp, ⟨by simpa using hp, ?_, ?_, M.pb, M.mb⟩, ?_⟩
 · have := owns_fr M.own hf' (fun k hk e => by
     subst e
     obtain ⟨cur, hc⟩ := own_block M.own hk
     exact map_ne_cells M.map hc rfl)
   simpa using this
 · have e := mput_known N (v, l, h) 2 (by omega) hf
   rw [show (2 : Int) + N.length = N.length + 2 by omega] at e
   rw [← e]
   exact hob
 · exact ⟨M.grew.1.trans hf' (fun i _ e => .inr (.inr e)), M.grew.2⟩
theorem node_miss (z : Int) (B p m : Nat) (a : Option Addr) (cap : Nat) (N : List Nd) (v l h : Int) (w : World) (hB : RBAt w z B p m a cap N) (hne : l ≠ h) (hf : findFrom N (v, l, h) 2 = 0) (hlen : N.length ≤ 100000) :
 Calls Tryz.prog 171 #[.pointer (some ⟨p, 0, none⟩), .agg #[.int .i64 v, .int .i64 l, .int .i64 h]] w fun e w' =>
  e = .returned (.int .i64 (N.length + 2)) ∧ ∃ a' cap', RBAt w' z B p m a' cap' (N ++ [(v, l, h)]) ∧ Grew (BB p m) w w' (.slice a N.length cap) (.slice a' (N.length + 1) cap') := by
 have hpl := gu hB.blk
 have c1 : w.cell? ⟨p, 1, none⟩ = some (.slice a N.length cap) := gn hB.blk 1
 have c2 : w.cell? ⟨p, 2, none⟩ = some (.map (some m)) := gn hB.blk 2
 have f1 : w.frozen? ⟨p, 1, none⟩ = false := free_at hB.blk 1
 have hg : mget (knownFrom N 2) (v, l, h) = none := by rw [mget_known N _ 2 (by omega), if_pos hf]
 have hl : ∀ w' : World, w'.heap[m]? = w.heap[m]? → (Instr.lookup 136 (.map (some m)) (.agg #[.int .i64 v, .int .i64 l, .int .i64 h]) true).run Tryz.prog w' = .ok (.tuple #[.int .i64 0, .bool false]) w' :=
  fun w' hw' => lookup_miss keyB mapB (hB.map.of_block hw') hg (zeroI _) true
 have hlb : ∀ o n, (Instr.lookup 136 (.map (some m)) (.agg #[.int .i64 v, .int .i64 l, .int .i64 h]) true).run Tryz.prog ((w.alloc o).drewN n) = .ok (.tuple #[.int .i64 0, .bool false]) ((w.alloc o).drewN n) :=
  fun o n => hl _ (Below.heap_alloc w o m hB.map.lt)
 have hne' : (l == h) = false := by simpa using hne
 have HB := gi hB
 have HF := gi hf
 clear hl hg hf hne hB
 go_enter Tryz.func171, Tryz.ntmps171
 go_wp2
 go_quiet (fail)
 go_wp2
 obtain ⟨i0, hi, hz0, hz1, hz2⟩ := info_parts info142
 go_region_law (refine step_append1 rfl (.tmp 29) (.tmp 31) 54 rfl B 142 i0 (.agg #[.int .i64 0, .int .i64 0, .int .i64 0]) 3 24 Tryz.underlying54 hi hz0 hz1 hz2 rfl (by decide) (by decide) a N.length cap (ndCells N) rfl (owns_same HB.out.own fs1) (by omega) (w.heap.size + 1) [.int .i64 v, .int .i64 l, .int .i64 h] rfl rfl (heap_new_at (by simp) _) (by simp [Value.oneCell']) (by have := HB.out.pb; simp; omega) ?_; intro a' cap' w1 hown hgrow; have M := NodMid.mk' HB.out fs1 hown hgrow; have hp1 := HB.out.keep fs1 hgrow; have q0 := gn hp1 1; have q1 := free_at hp1 1; replace M := gi M; clear hown hgrow hp1)
 all_goals
  generalize w1.setCell ⟨p, 1, none⟩ (.slice a' (N.length + 1) cap') = W2 at *
  clear q0 q1 c1 c2 f1 hlb
  have d0 : W2.cell? ⟨p, 1, none⟩ = some (.slice a' (N.length + 1) cap') := gn M.out.blk 1
  have d1 : W2.cell? ⟨p, 2, none⟩ = some (.map (some m)) := gn M.out.blk 2
  have e0 : W2.cell? ⟨w.heap.size, 0, none⟩ = some (.int .i64 v) := gn M.out.box 0
  have e1 : W2.cell? ⟨w.heap.size, 1, none⟩ = some (.int .i64 l) := gn M.out.box 1
  have e2 : W2.cell? ⟨w.heap.size, 2, none⟩ = some (.int .i64 h) := gn M.out.box 2
  have hw1 : IntKind.i64.wrap ((N.length : Int) + 1 + 1) = N.length + 2 := by rw [IntWalk.i64_in _ (by omega)]; omega
  go_wp2
  go_still_tail 6, (by kernel_rfl)
  clear hw1
  change wpList _ _ _ _ _ W2.drew
  refine wpList_mput rfl (.tmp 44) (.tmp 45) (.tmp 46) rfl keyB mapB m (knownFrom N 2) rfl (M.out.map.of_block rfl) (v, l, h) rfl ((N.length : Int) + 2) rfl ?_
  intro ob hob
  have R := M.out.done HF.out hob
  replace R := gi R
  clear d0 d1 e0 e1 e2 M hob
  refine wpList_nil ?_
  go_wp2
  go_ret
  exact ⟨rfl, a', cap', R.out.2⟩
theorem RBAt.fr {S : Nat → Prop} {w w' : World} {z : Int} {B p m : Nat} {a : Option Addr} {cap : Nat} {N : List Nd} (hB : RBAt w z B p m a cap N) (hf : Fr S w w') (h1 : ¬ S p) (h2 : ¬ S m) (h3 : ∀ k, (Value.slice a N.length cap).ownBlock = some k → ¬ S k) : RBAt w' z B p m a cap N :=
 ⟨hf.at hB.blk h1, owns_fr hB.own hf h3, hB.map.of_block (hf.block m hB.map.lt h2), hB.pb, hB.mb⟩
theorem RBAt.same {w w' : World} {z : Int} {B p m : Nat} {a : Option Addr} {cap : Nat} {N : List Nd} (hB : RBAt w z B p m a cap N) (hf : Same w w') : RBAt w' z B p m a cap N :=
 hB.fr hf id id (fun _ _ => id)
def NRet (S : Nat → Prop) (w : World) (z : Int) (B p m : Nat) (a : Option Addr) (cap : Nat) (N N' : List Nd) (k : Int) (e : Ending) (w' : World) : Prop :=
 e = .returned (.int .i64 k) ∧ ∃ a' cap', RBAt w' z B p m a' cap' N' ∧ Grew (fun i => BB p m i ∨ S i) w w' (.slice a N.length cap) (.slice a' N'.length cap')
theorem NRet.of_same {S : Nat → Prop} {w w' : World} {z : Int} {B p m : Nat} {a : Option Addr} {cap : Nat} {N : List Nd} {k : Int} {e : Ending} (hB : RBAt w z B p m a cap N) (he : e = .returned (.int .i64 k)) (hf : Same w w') : NRet S w z B p m a cap N N k e w' :=
 ⟨he, a, cap, hB.same hf, Grew.of_same _ hf⟩
theorem node_any (S : Nat → Prop) (z : Int) (B p m : Nat) (a : Option Addr) (cap : Nat) (N : List Nd) (v l h : Int) (w : World) (hB : RBAt w z B p m a cap N) (hlen : N.length ≤ 100000) :
 Calls Tryz.prog 171 #[.pointer (some ⟨p, 0, none⟩), .agg #[.int .i64 v, .int .i64 l, .int .i64 h]] w (NRet S w z B p m a cap N (numF N (v, l, h)).1 (numF N (v, l, h)).2) := by
 by_cases hlh : l = h
 · subst hlh
   have e1 : numF N (v, l, l) = (N, l) := by simp [numF]
   rw [e1]
   exact (node_same p v l w).mono fun e w' ⟨he, hs⟩ => .of_same hB he hs
 · by_cases hf : findFrom N (v, l, h) 2 = 0
   · have e1 : numF N (v, l, h) = (N ++ [(v, l, h)], (N.length : Int) + 2) := by simp [numF, hlh, hf]
     rw [e1]
     refine (node_miss z B p m a cap N v l h w hB hlh hf hlen).mono fun e w' ⟨he, a', cap', h1, h2⟩ => ⟨he, a', cap', h1, ?_⟩
     refine ⟨h2.1.mono ?_, by simpa using h2.2⟩
     rintro i _ (h' | h')
     · exact .inl h'
     · exact .inr (.inl h')
   · have e1 : numF N (v, l, h) = (N, findFrom N (v, l, h) 2) := by simp [numF, hlh, hf]
     rw [e1]
     exact (node_hit z B p m a cap N v l h w hB hlh hf).mono fun e w' ⟨he, hs⟩ => .of_same hB he hs
end Go.Proofs.YtcipnkemnepbaaaGreat
