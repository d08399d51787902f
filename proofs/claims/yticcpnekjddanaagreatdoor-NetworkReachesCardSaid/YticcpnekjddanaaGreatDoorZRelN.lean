/-  -/
import Derived.Test.YticcpnekjddanaaGreatDoorRows
import Derived.Test.YticcpnekjddanaaGreatDoorZKey2
import Derived.WalkKit
import Derived.WalkSpells
import Derived.WalkLawsBesides
import Derived.Deep.QuietTactic
import Derived.BigQuiet
import Derived.Lib.Hide
import Derived.Deep.AppendLies
import Derived.Deep.RegionHeld3
import Derived.Deep.RegionLaw
import Derived.Deep.DeepCutAuto
import Derived.Deep.DeepMust
import Derived.StillTailTactics
set_option maxRecDepth 100000
set_option maxHeartbeats 1000000
set_option linter.unusedVariables false
set_option linter.unusedSimpArgs false
namespace Go.Proofs.YticcpnekjddanaaGreatDoor
open Go.RowKit
structure qah (w : World) (B p m : Nat) (a : Option Addr) (cap : Nat) (N : List Nd) : Prop where
 blk : w.heap[p]? = some (.cells #[.slice a N.length cap, .map (some m)] 160 (0, 0))
 own : w.ownsRow B 132 3 (.slice a N.length cap) N.length (qap N)
 map : qaR ndv (Value.int .i64) w m (qaP N 2)
 pb : B ≤ p
 mb : B ≤ m
theorem qah.keep {w W w1 : World} {B p m : Nat} {a : Option Addr} {cap : Nat} {N : List Nd} {v' : Value} (hB : qah w B p m a cap N) (hs : qad w W) (hg : qaK (fun _ => False) W w1 (.slice a N.length cap) v') :
 w1.heap[p]? = some (.cells #[.slice a N.length cap, .map (some m)] 160 (0, 0)) := by
 refine hg.1.at (hs.at hB.blk id) ?_
 rintro (h | h)
 · obtain ⟨cur, hc⟩ := qaj hB.own h
   rw [hB.blk] at hc
   simp at hc
 · exact h
def BB (p m : Nat) : Nat → Prop := fun k => k = p ∨ k = m
theorem qfx : (Tryz.prog.info? 132).map (fun i => (i.zero, i.size, i.bytes)) = some (some (.agg #[.int .i64 0, .int .i64 0, .int .i64 0]), 3, 24) := by kernel_rfl
theorem qi5 (p : Nat) (v l : Int) (w : World) :
 Calls Tryz.prog 102 #[.pointer (some ⟨p, 0, none⟩), .agg #[.int .i64 v, .int .i64 l, .int .i64 l]] w fun e w' =>
  e = .returned (.int .i64 l) ∧ qad w w' := by
 go_enter Tryz.func102, Tryz.ntmps102
 go_wp2
 go_ret
 exact ⟨rfl, (Fr.refl _ _).alloc _⟩
theorem qlb (B p m : Nat) (a : Option Addr) (cap : Nat) (N : List Nd) (v l h : Int) (w : World) (hB : qah w B p m a cap N) (hne : l ≠ h) (hf : qaq N (v, l, h) 2 ≠ 0) :
 Calls Tryz.prog 102 #[.pointer (some ⟨p, 0, none⟩), .agg #[.int .i64 v, .int .i64 l, .int .i64 h]] w fun e w' =>
  e = .returned (.int .i64 (qaq N (v, l, h) 2)) ∧ qad w w' := by
 have hpl := gu hB.blk
 have c1 : w.cell? ⟨p, 1, none⟩ = some (.map (some m)) := gn hB.blk 1
 have hg : qa0 (qaP N 2) (v, l, h) = some (qaq N (v, l, h) 2) := by rw [qdv N _ 2 (by omega), if_neg hf]
 have hl : ∀ w' : World, w'.heap[m]? = w.heap[m]? → (Instr.lookup 158 (.map (some m)) (.agg #[.int .i64 v, .int .i64 l, .int .i64 h]) true).run Tryz.prog w' = .ok (.tuple #[.int .i64 (qaq N (v, l, h) 2), .bool true]) w' :=
  fun w' hw' => qa6 qoA mapB (hB.map.of_block hw') hg true
 have hlb : ∀ o n, (Instr.lookup 158 (.map (some m)) (.agg #[.int .i64 v, .int .i64 l, .int .i64 h]) true).run Tryz.prog ((w.alloc o).drewN n) = .ok (.tuple #[.int .i64 (qaq N (v, l, h) 2), .bool true]) ((w.alloc o).drewN n) :=
  fun o n => hl _ (Below.heap_alloc w o m hB.map.lt)
 have hne' : (l == h) = false := by simpa using hne
 clear hl hg hB hf hne
 go_enter Tryz.func102, Tryz.ntmps102
 go_wp2
 go_quiet (fail)
 go_wp2
 go_ret
 exact ⟨rfl, ((Fr.refl _ _).alloc _).drewN _⟩
structure qhR (w W : World) (B p m : Nat) (a : Option Addr) (cap : Nat) (a' : Option Addr) (cap' : Nat) (N : List Nd) (v l h : Int) : Prop where
 blk : W.heap[p]? = some (.cells #[.slice a' (N.length + 1) cap', .map (some m)] 160 (0, 0))
 own : W.ownsRow B 132 3 (.slice a' (N.length + 1) cap') (N.length + 1) (qap (N ++ [(v, l, h)]))
 map : qaR ndv (Value.int .i64) W m (qaP N 2)
 box : W.heap[w.heap.size]? = some (.cells #[.int .i64 v, .int .i64 l, .int .i64 h] 132 (0, 0))
 grew : qaK (BB p m) w W (.slice a N.length cap) (.slice a' (N.length + 1) cap')
 pb : B ≤ p
 mb : B ≤ m
theorem qat {w : World} {m : Nat} {K V : Type} {enc : K → Value} {venc : V → Value} {M : List (K × V)} (h : qaR enc venc w m M) {k : Nat} {cur : Array Value} {T : TypeId} {fr : Nat × Nat} (hk : w.heap[k]? = some (.cells cur T fr)) : m ≠ k := by
 rintro rfl
 obtain ⟨es, clock, h1, _⟩ := h
 rw [h1] at hk
 cases hk
theorem qhR.mk' {w W w1 : World} {B p m : Nat} {a a' : Option Addr} {cap cap' : Nat} {N : List Nd} {v l h : Int} (hB : qah w B p m a cap N) (hs : qad (w.alloc (.cells #[.int .i64 v, .int .i64 l, .int .i64 h] 132)) W)
 (hown : w1.ownsRow B 132 3 (.slice a' (N.length + 1) cap') (N.length + 1) (qap N ++ [.int .i64 v, .int .i64 l, .int .i64 h])) (hg : qaK (fun _ => False) W w1 (.slice a N.length cap) (.slice a' (N.length + 1) cap')) :
 qhR w (w1.setCell ⟨p, 0, none⟩ (.slice a' (N.length + 1) cap')) B p m a cap a' cap' N v l h := by
 have hsw : qad w W := ((Fr.refl _ w).alloc _).same hs
 have hp := hB.keep hsw hg
 have hpl := gu hB.blk
 have qfy : ∀ k, (Value.slice a N.length cap).ownBlock = some k → ∃ cur, w.heap[k]? = some (.cells cur 132 (0, 0)) := fun k hk => qaj hB.own hk
 have hm : w1.heap[m]? = w.heap[m]? := by
  rw [hg.1.block m (Nat.lt_of_lt_of_le hB.map.lt hsw.size) ?_, hsw.block m hB.map.lt id]
  rintro (h' | h')
  · obtain ⟨cur, hc⟩ := qfy m h'
    exact qat hB.map hc rfl
  · exact h'
 have hmp := qat hB.map hB.blk
 refine ⟨by rw [qaf hp]; rfl, ?_, hB.map.of_block ?_, ?_, ?_, ?_, ?_⟩
 · rw [qbu]
   refine qaN (S := fun k => k = p) hown ((Fr.refl _ _).setCell _ _ (fun _ => rfl)) ?_
   intro k hk e
   subst e
   obtain ⟨cur, hc⟩ := qaj hown hk
   rw [hp] at hc
   simp at hc
 · rw [qaS hmp]; exact hm
 · rw [qaS (by show w.heap.size ≠ p; omega)]
   refine hg.1.at (hs.at (gv w _) id) ?_
   rintro (h' | h')
   · obtain ⟨cur, hc⟩ := qfy _ h'
     have := gu hc
     omega
   · exact h'
 · have g1 : qaK (BB p m) w w1 (.slice a N.length cap) (.slice a' (N.length + 1) cap') := by
     refine qaK.trans (v1 := .slice a N.length cap) (qaK.of_same _ hsw) ⟨hg.1.mono ?_, hg.2⟩
     rintro i _ (h' | h')
     · exact .inl h'
     · exact h'.elim
   exact ⟨g1.1.setCell _ _ (fun _ => .inr (.inl rfl)), g1.2⟩
 · exact hB.pb
 · exact hB.mb
theorem qhR.done {w W : World} {B p m : Nat} {a a' : Option Addr} {cap cap' : Nat} {N : List Nd} {v l h : Int} {ob : Obj} (M : qhR w W B p m a cap a' cap' N v l h) (hf : qaq N (v, l, h) 2 = 0)
 (hob : qaR ndv (Value.int .i64) (setObj W.drew m ob) m (qbW (qaP N 2) (v, l, h) (N.length + 2))) :
 (setObj W.drew m ob).heap[p]? = some (.cells #[.slice a' (N.length + 1) cap', .map (some m)] 160 (0, 0)) ∧
 qah (setObj W.drew m ob) B p m a' cap' (N ++ [(v, l, h)]) ∧ qaK (BB p m) w (setObj W.drew m ob) (.slice a N.length cap) (.slice a' (N.length + 1) cap') := by
 have hmp := qat M.map M.blk
 have hf' : Fr (fun k => k = m) W (setObj W.drew m ob) := ((Fr.refl _ W).drew).setObj _ _ (fun _ => rfl)
 have hp := hf'.at M.blk (fun e => hmp e.symm)
 refine ⟨hp, ⟨by simpa using hp, ?_, ?_, M.pb, M.mb⟩, ?_⟩
 · have := qaN M.own hf' (fun k hk e => by
     subst e
     obtain ⟨cur, hc⟩ := qaj M.own hk
     exact qat M.map hc rfl)
   simpa using this
 · have e := qgC N (v, l, h) 2 (by omega) hf
   rw [show (2 : Int) + N.length = N.length + 2 by omega] at e
   rw [← e]
   exact hob
 · exact ⟨M.grew.1.trans hf' (fun i _ e => .inr (.inr e)), M.grew.2⟩
theorem qi6 (B p m : Nat) (a : Option Addr) (cap : Nat) (N : List Nd) (v l h : Int) (w : World) (hB : qah w B p m a cap N) (hne : l ≠ h) (hf : qaq N (v, l, h) 2 = 0) (hlen : N.length ≤ 90000000) :
 Calls Tryz.prog 102 #[.pointer (some ⟨p, 0, none⟩), .agg #[.int .i64 v, .int .i64 l, .int .i64 h]] w fun e w' =>
  e = .returned (.int .i64 (N.length + 2)) ∧ ∃ a' cap', qah w' B p m a' cap' (N ++ [(v, l, h)]) ∧ qaK (BB p m) w w' (.slice a N.length cap) (.slice a' (N.length + 1) cap') := by
 have hpl := gu hB.blk
 have c0 : w.cell? ⟨p, 0, none⟩ = some (.slice a N.length cap) := gn hB.blk 0
 have c1 : w.cell? ⟨p, 1, none⟩ = some (.map (some m)) := gn hB.blk 1
 have f0 : w.frozen? ⟨p, 0, none⟩ = false := qak hB.blk 0
 have hg : qa0 (qaP N 2) (v, l, h) = none := by rw [qdv N _ 2 (by omega), if_pos hf]
 have hl : ∀ w' : World, w'.heap[m]? = w.heap[m]? → (Instr.lookup 158 (.map (some m)) (.agg #[.int .i64 v, .int .i64 l, .int .i64 h]) true).run Tryz.prog w' = .ok (.tuple #[.int .i64 0, .bool false]) w' :=
  fun w' hw' => qbo qoA mapB (hB.map.of_block hw') hg (qi4 _) true
 have hlb : ∀ o n, (Instr.lookup 158 (.map (some m)) (.agg #[.int .i64 v, .int .i64 l, .int .i64 h]) true).run Tryz.prog ((w.alloc o).drewN n) = .ok (.tuple #[.int .i64 0, .bool false]) ((w.alloc o).drewN n) :=
  fun o n => hl _ (Below.heap_alloc w o m hB.map.lt)
 have hne' : (l == h) = false := by simpa using hne
 have HB := gi hB
 have HF := gi hf
 clear hl hg hf hne hB
 go_enter Tryz.func102, Tryz.ntmps102
 go_wp2
 go_quiet (fail)
 go_wp2
 obtain ⟨i0, hi, hz0, hz1, hz2⟩ := info_parts qfx
 go_region_law (refine qbe rfl (.tmp 29) (.tmp 31) 44 rfl B 132 i0 (.agg #[.int .i64 0, .int .i64 0, .int .i64 0]) 3 24 Tryz.underlying44 hi hz0 hz1 hz2 rfl (by decide) (by decide) a N.length cap (qap N) rfl (qag HB.out.own fs1) (by omega) (w.heap.size + 1) [.int .i64 v, .int .i64 l, .int .i64 h] rfl rfl (qae (by simp) _) (by simp [Value.oneCell']) (by have := HB.out.pb; simp; omega) ?_; intro a' cap' w1 hown hgrow; have M := qhR.mk' HB.out fs1 hown hgrow; have hp1 := HB.out.keep fs1 hgrow; have q0 := gn hp1 0; have q1 := qak hp1 0; replace M := gi M; clear hown hgrow hp1)
 all_goals
  generalize w1.setCell ⟨p, 0, none⟩ (.slice a' (N.length + 1) cap') = W2 at *
  clear q0 q1 c0 c1 f0 hlb
  have d0 : W2.cell? ⟨p, 0, none⟩ = some (.slice a' (N.length + 1) cap') := gn M.out.blk 0
  have d1 : W2.cell? ⟨p, 1, none⟩ = some (.map (some m)) := gn M.out.blk 1
  have e0 : W2.cell? ⟨w.heap.size, 0, none⟩ = some (.int .i64 v) := gn M.out.box 0
  have e1 : W2.cell? ⟨w.heap.size, 1, none⟩ = some (.int .i64 l) := gn M.out.box 1
  have e2 : W2.cell? ⟨w.heap.size, 2, none⟩ = some (.int .i64 h) := gn M.out.box 2
  go_wp2
  have hw1 : IntKind.i64.wrap ((N.length : Int) + 1 + 1) = N.length + 2 := by rw [IntWalk.i64_in _ (by omega)]; omega
  go_still_tail 11, (by kernel_rfl)
  clear hw1
  change wpList _ _ _ _ _ W2.drew
  refine qbp rfl (.tmp 38) (.tmp 39) (.tmp 45) rfl qoA mapB m (qaP N 2) rfl (M.out.map.of_block rfl) (v, l, h) rfl ((N.length : Int) + 2) rfl ?_
  intro ob hob
  have R := M.out.done HF.out hob
  have g0 : (setObj W2.drew m ob).cell? ⟨p, 0, none⟩ = some (.slice a' (N.length + 1) cap') := gn R.1 0
  replace R := gi R
  clear d0 d1 e0 e1 e2 M hob
  refine wpList_nil ?_
  go_wp2
  go_ret
  exact ⟨rfl, a', cap', R.out.2⟩
theorem qah.fr {S : Nat → Prop} {w w' : World} {B p m : Nat} {a : Option Addr} {cap : Nat} {N : List Nd} (hB : qah w B p m a cap N) (hf : Fr S w w') (h1 : ¬ S p) (h2 : ¬ S m) (h3 : ∀ k, (Value.slice a N.length cap).ownBlock = some k → ¬ S k) : qah w' B p m a cap N :=
 ⟨hf.at hB.blk h1, qaN hB.own hf h3, hB.map.of_block (hf.block m hB.map.lt h2), hB.pb, hB.mb⟩
theorem qah.same {w w' : World} {B p m : Nat} {a : Option Addr} {cap : Nat} {N : List Nd} (hB : qah w B p m a cap N) (hf : qad w w') : qah w' B p m a cap N :=
 hB.fr hf id id (fun _ _ => id)
def qoB (S : Nat → Prop) (w : World) (B p m : Nat) (a : Option Addr) (cap : Nat) (N N' : List Nd) (k : Int) (e : Ending) (w' : World) : Prop :=
 e = .returned (.int .i64 k) ∧ ∃ a' cap', qah w' B p m a' cap' N' ∧ qaK (fun i => BB p m i ∨ S i) w w' (.slice a N.length cap) (.slice a' N'.length cap')
theorem qoB.of_same {S : Nat → Prop} {w w' : World} {B p m : Nat} {a : Option Addr} {cap : Nat} {N : List Nd} {k : Int} {e : Ending} (hB : qah w B p m a cap N) (he : e = .returned (.int .i64 k)) (hf : qad w w') : qoB S w B p m a cap N N k e w' :=
 ⟨he, a, cap, hB.same hf, qaK.of_same _ hf⟩
theorem qeC (S : Nat → Prop) (B p m : Nat) (a : Option Addr) (cap : Nat) (N : List Nd) (v l h : Int) (w : World) (hB : qah w B p m a cap N) (hlen : N.length ≤ 90000000) :
 Calls Tryz.prog 102 #[.pointer (some ⟨p, 0, none⟩), .agg #[.int .i64 v, .int .i64 l, .int .i64 h]] w (qoB S w B p m a cap N (qa2 N (v, l, h)).1 (qa2 N (v, l, h)).2) := by
 by_cases hlh : l = h
 · subst hlh
   have e1 : qa2 N (v, l, l) = (N, l) := by simp [qa2]
   rw [e1]
   exact (qi5 p v l w).mono fun e w' ⟨he, hs⟩ => .of_same hB he hs
 · by_cases hf : qaq N (v, l, h) 2 = 0
   · have e1 : qa2 N (v, l, h) = (N ++ [(v, l, h)], (N.length : Int) + 2) := by simp [qa2, hlh, hf]
     rw [e1]
     refine (qi6 B p m a cap N v l h w hB hlh hf hlen).mono fun e w' ⟨he, a', cap', h1, h2⟩ => ⟨he, a', cap', h1, ?_⟩
     refine ⟨h2.1.mono ?_, by simpa using h2.2⟩
     rintro i _ (h' | h')
     · exact .inl h'
     · exact .inr (.inl h')
   · have e1 : qa2 N (v, l, h) = (N, qaq N (v, l, h) 2) := by simp [qa2, hlh, hf]
     rw [e1]
     exact (qlb B p m a cap N v l h w hB hlh hf).mono fun e w' ⟨he, hs⟩ => .of_same hB he hs
theorem qah.node {w : World} {B p m : Nat} {a : Option Addr} {cap : Nat} {N : List Nd} (hB : qah w B p m a cap N) {k : Int} (h2 : 2 ≤ k) (hk : k < N.length + 2) :
 ∃ b off, a = some ⟨b, off, none⟩ ∧ b < w.heap.size ∧ w.cell? ⟨b, off + (k - 2).toNat * 3, none⟩ = some (.int .i64 (qao N k).1) ∧ w.cell? ⟨b, off + (k - 2).toNat * 3 + 1, none⟩ = some (.int .i64 (qao N k).2.1) ∧ w.cell? ⟨b, off + (k - 2).toNat * 3 + 2, none⟩ = some (.int .i64 (qao N k).2.2) := by
 have hlt : (k - 2).toNat < N.length := by omega
 have := (qaa.of_owns hB.own).node hlt
 simpa [qao, hlt] using this
theorem qg1 (B p m : Nat) (a : Option Addr) (cap : Nat) (N : List Nd) (k : Int) (w : World) (hB : qah w B p m a cap N) (hk : k < N.length + 2) (hlen : N.length ≤ 90000000) (hk0 : 0 ≤ k) :
 Calls Tryz.prog 100 #[.pointer (some ⟨p, 0, none⟩), .int .i64 k] w fun e w' => e = .returned (.int .i64 (qav N k)) ∧ w = w' := by
 by_cases h2 : k < 2
 · have e1 : qav N k = 40 := by simp [qav, h2]
   rw [e1]
   clear e1 hB
   go_enter Tryz.func100, Tryz.ntmps100
   go_wp2
   go_ret
   exact ⟨rfl, rfl⟩
 · have e1 : qav N k = (qao N k).1 := by simp [qav, h2]
   rw [e1]
   have c0 : w.cell? ⟨p, 0, none⟩ = some (.slice a N.length cap) := gn hB.blk 0
   obtain ⟨b, off, rfl, hb, n0, n1, n2⟩ := hB.node (by omega) hk
   clear e1 hB
   go_enter Tryz.func100, Tryz.ntmps100
   go_wp2
   go_ret
   exact ⟨rfl, rfl⟩
theorem qkc (B p m : Nat) (a : Option Addr) (cap : Nat) (N : List Nd) (k v : Int) (bb : Bool) (w : World) (hB : qah w B p m a cap N) (hk : k < N.length + 2) (hlen : N.length ≤ 90000000) (hk0 : 0 ≤ k) (hv : v < 40) :
 Calls Tryz.prog 101 #[.pointer (some ⟨p, 0, none⟩), .int .i64 k, .int .i64 v, .bool bb] w fun e w' => e = .returned (.int .i64 (qaV N k v bb)) ∧ w = w' := by
 by_cases ht : qav N k = v
 · have h2 : 2 ≤ k := by
     rcases Int.lt_or_le k 2 with h | h
     · simp [qav, h] at ht; omega
     · exact h
   have c0 : w.cell? ⟨p, 0, none⟩ = some (.slice a N.length cap) := gn hB.blk 0
   have ht' : (qav N k != v) = false := by simp [ht]
   have HB := gi hB
   obtain ⟨b, off, rfl, hb, n0, n1, n2⟩ := hB.node h2 hk
   cases bb
   · have e1 : qaV N k v false = (qao N k).2.1 := by simp [qaV, ht]
     rw [e1]
     clear e1 hB ht
     go_enter Tryz.func101, Tryz.ntmps101
     go_wp2_with (go_at_call 100; refine (qg1 B p m _ cap N k _ HB.out hk hlen hk0).mono ?_; rintro e w' ⟨rfl, rfl⟩)
     go_ret
     exact ⟨rfl, rfl⟩
   · have e1 : qaV N k v true = (qao N k).2.2 := by simp [qaV, ht]
     rw [e1]
     clear e1 hB ht
     go_enter Tryz.func101, Tryz.ntmps101
     go_wp2_with (go_at_call 100; refine (qg1 B p m _ cap N k _ HB.out hk hlen hk0).mono ?_; rintro e w' ⟨rfl, rfl⟩)
     go_ret
     exact ⟨rfl, rfl⟩
 · have e1 : qaV N k v bb = k := by simp [qaV, ht]
   rw [e1]
   have ht' : (qav N k != v) = true := by simp [ht]
   have HB := gi hB
   clear e1 hB ht
   go_enter Tryz.func101, Tryz.ntmps101
   go_wp2_with (go_at_call 100; refine (qg1 B p m _ cap N k _ HB.out hk hlen hk0).mono ?_; rintro e w' ⟨rfl, rfl⟩)
   go_ret
   exact ⟨rfl, rfl⟩
theorem qfz (w : World) :
 Calls Tryz.prog 71 #[] w fun e w' => ∃ p m, e = .returned (.pointer (some ⟨p, 0, none⟩)) ∧ qah w' w.heap.size p m none 0 [] ∧ qad w w' := by
 have hmm := @run_makeMap Tryz.prog
 go_enter Tryz.func71, Tryz.ntmps71
 go_wp2
 go_ret
 refine ⟨_, w.heap.size, rfl, ⟨qae (by simp) _, World.ownsRow_nil _ _ _ _, ?_, by simp, Nat.le_refl _⟩, fs1⟩
 exact (qcj w).of_block (Below.heap_alloc _ _ _ (by simp))
end Go.Proofs.YticcpnekjddanaaGreatDoor
namespace Go.Proofs.YticcpnekjddanaaGreatDoor
open Go.RowKit
structure qe9 (w : World) (z : Int) (B p m : Nat) (a : Option Addr) (cap : Nat) (N : List Nd) : Prop where
 blk : w.heap[p]? = some (.cells #[.int .i64 z, .slice a N.length cap, .map (some m)] 198 (0, 0))
 own : w.ownsRow B 132 3 (.slice a N.length cap) N.length (qap N)
 map : qaR ndv (Value.int .i64) w m (qaP N 2)
 pb : B ≤ p
 mb : B ≤ m
theorem qe9.keep {w W w1 : World} {z : Int} {B p m : Nat} {a : Option Addr} {cap : Nat} {N : List Nd} {v' : Value} (hB : qe9 w z B p m a cap N) (hs : qad w W) (hg : qaK (fun _ => False) W w1 (.slice a N.length cap) v') :
 w1.heap[p]? = some (.cells #[.int .i64 z, .slice a N.length cap, .map (some m)] 198 (0, 0)) := by
 refine hg.1.at (hs.at hB.blk id) ?_
 rintro (h | h)
 · obtain ⟨cur, hc⟩ := qaj hB.own h
   rw [hB.blk] at hc
   simp at hc
 · exact h
theorem qmW (p : Nat) (v l : Int) (w : World) :
 Calls Tryz.prog 156 #[.pointer (some ⟨p, 0, none⟩), .agg #[.int .i64 v, .int .i64 l, .int .i64 l]] w fun e w' =>
  e = .returned (.int .i64 l) ∧ qad w w' := by
 go_enter Tryz.func156, Tryz.ntmps156
 go_wp2
 go_ret
 exact ⟨rfl, (Fr.refl _ _).alloc _⟩
theorem qoZ (z : Int) (B p m : Nat) (a : Option Addr) (cap : Nat) (N : List Nd) (v l h : Int) (w : World) (hB : qe9 w z B p m a cap N) (hne : l ≠ h) (hf : qaq N (v, l, h) 2 ≠ 0) :
 Calls Tryz.prog 156 #[.pointer (some ⟨p, 0, none⟩), .agg #[.int .i64 v, .int .i64 l, .int .i64 h]] w fun e w' =>
  e = .returned (.int .i64 (qaq N (v, l, h) 2)) ∧ qad w w' := by
 have hpl := gu hB.blk
 have c2 : w.cell? ⟨p, 2, none⟩ = some (.map (some m)) := gn hB.blk 2
 have hg : qa0 (qaP N 2) (v, l, h) = some (qaq N (v, l, h) 2) := by rw [qdv N _ 2 (by omega), if_neg hf]
 have hl : ∀ w' : World, w'.heap[m]? = w.heap[m]? → (Instr.lookup 158 (.map (some m)) (.agg #[.int .i64 v, .int .i64 l, .int .i64 h]) true).run Tryz.prog w' = .ok (.tuple #[.int .i64 (qaq N (v, l, h) 2), .bool true]) w' :=
  fun w' hw' => qa6 qoA mapB (hB.map.of_block hw') hg true
 have hlb : ∀ o n, (Instr.lookup 158 (.map (some m)) (.agg #[.int .i64 v, .int .i64 l, .int .i64 h]) true).run Tryz.prog ((w.alloc o).drewN n) = .ok (.tuple #[.int .i64 (qaq N (v, l, h) 2), .bool true]) ((w.alloc o).drewN n) :=
  fun o n => hl _ (Below.heap_alloc w o m hB.map.lt)
 have hne' : (l == h) = false := by simpa using hne
 clear hl hg hB hf hne
 go_enter Tryz.func156, Tryz.ntmps156
 go_wp2
 go_quiet (fail)
 go_wp2
 go_ret
 exact ⟨rfl, ((Fr.refl _ _).alloc _).drewN _⟩
structure qig (w W : World) (z : Int) (B p m : Nat) (a : Option Addr) (cap : Nat) (a' : Option Addr) (cap' : Nat) (N : List Nd) (v l h : Int) : Prop where
 blk : W.heap[p]? = some (.cells #[.int .i64 z, .slice a' (N.length + 1) cap', .map (some m)] 198 (0, 0))
 own : W.ownsRow B 132 3 (.slice a' (N.length + 1) cap') (N.length + 1) (qap (N ++ [(v, l, h)]))
 map : qaR ndv (Value.int .i64) W m (qaP N 2)
 box : W.heap[w.heap.size]? = some (.cells #[.int .i64 v, .int .i64 l, .int .i64 h] 132 (0, 0))
 grew : qaK (BB p m) w W (.slice a N.length cap) (.slice a' (N.length + 1) cap')
 pb : B ≤ p
 mb : B ≤ m
theorem qig.mk' {w W w1 : World} {z : Int} {B p m : Nat} {a a' : Option Addr} {cap cap' : Nat} {N : List Nd} {v l h : Int} (hB : qe9 w z B p m a cap N) (hs : qad (w.alloc (.cells #[.int .i64 v, .int .i64 l, .int .i64 h] 132)) W)
 (hown : w1.ownsRow B 132 3 (.slice a' (N.length + 1) cap') (N.length + 1) (qap N ++ [.int .i64 v, .int .i64 l, .int .i64 h])) (hg : qaK (fun _ => False) W w1 (.slice a N.length cap) (.slice a' (N.length + 1) cap')) :
 qig w (w1.setCell ⟨p, 1, none⟩ (.slice a' (N.length + 1) cap')) z B p m a cap a' cap' N v l h := by
 have hsw : qad w W := ((Fr.refl _ w).alloc _).same hs
 have hp := hB.keep hsw hg
 have hpl := gu hB.blk
 have qfy : ∀ k, (Value.slice a N.length cap).ownBlock = some k → ∃ cur, w.heap[k]? = some (.cells cur 132 (0, 0)) := fun k hk => qaj hB.own hk
 have hm : w1.heap[m]? = w.heap[m]? := by
  rw [hg.1.block m (Nat.lt_of_lt_of_le hB.map.lt hsw.size) ?_, hsw.block m hB.map.lt id]
  rintro (h' | h')
  · obtain ⟨cur, hc⟩ := qfy m h'
    exact qat hB.map hc rfl
  · exact h'
 have hmp := qat hB.map hB.blk
 refine ⟨by rw [qaf hp]; rfl, ?_, hB.map.of_block ?_, ?_, ?_, ?_, ?_⟩
 · rw [qbu]
   refine qaN (S := fun k => k = p) hown ((Fr.refl _ _).setCell _ _ (fun _ => rfl)) ?_
   intro k hk e
   subst e
   obtain ⟨cur, hc⟩ := qaj hown hk
   rw [hp] at hc
   simp at hc
 · rw [qaS hmp]; exact hm
 · rw [qaS (by show w.heap.size ≠ p; omega)]
   refine hg.1.at (hs.at (gv w _) id) ?_
   rintro (h' | h')
   · obtain ⟨cur, hc⟩ := qfy _ h'
     have := gu hc
     omega
   · exact h'
 · have g1 : qaK (BB p m) w w1 (.slice a N.length cap) (.slice a' (N.length + 1) cap') := by
     refine qaK.trans (v1 := .slice a N.length cap) (qaK.of_same _ hsw) ⟨hg.1.mono ?_, hg.2⟩
     rintro i _ (h' | h')
     · exact .inl h'
     · exact h'.elim
   exact ⟨g1.1.setCell _ _ (fun _ => .inr (.inl rfl)), g1.2⟩
 · exact hB.pb
 · exact hB.mb
theorem qig.done {w W : World} {z : Int} {B p m : Nat} {a a' : Option Addr} {cap cap' : Nat} {N : List Nd} {v l h : Int} {ob : Obj} (M : qig w W z B p m a cap a' cap' N v l h) (hf : qaq N (v, l, h) 2 = 0)
 (hob : qaR ndv (Value.int .i64) (setObj W.drew m ob) m (qbW (qaP N 2) (v, l, h) (N.length + 2))) :
 (setObj W.drew m ob).heap[p]? = some (.cells #[.int .i64 z, .slice a' (N.length + 1) cap', .map (some m)] 198 (0, 0)) ∧
 qe9 (setObj W.drew m ob) z B p m a' cap' (N ++ [(v, l, h)]) ∧ qaK (BB p m) w (setObj W.drew m ob) (.slice a N.length cap) (.slice a' (N.length + 1) cap') := by
 have hmp := qat M.map M.blk
 have hf' : Fr (fun k => k = m) W (setObj W.drew m ob) := ((Fr.refl _ W).drew).setObj _ _ (fun _ => rfl)
 have hp := hf'.at M.blk (fun e => hmp e.symm)
 refine ⟨hp, ⟨by simpa using hp, ?_, ?_, M.pb, M.mb⟩, ?_⟩
 · have := qaN M.own hf' (fun k hk e => by
     subst e
     obtain ⟨cur, hc⟩ := qaj M.own hk
     exact qat M.map hc rfl)
   simpa using this
 · have e := qgC N (v, l, h) 2 (by omega) hf
   rw [show (2 : Int) + N.length = N.length + 2 by omega] at e
   rw [← e]
   exact hob
 · exact ⟨M.grew.1.trans hf' (fun i _ e => .inr (.inr e)), M.grew.2⟩
theorem qmX (z : Int) (B p m : Nat) (a : Option Addr) (cap : Nat) (N : List Nd) (v l h : Int) (w : World) (hB : qe9 w z B p m a cap N) (hne : l ≠ h) (hf : qaq N (v, l, h) 2 = 0) (hlen : N.length ≤ 100000) :
 Calls Tryz.prog 156 #[.pointer (some ⟨p, 0, none⟩), .agg #[.int .i64 v, .int .i64 l, .int .i64 h]] w fun e w' =>
  e = .returned (.int .i64 (N.length + 2)) ∧ ∃ a' cap', qe9 w' z B p m a' cap' (N ++ [(v, l, h)]) ∧ qaK (BB p m) w w' (.slice a N.length cap) (.slice a' (N.length + 1) cap') := by
 have hpl := gu hB.blk
 have c1 : w.cell? ⟨p, 1, none⟩ = some (.slice a N.length cap) := gn hB.blk 1
 have c2 : w.cell? ⟨p, 2, none⟩ = some (.map (some m)) := gn hB.blk 2
 have f1 : w.frozen? ⟨p, 1, none⟩ = false := qak hB.blk 1
 have hg : qa0 (qaP N 2) (v, l, h) = none := by rw [qdv N _ 2 (by omega), if_pos hf]
 have hl : ∀ w' : World, w'.heap[m]? = w.heap[m]? → (Instr.lookup 158 (.map (some m)) (.agg #[.int .i64 v, .int .i64 l, .int .i64 h]) true).run Tryz.prog w' = .ok (.tuple #[.int .i64 0, .bool false]) w' :=
  fun w' hw' => qbo qoA mapB (hB.map.of_block hw') hg (qi4 _) true
 have hlb : ∀ o n, (Instr.lookup 158 (.map (some m)) (.agg #[.int .i64 v, .int .i64 l, .int .i64 h]) true).run Tryz.prog ((w.alloc o).drewN n) = .ok (.tuple #[.int .i64 0, .bool false]) ((w.alloc o).drewN n) :=
  fun o n => hl _ (Below.heap_alloc w o m hB.map.lt)
 have hne' : (l == h) = false := by simpa using hne
 have HB := gi hB
 have HF := gi hf
 clear hl hg hf hne hB
 go_enter Tryz.func156, Tryz.ntmps156
 go_wp2
 go_quiet (fail)
 go_wp2
 obtain ⟨i0, hi, hz0, hz1, hz2⟩ := info_parts qfx
 go_region_law (refine qbe rfl (.tmp 29) (.tmp 31) 44 rfl B 132 i0 (.agg #[.int .i64 0, .int .i64 0, .int .i64 0]) 3 24 Tryz.underlying44 hi hz0 hz1 hz2 rfl (by decide) (by decide) a N.length cap (qap N) rfl (qag HB.out.own fs1) (by omega) (w.heap.size + 1) [.int .i64 v, .int .i64 l, .int .i64 h] rfl rfl (qae (by simp) _) (by simp [Value.oneCell']) (by have := HB.out.pb; simp; omega) ?_; intro a' cap' w1 hown hgrow; have M := qig.mk' HB.out fs1 hown hgrow; have hp1 := HB.out.keep fs1 hgrow; have q0 := gn hp1 1; have q1 := qak hp1 1; replace M := gi M; clear hown hgrow hp1)
 all_goals
  generalize w1.setCell ⟨p, 1, none⟩ (.slice a' (N.length + 1) cap') = W2 at *
  clear q0 q1 c1 c2 f1 hlb
  have d0 : W2.cell? ⟨p, 1, none⟩ = some (.slice a' (N.length + 1) cap') := gn M.out.blk 1
  have d1 : W2.cell? ⟨p, 2, none⟩ = some (.map (some m)) := gn M.out.blk 2
  have e0 : W2.cell? ⟨w.heap.size, 0, none⟩ = some (.int .i64 v) := gn M.out.box 0
  have e1 : W2.cell? ⟨w.heap.size, 1, none⟩ = some (.int .i64 l) := gn M.out.box 1
  have e2 : W2.cell? ⟨w.heap.size, 2, none⟩ = some (.int .i64 h) := gn M.out.box 2
  have hw1 : IntKind.i64.wrap ((N.length : Int) + 1 + 1) = N.length + 2 := by rw [IntWalk.i64_in _ (by omega)]; omega
  go_wp2
  go_still_tail 6, (by kernel_rfl)
  clear hw1
  change wpList _ _ _ _ _ W2.drew
  refine qbp rfl (.tmp 44) (.tmp 45) (.tmp 46) rfl qoA mapB m (qaP N 2) rfl (M.out.map.of_block rfl) (v, l, h) rfl ((N.length : Int) + 2) rfl ?_
  intro ob hob
  have R := M.out.done HF.out hob
  replace R := gi R
  clear d0 d1 e0 e1 e2 M hob
  refine wpList_nil ?_
  go_wp2
  go_ret
  exact ⟨rfl, a', cap', R.out.2⟩
theorem qe9.fr {S : Nat → Prop} {w w' : World} {z : Int} {B p m : Nat} {a : Option Addr} {cap : Nat} {N : List Nd} (hB : qe9 w z B p m a cap N) (hf : Fr S w w') (h1 : ¬ S p) (h2 : ¬ S m) (h3 : ∀ k, (Value.slice a N.length cap).ownBlock = some k → ¬ S k) : qe9 w' z B p m a cap N :=
 ⟨hf.at hB.blk h1, qaN hB.own hf h3, hB.map.of_block (hf.block m hB.map.lt h2), hB.pb, hB.mb⟩
theorem qe9.same {w w' : World} {z : Int} {B p m : Nat} {a : Option Addr} {cap : Nat} {N : List Nd} (hB : qe9 w z B p m a cap N) (hf : qad w w') : qe9 w' z B p m a cap N :=
 hB.fr hf id id (fun _ _ => id)
def qox (S : Nat → Prop) (w : World) (z : Int) (B p m : Nat) (a : Option Addr) (cap : Nat) (N N' : List Nd) (k : Int) (e : Ending) (w' : World) : Prop :=
 e = .returned (.int .i64 k) ∧ ∃ a' cap', qe9 w' z B p m a' cap' N' ∧ qaK (fun i => BB p m i ∨ S i) w w' (.slice a N.length cap) (.slice a' N'.length cap')
theorem qox.of_same {S : Nat → Prop} {w w' : World} {z : Int} {B p m : Nat} {a : Option Addr} {cap : Nat} {N : List Nd} {k : Int} {e : Ending} (hB : qe9 w z B p m a cap N) (he : e = .returned (.int .i64 k)) (hf : qad w w') : qox S w z B p m a cap N N k e w' :=
 ⟨he, a, cap, hB.same hf, qaK.of_same _ hf⟩
theorem qhi (S : Nat → Prop) (z : Int) (B p m : Nat) (a : Option Addr) (cap : Nat) (N : List Nd) (v l h : Int) (w : World) (hB : qe9 w z B p m a cap N) (hlen : N.length ≤ 100000) :
 Calls Tryz.prog 156 #[.pointer (some ⟨p, 0, none⟩), .agg #[.int .i64 v, .int .i64 l, .int .i64 h]] w (qox S w z B p m a cap N (qa2 N (v, l, h)).1 (qa2 N (v, l, h)).2) := by
 by_cases hlh : l = h
 · subst hlh
   have e1 : qa2 N (v, l, l) = (N, l) := by simp [qa2]
   rw [e1]
   exact (qmW p v l w).mono fun e w' ⟨he, hs⟩ => .of_same hB he hs
 · by_cases hf : qaq N (v, l, h) 2 = 0
   · have e1 : qa2 N (v, l, h) = (N ++ [(v, l, h)], (N.length : Int) + 2) := by simp [qa2, hlh, hf]
     rw [e1]
     refine (qmX z B p m a cap N v l h w hB hlh hf hlen).mono fun e w' ⟨he, a', cap', h1, h2⟩ => ⟨he, a', cap', h1, ?_⟩
     refine ⟨h2.1.mono ?_, by simpa using h2.2⟩
     rintro i _ (h' | h')
     · exact .inl h'
     · exact .inr (.inl h')
   · have e1 : qa2 N (v, l, h) = (N, qaq N (v, l, h) 2) := by simp [qa2, hlh, hf]
     rw [e1]
     exact (qoZ z B p m a cap N v l h w hB hlh hf).mono fun e w' ⟨he, hs⟩ => .of_same hB he hs
end Go.Proofs.YticcpnekjddanaaGreatDoor
