/- bdd.list and slices.Clone of bools. -/
import Derived.Test.YtaebjalpebgliaaRQuant
import Derived.Test.YtaebjalpebgliaaAny
namespace Go.Proofs.Ytaebjalpebgliaa
open Go.RowKit
set_option linter.unusedVariables false
set_option linter.unusedSimpArgs false

/-- The assignments that make a number true, in order. -/
def rowsL (N : List Nd) : Nat → Nat → Int → List Bool → List (List Bool)
  | 0, _, k, bg => if k = 0 then [] else [bg]
  | d + 1, v, k, bg => if k = 0 then [] else rowsL N d (v + 1) (partF N k v false) (bg ++ [false]) ++ rowsL N d (v + 1) (partF N k v true) (bg ++ [true])

def RowsIs (W : World) (n : Nat) : List Value → List (List Bool) → Prop
  | [], [] => True
  | v :: vs, r :: rs => (r.length = n ∧ SliceAt W 4 1 v n (boolCells r)) ∧ RowsIs W n vs rs
  | _, _ => False

theorem RowsIs.fr {S : Nat → Prop} {W W' : World} {n : Nat} (hf : Fr S W W') (hS : ∀ k cur, W.heap[k]? = some (.cells cur 4 (0, 0)) → ¬ S k) : ∀ {vs : List Value} {rs : List (List Bool)}, RowsIs W n vs rs → RowsIs W' n vs rs
  | [], [], _ => trivial
  | v :: vs, r :: rs, h => ⟨⟨h.1.1, h.1.2.fr hf (fun k cur hk hs => hS k cur hk hs)⟩, RowsIs.fr hf hS h.2⟩

theorem RowsIs.same {W W' : World} {n : Nat} (hf : Same W W') {vs : List Value} {rs : List (List Bool)} (h : RowsIs W n vs rs) : RowsIs W' n vs rs := RowsIs.fr hf (fun _ _ _ h => h) h

theorem RowsIs.snoc {W : World} {n : Nat} {v : Value} {r : List Bool} (h1 : r.length = n) (h2 : SliceAt W 4 1 v n (boolCells r)) : ∀ {vs : List Value} {rs : List (List Bool)}, RowsIs W n vs rs → RowsIs W n (vs ++ [v]) (rs ++ [r])
  | [], [], _ => ⟨⟨h1, h2⟩, trivial⟩
  | w :: vs, s :: rs, h => ⟨h.1, RowsIs.snoc h1 h2 h.2⟩

theorem RowsIs.len {W : World} {n : Nat} : ∀ {vs : List Value} {rs : List (List Bool)}, RowsIs W n vs rs → vs.length = rs.length
  | [], [], _ => rfl
  | v :: vs, r :: rs, h => by simp [RowsIs.len h.2]

theorem infoS : (Try.prog.info? 26).map (fun i => (i.zero, i.size, i.bytes)) = some (some (.slice none 0 0), 1, 24) := by kernel_rfl

set_option maxRecDepth 100000 in
theorem clone_nil (w : World) : Calls Try.prog 82 #[.slice none 0 0] w fun e w' => e = .returned (.slice none 0 0) ∧ w = w' := by
  have hnil := fun W => Lib.run_eql_slice_nil (P := Try.prog) W 26 4 none 0 0 0 0 Try.underlying26
  go_enter Try.func82, Try.ntmps82
  go_wp2_with fail
  go_ret
  exact ⟨rfl, rfl⟩

/-- What Clone returns. -/
def CloneRet (l : List Bool) (w : World) (e : Ending) (w' : World) : Prop :=
  ∃ g c, e = .returned (.slice g l.length c) ∧ w'.ownsRow w.heap.size 4 1 (.slice g l.length c) l.length (boolCells l) ∧ Same w w'

set_option maxRecDepth 100000 in
set_option maxHeartbeats 1000000 in
theorem clone_some (l : List Bool) (A : Addr) (cB : Nat) (w : World) (h0 : 0 < l.length) (hl : l.length ≤ 1000) (hB : RowAt w (.slice (some A) l.length cB) l.length (boolCells l)) :
    Calls Try.prog 82 #[.slice (some A) l.length cB] w (CloneRet l w) := by
  obtain ⟨b, off, e, hb, hc⟩ := hB.cell h0
  simp only [Option.some.injEq] at e
  subst e
  obtain ⟨i3, hi3, hi3z, hi3s, hi3b⟩ := info_parts info4
  have hcW : ∀ W, Same w W → ∀ j u, (boolCells l)[j]? = some u → W.cell? ⟨b, off + j, none⟩ = some u := by
    intro W hW j u hj
    obtain ⟨b', o', e', _, h'⟩ := (hB.same hW).cell h0
    simp only [Option.some.injEq, Addr.mk.injEq, and_true] at e'
    obtain ⟨rfl, rfl⟩ := e'
    exact h' j u hj
  have htl : (boolCells l).length = l.length * 1 := by rw [boolCells_len, Nat.mul_one]
  have h1c : ∀ u ∈ boolCells l, u.oneCell' = true := by
    intro u hu
    simp only [boolCells, List.mem_map] at hu
    obtain ⟨b, _, rfl⟩ := hu
    rfl
  obtain ⟨M, hM⟩ : ∃ M, M = l.length := ⟨_, rfl⟩
  unfold CloneRet
  rw [← hM] at htl h0 hl hB ⊢
  clear hc
  have hnil := fun W => Lib.run_eql_slice_nil (P := Try.prog) W 26 4 (some ⟨b, off, none⟩) M cB 0 0 Try.underlying26
  replace hcW := Lib.hid hcW; replace htl := Lib.hid htl; replace h1c := Lib.hid h1c; replace hB := Lib.hid hB; replace hM := Lib.hid hM
  go_enter Try.func82, Try.ntmps82
  go_wp2_with (at_builtin; refine wpList_appendm rfl (.tmp 5) (.tmp 6) 26 rfl w.heap.size 4 i3 (.bool false) 1 1 Try.underlying26 hi3 hi3z hi3s hi3b rfl (by decide) (by decide) (.slice (some ⟨w.heap.size, 0, none⟩) 0 0) 0 [] rfl (own_of_block (heap_new _ _) (Nat.le_refl _) rfl rfl (by unfold maxLen; omega)) ⟨b, off, none⟩ M cB (boolCells l) rfl htl.out (by intro j u hj; rw [Addr.add_lit]; exact hcW.out _ (by repeat (first | exact Fr.refl _ _ | apply Fr.alloc | apply Fr.drewN | apply Fr.drew | apply Fr.undrew | apply Fr.undrewN)) j u hj) h1c.out h0 (by omega) (by simp) ?_; intro g cap1 w1 ho1 hG1; simp only [Nat.zero_add, List.nil_append] at ho1 hG1 ⊢; have hs1 : Same w w1 := grew_fresh (W := w.alloc (.cells #[] 4)) (by repeat (first | exact Fr.refl _ _ | apply Fr.alloc | apply Fr.drewN | apply Fr.drew | apply Fr.undrew | apply Fr.undrewN)) hG1 (fun k hk => by simp only [Value.ownBlock, Option.some.injEq] at hk; omega); replace ho1 := Lib.hid ho1; replace hs1 := Lib.hid hs1; clear hG1)
  go_ret
  exact ⟨some ⟨g, 0, none⟩, cap1, rfl, ho1.out, hs1.out⟩

theorem clone_any (l : List Bool) (aB : Option Addr) (cB : Nat) (w : World) (hl : l.length ≤ 1000) (h0 : (aB = none ∧ cB = 0 ∧ l = []) ∨ 0 < l.length) (hB : RowAt w (.slice aB l.length cB) l.length (boolCells l)) :
    Calls Try.prog 82 #[.slice aB l.length cB] w (CloneRet l w) := by
  rcases h0 with ⟨rfl, rfl, rfl⟩ | h0
  · refine (clone_nil w).mono ?_
    rintro e w' ⟨rfl, rfl⟩
    exact ⟨none, 0, rfl, World.ownsRow_nil _ _ _ _, Fr.refl _ _⟩
  · obtain ⟨b, off, rfl, _⟩ := hB.cell h0
    exact clone_some l _ cB w h0 hl hB

/-- What list returns: out with the rows behind it. -/
def LRet (B n : Nat) (W : World) (aO : Option Addr) (cO m : Nat) (rows new : List (List Bool)) (e : Ending) (w' : World) : Prop :=
  ∃ a c vals', e = .returned (.slice a (m + new.length) c) ∧ w'.ownsRow B 26 1 (.slice a (m + new.length) c) (m + new.length) vals' ∧ RowsIs w' n vals' (rows ++ new) ∧
    Grew (fun _ => False) W w' (.slice aO m cO) (.slice a (m + new.length) c)

/-- Only blocks of slices have turned. -/
def SB (w : World) : Nat → Prop := fun k => ∃ cur, w.heap[k]? = some (.cells cur 26 (0, 0))

theorem out_fr {w w' : World} {B m : Nat} {v v' : Value} {vals : List Value} (ho : w.ownsRow B 26 1 v m vals) (hG : Grew (fun _ => False) w w' v v') : Fr (SB w) w w' :=
  hG.1.mono (fun k _ h => by
    rcases h with h | h
    · exact own_block ho h
    · exact h.elim)

theorem not_SB {w : World} {k : Nat} {cur : Array Value} {T : TypeId} (h : w.heap[k]? = some (.cells cur T (0, 0))) (hT : T ≠ 26) : ¬ SB w k := by
  rintro ⟨c, hc⟩
  rw [h] at hc
  simp only [Option.some.injEq, Obj.cells.injEq] at hc
  exact hT hc.2.1

theorem own_le {w : World} {B : Nat} {T : TypeId} {sz : Nat} {v : Value} {n : Nat} {xs : List Value} (h : w.ownsRow B T sz v n xs) (hB : B ≤ w.heap.size) : B ≤ w.heap.size := hB

theorem one_abs2 {w : World} {A : Obj} {P : World → Prop} (h : ∀ W3, (W3.heap[w.heap.size]? = some A ∧ Same w W3) → P W3) : P (w.alloc A) := h _ ⟨heap_new _ _, (Fr.refl _ _).alloc _⟩

set_option maxRecDepth 100000 in
set_option maxHeartbeats 8000000 in
/-- The last step: a row is laid. -/
theorem list_end (n : Nat) (r0 : Int) (aL : Option Addr) (capL lL : Nat) (k : Int) (bg : List Bool) (aB : Option Addr) (cB : Nat) (rows : List (List Bool)) (vals : List Value) (aO : Option Addr) (cO B m : Nat) (W : World)
    (hk : k ≠ 0) (hbg : bg.length = n) (hn : n ≤ 40) (h0 : (aB = none ∧ cB = 0 ∧ bg = []) ∨ 0 < bg.length) (hb : SliceAt W 4 1 (.slice aB n cB) n (boolCells bg))
    (hO : W.ownsRow B 26 1 (.slice aO m cO) m vals) (hR : RowsIs W n vals rows) (hm : m + 1 ≤ 100000) (hB : B ≤ W.heap.size) :
    Calls Try.prog 63 #[.agg #[.int .i64 n, .slice aL lL capL, .int .i64 r0], .int .i64 k, .slice aB n cB, .slice aO m cO] W (LRet B n W aO cO m rows [bg]) := by
  have CL := fun W' (hW : Same W W') => clone_any bg aB cB W' (by omega) h0 (by rw [hbg]; exact (hb.same hW).row)
  rw [hbg] at CL
  unfold CloneRet at CL
  rw [hbg] at CL
  have hk1 : (k == 0) = false := by simpa using hk
  obtain ⟨iS, hiS, hiSz, hiSs, hiSb⟩ := info_parts infoS
  replace CL := Lib.hid CL; replace hb := Lib.hid hb; replace hO := Lib.hid hO; replace hR := Lib.hid hR; replace h0 := Lib.hid h0; replace hbg := Lib.hid hbg
  go_enter Try.func63, Try.ntmps63
  go_wp2_with fail
  refine (CL.out _ (by repeat (first | exact Fr.refl _ _ | apply Fr.undrew | apply Fr.undrewN | apply Fr.drew | apply Fr.drewN | apply Fr.alloc))).mono ?_
  rintro e w1 ⟨g, c, rfl, ho1, hs1⟩
  have hw1 : Same W w1 := (show Same W _ from (by repeat (first | exact Fr.refl _ _ | apply Fr.undrew | apply Fr.undrewN | apply Fr.drew | apply Fr.drewN | apply Fr.alloc))).same hs1
  have hg1 := SliceAt.of_owns ho1
  replace ho1 := Lib.hid ho1; replace hs1 := Lib.hid hs1; replace hw1 := Lib.hid hw1; replace hg1 := Lib.hid hg1
  go_wp2_with (at_builtin; refine wpList_append1 rfl (.tmp 21) (.tmp 24) 38 rfl B 26 iS (.slice none 0 0) 1 24 Try.underlying38 hiS hiSz hiSs hiSb rfl (by decide) (by decide) aO m cO vals rfl (owns_same (owns_same hO.out hw1.out) (by repeat (first | exact Fr.refl _ _ | apply Fr.undrew | apply Fr.undrewN | apply Fr.drew | apply Fr.drewN | apply Fr.alloc))) (by omega) w1.heap.size [.slice g n c] rfl rfl (heap_new_at (by simp) _) (by simp [Value.oneCell']) (by have := hw1.out.size; simp; omega) ?_; intro an cn w4 ho4 hG4; have hX := out_fr (owns_same (owns_same hO.out hw1.out) (by repeat (first | exact Fr.refl _ _ | apply Fr.undrew | apply Fr.undrewN | apply Fr.drew | apply Fr.drewN | apply Fr.alloc))) hG4; replace ho4 := Lib.hid ho4; replace hG4 := Lib.hid hG4; replace hX := Lib.hid hX)
  go_ret
  have hne : ∀ (w : World) k cur, w.heap[k]? = some (.cells cur 4 (0, 0)) → ¬ SB w k := fun w k cur hk => not_SB hk (by decide)
  refine ⟨an, cn, vals ++ [.slice g n c], rfl, ho4.out, ?_, (Grew.of_same _ (hw1.out.same (by repeat (first | exact Fr.refl _ _ | apply Fr.undrew | apply Fr.undrewN | apply Fr.drew | apply Fr.drewN | apply Fr.alloc)))).trans hG4.out⟩
  refine RowsIs.snoc hbg.out ?_ ?_
  · exact (hg1.out.same ((Fr.refl _ w1).alloc _)).fr hX.out (fun k cur hk => hne _ k cur hk)
  · exact ((hR.out.same hw1.out).same ((Fr.refl _ w1).alloc _)).fr hX.out (fun k cur hk => hne _ k cur hk)

/-- What the walk between the two calls keeps of a world. -/
structure LK (n : Nat) (r0 : Int) (aL : Option Addr) (capL : Nat) (L : List Nd) (v : Nat) (bg : List Bool) (aB : Option Addr) (cB box : Nat) (W : World) : Prop where
  sz : box < W.heap.size
  bx : W.heap[box]? = some (.cells #[.int .i64 n, .slice aL L.length capL, .int .i64 r0] 31 (0, 0))
  nd : SliceAt W 80 3 (.slice aL L.length capL) L.length (ndCells L)
  bg : SliceAt W 4 1 (.slice aB v cB) v (boolCells bg)

theorem LK.fr {n : Nat} {r0 : Int} {aL : Option Addr} {capL : Nat} {L : List Nd} {v : Nat} {bg : List Bool} {aB : Option Addr} {cB box : Nat} {W W' : World} (h : LK n r0 aL capL L v bg aB cB box W) (hf : Fr (SB W) W W') : LK n r0 aL capL L v bg aB cB box W' :=
  ⟨Nat.lt_of_lt_of_le h.sz hf.size, hf.at h.bx (not_SB h.bx (by decide)), h.nd.fr hf (fun k cur hk => not_SB hk (by decide)), h.bg.fr hf (fun k cur hk => not_SB hk (by decide))⟩
theorem LK.same {n : Nat} {r0 : Int} {aL : Option Addr} {capL : Nat} {L : List Nd} {v : Nat} {bg : List Bool} {aB : Option Addr} {cB box : Nat} {W W' : World} (h : LK n r0 aL capL L v bg aB cB box W) (hf : Same W W') : LK n r0 aL capL L v bg aB cB box W' :=
  h.fr (hf.mono (fun _ _ f => f.elim))
end Go.Proofs.Ytaebjalpebgliaa
