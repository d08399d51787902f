/-  -/
import Derived.Test.YticcpnekjddanaaGreatDoorZTable
import Derived.Maps.OwnOps
import Derived.Deep.Cut
import Derived.Laws.EntriesVeiled
import Derived.Test.YticcpnekjddanaaGreatDoorZChgP
set_option maxRecDepth 100000
set_option maxHeartbeats 4000000
set_option linter.unusedVariables false
set_option linter.unusedSimpArgs false
namespace Go.Proofs.YticcpnekjddanaaGreatDoor
open Go.RowKit
abbrev mI (w : World) (m : Nat) (M : List (Int × Int)) : Prop := qaR (Value.int .i64) (Value.int .i64) w m M
def qc8 (bn bb bv bo : Nat) : Value := .func (.func 103) #[] #[.pointer (some ⟨bn, 0, none⟩), .pointer (some ⟨bb, 0, none⟩), .pointer (some ⟨bv, 0, none⟩), .pointer (some ⟨bo, 0, none⟩)]
structure qd3 (w : World) (H B p m : Nat) (a : Option Addr) (cap : Nat) (N : List Nd) (bn bb bv bo mm : Nat) (n r : Int) (ao : Option Addr) (co : Nat) (O : List Nd) (M : List (Int × Int)) : Prop where
 bld : qah w B p m a cap N
 low : p < H ∧ m < H ∧ ∀ k, (Value.slice a N.length cap).ownBlock = some k → k < H
 num : w.heap[bn]? = some (.cells #[.map (some mm)] 161 (0, 0))
 var : w.heap[bb]? = some (.cells #[.pointer (some ⟨p, 0, none⟩)] 124 (0, 0))
 fn : w.heap[bv]? = some (.cells #[qc8 bn bb bv bo] 128 (0, 0))
 out : w.heap[bo]? = some (.cells #[.int .i64 n, .slice ao O.length co, .int .i64 r] 46 (0, 0))
 row : w.ownsRow H 132 3 (.slice ao O.length co) O.length (qap O)
 map : mI w mm M
 ge : H ≤ bo ∧ H ≤ mm
def SV (bo mm : Nat) : Nat → Prop := fun k => k = bo ∨ k = mm
theorem qfF {w w' : World} {H B p m : Nat} {a : Option Addr} {cap : Nat} {N : List Nd} {bn bb bv bo mm : Nat} {n r : Int} {ao : Option Addr} {co : Nat} {O : List Nd} {M : List (Int × Int)} {v' : Value}
 (h : qd3 w H B p m a cap N bn bb bv bo mm n r ao co O M) (hg : qaK (SV bo mm) w w' (.slice ao O.length co) v') : qah w' B p m a cap N := by
 have hrow : ∀ k, (Value.slice ao O.length co).ownBlock = some k → H ≤ k := fun k hk => (h.row.lt k hk).1
 have hno : ∀ k, k < H → ¬ ((Value.slice ao O.length co).ownBlock = some k ∨ SV bo mm k) := by
  rintro k hk (h' | h' | h')
  · have := hrow k h'; omega
  · have := h.ge.1; omega
  · have := h.ge.2; omega
 exact h.bld.fr hg.1 (hno _ h.low.1) (hno _ h.low.2.1) (fun k hk => hno k (h.low.2.2 k hk))
theorem qja {w W w' : World} {H B p m : Nat} {a : Option Addr} {cap : Nat} {N : List Nd} {bn bb bv bo mm : Nat} {n r : Int} {ao : Option Addr} {co : Nat} {O : List Nd} {M : List (Int × Int)} {v' : Value}
 (h : qd3 w H B p m a cap N bn bb bv bo mm n r ao co O M) (hg : qaK (SV bo mm) W w' (.slice ao O.length co) v') {k : Nat} {o : Obj} (hk : W.heap[k]? = some o) (hkw : w.heap.size ≤ k) : w'.heap[k]? = some o := by
 refine hg.1.at hk ?_
 rintro (h' | h' | h')
 · obtain ⟨c, hc⟩ := qaj h.row h'
   have := gu hc
   omega
 · have := gu h.out; omega
 · have := h.map.lt; omega
theorem qd3.same {w w' : World} {H B p m : Nat} {a : Option Addr} {cap : Nat} {N : List Nd} {bn bb bv bo mm : Nat} {n r : Int} {ao : Option Addr} {co : Nat} {O : List Nd} {M : List (Int × Int)}
 (h : qd3 w H B p m a cap N bn bb bv bo mm n r ao co O M) (hs : qad w w') : qd3 w' H B p m a cap N bn bb bv bo mm n r ao co O M :=
 ⟨h.bld.same hs, h.low, hs.at h.num id, hs.at h.var id, hs.at h.fn id, hs.at h.out id, qag h.row hs, h.map.of_block (hs.block _ h.map.lt id), h.ge⟩
theorem qeY (N : List Nd) : ∀ (f : Nat) (s s' : Vs) (k n : Int), qaW N f s k = some (s', n) → s.1.length ≤ s'.1.length := by
 intro f
 induction f with
 | zero => intro s s' k n h; simp [qaW] at h
 | succ f ih =>
  intro s s' k n h
  unfold qaW at h
  split at h
  · simp only [Option.some.injEq, Prod.mk.injEq] at h
    rw [← h.1]; exact Nat.le_refl _
  · split at h
    · cases h
    · rename_i s1 low h1
      split at h
      · cases h
      · rename_i s2 high h2
        simp only [Option.some.injEq, Prod.mk.injEq] at h
        have := ih _ _ _ _ h1
        have := ih _ _ _ _ h2
        rw [← h.1]
        simp
        omega
theorem qhU {w w1 : World} {H B p m : Nat} {a : Option Addr} {cap : Nat} {N : List Nd} {bn bb bv bo mm : Nat} {n r : Int} {ao ao' : Option Addr} {co co' : Nat} {O : List Nd} {M : List (Int × Int)} {x : Nd} {W : World}
 (h : qd3 w H B p m a cap N bn bb bv bo mm n r ao co O M) (hs : qad w W) (hown : w1.ownsRow H 132 3 (.slice ao' (O.length + 1) co') (O.length + 1) (qap O ++ [.int .i64 x.1, .int .i64 x.2.1, .int .i64 x.2.2]))
 (hg : qaK (fun _ => False) W w1 (.slice ao O.length co) (.slice ao' (O.length + 1) co')) :
 qd3 (w1.setCell ⟨bo, 1, none⟩ (.slice ao' (O.length + 1) co')) H B p m a cap N bn bb bv bo mm n r ao' co' (O ++ [x]) M ∧ qaK (SV bo mm) w (w1.setCell ⟨bo, 1, none⟩ (.slice ao' (O.length + 1) co')) (.slice ao O.length co) (.slice ao' (O ++ [x]).length co') := by
 have hgw : qaK (SV bo mm) w w1 (.slice ao O.length co) (.slice ao' (O.length + 1) co') :=
  (qaK.of_same _ hs).trans ⟨hg.1.mono (fun i _ h' => h'.imp id False.elim), hg.2⟩
 have hw1 : ∀ k, (¬ (Value.slice ao O.length co).ownBlock = some k) → k < w.heap.size → w1.heap[k]? = w.heap[k]? := fun k hk hl => by
  rw [hg.1.block k (Nat.lt_of_lt_of_le hl hs.size) (fun h' => h'.elim hk id), hs.block k hl id]
 have notrow : ∀ {k : Nat} {cur : Array Value} {T : TypeId} {fr : Nat × Nat}, w.heap[k]? = some (.cells cur T fr) → T ≠ 132 → w1.heap[k]? = some (.cells cur T fr) := by
  intro k cur T fr hk hT
  rw [hw1 k (fun h' => ?_) (gu hk)]; · exact hk
  obtain ⟨c, hc⟩ := qaj h.row h'
  rw [hk] at hc; simp at hc; exact hT hc.2.1
 have hbo := notrow h.out (by decide)
 have hf : Fr (fun k => k = bo) w1 (w1.setCell ⟨bo, 1, none⟩ (.slice ao' (O.length + 1) co')) := (Fr.refl _ _).setCell _ _ (fun _ => rfl)
 have keep : ∀ {k : Nat} {cur : Array Value} {T : TypeId} {fr : Nat × Nat}, w.heap[k]? = some (.cells cur T fr) → T ≠ 132 → T ≠ 46 → (w1.setCell ⟨bo, 1, none⟩ (.slice ao' (O.length + 1) co')).heap[k]? = some (.cells cur T fr) := by
  intro k cur T fr hk h1 h2
  refine hf.at (notrow hk h1) (fun e => ?_)
  subst e
  have := h.out
  rw [hk] at this; simp at this; exact h2 this.2.1
 have hgrow : qaK (SV bo mm) w (w1.setCell ⟨bo, 1, none⟩ (.slice ao' (O.length + 1) co')) (.slice ao O.length co) (.slice ao' (O ++ [x]).length co') :=
  ⟨hgw.1.setCell _ _ (fun _ => .inr (.inl rfl)), by simpa using hgw.2⟩
 have hmap : mm ≠ bo := qat h.map h.out
 refine ⟨⟨qfF h hgrow, h.low, keep h.num (by decide) (by decide), keep h.var (by decide) (by decide), keep h.fn (by decide) (by decide), ?_, ?_, ?_, h.ge⟩, hgrow⟩
 · rw [qaf hbo]; simp
 · rw [qbu, show qap [x] = [.int .i64 x.1, .int .i64 x.2.1, .int .i64 x.2.2] from rfl]
   have := qaN hown hf (fun k hk e => by
    subst e
    obtain ⟨c, hc⟩ := qaj hown hk
    rw [hbo] at hc; simp at hc)
   simpa using this
 · refine h.map.of_block ?_
   rw [qaS hmap, hw1 mm (fun h' => ?_) h.map.lt]
   obtain ⟨c, hc⟩ := qaj h.row h'
   exact qat h.map hc rfl
theorem qmg {w W w1 : World} {H B p m : Nat} {a : Option Addr} {cap : Nat} {N : List Nd} {bn bb bv bo mm : Nat} {n r : Int} {ao : Option Addr} {co : Nat} {O : List Nd} {M : List (Int × Int)} {v' : Value}
 (h : qd3 w H B p m a cap N bn bb bv bo mm n r ao co O M) (hs : qad w W) (hg : qaK (fun _ => False) W w1 (.slice ao O.length co) v') : w1.heap[bo]? = some (.cells #[.int .i64 n, .slice ao O.length co, .int .i64 r] 46 (0, 0)) := by
 refine hg.1.at (hs.at h.out id) ?_
 rintro (h' | h')
 · obtain ⟨c, hc⟩ := qaj h.row h'
   have := h.out
   rw [hc] at this; simp at this
 · exact h'
theorem qmh {w : World} {H B p m : Nat} {a : Option Addr} {cap : Nat} {N : List Nd} {bn bb bv bo mm : Nat} {n r : Int} {ao : Option Addr} {co : Nat} {O : List Nd} {M M' : List (Int × Int)} {ob : Obj}
 (h : qd3 w H B p m a cap N bn bb bv bo mm n r ao co O M) (hob : mI (setObj w mm ob) mm M') :
 qd3 (setObj w mm ob) H B p m a cap N bn bb bv bo mm n r ao co O M' ∧ qaK (SV bo mm) w (setObj w mm ob) (.slice ao O.length co) (.slice ao O.length co) := by
 have hf : Fr (fun k => k = mm) w (setObj w mm ob) := (Fr.refl _ _).setObj _ _ (fun _ => rfl)
 have hgrow : qaK (SV bo mm) w (setObj w mm ob) (.slice ao O.length co) (.slice ao O.length co) := ⟨hf.mono (fun i _ e => .inr (.inr e)), fun k hk => .inl hk⟩
 have ne : ∀ {k : Nat} {cur : Array Value} {T : TypeId} {fr : Nat × Nat}, w.heap[k]? = some (.cells cur T fr) → ¬ k = mm := fun hk e => qat h.map hk e.symm
 refine ⟨⟨qfF h hgrow, h.low, hf.at h.num (ne h.num), hf.at h.var (ne h.var), hf.at h.fn (ne h.fn), hf.at h.out (ne h.out), qaN h.row hf (fun k hk => ?_), hob, h.ge⟩, hgrow⟩
 obtain ⟨c, hc⟩ := qaj h.row hk
 exact ne hc
theorem qeZ (N : List Nd) : ∀ (f : Nat) (s s' : Vs) (k n j : Int), qaW N f s k = some (s', n) → qa0 s.2 j ≠ none → qa0 s'.2 j ≠ none := by
 intro f
 induction f with
 | zero => intro s s' k n j h; simp [qaW] at h
 | succ f ih =>
  intro s s' k n j h hj
  unfold qaW at h
  split at h
  · simp only [Option.some.injEq, Prod.mk.injEq] at h
    rw [← h.1]; exact hj
  · split at h
    · cases h
    · rename_i s1 low h1
      split at h
      · cases h
      · rename_i s2 high h2
        simp only [Option.some.injEq, Prod.mk.injEq] at h
        have a1 := ih _ _ _ _ j h1 hj
        have a2 := ih _ _ _ _ j h2 a1
        rw [← h.1]
        by_cases hjk : j = k
        · subst hjk; simp [qa3]
        · rw [qbK _ _ _ _ hjk]; exact a2
theorem qmi (H B p m : Nat) (a : Option Addr) (cap : Nat) (N : List Nd) (bn bb bv bo mm : Nat) (n r : Int) (hv : Laid N) (hN : N.length ≤ 90000000) (fuel : Nat) :
 ∀ (k : Int) (ao : Option Addr) (co : Nat) (O : List Nd) (M : List (Int × Int)) (s' : Vs) (kn : Int) (w : World), qd3 w H B p m a cap N bn bb bv bo mm n r ao co O M → qaW N fuel (O, M) k = some (s', kn) →
  0 ≤ k → k < N.length + 2 → qa0 M 0 ≠ none → qa0 M 1 ≠ none → s'.1.length ≤ 90000000 →
 Calls Tryz.prog 103 #[.int .i64 k, .pointer (some ⟨bn, 0, none⟩), .pointer (some ⟨bb, 0, none⟩), .pointer (some ⟨bv, 0, none⟩), .pointer (some ⟨bo, 0, none⟩)] w
  fun e w' => e = .returned (.int .i64 kn) ∧ ∃ ao' co', qd3 w' H B p m a cap N bn bb bv bo mm n r ao' co' s'.1 s'.2 ∧ qaK (SV bo mm) w w' (.slice ao O.length co) (.slice ao' s'.1.length co') := by
 induction fuel with
 | zero => intro k ao co O M s' kn w _ h; simp [qaW] at h
 | succ fuel ih =>
  intro k ao co O M s' kn w hV hvis hk0 hk hm0 hm1 hlen
  have v0 : w.cell? ⟨bn, 0, none⟩ = some (.map (some mm)) := gn hV.num 0
  unfold qaW at hvis
  simp only at hvis
  cases hmg : qa0 M k with
  | some u =>
   simp only [hmg, Option.some.injEq, Prod.mk.injEq] at hvis
   obtain ⟨rfl, rfl⟩ := hvis
   have hl := qa6 qi3 ql5 hV.map hmg true
   simp only [if_true] at hl
   replace hV := gi hV
   clear ih hv hm0 hm1 hmg
   go_enter Tryz.func103, Tryz.ntmps103
   go_wp2_with fail
   go_ret
   exact ⟨rfl, ao, co, hV.out, qaK.refl _ _ _⟩
  | none =>
   simp only [hmg] at hvis
   have hk2 : 2 ≤ k := by
    rcases Int.lt_or_le k 2 with h | h
    · rcases (show k = 0 ∨ k = 1 by omega) with h' | h'
      · rw [h'] at hmg; exact absurd hmg hm0
      · rw [h'] at hmg; exact absurd hmg hm1
    · exact h
   have hlt : (k - 2).toNat < N.length := by omega
   have hb := hv (k - 2).toNat (qao N k) (by simp [qao, hlt])
   have hl := qbo qi3 ql5 hV.map hmg (qi4 w) true
   simp only [if_true] at hl
   have v1 : w.cell? ⟨bb, 0, none⟩ = some (.pointer (some ⟨p, 0, none⟩)) := gn hV.var 0
   have v2 : w.cell? ⟨p, 0, none⟩ = some (.slice a N.length cap) := gn hV.bld.blk 0
   have v3 : w.cell? ⟨bv, 0, none⟩ = some (qc8 bn bb bv bo) := gn hV.fn 0
   unfold qc8 at v3
   obtain ⟨b, off, ha, hbl, n0, n1, n2⟩ := hV.bld.node hk2 hk
   subst ha
   split at hvis
   · cases hvis
   rename_i s1 low h1
   split at hvis
   · cases hvis
   rename_i s2 high h2
   simp only [Option.some.injEq, Prod.mk.injEq] at hvis
   obtain ⟨rfl, rfl⟩ := hvis
   have hg1 := qeY N _ _ _ _ _ h1
   have hg2 := qeY N _ _ _ _ _ h2
   have hlen' : s2.1.length + 1 ≤ 90000000 := by simpa using hlen
   have F1 : ∀ W, qad w W → _ := fun W hW => ih (qao N k).2.1 ao co O M s1 low W (hV.same hW) h1 (by omega) (by omega) hm0 hm1 (by omega)
   have F2 := fun ao1 co1 W hW => ih (qao N k).2.2 ao1 co1 s1.1 s1.2 s2 high W hW h2 (by omega) (by omega) (qeZ N _ _ _ _ _ 0 h1 hm0) (qeZ N _ _ _ _ _ 1 h1 hm1) (by omega)
   obtain ⟨⟨nv, nl, nh⟩, hnd⟩ : ∃ x, qao N k = x := ⟨_, rfl⟩
   rw [hnd] at n0 n1 n2 F1 F2 hb
   rw [hnd]
   simp only at n0 n1 n2 F1 F2 hb
   have hbn := gu hV.num
   have hbv := gu hV.fn
   have hbb := gu hV.var
   have hpp := gu hV.bld.blk
   replace F1 := gi F1
   replace F2 := gi F2
   replace hV := gi hV
   clear ih hv hm0 hm1 hmg h1 h2
   go_enter Tryz.func103, Tryz.ntmps103
   have hb80 : ∀ W : World, W.heap[w.heap.size]? = some (.cells #[.int .i64 nv, .int .i64 nl, .int .i64 nh] 132 (0, 0)) → W.cell? ⟨w.heap.size, 0, none⟩ = some (.int .i64 nv) ∧ W.cell? ⟨w.heap.size, 1, none⟩ = some (.int .i64 nl) ∧ W.cell? ⟨w.heap.size, 2, none⟩ = some (.int .i64 nh) := fun W hW => ⟨gn hW 0, gn hW 1, gn hW 2⟩
   replace hb80 := gi hb80
   obtain ⟨i0, hi, hz0, hz1, hz2⟩ := info_parts qfx
   go_wp2_with fail
   refine (F1.out _ fs1).mono ?_
   rintro e w1 ⟨rfl, ao1, co1, hV1, hG1⟩
   have hbox := qja hV.out hG1 (qae (k := w.heap.size) (by simp) _) (Nat.le_refl _)
   obtain ⟨x0, x1, x2⟩ := hb80.out _ hbox
   have y3 : w1.cell? ⟨bv, 0, none⟩ = some (qc8 bn bb bv bo) := gn hV1.fn 0
   unfold qc8 at y3
   replace hbox := gi hbox
   replace hV1 := gi hV1
   replace hG1 := gi hG1
   clear v0 v1 v2 v3 n0 n1 n2 hl
   go_wp2_with fail
   refine (F2.out ao1 co1 w1 hV1.out).mono ?_
   rintro e w2 ⟨rfl, ao2, co2, hV2, hG2⟩
   have hbox2 : w2.heap[w.heap.size]? = some (.cells #[.int .i64 nv, .int .i64 nl, .int .i64 nh] 132 (0, 0)) := by
    refine hG2.1.at hbox.out ?_
    rintro (h' | h' | h')
    · rcases hG1.out.2 _ h' with h'' | h''
      · obtain ⟨c, hc⟩ := qaj hV.out.row h''
        have := gu hc
        omega
      · simp at h''; omega
    · have := gu hV.out.out; omega
    · have := hV.out.map.lt; omega
   clear x0 x1 x2 y3
   obtain ⟨x0, x1, x2⟩ := hb80.out _ hbox2
   have z1 : w2.cell? ⟨bo, 1, none⟩ = some (.slice ao2 s2.1.length co2) := gn hV2.out 1
   have z1f : w2.frozen? ⟨bo, 1, none⟩ = false := qak hV2.out 1
   have hbo2 := gu hV2.out
   replace hbox2 := gi hbox2
   replace hV2 := gi hV2
   replace hG2 := gi hG2
   go_upto_region 8 with (first | (at_builtin; refine qai rfl (.tmp 37) (.tmp 43) 44 rfl H 132 i0 (.agg #[.int .i64 0, .int .i64 0, .int .i64 0]) 3 24 Tryz.underlying44 hi hz0 hz1 hz2 rfl (by decide) (by decide) ao2 s2.1.length co2 (qap s2.1) rfl (qag hV2.out.row fs1) (by omega) w2.heap.size [.int .i64 nv, .int .i64 low, .int .i64 high] rfl rfl (qae (by simp) _) (by simp [Value.oneCell']) (by have := hV2.out.ge; simp; omega) ?_; intro ao3 co3 w3 hown3 hgrow3; have hst := qhU (x := (nv, low, high)) hV2.out fs1 hown3 hgrow3; have hbo3 := qmg hV2.out fs1 hgrow3; have q0 : w3.cell? ⟨bo, 1, none⟩ = some (.slice ao2 s2.1.length co2) := gn hbo3 1; have q1 := qak hbo3 1; replace hst := gi hst; clear hown3 hgrow3 hbo3))
   generalize w3.setCell ⟨bo, 1, none⟩ (.slice ao3 (s2.1.length + 1) co3) = W4 at *
   clear q0 q1 x0 x1 x2 z1 z1f
   have u0 : W4.cell? ⟨bn, 0, none⟩ = some (.map (some mm)) := gn hst.out.1.num 0
   have u1 : W4.cell? ⟨bo, 1, none⟩ = some (.slice ao3 (s2.1 ++ [(nv, low, high)]).length co3) := gn hst.out.1.out 1
   rw [show (s2.1 ++ [(nv, low, high)]).length = s2.1.length + 1 by simp] at u1
   have hbo4 := gu hst.out.1.out
   go_wp2_with (at_mapUpdate; refine qbp rfl (.tmp 46) (.tmp 47) (.tmp 51) rfl qi3 ql5 mm s2.2 rfl hst.out.1.map k rfl ((s2.1.length : Int) + 2) (by go_num) ?_; intro ob hob; have hp := qmh hst.out.1 hob; have hl := qa6 qi3 ql5 hob (qa3 s2.2 k ((s2.1.length : Int) + 2)) false; have t0 : (setObj W4 mm ob).cell? ⟨bn, 0, none⟩ = some (.map (some mm)) := gn hp.1.num 0; replace hp := gi hp; clear hob)
   go_ret
   exact ⟨rfl, ao3, co3, hp.out.1, ((((qaK.of_same _ fs1).trans hG1.out).trans hG2.out).trans hst.out.2).trans hp.out.2⟩
def qe0 (w : World) (n : Int) (O : List Nd) (r : Int) (e : Ending) (w' : World) : Prop :=
 ∃ ao co, e = .returned (.tuple #[.agg #[.int .i64 n, .slice ao O.length co, .int .i64 r], .int .i64 0]) ∧ qaa w' 132 3 (.slice ao O.length co) O.length (qap O) ∧ qad w w'
def DErr (w : World) (c : Int) (e : Ending) (w' : World) : Prop :=
 e = .returned (.tuple #[.agg #[.int .i64 0, .slice none 0 0, .int .i64 0], .int .i64 c]) ∧ qad w w'
def qeF (n : Int) (O : List Nd) (r : Int) (w : World) (e : Ending) (w' : World) : Prop :=
 if O.length ≤ 16384 then qe0 w n O r e w' else DErr w 3 e w'
def start : Vs := ([], [(0, 0), (1, 1)])
theorem qbD {K V : Type} {enc : K → Value} {venc : V → Value} {w : World} {m : Nat} (h : m = w.heap.size) : qaR enc venc (w.alloc (.map #[] 0)) m ([] : List (K × V)) := by
 subst h; exact qcj w
theorem qhV {w : World} {B p m : Nat} {a : Option Addr} {cap : Nat} {N : List Nd} {n : Int} {b t : Obj} {ob1 ob2 : Obj} {M : List (Int × Int)} (hB : qah w B p m a cap N)
 (hb : b = .cells #[.pointer (some ⟨p, 0, none⟩)] 124 (0, 0))
 (hM : mI (setObj (setObj ((((w.alloc b).alloc t).alloc (.cells #[.int .i64 n, .slice none 0 0, .int .i64 0] 46)).alloc (.map #[] 0)) (w.heap.size + 1 + 1 + 1) ob1) (w.heap.size + 1 + 1 + 1) ob2) (w.heap.size + 1 + 1 + 1) M) :
 qd3 (((setObj (setObj ((((w.alloc b).alloc t).alloc (.cells #[.int .i64 n, .slice none 0 0, .int .i64 0] 46)).alloc (.map #[] 0)) (w.heap.size + 1 + 1 + 1) ob1) (w.heap.size + 1 + 1 + 1) ob2).alloc (.cells #[.map (some (w.heap.size + 1 + 1 + 1))] 161)).alloc
  (.cells #[qc8 (w.heap.size + 1 + 1 + 1 + 1) w.heap.size (w.heap.size + 1 + 1 + 1 + 1 + 1) (w.heap.size + 1 + 1)] 128))
  w.heap.size B p m a cap N (w.heap.size + 1 + 1 + 1 + 1) w.heap.size (w.heap.size + 1 + 1 + 1 + 1 + 1) (w.heap.size + 1 + 1) (w.heap.size + 1 + 1 + 1) n 0 none 0 [] M ∧
 qad w (((setObj (setObj ((((w.alloc b).alloc t).alloc (.cells #[.int .i64 n, .slice none 0 0, .int .i64 0] 46)).alloc (.map #[] 0)) (w.heap.size + 1 + 1 + 1) ob1) (w.heap.size + 1 + 1 + 1) ob2).alloc (.cells #[.map (some (w.heap.size + 1 + 1 + 1))] 161)).alloc
  (.cells #[qc8 (w.heap.size + 1 + 1 + 1 + 1) w.heap.size (w.heap.size + 1 + 1 + 1 + 1 + 1) (w.heap.size + 1 + 1)] 128)) := by
 generalize hX : ((w.alloc b).alloc t).alloc (.cells #[.int .i64 n, .slice none 0 0, .int .i64 0] 46) = X at *
 have hXs : X.heap.size = w.heap.size + 3 := by rw [← hX]; simp
 have x0 : X.heap[w.heap.size]? = some b := by rw [← hX]; exact qab (qab (gv _ _) _) _
 have x2 : X.heap[w.heap.size + 1 + 1]? = some (.cells #[.int .i64 n, .slice none 0 0, .int .i64 0] 46 (0, 0)) := by rw [← hX]; exact qae (by simp) _
 have xs : qad w X := by rw [← hX]; exact fs1
 generalize hY : setObj (setObj (X.alloc (.map #[] 0)) (w.heap.size + 1 + 1 + 1) ob1) (w.heap.size + 1 + 1 + 1) ob2 = Y at *
 have hf : Fr (fun k => k = w.heap.size + 1 + 1 + 1) X Y := by
  rw [← hY]
  exact (((Fr.refl (fun k => k = w.heap.size + 1 + 1 + 1) X).alloc _).setObj _ _ (fun _ => rfl)).setObj _ _ (fun _ => rfl)
 have hYs : Y.heap.size = w.heap.size + 1 + 1 + 1 + 1 := by rw [← hY]; simp [setObj, hXs]
 have y0 := hf.at x0 (by omega)
 have y2 := hf.at x2 (by omega)
 have ys : qad w Y := xs.trans hf (fun i hi e => by omega)
 have ws : qad w ((Y.alloc (.cells #[.map (some (w.heap.size + 1 + 1 + 1))] 161)).alloc (.cells #[qc8 (w.heap.size + 1 + 1 + 1 + 1) w.heap.size (w.heap.size + 1 + 1 + 1 + 1 + 1) (w.heap.size + 1 + 1)] 128)) := (ys.alloc _).alloc _
 refine ⟨⟨hB.same ws, ⟨gu hB.blk, hB.map.lt, fun k hk => ?_⟩, qab (qae (by omega) _) _, qab (qab (by rw [← hb]; exact y0) _) _, qae (by simp; omega) _, qab (qab y2 _) _, World.ownsRow_nil _ _ _ _, ?_, by omega, by omega⟩, ws⟩
 · obtain ⟨c, hc⟩ := qaj hB.own hk
   exact gu hc
 · exact hM.of_block ((Below.heap_alloc _ _ _ (by simp; omega)).trans (Below.heap_alloc _ _ _ (by omega)))
theorem qlf {w : World} {B p m : Nat} {a : Option Addr} {cap : Nat} {N : List Nd} {n : Int} {b o1 o2 : Obj} {cur : Array Value} {ob1 ob2 : Obj} {M : List (Int × Int)} (hB : qah w B p m a cap N)
 (hM : mI (setObj (setObj ((((w.alloc b).alloc (.cells cur 46)).alloc (.cells #[.int .i64 n, .slice none 0 0, .int .i64 0] 46)).alloc (.map #[] 0)) (w.heap.size + 1 + 1 + 1) ob1) (w.heap.size + 1 + 1 + 1) ob2) (w.heap.size + 1 + 1 + 1) M) :
 (((setObj (setObj ((((w.alloc b).alloc (.cells cur 46)).alloc (.cells #[.int .i64 n, .slice none 0 0, .int .i64 0] 46)).alloc (.map #[] 0)) (w.heap.size + 1 + 1 + 1) ob1) (w.heap.size + 1 + 1 + 1) ob2).alloc o1).alloc o2).heap[w.heap.size + 1]? = some (.cells cur 46 (0, 0)) := by
 refine qab (qab ?_ _) _
 rw [qbi (by omega), qbi (by omega)]
 exact qab (qab (qae (by simp) _) _) _
theorem qgF {w w1 : World} {v1 v2 v3 v4 : Value} (h : qad w w1) :
 qad w ((((w1.setCell ⟨w.heap.size + 1 + 1, 2, none⟩ v1).setCell ⟨w.heap.size + 1, 0, none⟩ v2).setCell ⟨w.heap.size + 1, 1, none⟩ v3).setCell ⟨w.heap.size + 1, 2, none⟩ v4) := by
 refine (((h.setCell _ _ ?_).setCell _ _ ?_).setCell _ _ ?_).setCell _ _ ?_ <;> (intro h'; simp only at h'; omega)
theorem qhW {w1 : World} {H B p m : Nat} {a : Option Addr} {cap : Nat} {N : List Nd} {bn bb bv bo mm : Nat} {n r : Int} {ao : Option Addr} {co : Nat} {O : List Nd} {M : List (Int × Int)} {k : Nat} {v1 v2 v3 v4 : Value} {cur : Array Value}
 (h : qd3 w1 H B p m a cap N bn bb bv bo mm n r ao co O M) (hk : w1.heap[k]? = some (.cells cur 46 (0, 0))) :
 qaa ((((w1.setCell ⟨bo, 2, none⟩ v1).setCell ⟨k, 0, none⟩ v2).setCell ⟨k, 1, none⟩ v3).setCell ⟨k, 2, none⟩ v4) 132 3 (.slice ao O.length co) O.length (qap O) := by
 have hf : Fr (fun i => i = bo ∨ i = k) w1 ((((w1.setCell ⟨bo, 2, none⟩ v1).setCell ⟨k, 0, none⟩ v2).setCell ⟨k, 1, none⟩ v3).setCell ⟨k, 2, none⟩ v4) :=
  ((((Fr.refl (fun i => i = bo ∨ i = k) w1).setCell _ _ (fun _ => .inl rfl)).setCell _ _ (fun _ => .inr rfl)).setCell _ _ (fun _ => .inr rfl)).setCell _ _ (fun _ => .inr rfl)
 refine (qaa.of_owns h.row).fr hf (fun i c hc => ?_)
 rintro (rfl | rfl)
 · have := h.out; rw [hc] at this; simp at this
 · rw [hc] at hk; simp at hk
theorem qeG (B p m : Nat) (a : Option Addr) (cap : Nat) (N : List Nd) (n k : Int) (fuel : Nat) (s' : Vs) (kn : Int) (w : World) (hB : qah w B p m a cap N) (hv : Laid N) (hN : N.length ≤ 90000000) (hk0 : 0 ≤ k) (hk : k < N.length + 2)
 (hvis : qaW N fuel start k = some (s', kn)) (hlen : s'.1.length ≤ 90000000) :
 Calls Tryz.prog 72 #[.pointer (some ⟨p, 0, none⟩), .int .i64 n, .int .i64 k] w (qeF n s'.1 kn w) := by
 have hmm := @run_makeMap Tryz.prog
 replace hB := gi hB
 replace hv := gi hv
 replace hvis := gi hvis
 go_enter Tryz.func72, Tryz.ntmps72
 go_upto_region 2 with fail
 refine wp_region_lit ?_
 refine wpList_step (fun K hK => ?_)
 go_simp
 refine hK _ _ ?_
 clear hK K
 refine qcF rfl (.tmp 13) (.const (.int .i64 0)) (.const (.int .i64 0)) rfl qi3 ql5 (w.heap.size + 1 + 1 + 1) [] rfl (qbD (by simp)) 0 rfl 0 rfl ?_
 intro ob1 hob1
 refine qcF rfl (.tmp 13) (.const (.int .i64 1)) (.const (.int .i64 1)) rfl qi3 ql5 (w.heap.size + 1 + 1 + 1) _ rfl hob1 1 rfl 1 rfl ?_
 intro ob2 hob2
 replace hob2 := gi hob2
 clear hob1
 have hst := qhV hB.out rfl hob2.out
 replace hst := gi hst
 simp only [Act.put]
 go_wp2_with fail
 obtain ⟨ht, hsame⟩ := hst.out
 refine (qmi w.heap.size B p m a cap N _ _ _ _ _ n 0 hv.out hN fuel k none 0 [] _ s' kn _ ht hvis.out hk0 hk (by simp [qbW, qa0]) (by simp [qbW, qa0]) hlen).mono ?_
 rintro e w1 ⟨rfl, ao, co, hV, hG⟩
 have htr := hG.1.at (qlf hB.out hob2.out) (by
  rintro (h' | h' | h')
  · simp [Value.ownBlock] at h'
  · omega
  · omega)
 have c0 : w1.cell? ⟨w.heap.size + 1 + 1, 0, none⟩ = some (.int .i64 n) := gn hV.out 0
 have c1 : w1.cell? ⟨w.heap.size + 1 + 1, 1, none⟩ = some (.slice ao s'.1.length co) := gn hV.out 1
 have c2 : w1.cell? ⟨w.heap.size + 1 + 1, 2, none⟩ = some (.int .i64 0) := gn hV.out 2
 have f2 : w1.frozen? ⟨w.heap.size + 1 + 1, 2, none⟩ = false := qak hV.out 2
 have d0 : w1.cell? ⟨w.heap.size + 1, 0, none⟩ = some (.int .i64 0) := gn htr 0
 have d1 : w1.cell? ⟨w.heap.size + 1, 1, none⟩ = some (.slice none 0 0) := gn htr 1
 have d2 : w1.cell? ⟨w.heap.size + 1, 2, none⟩ = some (.int .i64 0) := gn htr 2
 have g0 : w1.frozen? ⟨w.heap.size + 1, 0, none⟩ = false := qak htr 0
 have g1 : w1.frozen? ⟨w.heap.size + 1, 1, none⟩ = false := qak htr 1
 have g2 : w1.frozen? ⟨w.heap.size + 1, 2, none⟩ = false := qak htr 2
 have hsame1 : qad w w1 := hsame.trans hG.1 (fun i hi h' => by
  rcases h' with h' | h' | h'
  · simp [Value.ownBlock] at h'
  · omega
  · omega)
 replace hsame1 := gi hsame1
 replace hV := gi hV
 replace htr := gi htr
 clear hG ht hsame hst hob2
 by_cases hlim : s'.1.length ≤ 16384
 · have hl' : ¬ (16384 : Int) < s'.1.length := by omega
   replace hlim := gi hlim
   go_wp2_with fail
   refine bodyPost_ret (v := .tuple #[.agg #[.int .i64 n, .slice ao s'.1.length co, .int .i64 kn], .int .i64 0]) (by simp [results, Tryz.results72, go_sem, d0, d1, d2, c0, c1, c2]) rfl ?_
   unfold qeF
   rw [if_pos hlim.out]
   exact ⟨ao, co, rfl, qhW hV.out htr.out, qgF hsame1.out⟩
 · have hl' : (16384 : Int) < s'.1.length := by omega
   go_wp2_with fail
   refine bodyPost_ret (v := .tuple #[.agg #[.int .i64 0, .slice none 0 0, .int .i64 0], .int .i64 3]) (by simp [results, Tryz.results72, go_sem, d0, d1, d2, c0, c1, c2]) rfl ?_
   unfold qeF
   rw [if_neg (by omega)]
   exact ⟨rfl, qgF hsame1.out⟩
def qqd (w : World) (B p m mm : Nat) (a : Option Addr) (cap : Nat) (N : List Nd) (s' : Is) (k : Int) (e : Ending) (w' : World) : Prop :=
 e = .returned (.int .i64 k) ∧ ∃ a' cap', qah w' B p m a' cap' s'.1 ∧ qaR ndv (Value.int .i64) w' mm s'.2 ∧ qaK (fun i => BB p m i ∨ i = mm) w w' (.slice a N.length cap) (.slice a' s'.1.length cap')
theorem qah.other_map {w : World} {B p m mm : Nat} {a : Option Addr} {cap : Nat} {N : List Nd} {K V : Type} {enc : K → Value} {venc : V → Value} {M : List (K × V)} (hB : qah w B p m a cap N) (hM : qaR enc venc w mm M) (hne : mm ≠ m) :
 ¬ ((Value.slice a N.length cap).ownBlock = some mm ∨ BB p m mm) := by
 rintro (h | h | h)
 · obtain ⟨c, hc⟩ := qaj hB.own h
   exact qat hM hc rfl
 · subst h; exact qat hM hB.blk rfl
 · exact hne h
theorem iteF_eq (n : Nat) (s : Is) (f g h : Int) (h1 : ¬ (f = 1 ∨ g = h)) (h0 : ¬ f = 0) (hm : qa0 s.2 (f, g, h) = none) {r : Is × Int} (hr : qdY (n + 1) s f g h = some r) :
 ∃ s1 low s2 high, qdY n s (qaV s.1 f (qc2 (qav s.1 f) (qav s.1 g) (qav s.1 h)) false) (qaV s.1 g (qc2 (qav s.1 f) (qav s.1 g) (qav s.1 h)) false) (qaV s.1 h (qc2 (qav s.1 f) (qav s.1 g) (qav s.1 h)) false) = some (s1, low) ∧
  qdY n s1 (qaV s1.1 f (qc2 (qav s.1 f) (qav s.1 g) (qav s.1 h)) true) (qaV s1.1 g (qc2 (qav s.1 f) (qav s.1 g) (qav s.1 h)) true) (qaV s1.1 h (qc2 (qav s.1 f) (qav s.1 g) (qav s.1 h)) true) = some (s2, high) ∧
  r = (((qa2 s2.1 (qc2 (qav s.1 f) (qav s.1 g) (qav s.1 h), low, high)).1, qbW s2.2 (f, g, h) (qa2 s2.1 (qc2 (qav s.1 f) (qav s.1 g) (qav s.1 h), low, high)).2), (qa2 s2.1 (qc2 (qav s.1 f) (qav s.1 g) (qav s.1 h), low, high)).2) := by
 unfold qdY at hr
 rw [if_neg h1, if_neg h0, hm] at hr
 simp only at hr
 split at hr
 · cases hr
 rename_i s1 low e1
 split at hr
 · cases hr
 rename_i s2 high e2
 simp only [Option.some.injEq] at hr
 exact ⟨s1, low, s2, high, e1, e2, hr.symm⟩
theorem qmj {K V : Type} [DecidableEq K] {enc : K → Value} {venc : V → Value} {P : Program} {w : World} {kt et t : TypeId} {ops : Array Oper} {o : Oper} {a : Act} {KK : Act → World → Prop} {Q : Exit → Act → World → Prop} {E : Prop}
 (hg : o.guard = none) (m k x : Operand) (hop : o.op = Op.mapUpdate t m k x) (hK : qdK P kt enc) (ht : P.underlying t = some (.map kt et)) (mb : Nat) (M : List (K × V))
 (hm : a.eval m = .map (some mb)) (hM : qaR enc venc w mb M) (key : K) (hk : a.eval k = enc key) (val : V) (hv : a.eval x = venc val)
 (h : ∀ ob, qaR enc venc (setObj w mb ob) mb (qbW M key val) → KK (a.put o.dst undef) (setObj w mb ob)) : if Region.wanted o (yielded ops a.tmps) = true then Oper.wp P o a w KK Q else E := by
 have hw : Region.wanted o (yielded ops a.tmps) = true := by simp [Region.wanted, hg]
 rw [if_pos hw]
 obtain ⟨ob, hr, h2⟩ := qeB (w := w) hK ht hM key val
 unfold Oper.wp
 simp [execOp, hop, hm, hk, hv, hr, Result.andThen]
 exact h ob h2
theorem qcI {w w' : World} {B p m mm : Nat} {a a' : Option Addr} {cap cap' : Nat} {N N' : List Nd} {K V : Type} {enc : K → Value} {venc : V → Value} {M : List (K × V)} (hB : qah w B p m a cap N) (hM : qaR enc venc w mm M)
 (hG : qaK (fun i => BB p m i ∨ i = mm) w w' (.slice a N.length cap) (.slice a' N'.length cap')) {k : Nat} {cur : Array Value} {T : TypeId} (hk : w.heap[k]? = some (.cells cur T (0, 0))) (h1 : T ≠ 132) (h2 : T ≠ 160) : w'.heap[k]? = some (.cells cur T (0, 0)) := by
 refine hG.1.at hk ?_
 rintro (h | h | h)
 · exact hB.apart hk h1 h2 (.inl h)
 · exact hB.apart hk h1 h2 (.inr h)
 · subst h; exact qat hM hk rfl
theorem qbz {w w' : World} {B p m : Nat} {a a' : Option Addr} {cap cap' : Nat} {N N' : List Nd} (hB : qah w B p m a cap N)
 (hG : qaK (fun i => BB p m i ∨ False) w w' (.slice a N.length cap) (.slice a' N'.length cap')) {k : Nat} {cur : Array Value} {T : TypeId} (hk : w.heap[k]? = some (.cells cur T (0, 0))) (h1 : T ≠ 132) (h2 : T ≠ 160) : w'.heap[k]? = some (.cells cur T (0, 0)) := by
 refine hG.1.at hk ?_
 rintro (h | h | h)
 · exact hB.apart hk h1 h2 (.inl h)
 · exact hB.apart hk h1 h2 (.inr h)
 · exact h
theorem qbL {w w' : World} {B p m mm : Nat} {a a' : Option Addr} {cap cap' : Nat} {N N' : List Nd} {K V : Type} {enc : K → Value} {venc : V → Value} {M : List (K × V)} (hB : qah w B p m a cap N)
 (hG : qaK (fun i => BB p m i ∨ False) w w' (.slice a N.length cap) (.slice a' N'.length cap')) (hM : qaR enc venc w mm M) (hne : mm ≠ m) : qaR enc venc w' mm M := by
 refine hM.of_block (hG.1.block _ hM.lt ?_)
 rintro (h | h | h)
 · exact hB.other_map hM hne (.inl h)
 · exact hB.other_map hM hne (.inr h)
 · exact h
theorem qg2 (fuel : Nat) : ∀ (B p m mm : Nat) (a : Option Addr) (cap : Nat) (s : Is) (f g h : Int) (s' : Is) (k : Int) (w : World), qah w B p m a cap s.1 → qaR ndv (Value.int .i64) w mm s.2 → mm ≠ m →
 VNd s.1 → VM s.1 s.2 → qaH s.1 f → qaH s.1 g → qaH s.1 h → qdY fuel s f g h = some (s', k) → s'.1.length ≤ 90000000 →
 Calls Tryz.prog 67 #[.pointer (some ⟨p, 0, none⟩), .int .i64 f, .int .i64 g, .int .i64 h, .map (some mm)] w (qqd w B p m mm a cap s.1 s' k) := by
 induction fuel with
 | zero => intro B p m mm a cap s f g h s' k w _ _ _ _ _ _ _ _ he; simp [qdY] at he
 | succ fuel ih =>
  intro B p m mm a cap s f g h s' k w hB hM hne hN hVM hf hg hh he hlen
  obtain ⟨N, M⟩ := s
  simp only at hB hM hN hVM hf hg hh ⊢
  have keep : ∀ c : Int, qqd w B p m mm a cap N (N, M) c (.returned (.int .i64 c)) w := fun c => ⟨rfl, a, cap, hB, hM, qaK.refl _ _ _⟩
  by_cases h1 : f = 1 ∨ g = h
  · have e1 : s' = (N, M) ∧ k = g := by
      unfold qdY at he; rw [if_pos h1] at he
      simp only [Option.some.injEq, Prod.mk.injEq] at he; exact ⟨he.1.symm, he.2.symm⟩
    obtain ⟨rfl, rfl⟩ := e1
    replace keep := gi keep
    by_cases h2 : f = 1
    · have hb : (f == 1) = true := by simpa using h2
      clear he h1 h2 hf hg hh hB hM hN hVM ih
      go_enter Tryz.func67, Tryz.ntmps67
      go_wp2_with fail
      go_ret
      exact keep.out _
    · have hb : (f == 1) = false := by simpa using h2
      have hb2 : (k == h) = true := by simpa using h1.resolve_left h2
      clear he h1 h2 hf hg hh hB hM hN hVM ih
      go_enter Tryz.func67, Tryz.ntmps67
      go_wp2_with fail
      go_ret
      exact keep.out _
  · by_cases h0 : f = 0
    · have e1 : s' = (N, M) ∧ k = h := by
        unfold qdY at he; rw [if_neg h1, if_pos h0] at he
        simp only [Option.some.injEq, Prod.mk.injEq] at he; exact ⟨he.1.symm, he.2.symm⟩
      obtain ⟨rfl, rfl⟩ := e1
      replace keep := gi keep
      have hb : (f == 1) = false := by simpa using fun h => h1 (.inl h)
      have hb2 : (g == k) = false := by simpa using fun h => h1 (.inr h)
      have hb3 : (f == 0) = true := by simpa using h0
      clear he h1 h0 hf hg hh hB hM hN hVM ih
      go_enter Tryz.func67, Tryz.ntmps67
      go_wp2_with fail
      go_ret
      exact keep.out _
    · have hb : (f == 1) = false := by simpa using fun h => h1 (.inl h)
      have hb2 : (g == h) = false := by simpa using fun h => h1 (.inr h)
      have hb3 : (f == 0) = false := by simpa using h0
      cases hm : qa0 M (f, g, h) with
      | some u =>
       have e1 : s' = (N, M) ∧ k = u := by
        unfold qdY at he; rw [if_neg h1, if_neg h0, hm] at he
        simp only [Option.some.injEq, Prod.mk.injEq] at he; exact ⟨he.1.symm, he.2.symm⟩
       obtain ⟨rfl, rfl⟩ := e1
       have hl : ∀ o, (Instr.lookup 125 (.map (some mm)) (.agg #[.int .i64 f, .int .i64 g, .int .i64 h]) true).run Tryz.prog (w.alloc o) = .ok (.tuple #[.int .i64 k, .bool true]) (w.alloc o) :=
        fun o => qa6 keyA mapA (hM.of_block (Below.heap_alloc w o mm hM.lt)) hm true
       clear he h1 h0 hf hg hh hN hVM ih hm keep
       replace hB := gi hB
       replace hM := gi hM
       go_enter Tryz.func67, Tryz.ntmps67
       go_wp2_with fail
       go_ret
       exact ⟨rfl, a, cap, hB.out.same fs1, hM.out.of_block (Below.heap_alloc w _ mm hM.out.lt), qaK.of_same _ fs1⟩
      | none =>
       obtain ⟨⟨N1, M1⟩, low, ⟨N2, M2⟩, high, e1, e2, hr⟩ := iteF_eq fuel (N, M) f g h h1 h0 hm he
       simp only at e1 e2 hr
       have hf2 : 2 ≤ f := by have := hf.1; omega
       obtain ⟨v, hv⟩ : ∃ v, v = qc2 (qav N f) (qav N g) (qav N h) := ⟨_, rfl⟩
       rw [← hv] at e1 e2 hr
       have hv1 : v < 40 := by
        have := (qaE hN hf).2.2 hf2
        rw [hv]; unfold qc2; omega
       have hv0 : 0 ≤ v := by
        have := (qaE hN hf).1
        have := (qaE hN hg).1
        have := (qaE hN hh).1
        rw [hv]; unfold qc2; omega
       obtain ⟨a1, a2, a3, a4⟩ := qeA _ _ _ _ _ _ _ e1 hN hVM (qaD hN hf hv1) (qaD hN hg hv1) (qaD hN hh hv1)
       obtain ⟨b1, b2, b3, b4⟩ := qeA _ _ _ _ _ _ _ e2 a1 a2 (qaD a1 (hf.mono a4) hv1) (qaD a1 (hg.mono a4) hv1) (qaD a1 (hh.mono a4) hv1)
       simp only at a1 a2 a3 a4 b1 b2 b3 b4
       have hn := qbX N2 (v, low, high)
       simp only [Prod.mk.injEq] at hr
       obtain ⟨rfl, rfl⟩ := hr
       simp only at hlen
       have hne' : mm ≠ m := hne
       have F1 : ∀ W, qad w W → Calls Tryz.prog 67 #[.pointer (some ⟨p, 0, none⟩), .int .i64 (qaV N f v false), .int .i64 (qaV N g v false), .int .i64 (qaV N h v false), .map (some mm)] W (qqd W B p m mm a cap N (N1, M1) low) :=
        fun W hW => ih B p m mm a cap (N, M) _ _ _ (N1, M1) low W (hB.same hW) (hM.of_block (hW.block _ hM.lt id)) hne hN hVM (qaD hN hf hv1) (qaD hN hg hv1) (qaD hN hh hv1) e1 (by simp only; omega)
       have F2 : ∀ a' cap' W, qah W B p m a' cap' N1 → qaR ndv (Value.int .i64) W mm M1 → Calls Tryz.prog 67 #[.pointer (some ⟨p, 0, none⟩), .int .i64 (qaV N1 f v true), .int .i64 (qaV N1 g v true), .int .i64 (qaV N1 h v true), .map (some mm)] W (qqd W B p m mm a' cap' N1 (N2, M2) high) :=
        fun a' cap' W hB1 hM1 => ih B p m mm a' cap' (N1, M1) _ _ _ (N2, M2) high W hB1 hM1 hne a1 a2 (qaD a1 (hf.mono a4) hv1) (qaD a1 (hg.mono a4) hv1) (qaD a1 (hh.mono a4) hv1) e2 (by simp only; omega)
       have hl : ∀ o, (Instr.lookup 125 (.map (some mm)) (.agg #[.int .i64 f, .int .i64 g, .int .i64 h]) true).run Tryz.prog (w.alloc o) = .ok (.tuple #[.int .i64 0, .bool false]) (w.alloc o) :=
        fun o => qbo keyA mapA (hM.of_block (Below.heap_alloc w o mm hM.lt)) hm (qi4 _) true
       have q1 := hf.1
       have q2 := hf.2
       have q3 := hg.1
       have q4 := hg.2
       have q5 := hh.1
       have q6 := hh.2
       clear he h1 h0 hf hg hh hN hVM ih hm keep e1 e2 a1 a2 a3 b1 b2 b3
       replace hB := gi hB
       replace hM := gi hM
       replace F1 := gi F1
       replace F2 := gi F2
       replace hv := gi hv
       replace hne := gi hne
       clear hne'
       go_enter Tryz.func67, Tryz.ntmps67
       go_wp2_with (first | (go_at_call 100; refine (qg1 B p m a cap N _ _ (hB.out.same fs1) (by omega) (by omega) (by omega)).mono ?_; rintro e w' ⟨rfl, rfl⟩))
       rw [← hv.out]
       go_wp2_with (first | (go_at_call 101; refine (qkc B p m a cap N _ v _ _ (hB.out.same fs1) (by omega) (by omega) (by omega) hv1).mono ?_; rintro e w' ⟨rfl, rfl⟩))
       refine (F1.out _ fs1).mono ?_
       rintro e w1 ⟨rfl, a1, cap1, hB1, hM1, hG1⟩
       simp only at hB1 hM1 hG1
       have k1 : w1.heap[w.heap.size]? = some (.cells #[.int .i64 f, .int .i64 g, .int .i64 h] 155 (0, 0)) := qcI (hB.out.same fs1) (hM.out.of_block (Below.heap_alloc w _ mm hM.out.lt)) hG1 (gv _ _) (by decide) (by decide)
       have g1 : qaK (fun i => BB p m i ∨ i = mm) w w1 (.slice a N.length cap) (.slice a1 N1.length cap1) := (qaK.of_same _ fs1).trans hG1
       replace hB1 := gi hB1
       replace hM1 := gi hM1
       replace k1 := gi k1
       replace g1 := gi g1
       clear hG1 F1 hl
       go_wp2_with (first | (go_at_call 101; refine (qkc B p m a1 cap1 N1 _ v _ _ (hB1.out.same fs1) (by omega) (by omega) (by omega) hv1).mono ?_; rintro e w' ⟨rfl, rfl⟩))
       refine (F2.out a1 cap1 _ (hB1.out.same fs1) (hM1.out)).mono ?_
       rintro e w2 ⟨rfl, a2, cap2, hB2, hM2, hG2⟩
       simp only at hB2 hM2 hG2
       have k2 : w2.heap[w.heap.size]? = some (.cells #[.int .i64 f, .int .i64 g, .int .i64 h] 155 (0, 0)) := qcI hB1.out hM1.out hG2 k1.out (by decide) (by decide)
       have g2 : qaK (fun i => BB p m i ∨ i = mm) w w2 (.slice a N.length cap) (.slice a2 N2.length cap2) := g1.out.trans hG2
       obtain ⟨c0, c1, c2, cb⟩ := g3l k2
       replace hB2 := gi hB2
       replace hM2 := gi hM2
       replace k2 := gi k2
       replace g2 := gi g2
       clear hG2 F2 k1 hB1 hM1 g1
       go_wp2_with fail
       refine qac (Lk w.heap.size) [0, 1, 0, 0, 0, 0, 0, 2, 3] [0, 2, 3, 4, 5, 6, 1, 7, 8] (by kernel_rfl) (by kernel_rfl) ?_
       repeat ((first | refine gB rfl rfl fun _ k => ?_ | refine gC rfl rfl fun _ k => ?_); go_simp; (first | refine k _ ?_ | refine ⟨_, fun _ => rfl, k _ ?_⟩); clear k)
       refine gF rfl rfl (fun _ hK => ?_)
       go_simp
       refine (qeC (fun _ => False) B p m a2 cap2 N2 v low high _ (hB2.out.same fs1) (by omega)).mono ?_
       rintro e w3 ⟨rfl, a3, cap3, hB3, hG3⟩
       have k3 : w3.heap[w.heap.size]? = some (.cells #[.int .i64 f, .int .i64 g, .int .i64 h] 155 (0, 0)) := qbz (hB2.out.same fs1) hG3 k2.out (by decide) (by decide)
       have hM3 : qaR ndv (Value.int .i64) w3 mm M2 := qbL (hB2.out.same fs1) hG3 hM2.out hne.out
       have g3 : qaK (fun i => BB p m i ∨ i = mm) w w3 (.slice a N.length cap) (.slice a3 (qa2 N2 (v, low, high)).1.length cap3) := g2.out.trans ((qaK.of_same _ fs1).trans ⟨hG3.1.mono (fun i _ h => h.imp id (fun h => .inl (h.resolve_right id))), hG3.2⟩)
       have hKp : Kp (Lk w.heap.size) w2 w3 := ⟨hG3.1.size, fun k hk _ => by rw [show k = w.heap.size from hk, k3, k2.out]⟩
       replace hB3 := gi hB3
       replace hM3 := gi hM3
       replace k3 := gi k3
       replace g3 := gi g3
       clear hG3 c0 c1 c2 cb
       refine hK _ _ hKp ?_
       clear hK hKp
       try simp only [Act.put, gj]
       refine gD rfl (by decide) (fun _ hK => ?_)
       refine qmj rfl (.tmp 82) (.tmp 83) (.tmp 89) rfl keyA mapA mm M2 rfl hM3.out (f, g, h) rfl (qa2 N2 (v, low, high)).2 rfl ?_
       intro ob hM4
       refine hK _ _ ?_
       clear hK
       try simp only [Act.put]
       have k4 : (setObj w3 mm ob).heap[w.heap.size]? = some (.cells #[.int .i64 f, .int .i64 g, .int .i64 h] 155 (0, 0)) := by
        rw [qbi (fun e => by rw [← e] at hM3; exact qat hM3.out k3.out rfl)]; exact k3.out
       obtain ⟨c0, c1, c2, cb⟩ := g3l k4
       have hl4 : (Instr.lookup 125 (.map (some mm)) (.agg #[.int .i64 f, .int .i64 g, .int .i64 h]) false).run Tryz.prog (setObj w3 mm ob) = .ok (.int .i64 (qa2 N2 (v, low, high)).2) (setObj w3 mm ob) :=
        qa6 keyA mapA hM4 (k := (f, g, h)) (qa3 _ _ _) false
       refine gO (NoPanic.normal ?_)
       clear k4
       replace hM4 := gi hM4
       go_wp2_with fail
       go_ret
       have hm3 := hB3.out.other_map hM3.out hne.out
       refine ⟨rfl, a3, cap3, hB3.out.fr (S := fun k => k = mm) ((Fr.refl _ _).setObj mm ob (fun _ => rfl)) (fun h => hm3 (.inr (.inl h.symm))) (fun h => hm3 (.inr (.inr h.symm))) (fun k hk h => hm3 (.inl (h ▸ hk))), hM4.out, g3.out.1.setObj mm ob (fun _ => .inr (.inr rfl)), g3.out.2⟩
end Go.Proofs.YticcpnekjddanaaGreatDoor
namespace Go.Proofs.YticcpnekjddanaaGreatDoor
open Go.RowKit
def qms (dof : Is → Int → Int → Option (Is × Int)) : Prop :=
 ∀ (s : Is) (l h : Int) (s' : Is) (r : Int), dof s l h = some (s', r) → VNd s.1 → VM s.1 s.2 → qaH s.1 l → qaH s.1 h → VNd s'.1 ∧ VM s'.1 s'.2 ∧ qaH s'.1 r ∧ s.1.length ≤ s'.1.length
theorem qgI {wn : Int → Bool} {dof : Is → Int → Int → Option (Is × Int)} {f : Nat} {s : Cs} {k : Int} (h2 : ¬ k < 2) (hm : qa0 s.2 k = none) {q : Cs × Int} (hr : qa8 wn dof (f + 1) s k = some q) :
 ∃ s1 low s2 high, qa8 wn dof f s (qao s.1.1 k).2.1 = some (s1, low) ∧ qa8 wn dof f s1 (qao s.1.1 k).2.2 = some (s2, high) ∧
  ((wn (qao s.1.1 k).1 = true ∧ ∃ s3 r, dof s2.1 low high = some (s3, r) ∧ q = ((s3, qbW s2.2 k r), r)) ∨
   (wn (qao s.1.1 k).1 = false ∧ q = ((((qa2 s2.1.1 ((qao s.1.1 k).1, low, high)).1, s2.1.2), qbW s2.2 k (qa2 s2.1.1 ((qao s.1.1 k).1, low, high)).2), (qa2 s2.1.1 ((qao s.1.1 k).1, low, high)).2))) := by
 rw [qa8, if_neg h2] at hr
 simp only [hm] at hr
 split at hr
 · cases hr
 rename_i s1 low e1
 split at hr
 · cases hr
 rename_i s2 high e2
 refine ⟨s1, low, s2, high, e1, e2, ?_⟩
 split at hr
 · rename_i hw
   split at hr
   · cases hr
   rename_i s3 r e3
   simp only [Option.some.injEq] at hr
   exact .inl ⟨hw, s3, r, e3, hr.symm⟩
 · rename_i hw
   simp only [Option.some.injEq] at hr
   exact .inr ⟨by simpa using hw, hr.symm⟩
theorem VM.put {N N' : List Nd} {C : List (Int × Int)} {k r : Int} (h : VM N C) (hl : N.length ≤ N'.length) (hr : qaH N' r) : VM N' (qbW C k r) := by
 intro j u hj
 rw [qbn] at hj
 split at hj
 · cases hj; exact hr
 · exact (h j u hj).mono hl
theorem qd8 {wn : Int → Bool} {dof : Is → Int → Int → Option (Is × Int)} (hd : qms dof) : ∀ (f : Nat) (s s' : Cs) (k r : Int), qa8 wn dof f s k = some (s', r) → VNd s.1.1 → VM s.1.1 s.1.2 → VM s.1.1 s.2 → qaH s.1.1 k →
 VNd s'.1.1 ∧ VM s'.1.1 s'.1.2 ∧ VM s'.1.1 s'.2 ∧ qaH s'.1.1 r ∧ s.1.1.length ≤ s'.1.1.length := by
 intro f
 induction f with
 | zero => intro s s' k r h; simp [qa8] at h
 | succ f ih =>
  intro s s' k r h hN hM hC hk
  by_cases h2 : k < 2
  · rw [qa8, if_pos h2] at h
    simp only [Option.some.injEq, Prod.mk.injEq] at h
    obtain ⟨rfl, rfl⟩ := h
    exact ⟨hN, hM, hC, hk, Nat.le_refl _⟩
  · cases hm : qa0 s.2 k with
    | some u =>
     rw [qa8, if_neg h2] at h
     simp only [hm, Option.some.injEq, Prod.mk.injEq] at h
     obtain ⟨rfl, rfl⟩ := h
     exact ⟨hN, hM, hC, hC k _ hm, Nat.le_refl _⟩
    | none =>
     have hn := qa7 hN (by omega) hk.2
     obtain ⟨s1, low, s2, high, e1, e2, he⟩ := qgI h2 hm h
     obtain ⟨a1, a2, a3, a4, a5⟩ := ih _ _ _ _ e1 hN hM hC hn.2.2.1
     obtain ⟨b1, b2, b3, b4, b5⟩ := ih _ _ _ _ e2 a1 a2 a3 (hn.2.2.2.1.mono a5)
     rcases he with ⟨_, s3, r', e3, hq⟩ | ⟨_, hq⟩
     · obtain ⟨c1, c2, c3, c4⟩ := hd _ _ _ _ _ e3 b1 b2 (a4.mono b5) b4
       simp only [Prod.mk.injEq] at hq
       obtain ⟨rfl, rfl⟩ := hq
       exact ⟨c1, c2, b3.put c4 c3, c3, by simp only; omega⟩
     · simp only [Prod.mk.injEq] at hq
       obtain ⟨rfl, rfl⟩ := hq
       have hg := qbX s2.1.1 ((qao s.1.1 k).1, low, high)
       obtain ⟨c1, c2⟩ := qdu b1 ⟨hn.1, hn.2.1⟩ (a4.mono b5) b4
       exact ⟨c1, b2.mono hg.1, b3.put hg.1 c2, c2, by simp only; omega⟩
structure ChgE (wn : Int → Bool) (dof : Is → Int → Int → Option (Is × Int)) (B p m mc : Nat) (S : Nat → Prop) (Pre : World → List (Nd × Int) → Prop) (Fw Fd : FuncId) (cw cd : Array Value) : Prop where
 ew : ∀ (args : Array Value) (W : World), (callFunc Fw args).run Tryz.prog W = .ok (.enter Fw args) W
 ed : ∀ (args : Array Value) (W : World), (callFunc Fd args).run Tryz.prog W = .ok (.enter Fd args) W
 hw : ∀ (v : Int) (W : World) (M : List (Nd × Int)), Pre W M → Calls Tryz.prog Fw (#[.int .i64 v] ++ cw) W fun e W' => e = .returned (.bool (wn v)) ∧ qad W W'
 hd : ∀ (a : Option Addr) (cap : Nat) (s : Is) (l h : Int) (s' : Is) (r : Int) (W : World), qah W B p m a cap s.1 → Pre W s.2 → VNd s.1 → VM s.1 s.2 → qaH s.1 l → qaH s.1 h → dof s l h = some (s', r) → s'.1.length ≤ 90000000 →
  Calls Tryz.prog Fd (#[.int .i64 l, .int .i64 h] ++ cd) W fun e W' => e = .returned (.int .i64 r) ∧ ∃ a' cap', qah W' B p m a' cap' s'.1 ∧ Pre W' s'.2 ∧ qaK (fun i => BB p m i ∨ S i) W W' (.slice a s.1.length cap) (.slice a' s'.1.length cap')
 pre : ∀ (W W' : World) (M : List (Nd × Int)) (a : Option Addr) (cap : Nat) (N : List Nd), Pre W M → qah W B p m a cap N → Fr (fun i => (Value.slice a N.length cap).ownBlock = some i ∨ BB p m i ∨ i = mc) W W' → Pre W' M
 val : qms dof
 sl : ∀ i, S i → i < mc
 ne : m < mc ∧ p < mc
def CRet (w : World) (B p m mc : Nat) (S : Nat → Prop) (Pre : World → List (Nd × Int) → Prop) (a : Option Addr) (cap : Nat) (N : List Nd) (s' : Cs) (k : Int) (e : Ending) (w' : World) : Prop :=
 e = .returned (.int .i64 k) ∧ ∃ a' cap', qah w' B p m a' cap' s'.1.1 ∧ Pre w' s'.1.2 ∧ mI w' mc s'.2 ∧ qaK (fun i => BB p m i ∨ S i ∨ i = mc) w w' (.slice a N.length cap) (.slice a' s'.1.1.length cap')
section
variable {wn : Int → Bool} {dof : Is → Int → Int → Option (Is × Int)} {B p m mc : Nat} {S : Nat → Prop} {Pre : World → List (Nd × Int) → Prop} {Fw Fd : FuncId} {cw cd : Array Value}
theorem ChgE.same (E : ChgE wn dof B p m mc S Pre Fw Fd cw cd) {W W' : World} {M : List (Nd × Int)} {a : Option Addr} {cap : Nat} {N : List Nd} (h : Pre W M) (hB : qah W B p m a cap N) (hs : qad W W') : Pre W' M :=
 E.pre W W' M a cap N h hB (hs.mono (fun _ _ f => f.elim))
theorem qmt (E : ChgE wn dof B p m mc S Pre Fw Fd cw cd) {w W w' : World} {a : Option Addr} {cap : Nat} {N : List Nd} {v' : Value} (hB : qah w B p m a cap N) (hmc : mc < w.heap.size)
 (hG : qaK (fun i => BB p m i ∨ S i ∨ i = mc) W w' (.slice a N.length cap) v') {k : Nat} {o : Obj} (hk : W.heap[k]? = some o) (hge : w.heap.size ≤ k) : w'.heap[k]? = some o := by
 refine hG.1.at hk ?_
 rintro (h | h | h | h)
 · obtain ⟨c, hc⟩ := qaj hB.own h
   have := gu hc; omega
 · rcases h with h | h
   · have := E.ne.2; omega
   · have := E.ne.1; omega
 · have := E.sl _ h; omega
 · omega
theorem qmu (E : ChgE wn dof B p m mc S Pre Fw Fd cw cd) {w w' : World} {a : Option Addr} {cap : Nat} {N : List Nd} {v' : Value} {T : Nat → Prop} {C : List (Int × Int)} (hB : qah w B p m a cap N) (hC : mI w mc C)
 (hG : qaK (fun i => BB p m i ∨ T i) w w' (.slice a N.length cap) v') (hT : ∀ i, T i → i < mc) : mI w' mc C := by
 refine hC.of_block (hG.1.block _ hC.lt ?_)
 rintro (h | h | h)
 · obtain ⟨c, hc⟩ := qaj hB.own h
   exact qat hC hc rfl
 · rcases h with h | h
   · have := E.ne.2; omega
   · have := E.ne.1; omega
 · have := hT _ h; omega
theorem qmv (E : ChgE wn dof B p m mc S Pre Fw Fd cw cd) {w : World} {a : Option Addr} {cap : Nat} {N : List Nd} {C C' : List (Int × Int)} {M : List (Nd × Int)} {ob : Obj} (hB : qah w B p m a cap N) (hP : Pre w M) (hC : mI w mc C) :
 qah (setObj w mc ob) B p m a cap N ∧ Pre (setObj w mc ob) M ∧ qaK (fun i => BB p m i ∨ S i ∨ i = mc) w (setObj w mc ob) (.slice a N.length cap) (.slice a N.length cap) := by
 have hf : Fr (fun i => i = mc) w (setObj w mc ob) := (Fr.refl _ _).setObj mc ob (fun _ => rfl)
 refine ⟨hB.fr hf (by have := E.ne.2; omega) (by have := E.ne.1; omega) (fun k hk hh => ?_), E.pre _ _ M a cap N hP hB (hf.mono (fun i _ h => .inr (.inr h))), ⟨hf.mono (fun i _ h => .inr (.inr (.inr h))), fun _ h => .inl h⟩⟩
 obtain ⟨c, hc⟩ := qaj hB.own hk
 exact qat hC hc hh.symm
theorem qgJ (E : ChgE wn dof B p m mc S Pre Fw Fd cw cd) (fuel : Nat) : ∀ (a : Option Addr) (cap : Nat) (s : Cs) (k : Int) (s' : Cs) (r : Int) (w : World), qah w B p m a cap s.1.1 → Pre w s.1.2 → mI w mc s.2 →
 VNd s.1.1 → VM s.1.1 s.1.2 → VM s.1.1 s.2 → qaH s.1.1 k → qa8 wn dof fuel s k = some (s', r) → s'.1.1.length ≤ 90000000 →
 Calls Tryz.prog 147 #[.pointer (some ⟨p, 0, none⟩), .int .i64 k, .func (.func Fw) #[] cw, .func (.func Fd) #[] cd, .map (some mc)] w (CRet w B p m mc S Pre a cap s.1.1 s' r) := by
 induction fuel with
 | zero => intro a cap s k s' r w _ _ _ _ _ _ _ he; simp [qa8] at he
 | succ fuel ih =>
  intro a cap s k s' r w hB hP hC hN hVM hVC hk he hlen
  have ew := E.ew
  have ed := E.ed
  obtain ⟨⟨N, M⟩, C⟩ := s
  simp only at hB hP hC hN hVM hVC hk ⊢
  by_cases h2 : k < 2
  · rw [qa8, if_pos h2] at he
    simp only [Option.some.injEq, Prod.mk.injEq] at he
    obtain ⟨rfl, rfl⟩ := he
    replace hB := gi hB
    replace hP := gi hP
    replace hC := gi hC
    clear ih hN hVM hVC hk
    go_enter Tryz.func147, Tryz.ntmps147
    go_wp2_with fail
    go_ret
    exact ⟨rfl, a, cap, hB.out, hP.out, hC.out, qaK.refl _ _ _⟩
  · have h2' : 2 ≤ k := by omega
    cases hm : qa0 C k with
    | some u =>
     rw [qa8, if_neg h2] at he
     simp only [hm, Option.some.injEq, Prod.mk.injEq] at he
     obtain ⟨rfl, rfl⟩ := he
     have hl := qa6 qi3 ql5 hC hm true
     simp only [if_true] at hl
     replace hB := gi hB
     replace hP := gi hP
     replace hC := gi hC
     clear ih hN hVM hVC hk hm
     go_enter Tryz.func147, Tryz.ntmps147
     go_wp2_with fail
     go_ret
     exact ⟨rfl, a, cap, hB.out, hP.out, hC.out, qaK.refl _ _ _⟩
    | none =>
     have hn := qa7 hN h2' hk.2
     obtain ⟨s1, low, s2, high, e1, e2, hq⟩ := qgI h2 hm he
     simp only at e1 e2 hq
     obtain ⟨a1, a2, a3, a4, a5⟩ := qd8 E.val _ _ _ _ _ e1 hN hVM hVC hn.2.2.1
     obtain ⟨b1, b2, b3, b4, b5⟩ := qd8 E.val _ _ _ _ _ e2 a1 a2 a3 (hn.2.2.2.1.mono a5)
     simp only at a5
     have hlen2 : s2.1.1.length ≤ s'.1.1.length := by
      rcases hq with ⟨_, s3, r', e3, hq⟩ | ⟨_, hq⟩
      · simp only [Prod.mk.injEq] at hq
        obtain ⟨rfl, rfl⟩ := hq
        exact (E.val _ _ _ _ _ e3 b1 b2 (a4.mono b5) b4).2.2.2
      · simp only [Prod.mk.injEq] at hq
        obtain ⟨rfl, rfl⟩ := hq
        exact (qbX _ _).1
     have hmc := hC.lt
     have hpp := gu hB.blk
     have hl := qbo qi3 ql5 hC hm (qi4 w) true
     simp only [if_true] at hl
     have v2 : w.cell? ⟨p, 0, none⟩ = some (.slice a N.length cap) := gn hB.blk 0
     obtain ⟨b, off, ha, hbl, n0, n1, n2⟩ := hB.node h2' hk.2
     subst ha
     have F1 : ∀ W, qad w W → _ := fun W hW => ih _ cap ((N, M), C) (qao N k).2.1 s1 low W (hB.same hW) (E.same hP hB hW) (hC.of_block (hW.block _ hC.lt id)) hN hVM hVC hn.2.2.1 e1 (by omega)
     have F2 := fun a' cap' W h1 h2 h3 => ih a' cap' s1 (qao N k).2.2 s2 high W h1 h2 h3 a1 a2 a3 (hn.2.2.2.1.mono a5) e2 (by omega)
     obtain ⟨⟨nv, nl, nh⟩, hnd⟩ : ∃ x, qao N k = x := ⟨_, rfl⟩
     rw [hnd] at n0 n1 n2 F1 F2 hn hq
     simp only at n0 n1 n2 F1 F2 hn hq
     have HW := fun W M hP' => E.hw nv W M hP'
     have HD := fun a' cap' W r' s3 h1 h2 e3 hl => E.hd a' cap' s2.1 low high s3 r' W h1 h2 b1 b2 (a4.mono b5) b4 e3 hl
     have hltl := hn.2.2.1.2
     have q1 := hk.1
     have q2 := hk.2
     replace F1 := gi F1
     replace F2 := gi F2
     replace hB := gi hB
     replace hP := gi hP
     replace hC := gi hC
     replace HW := gi HW
     replace HD := gi HD
     clear ih hm hN hVM hVC hk he hnd a1 a2 a3 b1 b2 b3 e1 e2
     go_enter Tryz.func147, Tryz.ntmps147
     go_wp2_with fail
     refine (F1.out _ fs1).mono ?_
     rintro e w1 ⟨rfl, a1, cap1, hB1, hP1, hC1, hG1⟩
     have k1 := qmt E hB.out hmc hG1 (qae (k := w.heap.size) (by simp) _) (Nat.le_refl _)
     have o1 : ∀ i, (Value.slice a1 s1.1.1.length cap1).ownBlock = some i → i ≠ w.heap.size := by
      intro i hi
      rcases hG1.2 i hi with h | h
      · obtain ⟨c, hc⟩ := qaj hB.out.own h
        have := gu hc; omega
      · simp at h; omega
     have g1 : qaK (fun i => BB p m i ∨ S i ∨ i = mc) w w1 (.slice (some ⟨b, off, none⟩) N.length cap) (.slice a1 s1.1.1.length cap1) := (qaK.of_same _ fs1).trans hG1
     obtain ⟨x0, x1, x2, xb⟩ := g3l k1
     replace hB1 := gi hB1; replace hP1 := gi hP1; replace hC1 := gi hC1; replace k1 := gi k1; replace o1 := gi o1; replace g1 := gi g1
     clear hG1 F1 hl
     go_wp2_with fail
     refine (F2.out a1 cap1 _ hB1.out hP1.out hC1.out).mono ?_
     rintro e w2 ⟨rfl, a2, cap2, hB2, hP2, hC2, hG2⟩
     have k2 : w2.heap[w.heap.size]? = some (.cells #[.int .i64 nv, .int .i64 nl, .int .i64 nh] 132 (0, 0)) := by
      refine hG2.1.at k1.out ?_
      rintro (h | h | h | h)
      · exact o1.out _ h rfl
      · rcases h with h | h
        · have := E.ne.2; omega
        · have := E.ne.1; omega
      · have := E.sl _ h; omega
      · omega
     have g2 := g1.out.trans hG2
     clear x0 x1 x2 xb
     obtain ⟨x0, x1, x2, xb⟩ := g3l k2
     replace hB2 := gi hB2; replace hP2 := gi hP2; replace hC2 := gi hC2; replace k2 := gi k2; replace g2 := gi g2
     clear hG2 F2
     go_wp2_with fail
     refine (HW.out _ _ hP2.out).mono ?_
     rintro e w3 ⟨rfl, hs3⟩
     have k3 := hs3.at k2.out id
     have hB3 := hB2.out.same hs3
     have hP3 := E.same hP2.out hB2.out hs3
     have hC3 := hC2.out.of_block (hs3.block _ hC2.out.lt id)
     have g3 := g2.out.trans (qaK.of_same _ hs3)
     clear x0 x1 x2 xb
     obtain ⟨x0, x1, x2, xb⟩ := g3l k3
     replace hs3 := gi hs3; replace k3 := gi k3; replace hB3 := gi hB3; replace hP3 := gi hP3; replace hC3 := gi hC3; replace g3 := gi g3
     clear hB2 hP2 hC2 k2 g2 HW
     rcases hq with ⟨hwn, s3, r', e3, hq⟩ | ⟨hwn, hq⟩
     · simp only [Prod.mk.injEq] at hq
       obtain ⟨rfl, rfl⟩ := hq
       have HD' := HD.out a2 cap2 w3 r s3 hB3.out hP3.out e3 (by simpa using hlen)
       replace HD' := gi HD'; replace e3 := gi e3; replace hlen := gi hlen; replace hlen2 := gi hlen2
       clear HD
       go_wp2_with fail
       refine HD'.out.mono ?_
       rintro e w4 ⟨rfl, a4, cap4, hB4, hP4, hG4⟩
       have hC4 := qmu E hB3.out hC3.out hG4 E.sl
       have g4 := g3.out.trans ((show qaK (fun i => BB p m i ∨ S i ∨ i = mc) w3 w4 _ _ from ⟨hG4.1.mono (fun i _ h => h.imp id (fun h => h.imp id .inl)), hG4.2⟩))
       replace hB4 := gi hB4; replace hP4 := gi hP4; replace hC4 := gi hC4; replace g4 := gi g4
       clear hG4 HD' x0 x1 x2 xb
       go_wp2_with (at_mapUpdate; refine qbp rfl (.tmp 53) (.tmp 54) (.tmp 58) rfl qi3 ql5 mc s2.2 rfl hC4.out k rfl r rfl ?_; intro ob hob; have hl := qa6 qi3 ql5 hob (qa3 s2.2 k r) false; have hp := qmv E (C' := []) (ob := ob) hB4.out hP4.out hC4.out; replace hp := gi hp; replace hob := gi hob)
       go_ret
       exact ⟨rfl, a4, cap4, hp.out.1, hp.out.2.1, hob.out, g4.out.trans hp.out.2.2⟩
     · simp only [Prod.mk.injEq] at hq
       obtain ⟨rfl, rfl⟩ := hq
       have hlen3 : s2.1.1.length ≤ 90000000 := Nat.le_trans hlen2 hlen
       replace hlen := gi hlen; replace hlen2 := gi hlen2
       clear HD
       go_wp2_with fail
       refine (qeC (fun _ => False) B p m a2 cap2 s2.1.1 nv low high _ hB3.out hlen3).mono ?_
       rintro e w4 ⟨rfl, a4, cap4, hB4, hG4⟩
       have hC4 := qmu E hB3.out hC3.out hG4 (fun _ h => h.elim)
       have hP4 := E.pre w3 w4 s2.1.2 a2 cap2 s2.1.1 hP3.out hB3.out (hG4.1.mono (fun i _ h => h.imp id (fun h => .inl (h.resolve_right id))))
       have g4 := g3.out.trans ((show qaK (fun i => BB p m i ∨ S i ∨ i = mc) w3 w4 _ _ from ⟨hG4.1.mono (fun i _ h => h.imp id (fun h => h.imp id (fun h => h.elim))), hG4.2⟩))
       replace hB4 := gi hB4; replace hP4 := gi hP4; replace hC4 := gi hC4; replace g4 := gi g4
       clear hG4 x0 x1 x2 xb
       obtain ⟨r, hr⟩ : ∃ r, r = (qa2 s2.1.1 (nv, low, high)).2 := ⟨_, rfl⟩
       rw [← hr]
       replace hr := gi hr
       go_wp2_with (at_mapUpdate; refine qbp rfl (.tmp 59) (.tmp 60) (.tmp 67) rfl qi3 ql5 mc s2.2 rfl hC4.out k rfl r rfl ?_; intro ob hob; have hl := qa6 qi3 ql5 hob (qa3 s2.2 k r) false; have hp := qmv E (C' := []) (ob := ob) hB4.out hP4.out hC4.out; replace hp := gi hp; replace hob := gi hob)
       go_ret
       obtain rfl := hr.out
       exact ⟨rfl, a4, cap4, hp.out.1, hp.out.2.1, hob.out, g4.out.trans hp.out.2.2⟩
end
end Go.Proofs.YticcpnekjddanaaGreatDoor
