/- checkNode of a node that passes; count; slices.Equal and Equal. The builder: finish, its closure visit. -/
import Derived.Test.YtmmjijmmocabhaaJTable
import Derived.Maps.OwnOps
import Derived.Deep.Cut
import Derived.Laws.EntriesVeiled
import Derived.Deep.QuietTactic
import Derived.BigQuiet
namespace Go.Proofs.Ytmmjijmmocabhaa
open Go.RowKit
set_option linter.unusedVariables false
set_option linter.unusedSimpArgs false

abbrev mI (w : World) (m : Nat) (M : List (Int × Int)) : Prop := MapAt (Value.int .i64) (Value.int .i64) w m M

def fnVisit (bn bb bv bo : Nat) : Value := .func (.func 77) #[] #[.pointer (some ⟨bn, 0, none⟩), .pointer (some ⟨bb, 0, none⟩), .pointer (some ⟨bv, 0, none⟩), .pointer (some ⟨bo, 0, none⟩)]

/-- What the closure of finish captures. -/
structure VisAt (w : World) (H B p m : Nat) (a : Option Addr) (cap : Nat) (N : List Nd) (bn bb bv bo mm : Nat) (n r : Int) (ao : Option Addr) (co : Nat) (O : List Nd) (M : List (Int × Int)) : Prop where
  bld : BuilderAt w B p m a cap N
  low : p < H ∧ m < H ∧ ∀ k, (Value.slice a N.length cap).ownBlock = some k → k < H
  num : w.heap[bn]? = some (.cells #[.map (some mm)] 125 (0, 0))
  var : w.heap[bb]? = some (.cells #[.pointer (some ⟨p, 0, none⟩)] 88 (0, 0))
  fn : w.heap[bv]? = some (.cells #[fnVisit bn bb bv bo] 126 (0, 0))
  out : w.heap[bo]? = some (.cells #[.int .i64 n, .slice ao O.length co, .int .i64 r] 45 (0, 0))
  row : w.ownsRow H 94 3 (.slice ao O.length co) O.length (ndCells O)
  map : mI w mm M
  ge : H ≤ bo ∧ H ≤ mm

def SV (bo mm : Nat) : Nat → Prop := fun k => k = bo ∨ k = mm

/-- What is below H is kept by visit. -/
theorem visit_keeps {w w' : World} {H B p m : Nat} {a : Option Addr} {cap : Nat} {N : List Nd} {bn bb bv bo mm : Nat} {n r : Int} {ao : Option Addr} {co : Nat} {O : List Nd} {M : List (Int × Int)} {v' : Value}
    (h : VisAt w H B p m a cap N bn bb bv bo mm n r ao co O M) (hg : Grew (SV bo mm) w w' (.slice ao O.length co) v') : BuilderAt w' B p m a cap N := by
  have hrow : ∀ k, (Value.slice ao O.length co).ownBlock = some k → H ≤ k := fun k hk => (h.row.lt k hk).1
  have hno : ∀ k, k < H → ¬ ((Value.slice ao O.length co).ownBlock = some k ∨ SV bo mm k) := by
    rintro k hk (h' | h' | h')
    · have := hrow k h'; omega
    · have := h.ge.1; omega
    · have := h.ge.2; omega
  exact h.bld.fr hg.1 (hno _ h.low.1) (hno _ h.low.2.1) (fun k hk => hno k (h.low.2.2 k hk))

/-- A block of cells of another type than out's and a node's is kept by visit. -/
theorem visit_block {w w' : World} {H B p m : Nat} {a : Option Addr} {cap : Nat} {N : List Nd} {bn bb bv bo mm : Nat} {n r : Int} {ao : Option Addr} {co : Nat} {O : List Nd} {M : List (Int × Int)} {v' : Value}
    (h : VisAt w H B p m a cap N bn bb bv bo mm n r ao co O M) (hg : Grew (SV bo mm) w w' (.slice ao O.length co) v') {k : Nat} {cur : Array Value} {T : TypeId} {fr : Nat × Nat} (hk : w.heap[k]? = some (.cells cur T fr)) (h1 : T ≠ 94) (h2 : T ≠ 45) :
    w'.heap[k]? = some (.cells cur T fr) := by
  refine hg.1.at hk ?_
  rintro (h' | h' | h')
  · obtain ⟨c, hc⟩ := own_block h.row h'
    rw [hk] at hc; simp at hc; exact h1 hc.2.1
  · subst h'
    have := h.out
    rw [hk] at this; simp at this; exact h2 this.2.1
  · subst h'
    exact map_ne_cells h.map hk rfl

/-- A block that is newer than what visit works on is kept. -/
theorem visit_fresh {w W w' : World} {H B p m : Nat} {a : Option Addr} {cap : Nat} {N : List Nd} {bn bb bv bo mm : Nat} {n r : Int} {ao : Option Addr} {co : Nat} {O : List Nd} {M : List (Int × Int)} {v' : Value}
    (h : VisAt w H B p m a cap N bn bb bv bo mm n r ao co O M) (hg : Grew (SV bo mm) W w' (.slice ao O.length co) v') {k : Nat} {o : Obj} (hk : W.heap[k]? = some o) (hkw : w.heap.size ≤ k) : w'.heap[k]? = some o := by
  refine hg.1.at hk ?_
  rintro (h' | h' | h')
  · obtain ⟨c, hc⟩ := own_block h.row h'
    have := lt_of_heap hc
    omega
  · have := lt_of_heap h.out; omega
  · have := h.map.lt; omega

theorem VisAt.same {w w' : World} {H B p m : Nat} {a : Option Addr} {cap : Nat} {N : List Nd} {bn bb bv bo mm : Nat} {n r : Int} {ao : Option Addr} {co : Nat} {O : List Nd} {M : List (Int × Int)}
    (h : VisAt w H B p m a cap N bn bb bv bo mm n r ao co O M) (hs : Same w w') : VisAt w' H B p m a cap N bn bb bv bo mm n r ao co O M :=
  ⟨h.bld.same hs, h.low, hs.at h.num id, hs.at h.var id, hs.at h.fn id, hs.at h.out id, owns_same h.row hs, h.map.of_block (hs.block _ h.map.lt id), h.ge⟩

theorem visitF_grows (N : List Nd) : ∀ (f : Nat) (s s' : Vs) (k n : Int), visitF N f s k = some (s', n) → s.1.length ≤ s'.1.length := by
  intro f
  induction f with
  | zero => intro s s' k n h; simp [visitF] at h
  | succ f ih =>
    intro s s' k n h
    unfold visitF at h
    split at h
    · simp only [Option.some.injEq, Prod.mk.injEq] at h
      rw [← h.1]; exact Nat.le_refl _
    · split at h
      · cases h
      · rename_i s1 low h1
        split at h
        · cases h
        · rename_i s2 high h2
          simp only [Option.some.injEq, Prod.mk.injEq] at h
          have := ih _ _ _ _ h1
          have := ih _ _ _ _ h2
          rw [← h.1]
          simp
          omega

theorem visit_stored {w w1 : World} {H B p m : Nat} {a : Option Addr} {cap : Nat} {N : List Nd} {bn bb bv bo mm : Nat} {n r : Int} {ao ao' : Option Addr} {co co' : Nat} {O : List Nd} {M : List (Int × Int)} {x : Nd} {W : World}
    (h : VisAt w H B p m a cap N bn bb bv bo mm n r ao co O M) (hs : Same w W) (hown : w1.ownsRow H 94 3 (.slice ao' (O.length + 1) co') (O.length + 1) (ndCells O ++ [.int .i64 x.1, .int .i64 x.2.1, .int .i64 x.2.2]))
    (hg : Grew (fun _ => False) W w1 (.slice ao O.length co) (.slice ao' (O.length + 1) co')) :
    VisAt (w1.setCell ⟨bo, 1, none⟩ (.slice ao' (O.length + 1) co')) H B p m a cap N bn bb bv bo mm n r ao' co' (O ++ [x]) M ∧ Grew (SV bo mm) w (w1.setCell ⟨bo, 1, none⟩ (.slice ao' (O.length + 1) co')) (.slice ao O.length co) (.slice ao' (O ++ [x]).length co') := by
  have hgw : Grew (SV bo mm) w w1 (.slice ao O.length co) (.slice ao' (O.length + 1) co') :=
    (Grew.of_same _ hs).trans ⟨hg.1.mono (fun i _ h' => h'.imp id False.elim), hg.2⟩
  have hw1 : ∀ k, (¬ (Value.slice ao O.length co).ownBlock = some k) → k < w.heap.size → w1.heap[k]? = w.heap[k]? := fun k hk hl => by
    rw [hg.1.block k (Nat.lt_of_lt_of_le hl hs.size) (fun h' => h'.elim hk id), hs.block k hl id]
  have notrow : ∀ {k : Nat} {cur : Array Value} {T : TypeId} {fr : Nat × Nat}, w.heap[k]? = some (.cells cur T fr) → T ≠ 94 → w1.heap[k]? = some (.cells cur T fr) := by
    intro k cur T fr hk hT
    rw [hw1 k (fun h' => ?_) (lt_of_heap hk)]; · exact hk
    obtain ⟨c, hc⟩ := own_block h.row h'
    rw [hk] at hc; simp at hc; exact hT hc.2.1
  have hbo := notrow h.out (by decide)
  have hf : Fr (fun k => k = bo) w1 (w1.setCell ⟨bo, 1, none⟩ (.slice ao' (O.length + 1) co')) := (Fr.refl _ _).setCell _ _ (fun _ => rfl)
  have keep : ∀ {k : Nat} {cur : Array Value} {T : TypeId} {fr : Nat × Nat}, w.heap[k]? = some (.cells cur T fr) → T ≠ 94 → T ≠ 45 → (w1.setCell ⟨bo, 1, none⟩ (.slice ao' (O.length + 1) co')).heap[k]? = some (.cells cur T fr) := by
    intro k cur T fr hk h1 h2
    refine hf.at (notrow hk h1) (fun e => ?_)
    subst e
    have := h.out
    rw [hk] at this; simp at this; exact h2 this.2.1
  have hgrow : Grew (SV bo mm) w (w1.setCell ⟨bo, 1, none⟩ (.slice ao' (O.length + 1) co')) (.slice ao O.length co) (.slice ao' (O ++ [x]).length co') :=
    ⟨hgw.1.setCell _ _ (fun _ => .inr (.inl rfl)), by simpa using hgw.2⟩
  have hmap : mm ≠ bo := map_ne_cells h.map h.out
  refine ⟨⟨visit_keeps h hgrow, h.low, keep h.num (by decide) (by decide), keep h.var (by decide) (by decide), keep h.fn (by decide) (by decide), ?_, ?_, ?_, h.ge⟩, hgrow⟩
  · rw [heap_setCell_same hbo]; simp
  · rw [ndCells_append, show ndCells [x] = [.int .i64 x.1, .int .i64 x.2.1, .int .i64 x.2.2] from rfl]
    have := owns_fr hown hf (fun k hk e => by
      subst e
      obtain ⟨c, hc⟩ := own_block hown hk
      rw [hbo] at hc; simp at hc)
    simpa using this
  · refine h.map.of_block ?_
    rw [heap_setCell_other hmap, hw1 mm (fun h' => ?_) h.map.lt]
    obtain ⟨c, hc⟩ := own_block h.row h'
    exact map_ne_cells h.map hc rfl

/-- The block of out behind the append. -/
theorem visit_out {w W w1 : World} {H B p m : Nat} {a : Option Addr} {cap : Nat} {N : List Nd} {bn bb bv bo mm : Nat} {n r : Int} {ao : Option Addr} {co : Nat} {O : List Nd} {M : List (Int × Int)} {v' : Value}
    (h : VisAt w H B p m a cap N bn bb bv bo mm n r ao co O M) (hs : Same w W) (hg : Grew (fun _ => False) W w1 (.slice ao O.length co) v') : w1.heap[bo]? = some (.cells #[.int .i64 n, .slice ao O.length co, .int .i64 r] 45 (0, 0)) := by
  refine hg.1.at (hs.at h.out id) ?_
  rintro (h' | h')
  · obtain ⟨c, hc⟩ := own_block h.row h'
    have := h.out
    rw [hc] at this; simp at this
  · exact h'

theorem visit_put {w : World} {H B p m : Nat} {a : Option Addr} {cap : Nat} {N : List Nd} {bn bb bv bo mm : Nat} {n r : Int} {ao : Option Addr} {co : Nat} {O : List Nd} {M M' : List (Int × Int)} {ob : Obj}
    (h : VisAt w H B p m a cap N bn bb bv bo mm n r ao co O M) (hob : mI (setObj w mm ob) mm M') :
    VisAt (setObj w mm ob) H B p m a cap N bn bb bv bo mm n r ao co O M' ∧ Grew (SV bo mm) w (setObj w mm ob) (.slice ao O.length co) (.slice ao O.length co) := by
  have hf : Fr (fun k => k = mm) w (setObj w mm ob) := (Fr.refl _ _).setObj _ _ (fun _ => rfl)
  have hgrow : Grew (SV bo mm) w (setObj w mm ob) (.slice ao O.length co) (.slice ao O.length co) := ⟨hf.mono (fun i _ e => .inr (.inr e)), fun k hk => .inl hk⟩
  have ne : ∀ {k : Nat} {cur : Array Value} {T : TypeId} {fr : Nat × Nat}, w.heap[k]? = some (.cells cur T fr) → ¬ k = mm := fun hk e => map_ne_cells h.map hk e.symm
  refine ⟨⟨visit_keeps h hgrow, h.low, hf.at h.num (ne h.num), hf.at h.var (ne h.var), hf.at h.fn (ne h.fn), hf.at h.out (ne h.out), owns_fr h.row hf (fun k hk => ?_), hob, h.ge⟩, hgrow⟩
  obtain ⟨c, hc⟩ := own_block h.row hk
  exact ne hc

theorem visitF_keeps (N : List Nd) : ∀ (f : Nat) (s s' : Vs) (k n j : Int), visitF N f s k = some (s', n) → mget s.2 j ≠ none → mget s'.2 j ≠ none := by
  intro f
  induction f with
  | zero => intro s s' k n j h; simp [visitF] at h
  | succ f ih =>
    intro s s' k n j h hj
    unfold visitF at h
    split at h
    · simp only [Option.some.injEq, Prod.mk.injEq] at h
      rw [← h.1]; exact hj
    · split at h
      · cases h
      · rename_i s1 low h1
        split at h
        · cases h
        · rename_i s2 high h2
          simp only [Option.some.injEq, Prod.mk.injEq] at h
          have a1 := ih _ _ _ _ j h1 hj
          have a2 := ih _ _ _ _ j h2 a1
          rw [← h.1]
          by_cases hjk : j = k
          · subst hjk; simp [mget_put_same]
          · rw [mget_put_other _ _ _ _ hjk]; exact a2

set_option maxRecDepth 100000 in
set_option maxHeartbeats 2000000 in
theorem visit_any (H B p m : Nat) (a : Option Addr) (cap : Nat) (N : List Nd) (bn bb bv bo mm : Nat) (n r : Int) (hv : Laid N) (hN : N.length ≤ 100000) (fuel : Nat) :
    ∀ (k : Int) (ao : Option Addr) (co : Nat) (O : List Nd) (M : List (Int × Int)) (s' : Vs) (kn : Int) (w : World), VisAt w H B p m a cap N bn bb bv bo mm n r ao co O M → visitF N fuel (O, M) k = some (s', kn) →
      0 ≤ k → k < N.length + 2 → mget M 0 ≠ none → mget M 1 ≠ none → s'.1.length ≤ 100000 →
    Calls Try.prog 77 #[.int .i64 k, .pointer (some ⟨bn, 0, none⟩), .pointer (some ⟨bb, 0, none⟩), .pointer (some ⟨bv, 0, none⟩), .pointer (some ⟨bo, 0, none⟩)] w
      fun e w' => e = .returned (.int .i64 kn) ∧ ∃ ao' co', VisAt w' H B p m a cap N bn bb bv bo mm n r ao' co' s'.1 s'.2 ∧ Grew (SV bo mm) w w' (.slice ao O.length co) (.slice ao' s'.1.length co') := by
  induction fuel with
  | zero => intro k ao co O M s' kn w _ h; simp [visitF] at h
  | succ fuel ih =>
    intro k ao co O M s' kn w hV hvis hk0 hk hm0 hm1 hlen
    have v0 : w.cell? ⟨bn, 0, none⟩ = some (.map (some mm)) := cell_at hV.num 0
    unfold visitF at hvis
    simp only at hvis
    cases hmg : mget M k with
    | some u =>
      simp only [hmg, Option.some.injEq, Prod.mk.injEq] at hvis
      obtain ⟨rfl, rfl⟩ := hvis
      have hl := lookup_hit keyI mapI hV.map hmg true
      simp only [if_true] at hl
      replace hV := Lib.hid hV
      clear ih hv hm0 hm1 hmg
      go_enter Try.func77, Try.ntmps77
      go_wp2_with fail
      go_ret
      exact ⟨rfl, ao, co, hV.out, Grew.refl _ _ _⟩
    | none =>
      simp only [hmg] at hvis
      have hk2 : 2 ≤ k := by
        rcases Int.lt_or_le k 2 with h | h
        · rcases (show k = 0 ∨ k = 1 by omega) with h' | h'
          · rw [h'] at hmg; exact absurd hmg hm0
          · rw [h'] at hmg; exact absurd hmg hm1
        · exact h
      have hlt : (k - 2).toNat < N.length := by omega
      have hb := hv (k - 2).toNat (nodeF N k) (by simp [nodeF, hlt])
      have hl := lookup_miss keyI mapI hV.map hmg (zeroI w) true
      simp only [if_true] at hl
      have v1 : w.cell? ⟨bb, 0, none⟩ = some (.pointer (some ⟨p, 0, none⟩)) := cell_at hV.var 0
      have v2 : w.cell? ⟨p, 0, none⟩ = some (.slice a N.length cap) := cell_at hV.bld.blk 0
      have v3 : w.cell? ⟨bv, 0, none⟩ = some (fnVisit bn bb bv bo) := cell_at hV.fn 0
      unfold fnVisit at v3
      obtain ⟨b, off, ha, hbl, n0, n1, n2⟩ := hV.bld.node hk2 hk
      subst ha
      split at hvis
      · cases hvis
      rename_i s1 low h1
      split at hvis
      · cases hvis
      rename_i s2 high h2
      simp only [Option.some.injEq, Prod.mk.injEq] at hvis
      obtain ⟨rfl, rfl⟩ := hvis
      have hg1 := visitF_grows N _ _ _ _ _ h1
      have hg2 := visitF_grows N _ _ _ _ _ h2
      have hlen' : s2.1.length + 1 ≤ 100000 := by simpa using hlen
      have F1 : ∀ W, Same w W → _ := fun W hW => ih (nodeF N k).2.1 ao co O M s1 low W (hV.same hW) h1 (by omega) (by omega) hm0 hm1 (by omega)
      have F2 := fun ao1 co1 W hW => ih (nodeF N k).2.2 ao1 co1 s1.1 s1.2 s2 high W hW h2 (by omega) (by omega) (visitF_keeps N _ _ _ _ _ 0 h1 hm0) (visitF_keeps N _ _ _ _ _ 1 h1 hm1) (by omega)
      obtain ⟨⟨nv, nl, nh⟩, hnd⟩ : ∃ x, nodeF N k = x := ⟨_, rfl⟩
      rw [hnd] at n0 n1 n2 F1 F2 hb
      rw [hnd]
      simp only at n0 n1 n2 F1 F2 hb
      have hbn := lt_of_heap hV.num
      have hbv := lt_of_heap hV.fn
      have hbb := lt_of_heap hV.var
      have hpp := lt_of_heap hV.bld.blk
      replace F1 := Lib.hid F1
      replace F2 := Lib.hid F2
      replace hV := Lib.hid hV
      clear ih hv hm0 hm1 hmg h1 h2
      go_enter Try.func77, Try.ntmps77
      have hb80 : ∀ W : World, W.heap[w.heap.size]? = some (.cells #[.int .i64 nv, .int .i64 nl, .int .i64 nh] 94 (0, 0)) → W.cell? ⟨w.heap.size, 0, none⟩ = some (.int .i64 nv) ∧ W.cell? ⟨w.heap.size, 1, none⟩ = some (.int .i64 nl) ∧ W.cell? ⟨w.heap.size, 2, none⟩ = some (.int .i64 nh) := fun W hW => ⟨cell_at hW 0, cell_at hW 1, cell_at hW 2⟩
      replace hb80 := Lib.hid hb80
      obtain ⟨i0, hi, hz0, hz1, hz2⟩ := info_parts info94
      go_wp2_with fail
      refine (F1.out _ (by repeat (first | exact Fr.refl _ _ | apply Fr.alloc | apply Fr.drewN | apply Fr.drew))).mono ?_
      rintro e w1 ⟨rfl, ao1, co1, hV1, hG1⟩
      have hbox := visit_fresh hV.out hG1 (heap_new_at (k := w.heap.size) (by simp) _) (Nat.le_refl _)
      obtain ⟨x0, x1, x2⟩ := hb80.out _ hbox
      have y3 : w1.cell? ⟨bv, 0, none⟩ = some (fnVisit bn bb bv bo) := cell_at hV1.fn 0
      unfold fnVisit at y3
      replace hbox := Lib.hid hbox
      replace hV1 := Lib.hid hV1
      replace hG1 := Lib.hid hG1
      clear v0 v1 v2 v3 n0 n1 n2 hl
      go_wp2_with fail
      refine (F2.out ao1 co1 w1 hV1.out).mono ?_
      rintro e w2 ⟨rfl, ao2, co2, hV2, hG2⟩
      have hbox2 : w2.heap[w.heap.size]? = some (.cells #[.int .i64 nv, .int .i64 nl, .int .i64 nh] 94 (0, 0)) := by
        refine hG2.1.at hbox.out ?_
        rintro (h' | h' | h')
        · rcases hG1.out.2 _ h' with h'' | h''
          · obtain ⟨c, hc⟩ := own_block hV.out.row h''
            have := lt_of_heap hc
            omega
          · simp at h''; omega
        · have := lt_of_heap hV.out.out; omega
        · have := hV.out.map.lt; omega
      clear x0 x1 x2 y3
      obtain ⟨x0, x1, x2⟩ := hb80.out _ hbox2
      have z1 : w2.cell? ⟨bo, 1, none⟩ = some (.slice ao2 s2.1.length co2) := cell_at hV2.out 1
      have z1f : w2.frozen? ⟨bo, 1, none⟩ = false := free_at hV2.out 1
      have hbo2 := lt_of_heap hV2.out
      replace hbox2 := Lib.hid hbox2
      replace hV2 := Lib.hid hV2
      replace hG2 := Lib.hid hG2
      go_upto_region 8 with (first | (at_builtin; refine wpList_append1 rfl (.tmp 37) (.tmp 43) 43 rfl H 94 i0 (.agg #[.int .i64 0, .int .i64 0, .int .i64 0]) 3 24 Try.underlying43 hi hz0 hz1 hz2 rfl (by decide) (by decide) ao2 s2.1.length co2 (ndCells s2.1) rfl (owns_same hV2.out.row (by repeat (first | exact Fr.refl _ _ | apply Fr.alloc | apply Fr.drewN | apply Fr.drew))) (by omega) w2.heap.size [.int .i64 nv, .int .i64 low, .int .i64 high] rfl rfl (heap_new_at (by simp) _) (by simp [Value.oneCell']) (by have := hV2.out.ge; simp; omega) ?_; intro ao3 co3 w3 hown3 hgrow3; have hst := visit_stored (x := (nv, low, high)) hV2.out (by repeat (first | exact Fr.refl _ _ | apply Fr.alloc | apply Fr.drewN | apply Fr.drew)) hown3 hgrow3; have hbo3 := visit_out hV2.out (by repeat (first | exact Fr.refl _ _ | apply Fr.alloc | apply Fr.drewN | apply Fr.drew)) hgrow3; have q0 : w3.cell? ⟨bo, 1, none⟩ = some (.slice ao2 s2.1.length co2) := cell_at hbo3 1; have q1 := free_at hbo3 1; replace hst := Lib.hid hst; clear hown3 hgrow3 hbo3))
      generalize w3.setCell ⟨bo, 1, none⟩ (.slice ao3 (s2.1.length + 1) co3) = W4 at *
      clear q0 q1 x0 x1 x2 z1 z1f
      have u0 : W4.cell? ⟨bn, 0, none⟩ = some (.map (some mm)) := cell_at hst.out.1.num 0
      have u1 : W4.cell? ⟨bo, 1, none⟩ = some (.slice ao3 (s2.1 ++ [(nv, low, high)]).length co3) := cell_at hst.out.1.out 1
      rw [show (s2.1 ++ [(nv, low, high)]).length = s2.1.length + 1 by simp] at u1
      have hbo4 := lt_of_heap hst.out.1.out
      go_wp2_with (at_mapUpdate; refine wpList_mput rfl (.tmp 46) (.tmp 47) (.tmp 51) rfl keyI mapI mm s2.2 rfl hst.out.1.map k rfl ((s2.1.length : Int) + 2) (by go_num) ?_; intro ob hob; have hp := visit_put hst.out.1 hob; have hl := lookup_hit keyI mapI hob (mget_put_same s2.2 k ((s2.1.length : Int) + 2)) false; have t0 : (setObj W4 mm ob).cell? ⟨bn, 0, none⟩ = some (.map (some mm)) := cell_at hp.1.num 0; replace hp := Lib.hid hp; clear hob)
      go_ret
      exact ⟨rfl, ao3, co3, hp.out.1, ((((Grew.of_same _ (by repeat (first | exact Fr.refl _ _ | apply Fr.alloc | apply Fr.drewN | apply Fr.drew))).trans hG1.out).trans hG2.out).trans hst.out.2).trans hp.out.2⟩

/-- A call returns a diagram. -/
def DRet (w : World) (n : Int) (O : List Nd) (r : Int) (e : Ending) (w' : World) : Prop :=
  ∃ ao co, e = .returned (.tuple #[.agg #[.int .i64 n, .slice ao O.length co, .int .i64 r], .int .i64 0]) ∧ SliceAt w' 94 3 (.slice ao O.length co) O.length (ndCells O) ∧ Same w w'
/-- A call returns no diagram, and an error. -/
def DErr (w : World) (c : Int) (e : Ending) (w' : World) : Prop :=
  e = .returned (.tuple #[.agg #[.int .i64 0, .slice none 0 0, .int .i64 0], .int .i64 c]) ∧ Same w w'

/-- What finish returns. -/
def finishF (n : Int) (O : List Nd) (r : Int) (w : World) (e : Ending) (w' : World) : Prop :=
  if O.length ≤ 16384 then DRet w n O r e w' else DErr w 3 e w'

def start : Vs := ([], [(0, 0), (1, 1)])

theorem mapAt_made_at {K V : Type} {enc : K → Value} {venc : V → Value} {w : World} {m : Nat} (h : m = w.heap.size) : MapAt enc venc (w.alloc (.map #[] 0)) m ([] : List (K × V)) := by
  subst h; exact mapAt_made w

/-- The blocks that finish lays ahead of its closure's call. -/
theorem finish_start {w : World} {B p m : Nat} {a : Option Addr} {cap : Nat} {N : List Nd} {n : Int} {b t : Obj} {ob1 ob2 : Obj} {M : List (Int × Int)} (hB : BuilderAt w B p m a cap N)
    (hb : b = .cells #[.pointer (some ⟨p, 0, none⟩)] 88 (0, 0))
    (hM : mI (setObj (setObj ((((w.alloc b).alloc t).alloc (.cells #[.int .i64 n, .slice none 0 0, .int .i64 0] 45)).alloc (.map #[] 0)) (w.heap.size + 1 + 1 + 1) ob1) (w.heap.size + 1 + 1 + 1) ob2) (w.heap.size + 1 + 1 + 1) M) :
    VisAt (((setObj (setObj ((((w.alloc b).alloc t).alloc (.cells #[.int .i64 n, .slice none 0 0, .int .i64 0] 45)).alloc (.map #[] 0)) (w.heap.size + 1 + 1 + 1) ob1) (w.heap.size + 1 + 1 + 1) ob2).alloc (.cells #[.map (some (w.heap.size + 1 + 1 + 1))] 125)).alloc
        (.cells #[fnVisit (w.heap.size + 1 + 1 + 1 + 1) w.heap.size (w.heap.size + 1 + 1 + 1 + 1 + 1) (w.heap.size + 1 + 1)] 126))
      w.heap.size B p m a cap N (w.heap.size + 1 + 1 + 1 + 1) w.heap.size (w.heap.size + 1 + 1 + 1 + 1 + 1) (w.heap.size + 1 + 1) (w.heap.size + 1 + 1 + 1) n 0 none 0 [] M ∧
    Same w (((setObj (setObj ((((w.alloc b).alloc t).alloc (.cells #[.int .i64 n, .slice none 0 0, .int .i64 0] 45)).alloc (.map #[] 0)) (w.heap.size + 1 + 1 + 1) ob1) (w.heap.size + 1 + 1 + 1) ob2).alloc (.cells #[.map (some (w.heap.size + 1 + 1 + 1))] 125)).alloc
        (.cells #[fnVisit (w.heap.size + 1 + 1 + 1 + 1) w.heap.size (w.heap.size + 1 + 1 + 1 + 1 + 1) (w.heap.size + 1 + 1)] 126)) := by
  generalize hX : ((w.alloc b).alloc t).alloc (.cells #[.int .i64 n, .slice none 0 0, .int .i64 0] 45) = X at *
  have hXs : X.heap.size = w.heap.size + 3 := by rw [← hX]; simp
  have x0 : X.heap[w.heap.size]? = some b := by rw [← hX]; exact heap_old (heap_old (heap_new _ _) _) _
  have x2 : X.heap[w.heap.size + 1 + 1]? = some (.cells #[.int .i64 n, .slice none 0 0, .int .i64 0] 45 (0, 0)) := by rw [← hX]; exact heap_new_at (by simp) _
  have xs : Same w X := by rw [← hX]; exact (by repeat (first | exact Fr.refl _ _ | apply Fr.alloc | apply Fr.drewN | apply Fr.drew))
  generalize hY : setObj (setObj (X.alloc (.map #[] 0)) (w.heap.size + 1 + 1 + 1) ob1) (w.heap.size + 1 + 1 + 1) ob2 = Y at *
  have hf : Fr (fun k => k = w.heap.size + 1 + 1 + 1) X Y := by
    rw [← hY]
    exact (((Fr.refl (fun k => k = w.heap.size + 1 + 1 + 1) X).alloc _).setObj _ _ (fun _ => rfl)).setObj _ _ (fun _ => rfl)
  have hYs : Y.heap.size = w.heap.size + 1 + 1 + 1 + 1 := by rw [← hY]; simp [setObj, hXs]
  have y0 := hf.at x0 (by omega)
  have y2 := hf.at x2 (by omega)
  have ys : Same w Y := xs.trans hf (fun i hi e => by omega)
  have ws : Same w ((Y.alloc (.cells #[.map (some (w.heap.size + 1 + 1 + 1))] 125)).alloc (.cells #[fnVisit (w.heap.size + 1 + 1 + 1 + 1) w.heap.size (w.heap.size + 1 + 1 + 1 + 1 + 1) (w.heap.size + 1 + 1)] 126)) := (ys.alloc _).alloc _
  refine ⟨⟨hB.same ws, ⟨lt_of_heap hB.blk, hB.map.lt, fun k hk => ?_⟩, heap_old (heap_new_at (by omega) _) _, heap_old (heap_old (by rw [← hb]; exact y0) _) _, heap_new_at (by simp; omega) _, heap_old (heap_old y2 _) _, World.ownsRow_nil _ _ _ _, ?_, by omega, by omega⟩, ws⟩
  · obtain ⟨c, hc⟩ := own_block hB.own hk
    exact lt_of_heap hc
  · exact hM.of_block ((Below.heap_alloc _ _ _ (by simp; omega)).trans (Below.heap_alloc _ _ _ (by omega)))

theorem finish_res {w : World} {B p m : Nat} {a : Option Addr} {cap : Nat} {N : List Nd} {n : Int} {b o1 o2 : Obj} {cur : Array Value} {ob1 ob2 : Obj} {M : List (Int × Int)} (hB : BuilderAt w B p m a cap N)
    (hM : mI (setObj (setObj ((((w.alloc b).alloc (.cells cur 45)).alloc (.cells #[.int .i64 n, .slice none 0 0, .int .i64 0] 45)).alloc (.map #[] 0)) (w.heap.size + 1 + 1 + 1) ob1) (w.heap.size + 1 + 1 + 1) ob2) (w.heap.size + 1 + 1 + 1) M) :
    (((setObj (setObj ((((w.alloc b).alloc (.cells cur 45)).alloc (.cells #[.int .i64 n, .slice none 0 0, .int .i64 0] 45)).alloc (.map #[] 0)) (w.heap.size + 1 + 1 + 1) ob1) (w.heap.size + 1 + 1 + 1) ob2).alloc o1).alloc o2).heap[w.heap.size + 1]? = some (.cells cur 45 (0, 0)) := by
  refine heap_old (heap_old ?_ _) _
  rw [heap_setObj_other (by omega), heap_setObj_other (by omega)]
  exact heap_old (heap_old (heap_new_at (by simp) _) _) _

theorem finish_end {w w1 : World} {v1 v2 v3 v4 : Value} (h : Same w w1) :
    Same w ((((w1.setCell ⟨w.heap.size + 1 + 1, 2, none⟩ v1).setCell ⟨w.heap.size + 1, 0, none⟩ v2).setCell ⟨w.heap.size + 1, 1, none⟩ v3).setCell ⟨w.heap.size + 1, 2, none⟩ v4) := by
  refine (((h.setCell _ _ ?_).setCell _ _ ?_).setCell _ _ ?_).setCell _ _ ?_ <;> (intro h'; simp only at h'; omega)

theorem finish_slice {w1 : World} {H B p m : Nat} {a : Option Addr} {cap : Nat} {N : List Nd} {bn bb bv bo mm : Nat} {n r : Int} {ao : Option Addr} {co : Nat} {O : List Nd} {M : List (Int × Int)} {k : Nat} {v1 v2 v3 v4 : Value} {cur : Array Value}
    (h : VisAt w1 H B p m a cap N bn bb bv bo mm n r ao co O M) (hk : w1.heap[k]? = some (.cells cur 45 (0, 0))) :
    SliceAt ((((w1.setCell ⟨bo, 2, none⟩ v1).setCell ⟨k, 0, none⟩ v2).setCell ⟨k, 1, none⟩ v3).setCell ⟨k, 2, none⟩ v4) 94 3 (.slice ao O.length co) O.length (ndCells O) := by
  have hf : Fr (fun i => i = bo ∨ i = k) w1 ((((w1.setCell ⟨bo, 2, none⟩ v1).setCell ⟨k, 0, none⟩ v2).setCell ⟨k, 1, none⟩ v3).setCell ⟨k, 2, none⟩ v4) :=
    ((((Fr.refl (fun i => i = bo ∨ i = k) w1).setCell _ _ (fun _ => .inl rfl)).setCell _ _ (fun _ => .inr rfl)).setCell _ _ (fun _ => .inr rfl)).setCell _ _ (fun _ => .inr rfl)
  refine (SliceAt.of_owns h.row).fr hf (fun i c hc => ?_)
  rintro (rfl | rfl)
  · have := h.out; rw [hc] at this; simp at this
  · rw [hc] at hk; simp at hk

set_option maxRecDepth 100000 in
set_option maxHeartbeats 1000000 in
theorem finish_any (B p m : Nat) (a : Option Addr) (cap : Nat) (N : List Nd) (n k : Int) (fuel : Nat) (s' : Vs) (kn : Int) (w : World) (hB : BuilderAt w B p m a cap N) (hv : Laid N) (hN : N.length ≤ 100000) (hk0 : 0 ≤ k) (hk : k < N.length + 2)
    (hvis : visitF N fuel start k = some (s', kn)) (hlen : s'.1.length ≤ 100000) :
    Calls Try.prog 60 #[.pointer (some ⟨p, 0, none⟩), .int .i64 n, .int .i64 k] w (finishF n s'.1 kn w) := by
  have hmm := @run_makeMap Try.prog
  replace hB := Lib.hid hB
  replace hv := Lib.hid hv
  replace hvis := Lib.hid hvis
  go_enter Try.func60, Try.ntmps60
  go_upto_region 2 with fail
  refine wp_region_lit ?_
  refine wpList_step (fun K hK => ?_)
  go_simp
  refine hK _ _ ?_
  clear hK K
  refine wpList_minsert rfl (.tmp 13) (.const (.int .i64 0)) (.const (.int .i64 0)) rfl keyI mapI (w.heap.size + 1 + 1 + 1) [] rfl (mapAt_made_at (by simp)) 0 rfl 0 rfl ?_
  intro ob1 hob1
  refine wpList_minsert rfl (.tmp 13) (.const (.int .i64 1)) (.const (.int .i64 1)) rfl keyI mapI (w.heap.size + 1 + 1 + 1) _ rfl hob1 1 rfl 1 rfl ?_
  intro ob2 hob2
  replace hob2 := Lib.hid hob2
  clear hob1
  have hst := finish_start hB.out rfl hob2.out
  replace hst := Lib.hid hst
  simp only [Act.put]
  go_wp2_with fail
  obtain ⟨ht, hsame⟩ := hst.out
  refine (visit_any w.heap.size B p m a cap N _ _ _ _ _ n 0 hv.out hN fuel k none 0 [] _ s' kn _ ht hvis.out hk0 hk (by simp [mput, mget]) (by simp [mput, mget]) hlen).mono ?_
  rintro e w1 ⟨rfl, ao, co, hV, hG⟩
  have htr := hG.1.at (finish_res hB.out hob2.out) (by
    rintro (h' | h' | h')
    · simp [Value.ownBlock] at h'
    · omega
    · omega)
  have c0 : w1.cell? ⟨w.heap.size + 1 + 1, 0, none⟩ = some (.int .i64 n) := cell_at hV.out 0
  have c1 : w1.cell? ⟨w.heap.size + 1 + 1, 1, none⟩ = some (.slice ao s'.1.length co) := cell_at hV.out 1
  have c2 : w1.cell? ⟨w.heap.size + 1 + 1, 2, none⟩ = some (.int .i64 0) := cell_at hV.out 2
  have f2 : w1.frozen? ⟨w.heap.size + 1 + 1, 2, none⟩ = false := free_at hV.out 2
  have d0 : w1.cell? ⟨w.heap.size + 1, 0, none⟩ = some (.int .i64 0) := cell_at htr 0
  have d1 : w1.cell? ⟨w.heap.size + 1, 1, none⟩ = some (.slice none 0 0) := cell_at htr 1
  have d2 : w1.cell? ⟨w.heap.size + 1, 2, none⟩ = some (.int .i64 0) := cell_at htr 2
  have g0 : w1.frozen? ⟨w.heap.size + 1, 0, none⟩ = false := free_at htr 0
  have g1 : w1.frozen? ⟨w.heap.size + 1, 1, none⟩ = false := free_at htr 1
  have g2 : w1.frozen? ⟨w.heap.size + 1, 2, none⟩ = false := free_at htr 2
  have hsame1 : Same w w1 := hsame.trans hG.1 (fun i hi h' => by
    rcases h' with h' | h' | h'
    · simp [Value.ownBlock] at h'
    · omega
    · omega)
  replace hsame1 := Lib.hid hsame1
  replace hV := Lib.hid hV
  replace htr := Lib.hid htr
  clear hG ht hsame hst hob2
  by_cases hlim : s'.1.length ≤ 16384
  · have hl' : ¬ (16384 : Int) < s'.1.length := by omega
    replace hlim := Lib.hid hlim
    go_wp2_with fail
    refine bodyPost_ret (v := .tuple #[.agg #[.int .i64 n, .slice ao s'.1.length co, .int .i64 kn], .int .i64 0]) (by simp [results, Try.results60, go_sem, d0, d1, d2, c0, c1, c2]) rfl ?_
    unfold finishF
    rw [if_pos hlim.out]
    exact ⟨ao, co, rfl, finish_slice hV.out htr.out, finish_end hsame1.out⟩
  · have hl' : (16384 : Int) < s'.1.length := by omega
    go_wp2_with fail
    refine bodyPost_ret (v := .tuple #[.agg #[.int .i64 0, .slice none 0 0, .int .i64 0], .int .i64 3]) (by simp [results, Try.results60, go_sem, d0, d1, d2, c0, c1, c2]) rfl ?_
    unfold finishF
    rw [if_neg (by omega)]
    exact ⟨rfl, finish_end hsame1.out⟩
end Go.Proofs.Ytmmjijmmocabhaa
namespace Go.Proofs.Ytmmjijmmocabhaa
open Go.RowKit
set_option linter.unusedVariables false
set_option linter.unusedSimpArgs false

/-- What checkNode answers for a node of index i; kn: the map has it. -/
def checkNodeF (n : Int) (L : List Nd) (i : Nat) (x : Nd) (kn : Bool) : Int :=
  if x.1 < 0 ∨ n ≤ x.1 ∨ x.2.1 < 0 ∨ (i : Int) + 1 < x.2.1 ∨ x.2.2 < 0 ∨ (i : Int) + 1 < x.2.2 then 2
  else if x.2.1 = x.2.2 ∨ kn = true then 6
  else if (1 < x.2.1 ∧ (nodeF L x.2.1).1 ≤ x.1) ∨ (1 < x.2.2 ∧ (nodeF L x.2.2).1 ≤ x.1) then 5 else 0

theorem NodesAt.nodeN {w : World} {a : Option Addr} {cap : Nat} {L : List Nd} (hL : NodesAt w a L cap) {k : Int} (h2 : 1 < k) (hk : k < L.length + 2) :
    ∃ b off, a = some ⟨b, off, none⟩ ∧ b < w.heap.size ∧ w.cell? ⟨b, off + (k - 2).toNat * 3, none⟩ = some (.int .i64 (nodeF L k).1) := by
  have hlt : (k - 2).toNat < L.length := by omega
  have := hL.node hlt
  simp [nodeF, hlt]
  obtain ⟨b, off, h1, h2, h3, _⟩ := this
  exact ⟨b, off, h1, h2, h3⟩

set_option maxRecDepth 100000 in
set_option maxHeartbeats 1000000 in
theorem checkNode_nds (n r : Int) (aL : Option Addr) (capL : Nat) (L : List Nd) (w : World) (hL : NodesAt w aL L capL) (hlen : L.length ≤ 100000)
    (i : Nat) (hi : i < L.length) (mb : Nat) (M : List (Nd × Bool)) (hM : MapAt ndv Value.bool w mb M) (hMt : ∀ y u, mget M y = some u → u = true) :
    Calls Try.prog 69 #[.agg #[.int .i64 n, .slice aL L.length capL, .int .i64 r], .int .i64 i, .map (some mb)] w fun e w' => e = .returned (.int .i64 (checkNodeF n L i L[i] (mget M L[i]).isSome)) ∧ Same w w' := by
  have hl0 : ∀ w', Same w w' → (Instr.lookup 109 (.map (some mb)) (ndv L[i]) false).run Try.prog w' = .ok (.bool (mget M L[i]).isSome) w' := by
    intro w' hs
    have hM' := hM.of_block (hs.block _ hM.lt id)
    cases hm : mget M L[i] with
    | none => exact lookup_miss keyB mapBb hM' hm (zeroBo _) false
    | some u =>
      have := hMt _ _ hm
      subst this
      exact lookup_hit keyB mapBb hM' hm false
  obtain ⟨b, off, rfl, hb, n0, n1, n2⟩ := hL.node hi
  have HL := Lib.hid hL
  obtain ⟨kn, hkn⟩ : ∃ kn, kn = (mget M L[i]).isSome := ⟨_, rfl⟩
  rw [← hkn] at hl0 ⊢
  obtain ⟨⟨v, lo, hh⟩, hxe⟩ : ∃ x, x = L[i] := ⟨_, rfl⟩
  rw [← hxe] at n0 n1 n2 hl0 ⊢
  simp only at n0 n1 n2
  have hl : ∀ o o', (Instr.lookup 109 (.map (some mb)) (.agg #[.int .i64 v, .int .i64 lo, .int .i64 hh]) false).run Try.prog ((w.alloc o).alloc o') = .ok (.bool kn) ((w.alloc o).alloc o') :=
    fun o o' => hl0 _ (by repeat (first | exact Fr.refl _ _ | apply Fr.alloc | apply Fr.drewN | apply Fr.drew))
  clear hM hL hMt hkn hxe hl0 M
  obtain ⟨R, hR⟩ : ∃ R, R = checkNodeF n L i (v, lo, hh) kn := ⟨_, rfl⟩
  rw [← hR]
  replace hR := Lib.hid hR
  go_enter Try.func69, Try.ntmps69
  go_wp2_with fail
  all_goals try (
    go_ret
    refine ⟨?_, (by repeat (first | exact Fr.refl _ _ | apply Fr.alloc | apply Fr.drewN | apply Fr.drew))⟩
    rw [hR.out]
    unfold checkNodeF
    clear hR hl HL n0 n1 n2
    simp only
    first
    | (rw [if_pos (by omega)]; rfl)
    | (cases kn <;> simp_all <;> omega)
    | (cases kn <;> simp_all))
  replace hl := Lib.hid hl
  have hb3 : b < w.heap.size + 1 + 1 + 1 := by omega
  have hb2 : b < w.heap.size + 1 + 1 := by omega
  have hb1 : b < w.heap.size + 1 := by omega
  have HF : checkNodeF n L i (v, lo, hh) kn = if (1 < lo ∧ (nodeF L lo).1 ≤ v) ∨ (1 < hh ∧ (nodeF L hh).1 ≤ v) then 5 else 0 := by
    unfold checkNodeF
    simp only
    rw [if_neg (by omega), if_neg (by simp_all)]
  replace HF := Lib.hid HF
  rename_i g7 g8 K0 a0
  clear g7 g8
  go_loopw [67] (fun i wr => (∃ k : Nat, k ≤ 2 ∧ i = .int .i64 k ∧ (0 < k → ¬ (1 < lo ∧ (nodeF L lo).1 ≤ v)) ∧ (1 < k → ¬ (1 < hh ∧ (nodeF L hh).1 ≤ v))) ∧
    ∃ j, wr = (((w.alloc (.cells #[.int .i64 n, .slice (some ⟨b, off, none⟩) L.length capL, .int .i64 r] 45)).alloc (.cells #[.int .i64 v, .int .i64 lo, .int .i64 hh] 94)).alloc (.cells #[.int .i64 lo, .int .i64 hh] 3)).drewN j) (fun i _ => 2 - (intOf i).toNat)
  case atStart => exact ⟨⟨0, by omega, rfl, by omega, by omega⟩, 0, rfl⟩
  case round =>
    obtain ⟨⟨k, hk, rfl, r1, r2⟩, j, rfl⟩ := hrel
    have hk3 : k = 0 ∨ k = 1 ∨ k = 2 := by omega
    rcases hk3 with rfl | rfl | rfl
    · clear r1 r2
      by_cases c1 : 1 < lo
      · obtain ⟨b', off', hbo, -, t0⟩ := HL.out.nodeN c1 (by omega)
        simp only [Option.some.injEq, Addr.mk.injEq, and_true] at hbo
        obtain ⟨rfl, rfl⟩ := hbo
        have w1 : IntKind.i64.wrap (lo - 2) = lo - 2 := IntWalk.i64_in _ (by omega)
        have w2 : 2 ≤ lo := by omega
        have w4 : (decide (1 < lo)) = true := by simpa using c1
        have w3 : lo - 2 < L.length := by omega
        go_wp2
        refine wp_region_sched (fun _ => True) [0, 0, 0, 0, 1, 0, 0, 0, 0, 1, 0, 1, 0, 0] [0, 1, 2, 3, 5, 6, 10, 4, 7, 8, 9, 11, 12, 13] (by kernel_rfl) (by kernel_rfl) ?_
        repeat (first | (refine sched_w rfl rfl (fun _ hK => ?_); go_simp; refine hK _ ?_; clear hK) | (refine sched_s rfl rfl (fun _ hK => ?_); go_simp; first | (refine hK _ ?_; clear hK) | (refine ⟨_, fun _ => rfl, hK _ ?_⟩; clear hK)))
        refine sched_nil (NoPanic.normal ?_)
        by_cases c2 : (nodeF L lo).1 ≤ v
        · go_wp2
          go_ret
          refine ⟨?_, (by repeat (first | exact Fr.refl _ _ | apply Fr.alloc | apply Fr.drewN | apply Fr.drew))⟩
          rw [hR.out, HF.out, if_pos (.inl ⟨c1, c2⟩)]
          rfl
        · go_wp2
          go_roundw
          case rel => exact ⟨⟨1, by omega, rfl, fun _ h => c2 h.2, by omega⟩, _, rfl⟩
          case measure => simp [intOf]
      · have w2 : lo ≤ 1 := by omega
        have w3 : (lo > 1) = False := by simp; omega
        have w4 : (1 < lo) = False := by simp; omega
        go_wp2
        refine wp_region_sched (fun _ => True) [0, 0, 0, 0, 1, 0, 0, 0, 0, 1, 0, 1, 0, 0] [0, 1, 2, 3, 5, 6, 10, 4, 7, 8, 9, 11, 12, 13] (by kernel_rfl) (by kernel_rfl) ?_
        repeat (first | (refine sched_w rfl rfl (fun _ hK => ?_); go_simp; refine hK _ ?_; clear hK) | (refine sched_s rfl rfl (fun _ hK => ?_); go_simp; first | (refine hK _ ?_; clear hK) | (refine ⟨_, fun _ => rfl, hK _ ?_⟩; clear hK)))
        refine sched_nil (NoPanic.normal ?_)
        go_wp2
        go_roundw
        case rel => exact ⟨⟨1, by omega, rfl, fun _ h => absurd h.1 (by omega), by omega⟩, _, rfl⟩
        case measure => simp [intOf]
    · replace r1 := Lib.hid (r1 (by omega))
      clear r2
      by_cases c1 : 1 < hh
      · obtain ⟨b', off', hbo, -, t0⟩ := HL.out.nodeN c1 (by omega)
        simp only [Option.some.injEq, Addr.mk.injEq, and_true] at hbo
        obtain ⟨rfl, rfl⟩ := hbo
        have w1 : IntKind.i64.wrap (hh - 2) = hh - 2 := IntWalk.i64_in _ (by omega)
        have w2 : 2 ≤ hh := by omega
        have w4 : (decide (1 < hh)) = true := by simpa using c1
        have w3 : hh - 2 < L.length := by omega
        go_wp2
        refine wp_region_sched (fun _ => True) [0, 0, 0, 0, 1, 0, 0, 0, 0, 1, 0, 1, 0, 0] [0, 1, 2, 3, 5, 6, 10, 4, 7, 8, 9, 11, 12, 13] (by kernel_rfl) (by kernel_rfl) ?_
        repeat (first | (refine sched_w rfl rfl (fun _ hK => ?_); go_simp; refine hK _ ?_; clear hK) | (refine sched_s rfl rfl (fun _ hK => ?_); go_simp; first | (refine hK _ ?_; clear hK) | (refine ⟨_, fun _ => rfl, hK _ ?_⟩; clear hK)))
        refine sched_nil (NoPanic.normal ?_)
        by_cases c2 : (nodeF L hh).1 ≤ v
        · go_wp2
          go_ret
          refine ⟨?_, (by repeat (first | exact Fr.refl _ _ | apply Fr.alloc | apply Fr.drewN | apply Fr.drew))⟩
          rw [hR.out, HF.out, if_pos (.inr ⟨c1, c2⟩)]
          rfl
        · go_wp2
          go_roundw
          case rel => exact ⟨⟨2, by omega, rfl, fun _ => r1.out, fun _ h => c2 h.2⟩, _, rfl⟩
          case measure => simp [intOf]
      · have w2 : hh ≤ 1 := by omega
        have w3 : (hh > 1) = False := by simp; omega
        have w4 : (1 < hh) = False := by simp; omega
        go_wp2
        refine wp_region_sched (fun _ => True) [0, 0, 0, 0, 1, 0, 0, 0, 0, 1, 0, 1, 0, 0] [0, 1, 2, 3, 5, 6, 10, 4, 7, 8, 9, 11, 12, 13] (by kernel_rfl) (by kernel_rfl) ?_
        repeat (first | (refine sched_w rfl rfl (fun _ hK => ?_); go_simp; refine hK _ ?_; clear hK) | (refine sched_s rfl rfl (fun _ hK => ?_); go_simp; first | (refine hK _ ?_; clear hK) | (refine ⟨_, fun _ => rfl, hK _ ?_⟩; clear hK)))
        refine sched_nil (NoPanic.normal ?_)
        go_wp2
        go_roundw
        case rel => exact ⟨⟨2, by omega, rfl, fun _ => r1.out, fun _ h => absurd h.1 (by omega)⟩, _, rfl⟩
        case measure => simp [intOf]
    · replace r1 := Lib.hid (r1 (by omega))
      replace r2 := Lib.hid (r2 (by omega))
      go_wp2
      go_ret
      refine ⟨?_, (by repeat (first | exact Fr.refl _ _ | apply Fr.alloc | apply Fr.drewN | apply Fr.drew))⟩
      rw [hR.out, HF.out, if_neg (fun h => h.elim r1.out r2.out)]
      rfl

theorem checkNode_any (n r : Int) (aL : Option Addr) (capL : Nat) (L : List Nd) (w : World) (hL : SliceAt w 94 3 (.slice aL L.length capL) L.length (ndCells L)) (hlen : L.length ≤ 100000)
    (i : Nat) (hi : i < L.length) (mb : Nat) (M : List (Nd × Bool)) (hM : MapAt ndv Value.bool w mb M) (hMt : ∀ y u, mget M y = some u → u = true) :
    Calls Try.prog 69 #[.agg #[.int .i64 n, .slice aL L.length capL, .int .i64 r], .int .i64 i, .map (some mb)] w fun e w' => e = .returned (.int .i64 (checkNodeF n L i L[i] (mget M L[i]).isSome)) ∧ Same w w' :=
  checkNode_nds n r aL capL L w hL.nds hlen i hi mb M hM hMt

theorem count_any (n : Int) (w : World) : Calls Try.prog 58 #[.int .i64 n] w fun e w' => e = .returned (.int .i64 (if n < 0 ∨ 40 < n then 2 else 0)) ∧ w = w' := by
  obtain ⟨R, hR⟩ : ∃ R : Int, R = if n < 0 ∨ 40 < n then 2 else 0 := ⟨_, rfl⟩
  rw [← hR]
  replace hR := Lib.hid hR
  go_enter Try.func58, Try.ntmps58
  go_wp2
  all_goals go_ret
  all_goals refine ⟨?_, rfl⟩
  all_goals rw [hR.out]
  all_goals first
    | (rw [if_pos (by omega)]; rfl)
    | (rw [if_neg (by omega)]; rfl)

theorem nde_eq (x y : Nd) : nde x.1 x.2.1 x.2.2 y.1 y.2.1 y.2.2 = decide (x = y) := by
  by_cases hx : x = y
  · rw [nde_true hx]; simp [hx]
  · rw [nde_false hx]; simp [hx]

set_option maxHeartbeats 400000 in
theorem slEq_nds (a a' : Option Addr) (cap cap' : Nat) (L L' : List Nd) (w : World) (h : NodesAt w a L cap) (h' : NodesAt w a' L' cap') (hl : L.length ≤ 1000000) (hl' : L'.length ≤ 1000000) :
    Calls Try.prog 62 #[.slice a L.length cap, .slice a' L'.length cap'] w fun e w' => e = .returned (.bool (decide (L = L'))) ∧ Same w w' := by
  by_cases hlen : L.length = L'.length
  · replace h := Lib.hid h
    rw [← hlen]
    replace h' := Lib.hid h'
    replace hlen := Lib.hid hlen
    obtain ⟨R, hR⟩ : ∃ R : Bool, R = decide (L = L') := ⟨_, rfl⟩
    rw [← hR]
    replace hR := Lib.hid hR
    go_enter Try.func62, Try.ntmps62
    go_wp2
    go_loopw [13] (fun i wr => (∃ k : Nat, k ≤ L.length ∧ i = .int .i64 k ∧ ∀ (j : Nat), j < k → L[j]? = L'[j]?) ∧ ∃ n, wr = w.drewN n) (fun i _ => L.length - (intOf i).toNat)
    case atStart => exact ⟨⟨0, by omega, rfl, fun _ h => by omega⟩, 0, rfl⟩
    case round =>
      obtain ⟨⟨k, hk, rfl, hf⟩, n, rfl⟩ := hrel
      replace hf := Lib.hid hf
      by_cases hlt : k < L.length
      · have hlt' : k < L'.length := by rw [← hlen.out]; exact hlt
        obtain ⟨b, off, ha, hb, h1, h2, h3⟩ := h.out.node hlt
        obtain ⟨b', off', ha', hb', h1', h2', h3'⟩ := h'.out.node hlt'
        replace hlt' := Lib.hid hlt'
        subst ha
        subst ha'
        by_cases hx : L[k] = L'[k]'(hlt'.out)
        · have hn := nde_true hx
          replace hx := Lib.hid hx
          go_wp2
          go_quiet (fail)
          go_wp2
          go_roundw
          case rel =>
            refine ⟨⟨k + 1, by omega, by go_num, fun j hj => ?_⟩, _, rfl⟩
            by_cases hjk : j < k
            · exact hf.out j hjk
            · have : j = k := by omega
              subst this
              rw [List.getElem?_eq_getElem hlt, List.getElem?_eq_getElem hlt'.out, hx.out]
          case measure => simp [intOf]; omega
        · have hn := nde_false hx
          replace hx := Lib.hid hx
          go_wp2
          go_quiet (fail)
          go_wp2
          go_ret
          refine ⟨?_, (by repeat (first | exact Fr.refl _ _ | apply Fr.alloc | apply Fr.drewN | apply Fr.drew))⟩
          rw [hR.out]
          have : ¬ L = L' := fun e => hx.out (by subst e; rfl)
          simp [this]
      · go_wp2
        go_ret
        refine ⟨?_, (by repeat (first | exact Fr.refl _ _ | apply Fr.alloc | apply Fr.drewN | apply Fr.drew))⟩
        rw [hR.out]
        have : L = L' := by
          apply List.ext_getElem?
          intro j
          by_cases hj : j < k
          · exact hf.out j hj
          · rw [List.getElem?_eq_none (by omega), List.getElem?_eq_none (by have := hlen.out; omega)]
        simp [this]
  · have hne : ¬ L = L' := fun e => hlen (by rw [e])
    rw [decide_eq_false hne]
    have hb : (L.length : Int) ≠ L'.length := by omega
    clear hne h h'
    go_enter Try.func62, Try.ntmps62
    go_wp2
    go_ret
    exact ⟨rfl, Fr.refl _ _⟩


theorem slEq_any (a a' : Option Addr) (cap cap' : Nat) (L L' : List Nd) (w : World) (h : SliceAt w 94 3 (.slice a L.length cap) L.length (ndCells L)) (h' : SliceAt w 94 3 (.slice a' L'.length cap') L'.length (ndCells L')) (hl : L.length ≤ 1000000) (hl' : L'.length ≤ 1000000) :
    Calls Try.prog 62 #[.slice a L.length cap, .slice a' L'.length cap'] w fun e w' => e = .returned (.bool (decide (L = L'))) ∧ Same w w' :=
  slEq_nds a a' cap cap' L L' w h.nds h'.nds hl hl'

set_option maxHeartbeats 400000 in
theorem equal_nds (n n' r r' : Int) (a a' : Option Addr) (cap cap' : Nat) (L L' : List Nd) (w : World) (h : NodesAt w a L cap) (h' : NodesAt w a' L' cap') (hl : L.length ≤ 1000000) (hl' : L'.length ≤ 1000000) :
    Calls Try.prog 28 #[.agg #[.int .i64 n, .slice a L.length cap, .int .i64 r], .agg #[.int .i64 n', .slice a' L'.length cap', .int .i64 r']] w fun e w' => e = .returned (.bool (decide (n = n' ∧ r = r' ∧ L = L'))) ∧ Same w w' := by
  replace h := Lib.hid h
  replace h' := Lib.hid h'
  by_cases hn : n = n'
  · subst hn
    by_cases hr : r = r'
    · subst hr
      simp only [true_and]
      go_enter Try.func28, Try.ntmps28
      go_wp2_with fail
      refine (slEq_nds a a' cap cap' L L' _ (h.out.same (by repeat (first | exact Fr.refl _ _ | apply Fr.alloc | apply Fr.drewN | apply Fr.drew))) (h'.out.same (by repeat (first | exact Fr.refl _ _ | apply Fr.alloc | apply Fr.drewN | apply Fr.drew))) hl hl').mono ?_
      rintro e w1 ⟨rfl, hs⟩
      replace hs := Lib.hid hs
      go_wp2_with fail
      go_ret
      refine ⟨rfl, (show Same w _ from (by repeat (first | exact Fr.refl _ _ | apply Fr.alloc | apply Fr.drewN | apply Fr.drew))).same hs.out⟩
    · have e1 : decide (n = n ∧ r = r' ∧ L = L') = false := by simp [hr]
      rw [e1]
      have hb : (r == r') = false := by simpa using hr
      clear e1 hr
      go_enter Try.func28, Try.ntmps28
      go_wp2_with fail
      go_ret
      exact ⟨rfl, (by repeat (first | exact Fr.refl _ _ | apply Fr.alloc | apply Fr.drewN | apply Fr.drew))⟩
  · have e1 : decide (n = n' ∧ r = r' ∧ L = L') = false := by simp [hn]
    rw [e1]
    have hb : (n == n') = false := by simpa using hn
    clear e1 hn
    go_enter Try.func28, Try.ntmps28
    go_wp2_with fail
    go_ret
    exact ⟨rfl, (by repeat (first | exact Fr.refl _ _ | apply Fr.alloc | apply Fr.drewN | apply Fr.drew))⟩


theorem equal_any (n n' r r' : Int) (a a' : Option Addr) (cap cap' : Nat) (L L' : List Nd) (w : World) (h : SliceAt w 94 3 (.slice a L.length cap) L.length (ndCells L)) (h' : SliceAt w 94 3 (.slice a' L'.length cap') L'.length (ndCells L')) (hl : L.length ≤ 1000000) (hl' : L'.length ≤ 1000000) :
    Calls Try.prog 28 #[.agg #[.int .i64 n, .slice a L.length cap, .int .i64 r], .agg #[.int .i64 n', .slice a' L'.length cap', .int .i64 r']] w fun e w' => e = .returned (.bool (decide (n = n' ∧ r = r' ∧ L = L'))) ∧ Same w w' :=
  equal_nds n n' r r' a a' cap cap' L L' w h.nds h'.nds hl hl'

theorem VNd.laid {N : List Nd} (h : VNd N) : Laid N := fun i x hx => ⟨(h i x hx).2.2.1, (h i x hx).2.2.2.1, (h i x hx).2.2.2.2.1, (h i x hx).2.2.2.2.2⟩

theorem addF_valid : ∀ (L : List Nd) (s : List Nd × List Int), VNd s.1 → (∀ x ∈ s.2, VNum s.1 x) →
    (∀ (i : Nat) (x : Nd), L[i]? = some x → (0 ≤ x.1 ∧ x.1 < 40) ∧ 0 ≤ x.2.1 ∧ x.2.1 < (i : Int) + s.2.length ∧ 0 ≤ x.2.2 ∧ x.2.2 < (i : Int) + s.2.length) →
    VNd (addF L s).1 ∧ ∀ x ∈ (addF L s).2, VNum (addF L s).1 x
  | [], s, h1, h2, _ => ⟨h1, h2⟩
  | x :: L, s, h1, h2, h3 => by
    have h0 := h3 0 x rfl
    have g1 : VNum s.1 (s.2[x.2.1.toNat]?.getD 0) := by
      have hlt : x.2.1.toNat < s.2.length := by omega
      rw [List.getElem?_eq_getElem hlt]
      exact h2 _ (List.getElem_mem _)
    have g2 : VNum s.1 (s.2[x.2.2.toNat]?.getD 0) := by
      have hlt : x.2.2.toNat < s.2.length := by omega
      rw [List.getElem?_eq_getElem hlt]
      exact h2 _ (List.getElem_mem _)
    obtain ⟨v1, v2⟩ := numF_valid h1 h0.1 g1 g2
    have hg := (numF_grows s.1 (x.1, s.2[x.2.1.toNat]?.getD 0, s.2[x.2.2.toNat]?.getD 0)).1
    unfold addF
    refine addF_valid L _ v1 (fun y hy => ?_) (fun i y hy => ?_)
    · rcases List.mem_append.1 hy with h | h
      · exact (h2 y h).mono hg
      · rw [List.mem_singleton.1 h]; exact v2
    · have := h3 (i + 1) y (by simpa using hy)
      simp only [List.length_append, List.length_singleton]
      push_cast at this ⊢
      omega

/-- The first error among m nodes from index i on. -/
def firstErr (n : Int) (L : List Nd) : Nat → Nat → Int
  | 0, _ => 0
  | m + 1, i => if checkNodeF n L i (L.getD i (0, 0, 0)) (decide (L.getD i (0, 0, 0) ∈ L.take i)) ≠ 0 then checkNodeF n L i (L.getD i (0, 0, 0)) (decide (L.getD i (0, 0, 0) ∈ L.take i)) else firstErr n L m (i + 1)

/-- What Check answers; O and q: what the nodes become when they are added to an empty builder and finished. -/
def checkF (n : Int) (L : List Nd) (r : Int) (O : List Nd) (q : Int) : Int :=
  if n < 0 ∨ 40 < n then 2 else if 16384 < L.length then 3 else if firstErr n L L.length 0 ≠ 0 then firstErr n L L.length 0
  else if r < 0 ∨ (L.length : Int) + 1 < r then 2 else if r = q ∧ L = O then 0 else 6

theorem firstErr_zero {n : Int} {L : List Nd} : ∀ (m i : Nat), i + m = L.length → firstErr n L m i = 0 → ∀ (j : Nat) (hj : j < L.length), i ≤ j → checkNodeF n L j L[j] (decide (L[j] ∈ L.take j)) = 0
  | 0, i, h, _, j, hj, hij => by omega
  | m + 1, i, h, he, j, hj, hij => by
    unfold firstErr at he
    split at he
    · rename_i h0; exact absurd he h0
    · rename_i h0
      by_cases hji : j = i
      · subst hji
        simpa [List.getD, List.getElem?_eq_getElem hj] using h0
      · exact firstErr_zero m (i + 1) (by omega) he j hj (by omega)

theorem checkNodeF_zero {n : Int} {L : List Nd} {i : Nat} {x : Nd} {kn : Bool} (h : checkNodeF n L i x kn = 0) : (0 ≤ x.1 ∧ x.1 < n) ∧ 0 ≤ x.2.1 ∧ x.2.1 < (i : Int) + 2 ∧ 0 ≤ x.2.2 ∧ x.2.2 < (i : Int) + 2 := by
  unfold checkNodeF at h
  split at h
  · cases h
  · omega

theorem firstErr_valid {n : Int} {L : List Nd} (hn : n ≤ 40) (h : firstErr n L L.length 0 = 0) : VNd L := by
  intro i x hx
  obtain ⟨hi, rfl⟩ := List.getElem?_eq_some_iff.1 hx
  have := checkNodeF_zero (firstErr_zero L.length 0 (by omega) h i hi (Nat.zero_le _))
  omega

theorem added_valid {L : List Nd} (h : VNd L) : VNd (addF L ([], [0, 1])).1 ∧ ∀ x ∈ (addF L ([], [0, 1])).2, VNum (addF L ([], [0, 1])).1 x := by
  refine addF_valid L ([], [0, 1]) (fun i x hx => by simp at hx) (fun x hx => ?_) (fun i x hx => ?_)
  · simp at hx
    rcases hx with rfl | rfl <;> simp [VNum]
  · have := h i x hx
    simp
    omega

theorem added_root {L : List Nd} (h : VNd L) {r : Int} (h0 : 0 ≤ r) (hr : r < L.length + 2) : VNum (addF L ([], [0, 1])).1 ((addF L ([], [0, 1])).2.getD r.toNat 0) := by
  have hlen := addF_length L ([], [0, 1])
  have hlt : r.toNat < (addF L ([], [0, 1])).2.length := by rw [hlen]; simp; omega
  rw [List.getD_eq_getElem?_getD, List.getElem?_eq_getElem hlt]
  exact (added_valid h).2 _ (List.getElem_mem _)
end Go.Proofs.Ytmmjijmmocabhaa
