/- Shared walked. -/
import Derived.Test.YtmmjijmmocabhaaJShrP
import Derived.Test.YtmmjijmmocabhaaJLawV
import Derived.Test.YtmmjijmmocabhaaJSearch
namespace Go.Proofs.Ytmmjijmmocabhaa
open Go.RowKit
set_option linter.unusedVariables false
set_option linter.unusedSimpArgs false

theorem run_index_agg (P : Program) (T e : TypeId) (n : Nat) (hu : P.underlying T = some (.array n e)) (hi : (P.info? e).map (·.size) = some 1) (hs : ∃ q, P.underlying e = some (.slice q)) (w : World) (i : Nat) (cs : Array Value) (v : Value) (hv : cs[i]? = some v) (hin : i < n) :
    (Instr.index T (.agg cs) (.int .i64 i)).run P w = .ok v w := by
  obtain ⟨info, h1, h2⟩ : ∃ info, P.info? e = some info ∧ info.size = 1 := by
    cases h : P.info? e with
    | none => rw [h] at hi; simp at hi
    | some x => rw [h] at hi; exact ⟨x, rfl, by simpa using hi⟩
  obtain ⟨q, hq⟩ := hs
  have hb : (0 : Int) ≤ i ∧ (i : Int) < n := by omega
  simp [Instr.index, run_underlying hu, asIntOf, hb, part, sizeOf, typeInfo, h1, h2, hv, isAgg, run_underlying hq, hin, go_sem]
theorem size_ii : (Try.prog.info? 23).map (·.size) = some 1 := by kernel_rfl
theorem size32 : (Try.prog.info? 103).map (·.size) = some 32 := by kernel_rfl
theorem arr32 : Try.prog.underlying 103 = some (.array 32 23) := Try.underlying103
theorem index32 (w : World) (i : Nat) (cs : Array Value) (v : Value) (hv : cs[i]? = some v) (hin : i < 32) : (Instr.index 103 (.agg cs) (.int .i64 i)).run Try.prog w = .ok v w :=
  run_index_agg Try.prog _ _ 32 arr32 size_ii ⟨_, Try.underlying23⟩ w i cs v hv hin
@[go_sem] theorem len32 : Try.prog.arrayLen 103 = 32 := by kernel_rfl

/-- The 32 rows, in the array at b. -/
structure ST (base b : Nat) (w : World) (S : List Grp) : Prop where
  len : S.length = 32
  blk : ArrAt w b 103 (S.map Grp.v)
  own : ∀ x (h : x < S.length), w.ownsRow base 3 1 S[x].v S[x].l.length (intCells S[x].l)
  apart : ∀ x y (hx : x < S.length) (hy : y < S.length), x ≠ y → ∀ k, S[x].v.ownBlock = some k → S[y].v.ownBlock ≠ some k
theorem ST.same {base b : Nat} {w w' : World} {S : List Grp} (h : ST base b w S) (hs : Same w w') : ST base b w' S :=
  ⟨h.len, h.blk.same hs, fun x hx => owns_same (h.own x hx) hs, h.apart⟩
theorem ST.cell {base b : Nat} {w : World} {S : List Grp} (h : ST base b w S) {x : Nat} (hx : x < S.length) : w.cell? ⟨b, x, none⟩ = some (.slice S[x].a S[x].l.length S[x].cap) :=
  h.blk.cell (by simp [hx, Grp.v])
def nil32 : List Grp := List.replicate 32 ⟨none, 0, []⟩
theorem ST.new (w : World) : ST w.heap.size w.heap.size (w.alloc (.cells (List.replicate 32 (Value.slice none 0 0)).toArray 103)) nil32 where
  len := by simp [nil32]
  blk := by
    have : nil32.map Grp.v = List.replicate 32 (Value.slice none 0 0) := by simp [nil32, Grp.v]
    rw [this]
    exact ArrAt.new rfl
  own := fun x hx => by
    have : nil32[x] = ⟨none, 0, []⟩ := List.eq_of_mem_replicate (n := 32) (List.getElem_mem hx)
    rw [this]
    exact World.ownsRow_nil _ _ _ _
  apart := fun x y hx hy _ k hk => by
    have : nil32[x] = ⟨none, 0, []⟩ := List.eq_of_mem_replicate (n := 32) (List.getElem_mem hx)
    rw [this] at hk
    simp [Grp.v, Value.ownBlock] at hk

/-- One element more in row x, and the row stored. -/
theorem ST.push {base b : Nat} {w W w' : World} {S : List Grp} (h : ST base b w S) (hb : base ≤ b) (hs : Same w W) {x : Nat} (hx : x < S.length) {a' : Option Addr} {c' : Nat} {l' : List Int} {n' : Nat} (hn : l'.length = n')
    (ho : w'.ownsRow base 3 1 (.slice a' n' c') n' (intCells l')) (hG : Grew (fun _ => False) W w' S[x].v (.slice a' n' c')) :
    ST base b (w'.setCell ⟨b, x, none⟩ (.slice a' n' c')) (S.set x ⟨a', c', l'⟩) := by
  have h2 := h.same hs
  subst hn
  have hv' : Grp.v ⟨a', c', l'⟩ = .slice a' l'.length c' := rfl
  have hneb : ∀ (y : Nat) (hy : y < S.length) k, S[y].v.ownBlock = some k → k ≠ b := fun y hy k hk e => by
    obtain ⟨cur, e1⟩ := own_block (h2.own y hy) hk
    have e2 := h2.blk
    unfold ArrAt at e2
    rw [← e, e1] at e2
    simp at e2
  have hnew : ∀ k, (Grp.v ⟨a', c', l'⟩).ownBlock = some k → S[x].v.ownBlock = some k ∨ W.heap.size ≤ k := fun k hk => hG.2 k hk
  have hbk : ∀ k, (Grp.v ⟨a', c', l'⟩).ownBlock = some k → k ≠ b := fun k hk e => by
    rcases hnew k hk with h1 | h1
    · exact hneb x hx k h1 e
    · have := h2.blk.lt; omega
  have hF : Fr (fun k => k = b) w' (w'.setCell ⟨b, x, none⟩ (.slice a' l'.length c')) := (Fr.refl _ _).setCell _ _ (fun _ => rfl)
  refine ⟨by simp [h.len], ?_, ?_, ?_⟩
  · have h3 : ArrAt w' b 103 (S.map Grp.v) := h2.blk.fr hG.1 (fun e => by
      rcases e with e | e
      · exact hneb x hx b e rfl
      · exact e)
    have := h3.set x (.slice a' l'.length c')
    rw [List.map_set, hv']
    exact this
  · intro y hy
    rw [List.length_set] at hy
    by_cases e : x = y
    · subst e
      simp only [List.getElem_set_self]
      exact owns_fr ho hF (fun k hk e => hbk k hk e)
    · simp only [List.getElem_set_ne e]
      refine owns_fr (owns_fr (h2.own y hy) hG.1 (fun k hk e' => ?_)) hF (fun k hk e' => hneb y hy k hk e')
      rcases e' with e' | e'
      · exact h.apart y x hy hx (Ne.symm e) k hk e'
      · exact e'
  · intro y z hy hz hyz k hk hk2
    rw [List.length_set] at hy hz
    have old : ∀ (u : Nat) (hu : u < S.length), u ≠ x → S[u].v.ownBlock = some k → (Grp.v ⟨a', c', l'⟩).ownBlock = some k → False := fun u hu hux h1 h2' => by
      rcases hnew k h2' with h3 | h3
      · exact h.apart u x hu hx hux k h1 h3
      · have := (h2.own u hu).lt k h1; omega
    by_cases e1 : x = y
    · subst e1
      simp only [List.getElem_set_self] at hk
      simp only [List.getElem_set_ne hyz] at hk2
      exact old z hz (Ne.symm hyz) hk2 hk
    · simp only [List.getElem_set_ne e1] at hk
      by_cases e2 : x = z
      · subst e2
        simp only [List.getElem_set_self] at hk2
        exact old y hy hyz hk hk2
      · simp only [List.getElem_set_ne e2] at hk2
        exact h.apart y z hy hz hyz k hk hk2

def ShR (L : List (List Int)) (w : World) (e : Ending) (w' : World) : Prop :=
  ∃ a k c gs, e = .returned (.tuple #[.slice a k c, .int .i64 0]) ∧ GsAt w' (.slice a k c) k gs ∧ lst gs = shK L 32 ∧ k ≤ 32 ∧ Same w w'
def ShE (E : Int) (w : World) (e : Ending) (w' : World) : Prop := e = .returned (.tuple #[.slice none 0 0, .int .i64 E]) ∧ Same w w'

set_option maxRecDepth 100000 in
set_option maxHeartbeats 4000000 in
theorem Shared_many (a : Option Addr) (cap k : Nat) (w : World) (hk : 40 < k ∧ k ≤ 1000) : Calls Try.prog 37 #[.slice a k cap] w (ShE 3 w) := by
  obtain ⟨h1, h2⟩ := hk
  have h1' : (40 : Int) < k := by omega
  go_enter Try.func37, Try.ntmps37
  go_wp2_with fail
  go_ret2
  exact ⟨rfl, (by repeat (first | exact Fr.refl _ _ | apply Fr.alloc | apply Fr.drewN | apply Fr.drew | apply Fr.undrew | apply Fr.undrewN))⟩

def ShAny (L : List (List Int)) (w : World) (e : Ending) (w' : World) : Prop :=
  (csK L ≠ 0 ∧ ShE (csK L) w e w') ∨ (csK L = 0 ∧ lim L ∧ ShE 3 w e w') ∨ (csK L = 0 ∧ ¬ lim L ∧ ShR L w e w')

set_option maxRecDepth 100000 in
set_option maxHeartbeats 16000000 in
theorem Shared_any (gs : List Grp) (a : Option Addr) (cap k : Nat) (w : World) (hk : k ≤ 40) (h8 : ∀ g ∈ gs, g.l.length ≤ 1000) (hG : GsAt w (.slice a k cap) k gs) :
    Calls Try.prog 37 #[.slice a k cap] w (ShAny (lst gs) w) := by
  obtain ⟨i3, hi3, hi3z, hi3s, hi3b⟩ := info_parts info3
  obtain ⟨j3, hj3, hj3z, hj3s, hj3b⟩ := info_parts info_ii
  have hkl := hG.len
  have hLl : (lst gs).length = k := by rw [lst_len, hkl]
  obtain ⟨L, hL⟩ : ∃ L, L = lst gs := ⟨_, rfl⟩
  rw [← hL] at hLl ⊢
  have hk' : ¬ (40 : Int) < k := by omega
  have z32 : (Try.prog.info? 103).map (·.zero) = some (some (.agg (List.replicate 32 (Value.slice none 0 0)).toArray)) := by kernel_rfl
  have hN0 := ST.new w
  replace hG := Lib.hid hG; replace hkl := Lib.hid hkl; replace hLl := Lib.hid hLl; replace hL := Lib.hid hL; replace h8 := Lib.hid h8; replace hN0 := Lib.hid hN0
  go_enter Try.func37, Try.ntmps37
  go_wp2_with fail
  go_loopw [18] (fun v18 wr => ∃ (i : Nat) (S : List Grp), v18 = .int .i64 i ∧ i ≤ k ∧ ST w.heap.size w.heap.size wr S ∧ (∀ x (h : x < S.length), S[x].l = hasK L x i) ∧ csK L = csK (L.drop i) ∧ Same w wr) (fun i _ => k - (intOf i).toNat)
  case atStart => exact ⟨0, nil32, rfl, by omega, hN0.out, fun x hx => by rw [List.eq_of_mem_replicate (n := 32) (List.getElem_mem hx)]; rfl, rfl, (by repeat (first | exact Fr.refl _ _ | apply Fr.alloc | apply Fr.drewN | apply Fr.drew | apply Fr.undrew | apply Fr.undrewN))⟩
  case round =>
    clear hN0
    obtain ⟨i, S, rfl, hi, hS, hSl, hcs, hs⟩ := hrel
    have hwo := hs.size
    by_cases hlt : i < k
    · have hil : i < gs.length := by rw [hkl.out]; exact hlt
      have hiL : i < L.length := by rw [hLl.out]; exact hlt
      obtain ⟨b, off, rfl, hbl, c0, hR⟩ := (hG.out.same hs).get hil
      have hRo := hG.out.2 _ (List.getElem_mem hil)
      have hgl : L[i] = gs[i].l := by have := lst_get gs hil; simp only [hL.out]; exact this
      have hdr := csK_drop hiL
      have hg8 := h8.out _ (List.getElem_mem hil)
      have hLd : L.getD i [] = gs[i].l := by rw [← hgl]; simp [List.getD, hiL]
      rw [hgl] at hdr
      generalize gs[i] = g at *
      obtain ⟨ga, gc, gl⟩ := g
      simp only at c0 hR hRo hgl hdr hg8 hLd
      unfold Grp.v at hRo
      simp only at hRo
      have CS := checkSet_any 32 gl ga gc wr hg8 hR
      rw [show renErr 32 gl gl.length 0 = csErr gl from rfl] at CS
      obtain ⟨p, hp⟩ : ∃ p, gl.length = p := ⟨_, rfl⟩
      rw [hp] at c0 hR hRo CS hg8
      obtain ⟨E, hE⟩ : ∃ E, E = csErr gl := ⟨_, rfl⟩
      rw [← hE] at CS hdr
      by_cases hE0 : E = 0
      · subst hE0
        rw [if_neg (by simp)] at hdr
        obtain ⟨hnd, hrg⟩ := cs_nodup hE.symm
        have hnext := hcs.trans hdr
        replace hR := Lib.hid hR; replace hRo := Lib.hid hRo; replace hgl := Lib.hid hgl; replace hdr := Lib.hid hdr; replace hLd := Lib.hid hLd; replace CS := Lib.hid CS; replace hp := Lib.hid hp; replace hE := Lib.hid hE; replace hS := Lib.hid hS; replace hSl := Lib.hid hSl; replace hcs := Lib.hid hcs; replace hs := Lib.hid hs; replace hnd := Lib.hid hnd; replace hrg := Lib.hid hrg; replace hnext := Lib.hid hnext
        go_wp2_with fail
        refine CS.out.mono ?_
        rintro e w1 ⟨rfl, rfl⟩
        go_wp2_with fail
        clear c0
        go_loopw [30] (fun v30 wr2 => ∃ (q : Nat) (S2 : List Grp), v30 = .int .i64 q ∧ q ≤ p ∧ ST w.heap.size w.heap.size wr2 S2 ∧ (∀ x (h : x < S2.length), S2[x].l = hasM L x i q) ∧ Same w wr2) (fun q _ => p - (intOf q).toNat)
        case atStart => exact ⟨0, S, rfl, by omega, hS.out, fun x hx => by rw [hasM_zero]; exact hSl.out x hx, hs.out⟩
        case round =>
          clear hS hSl hs
          obtain ⟨q, S, rfl, hq, hS, hSl, hs⟩ := hrel
          by_cases hqp : q < p
          · have hql : q < gl.length := by rw [hp.out]; exact hqp
            obtain ⟨b3, off3, rfl, hb3, c3⟩ := int_cell (hRo.out.same hs) (k := q) hql hp.out
            have hy := hrg.out _ (List.getElem_mem hql)
            have hst := fun x => hasM_step (x := x) hLd.out hnd.out hql
            obtain ⟨m, hm⟩ : ∃ m : Nat, gl[q] = m := ⟨gl[q].toNat, by omega⟩
            rw [hm] at c3 hy hst
            have hm32 : m < 32 := by omega
            clear hy
            have hSlen := hS.len
            have hmS : m < S.length := by rw [hSlen]; exact hm32
            have c4 := hS.cell hmS
            have hl4 : S[m].l = hasM L m i q := hSl m hmS
            have hlen4 := hasM_len L m i q
            have hown := hS.own m hmS
            have hpush := fun (W w' : World) (hs' : Same wr W) (a' : Option Addr) (c' : Nat) (l' : List Int) (n' : Nat) hn ho hG => hS.push (w' := w') (Nat.le_refl _) hs' hmS (a' := a') (c' := c') (l' := l') (n' := n') hn ho hG
            have hneb : ∀ k, S[m].v.ownBlock = some k → k ≠ w.heap.size := fun k hk e => by
              obtain ⟨cur, e1⟩ := own_block hown hk
              have e2 := hS.blk
              unfold ArrAt at e2
              rw [← e, e1] at e2
              simp at e2
            have hb4 := hS.blk.lt
            have hset : ∀ (x : Nat) (z : Grp) (hx : x < (S.set m z).length), z.l = hasM L m i (q + 1) → (S.set m z)[x].l = hasM L x i (q + 1) := fun x z hx hz => by
              rw [List.length_set] at hx
              by_cases e : m = x
              · subst e; simp only [List.getElem_set_self]; exact hz
              · simp only [List.getElem_set_ne e]
                rw [hSl x hx, hst x, if_neg (fun e' => e (by omega))]
            have hstm := hst m
            rw [if_pos rfl] at hstm
            rw [hl4] at c4 hown
            generalize hgm : S[m] = gm at *
            obtain ⟨xa, xc, xl⟩ := gm
            simp only at c4 hl4
            unfold Grp.v at hown hpush hneb
            simp only [hl4] at hown hpush hneb
            obtain ⟨z, hz⟩ : ∃ z, z = hasM L m i q := ⟨_, rfl⟩
            rw [← hz] at c4 hlen4 hown hpush hneb hstm
            obtain ⟨zl, hzl⟩ : ∃ zl, z.length = zl := ⟨_, rfl⟩
            rw [hzl] at c4 hlen4 hown hpush hneb
            have hblk := hS.blk
            have hwr := hs.size
            clear hl4 hgm
            replace hS := Lib.hid hS; replace hSl := Lib.hid hSl; replace hs := Lib.hid hs; replace hm := Lib.hid hm; replace hst := Lib.hid hst; replace hown := Lib.hid hown; replace hpush := Lib.hid hpush; replace hneb := Lib.hid hneb; replace hset := Lib.hid hset; replace hstm := Lib.hid hstm; replace hz := Lib.hid hz; replace hzl := Lib.hid hzl; replace hblk := Lib.hid hblk
            go_wp2_with (at_builtin; refine wpList_append1 rfl (.tmp 37) (.tmp 39) 23 rfl w.heap.size 3 i3 (.int .i64 0) 1 8 Try.underlying23 hi3 hi3z hi3s hi3b rfl (by decide) (by decide) xa zl xc (intCells z) rfl (owns_same hown.out (by repeat (first | exact Fr.refl _ _ | apply Fr.alloc | apply Fr.drewN | apply Fr.drew | apply Fr.undrew | apply Fr.undrewN))) (by omega) wr.heap.size [.int .i64 i] rfl rfl (heap_new _ _) (by simp [Value.oneCell']) (by simp; omega) ?_; intro a5 c5 w5 ho5 hG5; have hA5 : ArrAt w5 w.heap.size 103 (S.map Grp.v) := (hblk.out.same (show Same wr _ from (by repeat (first | exact Fr.refl _ _ | apply Fr.alloc | apply Fr.drewN | apply Fr.drew | apply Fr.undrew | apply Fr.undrewN)))).fr hG5.1 (fun e => by rcases e with e | e; (exact hneb.out _ e rfl); (exact e)); have af := hA5.free m; have ax := hA5.cell (k := m) (v := Grp.v S[m]) (by simp [hmS]); have ab := hA5.lt; replace ho5 := Lib.hid ho5; replace hG5 := Lib.hid hG5; replace hA5 := Lib.hid hA5)
            have hP := hpush.out (wr.alloc (.cells #[.int .i64 i] 3)) w5 (by repeat (first | exact Fr.refl _ _ | apply Fr.alloc | apply Fr.drewN | apply Fr.drew | apply Fr.undrew | apply Fr.undrewN)) a5 c5 (z ++ [(i : Int)]) (zl + 1) (by simp [hzl.out]) (by have := ho5.out; simpa [intCells] using this) hG5.out
            have hs6 : Same w (w5.setCell ⟨w.heap.size, m, none⟩ (.slice a5 (zl + 1) c5)) := (grew_fresh (hs.out.same (show Same wr _ from (by repeat (first | exact Fr.refl _ _ | apply Fr.alloc | apply Fr.drewN | apply Fr.drew | apply Fr.undrew | apply Fr.undrewN)))) hG5.out (fun k hk => (hown.out.lt k hk).1)).setCell _ _ (by simp)
            replace hP := Lib.hid hP; replace hs6 := Lib.hid hs6
            go_roundw
            case rel => exact ⟨q + 1, _, by go_num, by omega, hP.out, fun x hx => hset.out x _ hx (by rw [hstm.out]), hs6.out⟩
            case measure => simp [intOf]; omega
          · obtain rfl : q = p := by omega
            have hend : ∀ x, hasM L x i q = hasK L x (i + 1) := fun x => hasM_end L x i (by rw [hLd.out, hp.out]; exact Nat.le_refl _)
            replace hS := Lib.hid hS; replace hSl := Lib.hid hSl; replace hs := Lib.hid hs; replace hend := Lib.hid hend
            go_wp2_with fail
            go_roundw
            case rel => exact ⟨i + 1, S, by go_num, by omega, hS.out, fun x hx => by rw [hSl.out x hx, hend.out], hnext.out, hs.out⟩
            case measure => simp [intOf]; omega
      · rw [if_pos hE0] at hdr
        have hfin := hcs.trans hdr
        replace hR := Lib.hid hR; replace hRo := Lib.hid hRo; replace hgl := Lib.hid hgl; replace hdr := Lib.hid hdr; replace hLd := Lib.hid hLd; replace CS := Lib.hid CS; replace hp := Lib.hid hp; replace hE := Lib.hid hE; replace hS := Lib.hid hS; replace hSl := Lib.hid hSl; replace hcs := Lib.hid hcs; replace hs := Lib.hid hs; replace hfin := Lib.hid hfin
        go_wp2_with fail
        refine CS.out.mono ?_
        rintro e w1 ⟨rfl, rfl⟩
        go_wp2_with fail
        go_ret2
        exact .inl ⟨by rw [hfin.out]; exact hE0, by rw [hfin.out]; exact ⟨rfl, hs.out⟩⟩
    · obtain rfl : i = k := by omega
      rw [List.drop_of_length_le (by rw [hLl.out]; exact Nat.le_refl _)] at hcs
      have hcs : csK L = 0 := hcs
      have hSl : ∀ x (h : x < S.length), S[x].l = hasF L x := fun x hx => by rw [hSl x hx, hasF, hLl.out]
      have hS32 := hS.len
      have hblk := hS.blk
      obtain ⟨W3, rfl⟩ : ∃ W3, W3 = wr := ⟨_, rfl⟩
      replace hS := Lib.hid hS; replace hSl := Lib.hid hSl; replace hcs := Lib.hid hcs; replace hs := Lib.hid hs; replace hblk := Lib.hid hblk
      go_upto_region 17 with fail
      refine wp_region_lit ?_
      refine wpList_load_row rfl 103 (.tmp 4) rfl w.heap.size rfl 103 (S.map Grp.v).toArray (0, 0) _ hblk.out arr32 rfl (by rw [size32]; simp [hS32]) ?_
      (try simp only [Act.put, List.setIfInBounds_toArray, List.set_cons_zero, List.set_cons_succ])
      go_wp2_with fail
      go_loopw [10, 45] (fun v10 v45 wr => ∃ (x k2 c2 : Nat) (a2 : Option Addr) (gs2 : List Grp), v45 = .int .i64 x ∧ x ≤ 32 ∧ v10 = .slice a2 k2 c2 ∧ OG W3.heap.size wr a2 k2 c2 gs2 ∧ lst gs2 = shK L x ∧ (∀ y, y < x → ¬ 8 < (hasF L y).length) ∧ Same W3 wr) (fun _ x _ => 32 - (intOf x).toNat)
      case atStart => exact ⟨0, 0, 0, none, [], rfl, by omega, rfl, OG.nil _ _, rfl, fun y hy => by omega, Fr.refl _ _⟩
      case round =>
        obtain ⟨x, k2, c2, a2, gs2, rfl, hx, rfl, hO, hsh, hno, hs2⟩ := hrel
        have hk2 : k2 ≤ x := by
          have h1 := shK_len L x
          rw [← hsh, lst_len, hO.len] at h1
          exact h1
        have hwr := hs2.size
        by_cases hx32 : x < 32
        · have hxS : x < S.length := by rw [hS32]; exact hx32
          have hin : ∀ W, (Instr.index 103 (.agg (S.map Grp.v).toArray) (.int .i64 x)).run Try.prog W = .ok (.slice S[x].a S[x].l.length S[x].cap) W := fun W => index32 W x _ _ (by simp [hxS, Grp.v]) hx32
          have hl := hSl.out x hxS
          have hel := (SliceAt.of_owns (hS.out.own x hxS)).same hs2
          have hstep : shK L (x + 1) = shK L x ++ if 2 ≤ (hasF L x).length then [hasF L x] else [] := rfl
          generalize hgm : S[x] = gm at *
          obtain ⟨xa, xc, xl⟩ := gm
          simp only at hl
          subst hl
          unfold Grp.v at hel
          simp only at hin hel
          obtain ⟨zl, hzl⟩ : ∃ zl, (hasF L x).length = zl := ⟨_, rfl⟩
          have hzb : zl ≤ 41 := by
            have := hasK_len L x L.length
            rw [hLl.out] at this
            rw [← hzl, hasF, hLl.out]; omega
          rw [hzl] at hin hstep hel
          have h64 : x < 9223372036854775807 := by omega
          by_cases h8 : 8 < zl
          · have h8' : (8 : Int) < zl := by omega
            have hlim : lim L := ⟨x, hx32, by rw [hzl]; exact h8⟩
            replace hO := Lib.hid hO; replace hsh := Lib.hid hsh; replace hno := Lib.hid hno; replace hs2 := Lib.hid hs2; replace hgm := Lib.hid hgm; replace hel := Lib.hid hel; replace hstep := Lib.hid hstep; replace hzl := Lib.hid hzl; replace hlim := Lib.hid hlim
            go_wp2_with fail
            go_ret2
            exact .inr (.inl ⟨hcs.out, hlim.out, rfl, hs.out.same hs2.out⟩)
          · have h8' : ¬ (8 : Int) < zl := by omega
            have hno2 : ∀ y, y < x + 1 → ¬ 8 < (hasF L y).length := fun y hy => by
              by_cases e : y = x
              · subst e; rw [hzl]; exact h8
              · exact hno y (by omega)
            by_cases h2 : 2 ≤ zl
            · have h2' : (2 : Int) ≤ zl := by omega
              rw [if_pos h2] at hstep
              replace hO := Lib.hid hO; replace hsh := Lib.hid hsh; replace hno := Lib.hid hno; replace hs2 := Lib.hid hs2; replace hgm := Lib.hid hgm; replace hel := Lib.hid hel; replace hstep := Lib.hid hstep; replace hzl := Lib.hid hzl; replace hno2 := Lib.hid hno2
              go_wp2_with (at_builtin; refine wpList_append1 rfl (.tmp 54) (.tmp 56) 22 rfl W3.heap.size 23 j3 (.slice none 0 0) 1 24 Try.underlying22 hj3 hj3z hj3s hj3b rfl (by decide) (by decide) a2 k2 c2 (gs2.map Grp.v) rfl (owns_same hO.out.own (by repeat (first | exact Fr.refl _ _ | apply Fr.alloc | apply Fr.drewN | apply Fr.drew | apply Fr.undrew | apply Fr.undrewN))) (by omega) wr.heap.size [.slice xa zl xc] rfl rfl (heap_new _ _) (by simp [Value.oneCell']) (by simp; omega) ?_; intro a6 c6 w6 ho6 hG6; replace ho6 := Lib.hid ho6; replace hG6 := Lib.hid hG6)
              have hv6 : Grp.v ⟨xa, xc, hasF L x⟩ = .slice xa zl xc := by unfold Grp.v; simp [hzl.out]
              have hWs : Same wr (wr.alloc (.cells #[.slice xa zl xc] 23)) := (by repeat (first | exact Fr.refl _ _ | apply Fr.alloc | apply Fr.drewN | apply Fr.drew | apply Fr.undrew | apply Fr.undrewN))
              have hG7 := OG.push (g := ⟨xa, xc, hasF L x⟩) hO.out hWs (by rw [hv6]; simp only [hzl.out]; exact hel.out.same hWs) (by rw [hv6]; exact ho6.out) hG6.out
              have hs7 : Same W3 w6 := grew_fresh (hs2.out.same hWs) hG6.out (fun k hk => (hO.out.own.lt k hk).1)
              replace hG7 := Lib.hid hG7; replace hs7 := Lib.hid hs7
              clear ho6 hG6 hv6 hWs
              go_roundw
              case rel => exact ⟨x + 1, k2 + 1, c6, a6, _, by go_num, by omega, rfl, hG7.out, by rw [lst, List.map_append, ← lst, hsh.out, hstep.out]; rfl, hno2.out, hs7.out⟩
              case measure => simp [intOf]; omega
            · have h2' : ¬ (2 : Int) ≤ zl := by omega
              rw [if_neg h2, List.append_nil] at hstep
              replace hO := Lib.hid hO; replace hsh := Lib.hid hsh; replace hno := Lib.hid hno; replace hs2 := Lib.hid hs2; replace hgm := Lib.hid hgm; replace hel := Lib.hid hel; replace hstep := Lib.hid hstep; replace hzl := Lib.hid hzl; replace hno2 := Lib.hid hno2
              go_wp2_with fail
              go_roundw
              case rel => exact ⟨x + 1, k2, c2, a2, gs2, by go_num, by omega, rfl, hO.out, by rw [hsh.out, hstep.out], hno2.out, hs2.out⟩
              case measure => simp [intOf]; omega
        · obtain rfl : x = 32 := by omega
          have hnl : ¬ lim L := fun ⟨y, hy, h⟩ => hno y hy h
          replace hO := Lib.hid hO; replace hsh := Lib.hid hsh; replace hno := Lib.hid hno; replace hs2 := Lib.hid hs2; replace hnl := Lib.hid hnl
          go_wp2_with fail
          go_ret2
          exact .inr (.inr ⟨hcs.out, hnl.out, a2, k2, c2, gs2, rfl, hO.out.gs, hsh.out, hk2, hs.out.same hs2.out⟩)
end Go.Proofs.Ytmmjijmmocabhaa
