/- Count; Any. -/
import Derived.Test.YtaebjalpebgliaaCounts
import Derived.Test.YtaebjalpebgliaaMade
namespace Go.Proofs.Ytaebjalpebgliaa
open Go.RowKit
set_option linter.unusedVariables false
set_option linter.unusedSimpArgs false

set_option maxHeartbeats 400000 in
theorem count_tab (d : Dg) (n : Nat) (t : List Bool) (w : World) (hat : d.at w) (T : d.tab n t) :
    Calls Try.prog 33 #[d.v] w fun e w' => e = .returned (.tuple #[.int .i64 (t.count true : Nat), .int .i64 0]) ∧ Same w w' := by
  have C := fun W (hW : Same w W) => check_tab d n t W (SliceAt.same hat hW) T
  obtain ⟨ho, hv, ht⟩ := T.2.ord
  have D := fun W (hW : Same w W) => counts_any n d.r d.a d.cap d.L W (SliceAt.same hat hW) (by have := T.2.short; omega) ho hv
  rw [ht] at D
  have e := T.1
  rw [Dg.v, e] at C ⊢
  replace C := Lib.hid C
  replace D := Lib.hid D
  clear hat T ho hv ht e
  go_enter Try.func33, Try.ntmps33
  go_wp2_with fail
  refine (C.out _ (by repeat (first | exact Fr.refl _ _ | apply Fr.alloc | apply Fr.drewN | apply Fr.drew | apply Fr.undrew | apply Fr.undrewN))).mono ?_
  rintro e w1 ⟨rfl, hs1⟩
  have kb := hs1.at (heap_new _ _) id
  have r0 := cell_at kb 0
  have r1 := cell_at kb 1
  have r2 := cell_at kb 2
  have hw1 := (show Same w _ from (by repeat (first | exact Fr.refl _ _ | apply Fr.alloc | apply Fr.drewN | apply Fr.drew | apply Fr.undrew | apply Fr.undrewN))).same hs1
  replace kb := Lib.hid kb
  replace hs1 := Lib.hid hs1
  replace hw1 := Lib.hid hw1
  go_wp2_with fail
  refine (D.out _ hw1.out).mono ?_
  rintro e w2 ⟨rfl, hs2⟩
  replace hs2 := Lib.hid hs2
  go_wp2_with fail
  go_ret2
  exact ⟨rfl, hw1.out.same hs2.out⟩

/-- What Any does below a number. -/
def anyF (L : List Nd) : Nat → Int → List Bool → List Bool
  | 0, _, bs => bs
  | f + 1, k, bs => if k < 2 then bs else if (nodeF L k).2.1 = 0 then anyF L f (nodeF L k).2.2 (bs.set (nodeF L k).1.toNat true) else anyF L f (nodeF L k).2.1 bs

theorem anyF_fuel {L : List Nd} (h : VNd L) : ∀ (f g : Nat) (k : Int) (bs : List Bool), VNum L k → k.toNat ≤ f → k.toNat ≤ g → anyF L f k bs = anyF L g k bs := by
  intro f
  induction f with
  | zero =>
    intro g k bs hk hf hg
    cases g with
    | zero => rfl
    | succ g => simp only [anyF]; rw [if_pos (by omega)]
  | succ f ih =>
    intro g k bs hk hf hg
    cases g with
    | zero => simp only [anyF]; rw [if_pos (by omega)]
    | succ g =>
      simp only [anyF]
      by_cases h2 : k < 2
      · rw [if_pos h2, if_pos h2]
      · rw [if_neg h2, if_neg h2]
        have hv := nodeF_valid h (by omega) hk.2
        rw [ih g _ _ hv.2.2.2.1 (by omega) (by omega), ih g _ _ hv.2.2.1 (by omega) (by omega)]

theorem anyF_step {L : List Nd} (h : VNd L) {k : Int} (hk : VNum L k) (h2 : 2 ≤ k) (bs : List Bool) :
    anyF L k.toNat k bs = if (nodeF L k).2.1 = 0 then anyF L (nodeF L k).2.2.toNat (nodeF L k).2.2 (bs.set (nodeF L k).1.toNat true) else anyF L (nodeF L k).2.1.toNat (nodeF L k).2.1 bs := by
  have hv := nodeF_valid h h2 hk.2
  obtain ⟨f, hf⟩ : ∃ f, k.toNat = f + 1 := ⟨k.toNat - 1, by omega⟩
  rw [hf, anyF, if_neg (by omega), anyF_fuel h f _ _ _ hv.2.2.2.1 (by omega) (Nat.le_refl _), anyF_fuel h f _ _ _ hv.2.2.1 (by omega) (Nat.le_refl _)]

theorem anyF_length {L : List Nd} : ∀ (f : Nat) (k : Int) (bs : List Bool), (anyF L f k bs).length = bs.length
  | 0, _, _ => rfl
  | f + 1, k, bs => by
    unfold anyF
    split
    · rfl
    · split
      · rw [anyF_length]; simp
      · rw [anyF_length]

theorem SliceAt.node3 {w : World} {a : Option Addr} {cap : Nat} {L : List Nd} (hL : SliceAt w 80 3 (.slice a L.length cap) L.length (ndCells L)) {k : Int} (h2 : 1 < k) (hk : k < L.length + 2) :
    ∃ b off, a = some ⟨b, off, none⟩ ∧ b < w.heap.size ∧ w.cell? ⟨b, off + (k - 2).toNat * 3, none⟩ = some (.int .i64 (nodeF L k).1) ∧ w.cell? ⟨b, off + (k - 2).toNat * 3 + 1, none⟩ = some (.int .i64 (nodeF L k).2.1) ∧ w.cell? ⟨b, off + (k - 2).toNat * 3 + 2, none⟩ = some (.int .i64 (nodeF L k).2.2) := by
  have hlt : (k - 2).toNat < L.length := by omega
  have := hL.node hlt
  have e : nodeF L k = L[(k - 2).toNat] := by simp [nodeF, hlt]
  rw [e]
  exact this

theorem Kp.setCell {L : Nat → Prop} {w : World} {p : Addr} (h : ¬ L p.block) (u : Value) : Kp L w (w.setCell p u) :=
  Kp.of_fr (S := fun i => i = p.block) ((Fr.refl _ w).setCell _ _ (fun _ => rfl)) (fun k hk _ e => h (e ▸ hk))

theorem Kp.new {w W : World} {o : Obj} (h : W.heap.size = w.heap.size) : Kp (Lk w.heap.size) (w.alloc o).drew (W.alloc o).drew :=
  ⟨by show (w.alloc o).heap.size ≤ (W.alloc o).heap.size; simp [h], fun k hk hl => by
    have e1 : (w.alloc o).heap[w.heap.size]? = some o := heap_new w o
    have e2 : (W.alloc o).heap[w.heap.size]? = some o := heap_new_at h.symm o
    unfold Lk at hk
    subst hk
    show (W.alloc o).heap[w.heap.size]? = (w.alloc o).heap[w.heap.size]?
    rw [e1, e2]⟩

/-- Any returns an assignment. -/
def AnyRet (n : Nat) (bs : List Bool) (w : World) (e : Ending) (w' : World) : Prop :=
  ∃ b, e = .returned (.tuple #[.slice (some ⟨b, 0, none⟩) n n, .bool true, .int .i64 0]) ∧ bs.length = n ∧ BoolsAt w' b bs ∧ w.heap.size ≤ b ∧ Same w w'

set_option maxRecDepth 100000 in
set_option maxHeartbeats 1000000 in
theorem any_some (d : Dg) (n : Nat) (t : List Bool) (w : World) (hat : d.at w) (T : d.tab n t) (h0 : d.r ≠ 0) :
    Calls Try.prog 35 #[d.v] w (AnyRet n (anyF d.L d.r.toNat d.r (List.replicate n false)) w) := by
  have C := fun W (hW : Same w W) => check_tab d n t W (SliceAt.same hat hW) T
  obtain ⟨ho, hv, ht⟩ := T.2.ord
  have e := T.1
  have hsh := T.2.short
  rw [Dg.v, e] at C ⊢
  unfold Dg.at at hat
  generalize d.L = L at *
  generalize d.r = r at *
  generalize d.a = a at *
  generalize d.cap = cap at *
  obtain ⟨i3, hi3, hi3z, hi3s, hi3b⟩ := info_parts info4
  have n40 := ho.n40
  have h0' : (r == 0) = false := by simpa using h0
  have r0 := hv.1
  have r1 := hv.2
  replace C := Lib.hid C
  replace hat := Lib.hid hat
  replace ho := Lib.hid ho
  replace hv := Lib.hid hv
  replace h0 := Lib.hid h0
  obtain ⟨BS, hBS⟩ : ∃ BS, BS = anyF L r.toNat r (List.replicate n false) := ⟨_, rfl⟩
  rw [← hBS]
  replace hBS := Lib.hid hBS
  clear T ht e
  go_enter Try.func35, Try.ntmps35
  go_wp2_with fail
  refine (C.out _ (by repeat (first | exact Fr.refl _ _ | apply Fr.alloc | apply Fr.drewN | apply Fr.drew | apply Fr.undrew | apply Fr.undrewN))).mono ?_
  rintro e w1 ⟨rfl, hs1⟩
  have kb := hs1.at (heap_new _ _) id
  have x0 := cell_at kb 0
  have x1 := cell_at kb 1
  have x2 := cell_at kb 2
  have xb := lt_of_heap kb
  have hw1 := (show Same w _ from (by repeat (first | exact Fr.refl _ _ | apply Fr.alloc | apply Fr.drewN | apply Fr.drew | apply Fr.undrew | apply Fr.undrewN))).same hs1
  have hsz1 := hw1.size
  replace kb := Lib.hid kb
  replace hs1 := Lib.hid hs1
  replace hw1 := Lib.hid hw1
  go_wp2_with (at_make; refine wpList_mkb _ rfl (.tmp 17) (.tmp 17) 26 rfl 4 i3 Try.underlying26 hi3 hi3z hi3s hi3b n rfl rfl (by omega) ?_)
  go_loopw [6] (fun i wr => ∃ (k : Int) (bs : List Bool), i = .int .i64 k ∧ VNum L k ∧ bs.length = n ∧ anyF L k.toNat k bs = BS ∧ BoolsAt wr w1.heap.size bs ∧ wr.heap[w.heap.size]? = some (.cells #[.int .i64 n, .slice a L.length cap, .int .i64 r] 31 (0, 0)) ∧ Same w wr) (fun i _ => (intOf i).toNat)
  case atStart =>
    exact ⟨r, List.replicate n false, rfl, hv.out, by simp, hBS.out.symm, heap_new_at rfl _, heap_old kb.out _, hw1.out.alloc _⟩
  case round =>
    obtain ⟨k, bs, rfl, hk, hbs, hany, hB, hbx, hs⟩ := hrel
    have k0 := hk.1
    have k1 := hk.2
    have y0 := cell_at hbx 0
    have y1 := cell_at hbx 1
    have y2 := cell_at hbx 2
    have yb := lt_of_heap hbx
    have bb := hB.lt
    by_cases hlt : 1 < k
    · obtain ⟨b, off, ha, hb, z0, z1, z2⟩ := (hat.out.same hs).node3 hlt k1
      subst ha
      have hnv := nodeF_valid ho.out.val (by omega) k1
      have hvn := ho.out.var _ (nodeF_mem (by omega) k1)
      have hst := anyF_step ho.out.val hk (by omega) bs
      rw [hany] at hst
      obtain ⟨v, lo, hi, hnd⟩ : ∃ v lo hi, nodeF L k = (v, lo, hi) := ⟨_, _, _, rfl⟩
      rw [hnd] at hnv hvn hst z0 z1 z2
      simp only at hnv hvn hst z0 z1 z2
      obtain ⟨q1, q2, q3, q4, q5, q6⟩ := hnv
      have hw2 : IntKind.i64.wrap (k - 2) = k - 2 := IntWalk.i64_in _ (by omega)
      have hkn : (k - 2).toNat < L.length := by omega
      replace hbx := Lib.hid hbx
      replace hs := Lib.hid hs
      replace hany := Lib.hid hany
      replace hst := Lib.hid hst
      replace hk := Lib.hid hk
      replace q3 := Lib.hid q3
      replace q4 := Lib.hid q4
      replace hnd := Lib.hid hnd
      by_cases hz : lo = 0
      · subst hz
        have cb := hB.cell (k := v.toNat) (by omega)
        have cf := hB.free v.toNat
        replace hB := Lib.hid hB
        have hvb : v.toNat < n := by omega
        replace hbs := Lib.hid hbs
        go_wp2_with fail
        refine wp_region_sched (Lk wr.heap.size) [0, 0, 1, 0, 1, 0, 2, 0] [0, 1, 3, 2, 5, 4, 6, 7] (by kernel_rfl) (by kernel_rfl) ?_
        repeat (first | (refine sched_w rfl rfl (fun _ hK => ?_); go_simp; refine hK _ ?_; clear hK) | (refine sched_s rfl rfl (fun _ hK => ?_); go_simp; first | (refine hK _ ?_; clear hK) | (refine ⟨_, fun _ => rfl, hK _ ?_⟩; clear hK)))
        refine sched_g rfl rfl (fun _ hK => ?_)
        go_simp
        refine hK _ _ (Kp.new (by simp [World.setCell])) ?_
        clear hK
        try simp only [Act.put, List.setIfInBounds_toArray, List.set_cons_zero, List.set_cons_succ]
        repeat (first | (refine sched_w rfl rfl (fun _ hK => ?_); go_simp; refine hK _ ?_; clear hK) | (refine sched_s rfl rfl (fun _ hK => ?_); go_simp; first | (refine hK _ ?_; clear hK) | (refine ⟨_, fun _ => rfl, hK _ ?_⟩; clear hK)))
        refine sched_nil (NoPanic.normal ?_)
        go_wp2_with fail
        go_roundw
        case rel =>
          refine ⟨hi, bs.set v.toNat true, rfl, q4.out, by simpa using hbs.out, ?_, ?_, ?_, ?_⟩
          · have := hst.out
            simp only [if_true] at this
            exact this.symm
          · exact (hB.out.set v.toNat true).fr (S := fun _ => False) (by repeat (first | exact Fr.refl _ _ | apply Fr.alloc | apply Fr.drewN | apply Fr.drew | apply Fr.undrew | apply Fr.undrewN)) id
          · exact heap_old ((heap_setCell_other (by show w.heap.size ≠ w1.heap.size; omega) _).trans hbx.out) _
          · exact (((hs.out.setCell ⟨w1.heap.size, v.toNat, none⟩ (.bool true) (fun h => by simp only at h; omega)).alloc _).drew)
        case measure => simp [intOf]; omega
      · have hz' : (lo == 0) = false := by simpa using hz
        replace hz := Lib.hid hz
        replace hB := Lib.hid hB
        replace hbs := Lib.hid hbs
        go_wp2_with fail
        go_roundw
        case rel =>
          refine ⟨lo, bs, rfl, q3.out, hbs.out, ?_, hB.out.fr (S := fun _ => False) (by repeat (first | exact Fr.refl _ _ | apply Fr.alloc | apply Fr.drewN | apply Fr.drew | apply Fr.undrew | apply Fr.undrewN)) id, heap_old hbx.out _, hs.out.alloc _⟩
          have := hst.out
          rw [if_neg hz.out] at this
          exact this.symm
        case measure => simp [intOf]; omega
    · replace hB := Lib.hid hB
      have h2 : k < 2 := by omega
      have hBSe : BS = bs := by
        rw [← hany]
        cases hkn : k.toNat with
        | zero => rfl
        | succ f => simp only [anyF]; rw [if_pos h2]
      replace hBSe := Lib.hid hBSe
      replace hbs := Lib.hid hbs
      replace hany := Lib.hid hany
      replace hs := Lib.hid hs
      replace hbx := Lib.hid hbx
      replace hk := Lib.hid hk
      go_wp2_with fail
      go_ret3
      refine ⟨w1.heap.size, rfl, by rw [hBSe.out]; exact hbs.out, by rw [hBSe.out]; exact hB.out, hsz1, hs.out⟩
end Go.Proofs.Ytaebjalpebgliaa
