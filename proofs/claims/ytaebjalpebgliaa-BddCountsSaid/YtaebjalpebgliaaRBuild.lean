/- The reference's Build and Diagram. -/
import Derived.Test.YtaebjalpebgliaaT1
import Derived.Test.YtaebjalpebgliaaTable
import Derived.Test.YtaebjalpebgliaaCheck
namespace Go.Proofs.Ytaebjalpebgliaa
open Go.RowKit
set_option linter.unusedVariables false
set_option linter.unusedSimpArgs false

/-- Build returns nodes that it owns, and a number. -/
def RRet (B : Nat) (w : World) (a : Option Addr) (cap : Nat) (N N' : List Nd) (k : Int) (e : Ending) (w' : World) : Prop :=
  ∃ a' cap', e = .returned (.tuple #[.slice a' N'.length cap', .int .i64 k]) ∧ w'.ownsRow B 83 3 (.slice a' N'.length cap') N'.length (ndCells N') ∧ Grew (fun _ => False) w w' (.slice a N.length cap) (.slice a' N'.length cap')

theorem infoR : (Try.prog.info? 83).map (fun i => (i.zero, i.size, i.bytes)) = some (some (.agg #[.int .i64 0, .int .i64 0, .int .i64 0]), 3, 24) := by kernel_rfl

theorem own_keep {w W : World} {a : Option Addr} {cap n : Nat} {v' : Value} {m : Nat} {aS : Option Addr} {cS B : Nat} {cells : List Value} (h : RowAt w (.slice aS m cS) m cells) (hg : Grew (fun _ => False) w W (.slice a n cap) v')
    {TT : TypeId} {ss : Nat} {cc : List Value} (ho : w.ownsRow B TT ss (.slice a n cap) n cc) (hS : ∀ k, (Value.slice aS m cS).ownBlock = some k → k < B) : RowAt W (.slice aS m cS) m cells := by
  refine h.keep hg.1.size (fun b hb hlt0 => hg.1.block b hlt0 ?_)
  rintro (h' | h')
  · have hlt := hS b hb
    rcases ho.2 with ⟨h0, _⟩ | ⟨g, c, cu, h0, hbg, _⟩
    · rw [h0] at h'; simp [Value.ownBlock] at h'
    · rw [h0] at h'; simp [Value.ownBlock] at h'; omega
  · exact h'

set_option maxRecDepth 100000 in
set_option maxHeartbeats 1000000 in
theorem build_any (d : Nat) : ∀ (B : Nat) (a : Option Addr) (cap : Nat) (N : List Nd) (v : Int) (aT : Option Addr) (capT : Nat) (t : List Bool) (w : World), d ≤ 12 → t.length = 2 ^ d → w.ownsRow B 83 3 (.slice a N.length cap) N.length (ndCells N) →
    RowAt w (.slice aT t.length capT) t.length (boolCells t) → (∀ k, (Value.slice aT t.length capT).ownBlock = some k → k < B) → B ≤ w.heap.size → 0 ≤ v → v + d ≤ 100 → N.length + 2 ^ d ≤ 100000 →
    Calls Try.prog 75 #[.slice a N.length cap, .int .i64 v, .slice aT t.length capT] w (RRet B w a cap N (tableF d N v t).1 (tableF d N v t).2) := by
  induction d with
  | zero =>
    intro B a cap N v aT capT t w _ ht hO hT hTB _ _ _ _
    obtain ⟨x, rfl⟩ : ∃ x, t = [x] := by
      cases t with
      | nil => simp at ht
      | cons x l => cases l with
        | nil => exact ⟨x, rfl⟩
        | cons y l => simp at ht
    obtain ⟨b, off, rfl, hb, hc⟩ := hT.cell (by simp)
    have c0 : w.cell? ⟨b, off, none⟩ = some (.bool x) := hc 0 _ rfl
    have HO := Lib.hid hO
    clear hc hT hTB hO ht
    cases x
    · go_enter Try.func75, Try.ntmps75
      go_wp2_with fail
      go_ret2
      exact ⟨a, cap, rfl, HO.out, Grew.refl _ _ _⟩
    · go_enter Try.func75, Try.ntmps75
      go_wp2_with fail
      go_ret2
      exact ⟨a, cap, rfl, HO.out, Grew.refl _ _ _⟩
  | succ d ih =>
    intro B a cap N v aT capT t w hd ht hO hT hTB hBw hv0 hv hlen
    obtain ⟨h, hh⟩ : ∃ h, h = 2 ^ d := ⟨_, rfl⟩
    have hh1 : 1 ≤ h := by rw [hh]; exact Nat.one_le_two_pow
    have ht2 : t.length = 2 * h := by rw [ht, hh, Nat.pow_succ]; omega
    have hh2 : h ≤ 4096 := by rw [hh]; exact Nat.le_trans (Nat.pow_le_pow_right (by omega) (show d ≤ 12 by omega)) (by decide)
    have hlen2 : N.length + 2 * h ≤ 100000 := by rw [← ht2, ht]; exact hlen
    obtain ⟨b, off, rfl, hc1⟩ := hT.cut (by omega) 0 h (by omega) (by omega) (by omega)
    obtain ⟨b', off', he, hc2⟩ := hT.cut (by omega) h t.length (by omega) (by omega) (by omega)
    simp only [Option.some.injEq, Addr.mk.injEq, and_true] at he
    obtain ⟨rfl, rfl⟩ := he
    obtain ⟨a1, c1, he1, hcap, hmax⟩ := hT.form
    cases he1
    rw [ht2] at hcap hc2
    unfold maxLen at hmax
    have hte : t.length / 2 = h := by omega
    have hb1 : (Value.slice (some ⟨b, off, none⟩) t.length capT).ownBlock = some b := rfl
    have hbB := hTB b hb1
    have e1 : tableF (d + 1) N v t = numF (tableF d (tableF d N (v + 1) (t.take h)).1 (v + 1) (t.drop h)).1 (v, (tableF d N (v + 1) (t.take h)).2, (tableF d (tableF d N (v + 1) (t.take h)).1 (v + 1) (t.drop h)).2) := by simp only [tableF, hte]
    rw [e1]
    have l1 := tableF_length d N (v + 1) (t.take h)
    have l2 := tableF_length d (tableF d N (v + 1) (t.take h)).1 (v + 1) (t.drop h)
    rw [← hh] at l1 l2
    have g1 : (t.take h).length = h := by simp; omega
    have g2 : (t.drop h).length = h := by simp; omega
    have q1 : (boolCells t).take h = boolCells (t.take h) := by simp [boolCells, List.map_take]
    have q2 : ((boolCells t).drop h).take h = boolCells (t.drop h) := by
      rw [List.take_of_length_le (by simp [boolCells]; omega)]; simp [boolCells, List.map_drop]
    have hT1 : RowAt w (.slice (some ⟨b, off, none⟩) (t.take h).length capT) (t.take h).length (boolCells (t.take h)) := by
      rw [g1, ← q1]; simpa using hc1
    have hT2 : RowAt w (.slice (some ⟨b, off + h, none⟩) (t.drop h).length (capT - h)) (t.drop h).length (boolCells (t.drop h)) := by
      rw [g2, ← q2]
      rw [show 2 * h - h = h by omega] at hc2
      exact hc2
    have F1 : Calls Try.prog 75 #[.slice a N.length cap, .int .i64 (v + 1), .slice (some ⟨b, off, none⟩) h capT] w (RRet B w a cap N (tableF d N (v + 1) (t.take h)).1 (tableF d N (v + 1) (t.take h)).2) := by
      have := ih B a cap N (v + 1) (some ⟨b, off, none⟩) capT (t.take h) w (by omega) (by rw [g1, hh]) hO hT1 (fun k hk => by simp [Value.ownBlock] at hk; omega) hBw (by omega) (by omega) (by rw [← hh]; omega)
      rwa [g1] at this
    have F2 : ∀ (a' : Option Addr) (cap' : Nat) (w1 : World), w1.ownsRow B 83 3 (.slice a' (tableF d N (v + 1) (t.take h)).1.length cap') (tableF d N (v + 1) (t.take h)).1.length (ndCells (tableF d N (v + 1) (t.take h)).1) → Grew (fun _ => False) w w1 (.slice a N.length cap) (.slice a' (tableF d N (v + 1) (t.take h)).1.length cap') →
        Calls Try.prog 75 #[.slice a' (tableF d N (v + 1) (t.take h)).1.length cap', .int .i64 (v + 1), .slice (some ⟨b, off + h, none⟩) h (capT - h)] w1 (RRet B w1 a' cap' (tableF d N (v + 1) (t.take h)).1 (tableF d (tableF d N (v + 1) (t.take h)).1 (v + 1) (t.drop h)).1 (tableF d (tableF d N (v + 1) (t.take h)).1 (v + 1) (t.drop h)).2) := by
      intro a' cap' w1 hB1 hG1
      have := ih B a' cap' (tableF d N (v + 1) (t.take h)).1 (v + 1) (some ⟨b, off + h, none⟩) (capT - h) (t.drop h) w1 (by omega) (by rw [g2, hh]) hB1 (own_keep hT2 hG1 hO (fun k hk => by simp [Value.ownBlock] at hk; omega)) (fun k hk => by simp [Value.ownBlock] at hk; omega) (Nat.le_trans hBw hG1.1.size) (by omega) (by omega) (by rw [← hh]; omega)
      rwa [g2] at this
    obtain ⟨N1, k1, hN1⟩ : ∃ N1 k1, tableF d N (v + 1) (t.take h) = (N1, k1) := ⟨_, _, rfl⟩
    obtain ⟨N2, k2, hN2⟩ : ∃ N2 k2, tableF d N1 (v + 1) (t.drop h) = (N2, k2) := ⟨_, _, rfl⟩
    rw [hN1] at F1 F2 l1 l2 ⊢
    simp only [hN2] at F1 F2 l1 l2 ⊢
    clear hT1 hT2 hc1 hc2 hT hTB ih e1 q1 q2 g1 g2 hN1 hN2 hte ht hb1
    replace F1 := Lib.hid F1
    replace F2 := Lib.hid F2
    replace hO := Lib.hid hO
    rw [ht2]
    replace hh := Lib.hid hh
    replace ht2 := Lib.hid ht2
    have hs1 : h ≤ capT := by omega
    have hs2 : ¬ capT = h := by omega
    have hs4 : (h : Int) ≤ 2 * h := by omega
    have hs5 : 2 * h - h = h := by omega
    obtain ⟨i0, hi, hz0, hz1, hz2⟩ := info_parts infoR
    go_enter Try.func75, Try.ntmps75
    go_wp2_with fail
    refine F1.out.mono ?_
    rintro e w1 ⟨a1, cap1, rfl, hO1, hG1⟩
    replace hO1 := Lib.hid hO1
    replace hG1 := Lib.hid hG1
    go_wp2_with fail
    refine (F2.out _ _ _ hO1.out hG1.out).mono ?_
    rintro e w2 ⟨a2, cap2, rfl, hO2, hG2⟩
    have hG := hG1.out.trans hG2
    replace hO2 := Lib.hid hO2
    replace hG := Lib.hid hG
    have hB2 : B ≤ w2.heap.size := Nat.le_trans hBw hG.out.1.size
    clear hG1 hG2
    by_cases hk : k1 = k2
    · subst hk
      have en : numF N2 (v, k1, k1) = (N2, k1) := by simp [numF]
      replace en := Lib.hid en
      go_wp2_with fail
      go_ret2
      rw [en.out]
      exact ⟨a2, cap2, rfl, hO2.out, hG.out⟩
    · have hb : (k1 == k2) = false := by simpa using hk
      by_cases hf : findFrom N2 (v, k1, k2) 2 = 0
      · have en : numF N2 (v, k1, k2) = (N2 ++ [(v, k1, k2)], (N2.length : Int) + 2) := by simp [numF, hk, hf]
        replace en := Lib.hid en
        replace hk := Lib.hid hk
        replace hf := Lib.hid hf
        go_wp2_with fail
        refine (find_any a2 cap2 N2 (v, k1, k2) _ ((SliceAt.of_owns hO2.out).same (by repeat (first | exact Fr.refl _ _ | apply Fr.alloc | apply Fr.drewN | apply Fr.drew))) (by omega)).mono ?_
        rintro e w3 ⟨rfl, hs3⟩
        have hs3' : Same w2 w3 := (show Same w2 _ from (by repeat (first | exact Fr.refl _ _ | apply Fr.alloc | apply Fr.drewN | apply Fr.drew))).same hs3
        have kb := hs3.at (heap_new _ _) id
        have r0 := cell_at kb 0
        have r1 := cell_at kb 1
        have r2 := cell_at kb 2
        replace kb := Lib.hid kb
        replace hs3 := Lib.hid hs3
        have hO3 := owns_same hO2.out hs3'
        replace hO3 := Lib.hid hO3
        have hB3 : B ≤ w3.heap.size := Nat.le_trans hB2 hs3'.size
        replace hs3' := Lib.hid hs3'
        rw [hf.out]
        go_wp2_with (first | (at_builtin; refine wpList_append1 rfl (.tmp 60) (.tmp 62) 77 rfl B 83 i0 (.agg #[.int .i64 0, .int .i64 0, .int .i64 0]) 3 24 Try.underlying77 hi hz0 hz1 hz2 rfl (by decide) (by decide) a2 N2.length cap2 (ndCells N2) rfl (owns_same hO3.out (by repeat (first | exact Fr.refl _ _ | apply Fr.alloc | apply Fr.drewN | apply Fr.drew))) (by omega) w3.heap.size [.int .i64 v, .int .i64 k1, .int .i64 k2] rfl rfl (heap_new_at (by simp) _) (by simp [Value.oneCell']) (by simp; omega) ?_; intro a3 cap3 w4 hO4 hG4; have hG4' := hG.out.trans ((Grew.of_same _ ((show Same w2 _ from hs3'.out.alloc _))).trans hG4); replace hO4 := Lib.hid hO4; replace hG4' := Lib.hid hG4'; clear hG4))
        go_ret2
        rw [en.out]
        exact ⟨a3, cap3, by simp, by simpa [ndCells_append, ndCells] using hO4.out, by simpa using hG4'.out⟩
      · have en : numF N2 (v, k1, k2) = (N2, findFrom N2 (v, k1, k2) 2) := by simp [numF, hk, hf]
        have hr := (findFrom_range N2 (v, k1, k2) 2 (by omega)).resolve_left hf
        obtain ⟨fn, hfn⟩ : ∃ fn, fn = findFrom N2 (v, k1, k2) 2 := ⟨_, rfl⟩
        rw [← hfn] at en hr
        have hr1 : 0 < fn := by omega
        replace hfn := Lib.hid hfn
        replace en := Lib.hid en
        replace hk := Lib.hid hk
        replace hf := Lib.hid hf
        clear hr
        go_wp2_with fail
        refine (find_any a2 cap2 N2 (v, k1, k2) _ ((SliceAt.of_owns hO2.out).same (by repeat (first | exact Fr.refl _ _ | apply Fr.alloc | apply Fr.drewN | apply Fr.drew))) (by omega)).mono ?_
        rintro e w3 ⟨rfl, hs3⟩
        have hs3' : Same w2 w3 := (show Same w2 _ from (by repeat (first | exact Fr.refl _ _ | apply Fr.alloc | apply Fr.drewN | apply Fr.drew))).same hs3
        have hO3 := owns_same hO2.out hs3'
        replace hO3 := Lib.hid hO3
        replace hs3' := Lib.hid hs3'
        replace hs3 := Lib.hid hs3
        rw [← hfn.out]
        go_wp2_with fail
        go_ret2
        rw [en.out]
        exact ⟨a2, cap2, rfl, hO3.out, hG.out.trans (Grew.of_same _ hs3'.out)⟩

set_option maxHeartbeats 400000 in
/-- The reference's Diagram. -/
theorem rdiagram_row (n : Nat) (aT : Option Addr) (capT : Nat) (t : List Bool) (w : World) (hn : n ≤ 12) (ht : t.length = 2 ^ n) (hT : RowAt w (.slice aT t.length capT) t.length (boolCells t)) :
    Calls Try.prog 47 #[.slice aT t.length capT] w fun e w' => ∃ a' cap', e = .returned (.tuple #[.slice a' (tableF n [] 0 t).1.length cap', .int .i64 (tableF n [] 0 t).2]) ∧
      SliceAt w' 83 3 (.slice a' (tableF n [] 0 t).1.length cap') (tableF n [] 0 t).1.length (ndCells (tableF n [] 0 t).1) ∧ Same w w' := by
  have h2 : 2 ^ n ≤ 2 ^ 12 := Nat.pow_le_pow_right (by omega) hn
  have hp := Nat.two_pow_pos n
  have hown := hT.below
  have F := build_any n w.heap.size none 0 [] 0 aT capT t w hn ht (World.ownsRow_nil _ _ _ _) hT (fun k hk => hown (by omega) k hk) (Nat.le_refl _) (by omega) (by omega) (by simp; omega)
  simp only [List.length_nil] at F
  replace F := Lib.hid F
  clear hown hT ht h2 hp
  go_enter Try.func47, Try.ntmps47
  go_wp2_with fail
  refine F.out.mono ?_
  rintro e w1 ⟨a1, cap1, rfl, hO1, hG1⟩
  replace hO1 := Lib.hid hO1
  replace hG1 := Lib.hid hG1
  go_wp2_with fail
  go_ret2
  exact ⟨a1, cap1, rfl, SliceAt.of_owns hO1.out, hG1.out.1.mono (fun i _ h => by rcases h with h | h; simp [Value.ownBlock] at h; exact h)⟩

theorem rdiagram_any (n : Nat) (aT : Option Addr) (capT : Nat) (t : List Bool) (w : World) (hn : n ≤ 12) (ht : t.length = 2 ^ n) (hT : SliceAt w 4 1 (.slice aT t.length capT) t.length (boolCells t)) :
    Calls Try.prog 47 #[.slice aT t.length capT] w fun e w' => ∃ a' cap', e = .returned (.tuple #[.slice a' (tableF n [] 0 t).1.length cap', .int .i64 (tableF n [] 0 t).2]) ∧
      SliceAt w' 83 3 (.slice a' (tableF n [] 0 t).1.length cap') (tableF n [] 0 t).1.length (ndCells (tableF n [] 0 t).1) ∧ Same w w' :=
  rdiagram_row n aT capT t w hn ht hT.row
end Go.Proofs.Ytaebjalpebgliaa
