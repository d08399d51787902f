/-  -/
import Derived.Test.YtcipnkemnepbaaaGreatCOrdO
import Derived.Test.YtcipnkemnepbaaaGreatCRowAt
set_option maxRecDepth 100000
set_option maxHeartbeats 1000000
set_option linter.unusedVariables false
set_option linter.unusedSimpArgs false
namespace Go.Proofs.YtcipnkemnepbaaaGreat
open Go.RowKit
def gz (l : List Bool) : List Value := l.map Value.bool
theorem boolCells_get (l : List Bool) (i : Nat) (h : i < l.length) : (gz l)[i]? = some (.bool l[i]) := by
 simp [gz, h]
theorem BRet.of {w w' : World} {B p m : Nat} {a : Option Addr} {cap : Nat} {N N' : List Nd} {k : Int} {e : Ending} (h : BRet (fun _ => False) w B p m a cap N N' k e w') :
 e = .returned (.int .i64 k) ∧ ∃ a' cap', BuilderAt w' B p m a' cap' N' ∧ Grew (BB p m) w w' (.slice a N.length cap) (.slice a' N'.length cap') := by
 obtain ⟨he, a', cap', h1, h2⟩ := h
 exact ⟨he, a', cap', h1, h2.1.mono (fun i _ h' => h'.imp id (fun h'' => h''.resolve_right id)), h2.2⟩
theorem BRet.to {w w' : World} {B p m : Nat} {a a' : Option Addr} {cap cap' : Nat} {N N' : List Nd} {k : Int} {e : Ending} (he : e = .returned (.int .i64 k)) (h1 : BuilderAt w' B p m a' cap' N') (h2 : Grew (BB p m) w w' (.slice a N.length cap) (.slice a' N'.length cap')) :
 BRet (fun _ => False) w B p m a cap N N' k e w' :=
 ⟨he, a', cap', h1, h2.1.mono (fun i _ h' => h'.imp id .inl), h2.2⟩
theorem tableF_length (d : Nat) : ∀ (N : List Nd) (v : Int) (t : List Bool), (tableF d N v t).1.length + 1 ≤ N.length + 2 ^ d := by
 induction d with
 | zero => intro N v t; simp [tableF]
 | succ d ih =>
  intro N v t
  simp only [tableF]
  have h1 := ih N (v + 1) (t.take (t.length / 2))
  have h2 := ih (tableF d N (v + 1) (t.take (t.length / 2))).1 (v + 1) (t.drop (t.length / 2))
  have h3 := numF_length (tableF d (tableF d N (v + 1) (t.take (t.length / 2))).1 (v + 1) (t.drop (t.length / 2))).1 (v, (tableF d N (v + 1) (t.take (t.length / 2))).2, (tableF d (tableF d N (v + 1) (t.take (t.length / 2))).1 (v + 1) (t.drop (t.length / 2))).2)
  rw [Nat.pow_succ]
  omega
theorem RowAt.grew {w w' : World} {B p m : Nat} {a : Option Addr} {cap : Nat} {N : List Nd} {v' : Value} {n : Nat} {aS : Option Addr} {cS : Nat} {cells : List Value} (h : RowAt w (.slice aS n cS) n cells) (hB : BuilderAt w B p m a cap N)
 (hg : Grew (BB p m) w w' (.slice a N.length cap) v') (hS : ∀ k, (Value.slice aS n cS).ownBlock = some k → k < B) : RowAt w' (.slice aS n cS) n cells :=
 h.keep hg.1.size (fun k hk _ => hg.below hB (hS k hk))
theorem table_any (d : Nat) : ∀ (B p m : Nat) (a : Option Addr) (cap : Nat) (N : List Nd) (v : Int) (aT : Option Addr) (capT : Nat) (t : List Bool) (w : World), d ≤ 12 → t.length = 2 ^ d → BuilderAt w B p m a cap N → RowAt w (.slice aT t.length capT) t.length (gz t) →
 (∀ k, (Value.slice aT t.length capT).ownBlock = some k → k < B) → 0 ≤ v → v + d ≤ 100 → N.length + 2 ^ d ≤ 100000 →
 Calls Tryz.prog 51 #[.pointer (some ⟨p, 0, none⟩), .int .i64 v, .slice aT t.length capT] w (BRet (fun _ => False) w B p m a cap N (tableF d N v t).1 (tableF d N v t).2) := by
 induction d with
 | zero =>
  intro B p m a cap N v aT capT t w _ ht hB hT hTB _ _ _
  obtain ⟨x, rfl⟩ : ∃ x, t = [x] := by
   cases t with
   | nil => simp at ht
   | cons x l => cases l with
    | nil => exact ⟨x, rfl⟩
    | cons y l => simp at ht
  obtain ⟨b, off, rfl, hb, hc⟩ := hT.cell (by simp)
  have c0 : w.cell? ⟨b, off, none⟩ = some (.bool x) := hc 0 _ rfl
  have HB := gi hB
  clear hc hT hTB hB ht
  cases x
  · go_enter Tryz.func51, Tryz.ntmps51
    go_wp2_with fail
    go_ret
    exact .of_same HB.out rfl (Fr.refl _ _)
  · go_enter Tryz.func51, Tryz.ntmps51
    go_wp2_with fail
    go_ret
    exact .of_same HB.out rfl (Fr.refl _ _)
 | succ d ih =>
  intro B p m a cap N v aT capT t w hd ht hB hT hTB hv0 hv hlen
  obtain ⟨h, hh⟩ : ∃ h, h = 2 ^ d := ⟨_, rfl⟩
  have hh1 : 1 ≤ h := by rw [hh]; exact Nat.one_le_two_pow
  have ht2 : t.length = 2 * h := by rw [ht, hh, Nat.pow_succ]; omega
  have hh2 : h ≤ 4096 := by rw [hh]; exact Nat.le_trans (Nat.pow_le_pow_right (by omega) (show d ≤ 12 by omega)) (by decide)
  have hlen2 : N.length + 2 * h ≤ 100000 := by rw [← ht2, ht]; exact hlen
  have hform := hT
  obtain ⟨b, off, rfl, hc1⟩ := hT.cut (by omega) 0 h (by omega) (by omega) (by omega)
  obtain ⟨b', off', he, hc2⟩ := hT.cut (by omega) h t.length (by omega) (by omega) (by omega)
  simp only [Option.some.injEq, Addr.mk.injEq, and_true] at he
  obtain ⟨rfl, rfl⟩ := he
  obtain ⟨a1, c1, he1, hcap, hmax⟩ := hT.form
  cases he1
  rw [ht2] at hcap hc2
  unfold maxLen at hmax
  have hte : t.length / 2 = h := by omega
  have hb1 : (Value.slice (some ⟨b, off, none⟩) t.length capT).ownBlock = some b := rfl
  have hbB := hTB b hb1
  have e1 : tableF (d + 1) N v t = numF (tableF d (tableF d N (v + 1) (t.take h)).1 (v + 1) (t.drop h)).1 (v, (tableF d N (v + 1) (t.take h)).2, (tableF d (tableF d N (v + 1) (t.take h)).1 (v + 1) (t.drop h)).2) := by simp only [tableF, hte]
  rw [e1]
  have l1 := tableF_length d N (v + 1) (t.take h)
  have l2 := tableF_length d (tableF d N (v + 1) (t.take h)).1 (v + 1) (t.drop h)
  rw [← hh] at l1 l2
  have g1 : (t.take h).length = h := by simp; omega
  have g2 : (t.drop h).length = h := by simp; omega
  have q1 : (gz t).take h = gz (t.take h) := by simp [gz, List.map_take]
  have q2 : ((gz t).drop h).take h = gz (t.drop h) := by
   rw [List.take_of_length_le (by simp [gz]; omega)]; simp [gz, List.map_drop]
  have hT1 : RowAt w (.slice (some ⟨b, off, none⟩) (t.take h).length capT) (t.take h).length (gz (t.take h)) := by
   rw [g1, ← q1]; simpa using hc1
  have hT2 : RowAt w (.slice (some ⟨b, off + h, none⟩) (t.drop h).length (capT - h)) (t.drop h).length (gz (t.drop h)) := by
   rw [g2, ← q2]
   rw [show 2 * h - h = h by omega] at hc2
   exact hc2
  have F1 : ∀ W, Same w W → Calls Tryz.prog 51 #[.pointer (some ⟨p, 0, none⟩), .int .i64 (v + 1), .slice (some ⟨b, off, none⟩) h capT] W (BRet (fun _ => False) W B p m a cap N (tableF d N (v + 1) (t.take h)).1 (tableF d N (v + 1) (t.take h)).2) := by
   intro W hW
   have := ih B p m a cap N (v + 1) (some ⟨b, off, none⟩) capT (t.take h) W (by omega) (by rw [g1, hh]) (hB.same hW) (hT1.same hW) (fun k hk => by simp [Value.ownBlock] at hk; omega) (by omega) (by omega) (by rw [← hh]; omega)
   rwa [g1] at this
  have F2 : ∀ (a' : Option Addr) (cap' : Nat) (w1 : World), BuilderAt w1 B p m a' cap' (tableF d N (v + 1) (t.take h)).1 → Grew (BB p m) w w1 (.slice a N.length cap) (.slice a' (tableF d N (v + 1) (t.take h)).1.length cap') →
   Calls Tryz.prog 51 #[.pointer (some ⟨p, 0, none⟩), .int .i64 (v + 1), .slice (some ⟨b, off + h, none⟩) h (capT - h)] w1 (BRet (fun _ => False) w1 B p m a' cap' (tableF d N (v + 1) (t.take h)).1 (tableF d (tableF d N (v + 1) (t.take h)).1 (v + 1) (t.drop h)).1 (tableF d (tableF d N (v + 1) (t.take h)).1 (v + 1) (t.drop h)).2) := by
   intro a' cap' w1 hB1 hG1
   have := ih B p m a' cap' (tableF d N (v + 1) (t.take h)).1 (v + 1) (some ⟨b, off + h, none⟩) (capT - h) (t.drop h) w1 (by omega) (by rw [g2, hh]) hB1 (hT2.grew hB hG1 (fun k hk => by simp [Value.ownBlock] at hk; omega)) (fun k hk => by simp [Value.ownBlock] at hk; omega) (by omega) (by omega) (by rw [← hh]; omega)
   rwa [g2] at this
  obtain ⟨N1, k1, hN1⟩ : ∃ N1 k1, tableF d N (v + 1) (t.take h) = (N1, k1) := ⟨_, _, rfl⟩
  obtain ⟨N2, k2, hN2⟩ : ∃ N2 k2, tableF d N1 (v + 1) (t.drop h) = (N2, k2) := ⟨_, _, rfl⟩
  rw [hN1] at F1 F2 l1 l2 ⊢
  simp only [hN2] at F1 F2 l1 l2 ⊢
  clear hT1 hT2 hc1 hc2 hform hT hTB ih e1 q1 q2 g1 g2 hN1 hN2 hte ht hb1
  replace F1 := gi F1
  replace F2 := gi F2
  replace hB := gi hB
  rw [ht2]
  replace hh := gi hh
  replace ht2 := gi ht2
  go_enter Tryz.func51, Tryz.ntmps51
  go_wp2_with fail
  refine wp_region_sched (fun _ => True) [0, 0, 0, 0, 0, 0, 0, 0, 3, 0, 0, 0, 0, 0, 0, 3, 0, 3, 0] [0, 1, 2, 3, 4, 5, 6, 7, 9, 10, 11, 12, 13, 14, 8, 15, 16, 17, 18] (by kernel_rfl) (by kernel_rfl) ?_
  have hs1 : h ≤ capT := by omega
  have hs2 : ¬ capT = h := by omega
  have hs4 : (h : Int) ≤ 2 * h := by omega
  have hs5 : 2 * h - h = h := by omega
  have hs3 : IntKind.i64.wrap (v + 1) = v + 1 := IntWalk.i64_in _ (by omega)
  repeat ((first | refine gB rfl rfl fun _ k => ?_ | refine gC rfl rfl fun _ k => ?_); go_simp; (first | refine k _ ?_ | refine ⟨_, fun _ => rfl, k _ ?_⟩); clear k)
  refine gD rfl (by decide) (fun _ hK => ?_); go_simp
  refine (F1.out _ fs1).mono ?_
  rintro e w1 hr
  obtain ⟨rfl, a1, cap1, hB1, hG1⟩ := hr.of
  have hG1 : Grew (BB p m) w w1 (.slice a N.length cap) (.slice a1 N1.length cap1) := (Grew.of_same _ fs1).trans hG1
  replace hB1 := gi hB1
  replace hG1 := gi hG1
  clear hr
  refine hK _ _ ?_; clear hK; try simp only [Act.put, gj]
  refine gD rfl (by decide) (fun _ hK => ?_); go_simp
  refine (F2.out _ _ _ hB1.out hG1.out).mono ?_
  rintro e w2 hr
  obtain ⟨rfl, a2, cap2, hB2, hG2⟩ := hr.of
  replace hB2 := gi hB2
  replace hG2 := gi hG2
  clear hr
  refine hK _ _ ?_; clear hK; try simp only [Act.put, gj]
  repeat ((first | refine gB rfl rfl fun _ k => ?_ | refine gC rfl rfl fun _ k => ?_); go_simp; (first | refine k _ ?_ | refine ⟨_, fun _ => rfl, k _ ?_⟩); clear k)
  refine gD rfl (by decide) (fun _ hK => ?_); go_simp
  refine (number_any (fun _ => False) B p m a2 cap2 N2 _ _ _ _ hB2.out (by omega)).mono ?_
  rintro e w3 hr
  obtain ⟨rfl, a3, cap3, hB3, hG3⟩ := hr.of
  replace hB3 := gi hB3
  replace hG3 := gi hG3
  clear hr
  refine hK _ _ ?_; clear hK; try simp only [Act.put, gj]
  repeat ((first | refine gB rfl rfl fun _ k => ?_ | refine gC rfl rfl fun _ k => ?_); go_simp; (first | refine k _ ?_ | refine ⟨_, fun _ => rfl, k _ ?_⟩); clear k)
  refine gO (NoPanic.normal ?_)
  go_wp2_with fail
  go_ret
  exact .to rfl hB3.out ((hG1.out.trans hG2.out).trans hG3.out)
end Go.Proofs.YtcipnkemnepbaaaGreat
