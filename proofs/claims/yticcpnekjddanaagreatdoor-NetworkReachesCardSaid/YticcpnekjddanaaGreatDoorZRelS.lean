/-  -/
import Derived.Test.YticcpnekjddanaaGreatDoorZRelB
import Derived.Test.YticcpnekjddanaaGreatDoorZRelN
import Derived.Test.YticcpnekjddanaaGreatDoorZSortI
import Derived.Test.YticcpnekjddanaaGreatDoorZGrpW
import Derived.Test.YticcpnekjddanaaGreatDoorZRestr
import Derived.Test.YticcpnekjddanaaGreatDoorZGrpP
set_option maxRecDepth 100000
set_option maxHeartbeats 4000000
set_option linter.unusedVariables false
set_option linter.unusedSimpArgs false
namespace Go.Proofs.YticcpnekjddanaaGreatDoor
open Go.RowKit
def qeh (l : List Nat) : List Value := l.map fun (c : Nat) => Value.int .i64 (c : Int)
theorem qm0 (l : List Nat) : (qeh l).length = l.length := by simp [qeh]
theorem qo1 {w : World} {a : Option Addr} {cap n : Nat} {l : List Nat} (h : qan w (.slice a n cap) n (qeh l)) {k : Nat} (hk : k < l.length) (hn : l.length = n) :
 ∃ b off, a = some ⟨b, off, none⟩ ∧ b < w.heap.size ∧ w.cell? ⟨b, off + k, none⟩ = some (.int .i64 l[k]) := by
 obtain ⟨b, off, ha, hb, hc⟩ := h.cell (by omega)
 exact ⟨b, off, ha, hb, hc k _ (by simp [qeh, hk])⟩
theorem qo2 (args : Array Value) (W : World) : (callFunc 155 args).run Tryz.prog W = .ok (.enter 155 args) W := by kernel_rfl
theorem qlq (c d bs : Nat) (w : World) (hd : d ≤ 60) (kb : w.heap[bs]? = some (.cells #[.int .i64 d] 3 (0, 0))) :
 Calls Tryz.prog 155 #[.int .i64 c, .pointer (some ⟨bs, 0, none⟩)] w fun e w' => e = .returned (.bool (decide (c / 2 ^ d % 2 = 1))) ∧ w' = w := by
 have b0 := gn kb 0
 have bl := gu kb
 have h := qoX c d
 have hmin : min d 64 = d := by omega
 clear kb
 go_enter Tryz.func155, Tryz.ntmps155
 go_wp2_with fail
 go_ret
 exact ⟨by first | rfl | rw [h] | simp [h], rfl⟩
theorem qm1 (l : List Nat) (d base bs : Nat) (a : Option Addr) (cap q : Nat) (w : World) (kb : w.heap[bs]? = some (.cells #[.int .i64 d] 3 (0, 0))) (hq : l.length = q) (hl : qan w (.slice a q cap) q (qeh l)) (hq9 : q ≤ 1000000) (hd : d ≤ 60)
 (hb : 2 ^ (d + 1) ∣ base) (hr : ∀ x ∈ l, base ≤ x ∧ x < base + 2 ^ (d + 1)) :
 Calls Tryz.prog 154 #[.slice a q cap, .func (.func 155) #[] #[.pointer (some ⟨bs, 0, none⟩)]] w fun e w' =>
  ∃ k, k ≤ q ∧ e = .returned (.int .i64 (if k < q then k else -1)) ∧ (∀ j (h : j < l.length), j < k → l[j] < base + 2 ^ d) ∧ (∀ h : k < l.length, base + 2 ^ d ≤ l[k]) ∧ qad w w' := by
 have e1 := qo2
 replace kb := gi kb; replace hq := gi hq; replace hl := gi hl; replace hb := gi hb; replace hr := gi hr
 go_enter Tryz.func154, Tryz.ntmps154
 go_wp2_with fail
 go_loopw [8] (fun i wr => ∃ k : Nat, i = .int .i64 k ∧ k ≤ q ∧ (∀ j (h : j < l.length), j < k → l[j] < base + 2 ^ d) ∧ qad w wr) (fun i _ => q - (intOf i).toNat)
 case atStart => exact ⟨0, rfl, by omega, fun j h hj => by omega, Fr.refl _ _⟩
 case round =>
  obtain ⟨k, rfl, hk, hlo, hs⟩ := hrel
  by_cases hlt : k < q
  · have hkl : k < l.length := by rw [hq.out]; exact hlt
    obtain ⟨b, off, rfl, hbl, c0⟩ := qo1 (hl.out.same hs) hkl hq.out
    obtain ⟨r1, r2⟩ := hr.out _ (List.getElem_mem hkl)
    have hmb := mid_bit hb.out r1 r2
    have C1 := qlq l[k] d bs wr hd (hs.at kb.out id)
    rw [hmb] at C1
    have hxx : ∃ x, x = l[k] := ⟨_, rfl⟩
    obtain ⟨x, hx⟩ := hxx
    rw [← hx] at c0 C1 r1 r2
    by_cases hm : base + 2 ^ d ≤ x
    · rw [show decide (base + 2 ^ d ≤ x) = true by simpa using hm] at C1
      replace hs := gi hs; replace hlo := gi hlo; replace C1 := gi C1; replace hx := gi hx; replace hmb := gi hmb; replace hm := gi hm; replace r1 := gi r1; replace r2 := gi r2
      go_wp2_with fail
      refine C1.out.mono ?_
      rintro e w1 ⟨rfl, rfl⟩
      go_wp2_with fail
      go_ret
      exact ⟨k, by omega, by rw [if_pos hlt]; rfl, hlo.out, fun h => by rw [← hx.out]; exact hm.out, hs.out⟩
    · rw [show decide (base + 2 ^ d ≤ x) = false by simpa using hm] at C1
      replace hs := gi hs; replace hlo := gi hlo; replace C1 := gi C1; replace hx := gi hx; replace hmb := gi hmb; replace hm := gi hm; replace r1 := gi r1; replace r2 := gi r2
      go_wp2_with fail
      refine C1.out.mono ?_
      rintro e w1 ⟨rfl, rfl⟩
      go_wp2_with fail
      go_roundw
      case rel => exact ⟨k + 1, by go_num, by omega, fun j h hj => by
       by_cases e : j = k
       · subst e; have := hm.out; have := hx.out; omega
       · exact hlo.out j h (by omega), hs.out⟩
      case measure => simp [intOf]; omega
  · obtain rfl : k = q := by omega
    replace hs := gi hs; replace hlo := gi hlo
    go_wp2_with fail
    go_ret
    exact ⟨k, by omega, by rw [if_neg hlt]; rfl, hlo.out, fun h => by have := hq.out; omega, hs.out⟩
theorem qox.of {w w' : World} {z : Int} {B p m : Nat} {a : Option Addr} {cap : Nat} {N N' : List Nd} {k : Int} {e : Ending} (h : qox (fun _ => False) w z B p m a cap N N' k e w') :
 e = .returned (.int .i64 k) ∧ ∃ a' cap', qe9 w' z B p m a' cap' N' ∧ qaK (BB p m) w w' (.slice a N.length cap) (.slice a' N'.length cap') := by
 obtain ⟨he, a', cap', h1, h2⟩ := h
 exact ⟨he, a', cap', h1, h2.1.mono (fun i _ h' => h'.imp id (fun h'' => h''.resolve_right id)), h2.2⟩
theorem qox.to {w w' : World} {z : Int} {B p m : Nat} {a a' : Option Addr} {cap cap' : Nat} {N N' : List Nd} {k : Int} {e : Ending} (he : e = .returned (.int .i64 k)) (h1 : qe9 w' z B p m a' cap' N') (h2 : qaK (BB p m) w w' (.slice a N.length cap) (.slice a' N'.length cap')) :
 qox (fun _ => False) w z B p m a cap N N' k e w' :=
 ⟨he, a', cap', h1, h2.1.mono (fun i _ h' => h'.imp id .inl), h2.2⟩
theorem qaK.belowR {w w' : World} {z : Int} {B p m : Nat} {a : Option Addr} {cap : Nat} {N : List Nd} {v' : Value} (hB : qe9 w z B p m a cap N) (hg : qaK (BB p m) w w' (.slice a N.length cap) v') {k : Nat} (hk : k < B) : w'.heap[k]? = w.heap[k]? := by
 have hpl := gu hB.blk
 have hpb := hB.pb
 refine hg.1.block k (by omega) ?_
 rintro (h | h | h)
 · have := (hB.own.lt k h).1; omega
 · omega
 · have := hB.mb; omega
theorem qan.grewR {w w' : World} {z : Int} {B p m : Nat} {a : Option Addr} {cap : Nat} {N : List Nd} {v' : Value} {n : Nat} {aS : Option Addr} {cS : Nat} {cells : List Value} (h : qan w (.slice aS n cS) n cells) (hB : qe9 w z B p m a cap N)
 (hg : qaK (BB p m) w w' (.slice a N.length cap) v') (hS : ∀ k, (Value.slice aS n cS).ownBlock = some k → k < B) : qan w' (.slice aS n cS) n cells :=
 h.keep hg.1.size (fun k hk _ => hg.belowR hB (hS k hk))
theorem qei (z v : Int) (p c : Nat) (a : Option Addr) (w : World) : Calls Tryz.prog 145 #[.pointer (some ⟨p, 0, none⟩), .slice a 0 c, .int .i64 v] w fun e w' => e = .returned (.int .i64 0) ∧ w' = w := by
 go_enter Tryz.func145, Tryz.ntmps145
 go_wp2_with fail
 go_ret
 exact ⟨rfl, rfl⟩
theorem qm2 (d : Nat) : ∀ (z B p m : Nat) (a : Option Addr) (cap : Nat) (N : List Nd) (v base : Nat) (aL : Option Addr) (q capL : Nat) (l : List Nat) (w : World), d ≤ 12 → v + d = z → z ≤ 40 → 2 ^ d ∣ base → (∀ x ∈ l, base ≤ x ∧ x < base + 2 ^ d) → l.Pairwise (· < ·) → l.length = q → q ≤ 1000000 →
 qe9 w z B p m a cap N → qan w (.slice aL q capL) q (qeh l) → (∀ k, (Value.slice aL q capL).ownBlock = some k → k < B) → N.length + 2 ^ d ≤ 100000 →
 Calls Tryz.prog 145 #[.pointer (some ⟨p, 0, none⟩), .slice aL q capL, .int .i64 v] w (qox (fun _ => False) w z B p m a cap N (qal d N v (qcH d base l)).1 (qal d N v (qcH d base l)).2) := by
 induction d with
 | zero =>
  intro z B p m a cap N v base aL q capL l w _ hvd hz _ hr hp hq hq9 hB hl hlB _
  by_cases h0 : q = 0
  · have hl0 : l = [] := List.length_eq_zero_iff.1 (by omega)
    subst h0 hl0
    rw [qhg, qb8]
    exact (qei z v p capL aL w).mono fun e w' ⟨he, hw⟩ => .of_same hB he (hw ▸ Fr.refl _ _)
  · have hmem : base ∈ l := by
      have h1 := hr _ (List.getElem_mem (show 0 < l.length by omega))
      have h2 : l[0]'(by omega) = base := by simp at h1; omega
      rw [← h2]
      exact List.getElem_mem _
    have ht : qal 0 N v (qcH 0 base l) = (N, 1) := by simp [qal, qcH, hmem]
    rw [ht]
    have c0 := gn hB.blk 0
    have pl := gu hB.blk
    obtain rfl : v = z := by omega
    have hq0 : ((q : Int) == 0) = false := by simp; omega
    have HB := gi hB
    clear hB hl hlB hr hp hmem ht h0
    go_enter Tryz.func145, Tryz.ntmps145
    go_wp2_with fail
    go_ret
    exact .of_same HB.out rfl (Fr.refl _ _)
 | succ d ih =>
  intro z B p m a cap N v base aL q capL l w hd hvd hz hdv hr hp hq hq9 hB hl hlB hlen
  by_cases h0 : q = 0
  · have hl0 : l = [] := List.length_eq_zero_iff.1 (by omega)
    subst h0 hl0
    rw [qhg, qb8]
    exact (qei z v p capL aL w).mono fun e w' ⟨he, hw⟩ => .of_same hB he (hw ▸ Fr.refl _ _)
  · have hpw : (2 : Nat) ^ (d + 1) = 2 ^ d + 2 ^ d := by rw [Nat.pow_succ]; omega
    have hp0 : 0 < 2 ^ d := Nat.two_pow_pos d
    have hp12 : 2 ^ d ≤ 4096 := Nat.le_trans (Nat.pow_le_pow_right (by omega) (show d ≤ 12 by omega)) (by decide)
    have hdd : 2 ^ d ∣ base := Nat.dvd_trans ⟨2, by rw [hpw]; omega⟩ hdv
    have IX := fun bs W (hW : qad w W) (kb : W.heap[bs]? = some (.cells #[.int .i64 d] 3 (0, 0))) => qm1 l d base bs aL capL q W kb hq (hl.same hW) hq9 (by omega) hdv hr
    have c0 := gn hB.blk 0
    have pl := gu hB.blk
    have hq0 : ((q : Int) == 0) = false := by simp; omega
    have hvz : ((v : Int) == (z : Int)) = false := by simp; omega
    have hw1 : IntKind.i64.wrap ((z : Int) - 1 - v) = d := by rw [IntWalk.i64_in _ (by omega)]; omega
    have hw2 : IntKind.i64.wrap ((z : Int) - 1) = (z : Int) - 1 := IntWalk.i64_in _ (by omega)
    have hw3 : IntKind.i64.wrap ((v : Int) + 1) = ((v + 1 : Nat) : Int) := by rw [IntWalk.i64_in _ (by omega)]; omega
    have hbw := hB.pb
    have hform := hl.form
    obtain ⟨a0, cap0, he0, hqc, hcm⟩ := hform
    cases he0
    unfold maxLen at hcm
    obtain ⟨bl, offl, rfl, _, _⟩ := hl.cell (by omega)
    have hblB := hlB bl rfl
    have hts := qcR (d + 1) base l
    -- the three calls, for wherever the list is parted
    have F1 : ∀ k, k ≤ q → (∀ j (h : j < l.length), j < k → l[j] < base + 2 ^ d) → (∀ j (h : j < l.length), k ≤ j → base + 2 ^ d ≤ l[j]) → ∀ W, qad w W →
     Calls Tryz.prog 145 #[.pointer (some ⟨p, 0, none⟩), .slice (some ⟨bl, offl, none⟩) k capL, .int .i64 ((v + 1 : Nat) : Int)] W (qox (fun _ => False) W z B p m a cap N (qal d N ((v + 1 : Nat) : Int) (qcH d base (l.take k))).1 (qal d N ((v + 1 : Nat) : Int) (qcH d base (l.take k))).2) := by
     intro k hk hlo hhi W hW
     refine ih z B p m a cap N (v + 1) base (some ⟨bl, offl, none⟩) k capL (l.take k) W (by omega) (by omega) hz hdd (fun x hx => ?_) (List.Pairwise.sublist (List.take_sublist k l) hp) (by rw [List.length_take]; omega) (by omega) (hB.same hW) ?_ (fun i hi => hlB i hi) (by omega)
     · obtain ⟨j, hj, e⟩ := List.mem_take_iff_getElem.1 hx
       have h1 := hlo j (by omega) (by omega)
       have h2 := hr _ (List.mem_of_mem_take hx)
       omega
     · have hcut := (hl.same hW).cut (by omega) 0 k (by omega) hk (by omega)
       obtain ⟨b', o', e', hc⟩ := hcut
       cases e'
       simpa [qeh, List.map_take] using hc
    have F2 : ∀ k, k ≤ q → (∀ j (h : j < l.length), j < k → l[j] < base + 2 ^ d) → (∀ j (h : j < l.length), k ≤ j → base + 2 ^ d ≤ l[j]) → ∀ (N1 : List Nd) (a' aX : Option Addr) (cap' cX : Nat) (W : World), qe9 W z B p m a' cap' N1 → qan W (.slice aX (q - k) cX) (q - k) (qeh (l.drop k)) → (∀ i, (Value.slice aX (q - k) cX).ownBlock = some i → i < B) → N1.length + 2 ^ d ≤ 100000 →
     Calls Tryz.prog 145 #[.pointer (some ⟨p, 0, none⟩), .slice aX (q - k) cX, .int .i64 ((v + 1 : Nat) : Int)] W (qox (fun _ => False) W z B p m a' cap' N1 (qal d N1 ((v + 1 : Nat) : Int) (qcH d (base + 2 ^ d) (l.drop k))).1 (qal d N1 ((v + 1 : Nat) : Int) (qcH d (base + 2 ^ d) (l.drop k))).2) := by
     intro k hk hlo hhi N1 a' aX cap' cX W hB1 hX hXB hN1
     refine ih z B p m a' cap' N1 (v + 1) (base + 2 ^ d) aX (q - k) cX (l.drop k) W (by omega) (by omega) hz (Nat.dvd_add hdd (Nat.dvd_refl _)) (fun x hx => ?_) (List.Pairwise.sublist (List.drop_sublist k l) hp) (by rw [List.length_drop]; omega) (by omega) hB1 hX hXB hN1
     obtain ⟨j, hj, e⟩ := List.mem_iff_getElem.1 hx
     rw [List.length_drop] at hj
     rw [List.getElem_drop] at e
     have h1 := hhi (k + j) (by omega) (by omega)
     have h2 := hr _ (List.mem_of_mem_drop hx)
     omega
    have hDrop : ∀ k, k < q → ∀ W, qad w W → qan W (.slice (some ⟨bl, offl + k, none⟩) (q - k) (capL - k)) (q - k) (qeh (l.drop k)) := by
     intro k hk W hW
     obtain ⟨b', o', e', hc⟩ := (hl.same hW).cut (by omega) k q (by omega) (by omega) hk
     cases e'
     have e2 : ((qeh l).drop k).take (q - k) = qeh (l.drop k) := by
      rw [List.take_of_length_le (by rw [List.length_drop, qm0]; omega)]
      simp [qeh, List.map_drop]
     rw [e2] at hc
     exact hc
    have hsorted : ∀ k, (∀ h : k < l.length, base + 2 ^ d ≤ l[k]) → ∀ j (h : j < l.length), k ≤ j → base + 2 ^ d ≤ l[j] := by
     intro k hk j hj hkj
     by_cases e : k = j
     · subst e; exact hk hj
     · have h1 := hk (by omega)
       have h2 := List.pairwise_iff_getElem.1 hp k j (by omega) hj (by omega)
       omega
    have hfin : ∀ k, (∀ j (h : j < l.length), j < k → l[j] < base + 2 ^ d) → (∀ j (h : j < l.length), k ≤ j → base + 2 ^ d ≤ l[j]) → ∀ N1 k1 N2 k2, qal d N ((v + 1 : Nat) : Int) (qcH d base (l.take k)) = (N1, k1) → qal d N1 ((v + 1 : Nat) : Int) (qcH d (base + 2 ^ d) (l.drop k)) = (N2, k2) →
     qal (d + 1) N v (qcH (d + 1) base l) = qa2 N2 ((v : Int), k1, k2) := by
     intro k hlo hhi N1 k1 N2 k2 e1 e2
     rw [qe2 d N v hts, qmS hhi, qmT hlo, show (v : Int) + 1 = ((v + 1 : Nat) : Int) by omega, e1]
     simp only
     rw [e2]
    have hlenF := fun (N : List Nd) (t : List Bool) => qcN d N ((v + 1 : Nat) : Int) t
    clear ih hdv hdd hr hp hlB
    obtain ⟨R, hR⟩ : ∃ R, R = qal (d + 1) N v (qcH (d + 1) base l) := ⟨_, rfl⟩
    rw [← hR]
    obtain ⟨u, hu⟩ : ∃ u, u = v + 1 := ⟨_, rfl⟩
    rw [← hu] at F1 F2 hfin hlenF hw3
    obtain ⟨HB2, _⟩ : (Hid (qe9 w z B p m a cap N)) ∧ True := ⟨gi hB, trivial⟩
    replace hB := gi hB; replace hl := gi hl; replace F1 := gi F1; replace F2 := gi F2; replace hDrop := gi hDrop; replace hsorted := gi hsorted; replace hfin := gi hfin; replace hlenF := gi hlenF; replace IX := gi IX; replace hR := gi hR; replace hq := gi hq; replace hts := gi hts; replace hu := gi hu
    clear HB2
    go_enter Tryz.func145, Tryz.ntmps145
    go_wp2_with fail
    have kb := gv w (.cells #[.int .i64 d] 3)
    refine (IX.out _ _ fs2 kb).mono ?_
    rintro e w1 ⟨k, hk, rfl, hlo, hhi, hs1⟩
    have hhi := hsorted.out k hhi
    have hs1 : qad w w1 := (show qad w _ from fs2).same hs1
    have hF1 := F1.out k hk hlo hhi
    have hF2 := F2.out k hk hlo hhi
    have hFA := hfin.out k hlo hhi
    obtain ⟨N1, k1, hN1⟩ : ∃ N1 k1, qal d N ((u : Nat) : Int) (qcH d base (l.take k)) = (N1, k1) := ⟨_, _, rfl⟩
    obtain ⟨N2, k2, hN2⟩ : ∃ N2 k2, qal d N1 ((u : Nat) : Int) (qcH d (base + 2 ^ d) (l.drop k)) = (N2, k2) := ⟨_, _, rfl⟩
    have hFN := hFA N1 k1 N2 k2 hN1 hN2
    clear hFA
    have l1 := hlenF.out N (qcH d base (l.take k))
    have l2 := hlenF.out N1 (qcH d (base + 2 ^ d) (l.drop k))
    rw [hN1] at hF1 l1
    have hF2 := fun a' aX cap' cX W h1 h2 h3 => hF2 N1 a' aX cap' cX W h1 h2 h3 (by simp only at l1; omega)
    rw [hN2] at hF2 l2
    simp only at hF1 hF2 l1 l2
    have hkc : (k : Int) ≤ capL := by omega
    have hkc2 : k ≤ capL := by omega
    have hk0 : (0 : Int) ≤ k := by omega
    by_cases hkq : k < q
    · rw [if_pos hkq]
      have hkq' : (k : Int) ≤ q := by omega
      have hkne : ¬ capL = k := by omega
      have hneg : ¬ (k : Int) < 0 := by omega
      have hD := hDrop.out k hkq
      clear hlo hhi kb hN1 hN2
      replace hF1 := gi hF1; replace hF2 := gi hF2; replace hFN := gi hFN; replace hs1 := gi hs1; replace hD := gi hD; replace l1 := gi l1; replace l2 := gi l2
      go_wp2_with fail
      refine (hF1.out _ hs1.out).mono ?_
      rintro e w2 hr
      obtain ⟨rfl, a1, cap1, hB1, hG1⟩ := hr.of
      have hB0 := hB.out.same hs1.out
      have hX := (hD.out _ hs1.out).grewR hB0 hG1 (fun i hi => by simp [Value.ownBlock] at hi; omega)
      have hG1 : qaK (BB p m) w w2 (.slice a N.length cap) (.slice a1 N1.length cap1) := (qaK.of_same _ hs1.out).trans hG1
      replace hB1 := gi hB1; replace hG1 := gi hG1; replace hX := gi hX
      clear hr hB0
      go_wp2_with fail
      refine (hF2.out _ _ _ _ _ hB1.out hX.out (fun i hi => by simp [Value.ownBlock] at hi; omega)).mono ?_
      rintro e w3 hr
      obtain ⟨rfl, a2, cap2, hB2, hG2⟩ := hr.of
      replace hB2 := gi hB2; replace hG2 := gi hG2
      clear hr
      go_wp2_with fail
      refine (qhi (fun _ => False) z B p m a2 cap2 N2 _ _ _ _ hB2.out (by have := l1.out; have := l2.out; omega)).mono ?_
      rintro e w4 hr
      obtain ⟨rfl, a3, cap3, hB3, hG3⟩ := hr.of
      rw [← hFN.out, ← hR.out] at hB3 hG3
      replace hB3 := gi hB3; replace hG3 := gi hG3
      clear hr
      go_wp2_with fail
      go_ret
      exact .to (by rw [← hFN.out, ← hR.out]; rfl) hB3.out ((hG1.out.trans hG2.out).trans hG3.out)
    · rw [if_neg hkq]
      obtain rfl : k = q := by omega
      have hd0 : l.drop k = [] := List.drop_of_length_le (by rw [hq.out]; exact Nat.le_refl _)
      rw [hd0, qhg, qb8] at hN2
      obtain ⟨rfl, rfl⟩ := Prod.mk.inj hN2
      clear hlo hhi kb hN1 hN2 hF2
      by_cases hkne : capL = k
      · subst hkne
        replace hF1 := gi hF1; replace hFN := gi hFN; replace hs1 := gi hs1; replace l1 := gi l1; replace l2 := gi l2
        go_wp2_with fail
        refine (hF1.out _ hs1.out).mono ?_
        rintro e w2 hr
        obtain ⟨rfl, a1, cap1, hB1, hG1⟩ := hr.of
        have hG1 : qaK (BB p m) w w2 (.slice a N.length cap) (.slice a1 N1.length cap1) := (qaK.of_same _ hs1.out).trans hG1
        replace hB1 := gi hB1; replace hG1 := gi hG1
        clear hr
        go_wp2_with fail
        refine (qei z _ p _ _ _).mono ?_
        rintro e w3 ⟨rfl, rfl⟩
        go_wp2_with fail
        refine (qhi (fun _ => False) z B p m a1 cap1 N1 _ _ _ _ hB1.out (by have := l1.out; have := l2.out; omega)).mono ?_
        rintro e w4 hr
        obtain ⟨rfl, a3, cap3, hB3, hG3⟩ := hr.of
        rw [← hFN.out, ← hR.out] at hB3 hG3
        replace hB3 := gi hB3; replace hG3 := gi hG3
        clear hr
        go_wp2_with fail
        go_ret
        exact .to (by rw [← hFN.out, ← hR.out]; rfl) hB3.out (hG1.out.trans hG3.out)
      · replace hF1 := gi hF1; replace hFN := gi hFN; replace hs1 := gi hs1; replace l1 := gi l1; replace l2 := gi l2
        go_wp2_with fail
        refine (hF1.out _ hs1.out).mono ?_
        rintro e w2 hr
        obtain ⟨rfl, a1, cap1, hB1, hG1⟩ := hr.of
        have hG1 : qaK (BB p m) w w2 (.slice a N.length cap) (.slice a1 N1.length cap1) := (qaK.of_same _ hs1.out).trans hG1
        replace hB1 := gi hB1; replace hG1 := gi hG1
        clear hr
        go_wp2_with fail
        refine (qei z _ p _ _ _).mono ?_
        rintro e w3 ⟨rfl, rfl⟩
        go_wp2_with fail
        refine (qhi (fun _ => False) z B p m a1 cap1 N1 _ _ _ _ hB1.out (by have := l1.out; have := l2.out; omega)).mono ?_
        rintro e w4 hr
        obtain ⟨rfl, a3, cap3, hB3, hG3⟩ := hr.of
        rw [← hFN.out, ← hR.out] at hB3 hG3
        replace hB3 := gi hB3; replace hG3 := gi hG3
        clear hr
        go_wp2_with fail
        go_ret
        exact .to (by rw [← hFN.out, ← hR.out]; rfl) hB3.out (hG1.out.trans hG3.out)
def DgS (S : Nat → Prop) (n : Nat) (t : List Bool) (w : World) (e : Ending) (w' : World) : Prop :=
 ∃ d : Dg, e = .returned (.tuple #[.agg #[.int .i64 d.n, .slice d.a d.L.length d.cap, .int .i64 d.r], .int .i64 0]) ∧ d.at w' ∧ d.tab n t ∧ Fr S w w'
theorem qlr {l : List Int} (h : ∀ x ∈ l, 0 ≤ x) : qeh (l.map Int.toNat) = gw l := by
 unfold qeh gw
 rw [List.map_map]
 refine List.map_congr_left (fun x hx => ?_)
 have := h x hx
 simp only [Function.comp]
 congr 1
 omega
theorem qcA {w : World} {b : Nat} {x y z u0 u1 u2 : Value} {T : TypeId} (h : w.heap[b]? = some (.cells #[x, y, z] T (0, 0))) :
 let W := ((w.setCell ⟨b, 0, none⟩ u0).setCell ⟨b, 1, none⟩ u1).setCell ⟨b, 2, none⟩ u2
 W.heap[b]? = some (.cells #[u0, u1, u2] T (0, 0)) ∧ Fr (fun k => k = b) w W := ⟨qde h, qaU⟩
theorem qkp (n : Nat) (zs : List Int) (a : Option Addr) (cap q base : Nat) (w : World) (hn : n ≤ 12) (hq : zs.length = q) (hq9 : q ≤ 1000000) (hz : ∀ x ∈ zs, 0 ≤ x ∧ x < ((2 ^ n : Nat) : Int)) (ho : w.ownsRow base 3 1 (.slice a q cap) q (gw zs)) :
 Calls Tryz.prog 136 #[.int .i64 n, .slice a q cap] w (DgS (fun k => (Value.slice a q cap).ownBlock = some k) n (qcH n 0 (zs.map Int.toNat)) w) := by
 obtain ⟨h1, h2⟩ := qjw zs
 have hcl := qmZ zs
 obtain ⟨cz, hcz⟩ : ∃ cz, cz = qmY zs := ⟨_, rfl⟩
 rw [← hcz] at h1 h2 hcl
 have hsl := qe4 zs
 have SO := fun (W : World) (h : W.ownsRow base 3 1 (.slice a q cap) q (gw zs)) => by
  have := qo0 base zs a cap W (by rw [hq]; exact h) (by omega)
  rw [hq] at this
  exact this
 have CO := fun (W : World) (h : W.ownsRow base 3 1 (.slice a q cap) q (gw (qeg zs))) => by
  have := qjv base (qeg zs) a cap W (by rw [hsl, hq]; exact h) (by omega)
  rw [hsl, hq, show Go.Lib.compact (qeg zs) = cz from hcz.symm] at this
  exact this
 have hcz0 : ∀ x ∈ cz, 0 ≤ x := fun x hx => (hz x ((h2 x).1 hx)).1
 have htab : qcH n 0 (cz.map Int.toNat) = qcH n 0 (zs.map Int.toNat) := qoU (fun x => by
  simp only [List.mem_map]
  constructor
  · rintro ⟨y, hy, rfl⟩; exact ⟨y, (h2 y).1 hy, rfl⟩
  · rintro ⟨y, hy, rfl⟩; exact ⟨y, (h2 y).2 hy, rfl⟩)
 obtain ⟨t, ht⟩ : ∃ t, t = qcH n 0 (zs.map Int.toNat) := ⟨_, rfl⟩
 have htl : t.length = 2 ^ n := by rw [ht, qcR]
 have hT := qbN.of (by omega) htl
 have hsh := hT.short
 have hp12 : 2 ^ n ≤ 4096 := Nat.le_trans (Nat.pow_le_pow_right (by omega) hn) (by decide)
 obtain ⟨l, hl⟩ : ∃ l, cz.length = l := ⟨_, rfl⟩
 have CD := fun B p m aL capL W (hB : qe9 W n B p m none 0 []) (hR : qan W (.slice aL l capL) l (gw cz)) (hb : ∀ k, (Value.slice aL l capL).ownBlock = some k → k < B) => by
  have := qm2 n n B p m none 0 [] 0 0 aL l capL (cz.map Int.toNat) W hn (by omega) (by omega) (by simp) (fun x hx => by
   obtain ⟨y, hy, rfl⟩ := List.mem_map.1 hx
   have := hz y ((h2 y).1 hy)
   omega) (by
   rw [List.pairwise_map]
   refine List.Pairwise.imp_of_mem ?_ h1
   intro x y hx hy hxy
   have := hcz0 x hx
   have := hcz0 y hy
   omega) (by rw [List.length_map, hl]) (by omega) hB (by rw [qlr hcz0]; exact hR) hb (by simp; omega)
  rw [htab, ← ht] at this
  exact this
 rw [← ht]
 obtain ⟨N, hN⟩ : ∃ N, N = (qal n [] 0 t).1 := ⟨_, rfl⟩
 obtain ⟨r, hr⟩ : ∃ r, r = (qal n [] 0 t).2 := ⟨_, rfl⟩
 have CD := fun B p m aL capL W hB hR hb => by
  have := CD B p m aL capL W hB hR hb
  rw [show ((0 : Nat) : Int) = 0 from rfl, ← hN, ← hr] at this
  exact this
 rw [← hN, ← hr] at hT
 rw [← hN] at hsh
 have hNl : ¬ (16384 : Int) < (N.length : Int) := by omega
 have hmm := @run_makeMap Tryz.prog
 rw [hl] at CO
 replace SO := gi SO; replace CO := gi CO; replace CD := gi CD; replace ho := gi ho; replace hz := gi hz; replace h1 := gi h1; replace h2 := gi h2; replace hcz := gi hcz; replace hcz0 := gi hcz0; replace htab := gi htab; replace ht := gi ht; replace htl := gi htl; replace hT := gi hT; replace hN := gi hN; replace hr := gi hr; replace hq := gi hq; replace hl := gi hl; replace hsl := gi hsl; replace hcl := gi hcl; replace hp12 := gi hp12
 go_enter Tryz.func136, Tryz.ntmps136
 go_wp2_with fail
 have kb := gv w (.cells #[.int .i64 0, .slice none 0 0, .int .i64 0] 46)
 have hs0 : qad w (w.alloc (.cells #[.int .i64 0, .slice none 0 0, .int .i64 0] 46)) := fs2
 have ho0 := qag ho.out hs0
 refine (SO.out _ ho0).mono ?_
 rintro e w1 ⟨rfl, ho1, hG1⟩
 have kb1 : w1.heap[w.heap.size]? = some (.cells #[.int .i64 0, .slice none 0 0, .int .i64 0] 46 (0, 0)) := hG1.1.at kb (fun hk => by
  rcases hk with hk | hk
  · have := (ho.out.lt _ hk).2; omega
  · exact hk)
 have hF1 : Fr (fun k => (Value.slice a q cap).ownBlock = some k) w w1 := (hs0.mono (fun _ _ f => f.elim)).trans hG1.1 (fun i _ hk => hk.elim id (fun f => f.elim))
 have hw1 := hF1.size
 have hlt1 := gu kb1
 clear ho0 hs0 hG1 kb
 replace ho1 := gi ho1; replace kb1 := gi kb1; replace hF1 := gi hF1
 go_wp2_with fail
 have hRB : qe9 ((w1.alloc (.map #[] 0)).alloc (.cells #[.int .i64 n, .slice none 0 0, .map (some w1.heap.size)] 198)) n w1.heap.size (w1.heap.size + 1) w1.heap.size none 0 [] :=
  ⟨qae (by simp) _, World.ownsRow_nil _ _ _ _, (qcj w1).of_block (Below.heap_alloc _ _ _ (by simp)), by simp, Nat.le_refl _⟩
 have hs2 : qad w1 ((w1.alloc (.map #[] 0)).alloc (.cells #[.int .i64 n, .slice none 0 0, .map (some w1.heap.size)] 198)) := fs2
 refine (CO.out _ (qag ho1.out hs2)).mono ?_
 rintro e w2 ⟨rfl, ho2, hG2⟩
 have hB2 := hRB.fr hG2.1 (fun hk => by
  rcases hk with hk | hk
  · have := (ho1.out.lt _ hk).2; omega
  · exact hk) (fun hk => by
  rcases hk with hk | hk
  · have := (ho1.out.lt _ hk).2; omega
  · exact hk) (fun k hk => by simp [Value.ownBlock] at hk)
 have kb2 := hG2.1.at (hs2.at kb1.out id) (fun hk => by
  rcases hk with hk | hk
  · have := (ho.out.lt _ hk).2; omega
  · exact hk)
 have hF2 : Fr (fun k => (Value.slice a q cap).ownBlock = some k) w w2 := (hF1.out.same hs2).trans hG2.1 (fun i _ hk => hk.elim id (fun f => f.elim))
 have hlB : ∀ k, (Value.slice a l cap).ownBlock = some k → k < w1.heap.size := fun k hk => (ho1.out.lt k (by cases a <;> first | (simp [Value.ownBlock] at hk; done) | simpa [Value.ownBlock] using hk)).2
 have hw2 : w1.heap.size ≤ w2.heap.size := Nat.le_trans hs2.size hG2.1.size
 clear hRB hs2 hG2
 replace ho2 := gi ho2; replace hB2 := gi hB2; replace kb2 := gi kb2; replace hF2 := gi hF2; replace hlB := gi hlB
 go_wp2_with fail
 refine (CD.out w1.heap.size (w1.heap.size + 1) w1.heap.size a cap w2 hB2.out (qaa.of_owns ho2.out).row hlB.out).mono ?_
 rintro e w3 hres
 obtain ⟨rfl, a3, cap3, hB3, hG3⟩ := hres.of
 have kb3 := hG3.1.at kb2.out (fun hk => by
  rcases hk with hk | hk | hk
  · simp [Value.ownBlock] at hk
  · omega
  · omega)
 have hF3 : Fr (fun k => (Value.slice a q cap).ownBlock = some k) w w3 := hF2.out.trans hG3.1 (fun i hi hk => by
  rcases hk with hk | hk | hk
  · simp [Value.ownBlock] at hk
  · omega
  · omega)
 obtain ⟨p0, p1, pl⟩ := g2l hB3.blk
 obtain ⟨x0, x1, x2⟩ := g3 kb3
 have z0 := qak kb3 0
 have z1 := qak kb3 1
 have z2 := qak kb3 2
 have xl := gu kb3
 clear hres
 replace hB3 := gi hB3; replace hG3 := gi hG3; replace kb3 := gi kb3; replace hF3 := gi hF3
 go_wp2_with fail
 obtain ⟨hk, hf⟩ := qcA (u0 := .int .i64 n) (u1 := .slice a3 N.length cap3) (u2 := .int .i64 r) kb3.out
 obtain ⟨d0, d1, d2, dl⟩ := g3l hk
 have hfin : Fr (fun k => (Value.slice a q cap).ownBlock = some k) w (((w3.setCell ⟨w.heap.size, 0, none⟩ (.int .i64 n)).setCell ⟨w.heap.size, 1, none⟩ (.slice a3 N.length cap3)).setCell ⟨w.heap.size, 2, none⟩ (.int .i64 r)) := hF3.out.trans hf (fun i hi e => by omega)
 have hdat : qaa (((w3.setCell ⟨w.heap.size, 0, none⟩ (.int .i64 n)).setCell ⟨w.heap.size, 1, none⟩ (.slice a3 N.length cap3)).setCell ⟨w.heap.size, 2, none⟩ (.int .i64 r)) 132 3 (.slice a3 N.length cap3) N.length (qap N) :=
  (qaa.of_owns hB3.out.own).fr hf (fun k cur hk' e => by
   have e2 := kb3.out
   rw [← (show k = w.heap.size from e), hk'] at e2
   simp at e2)
 simp at d0 d1 d2
 refine bodyPost_ret (v := .tuple #[.agg #[.int .i64 n, .slice a3 N.length cap3, .int .i64 r], .int .i64 0]) (by simp [results, Tryz.results136, go_sem, d0, d1, d2]) rfl ?_
 exact ⟨⟨n, a3, cap3, N, r⟩, rfl, hdat, ⟨rfl, hT.out⟩, hfin⟩
theorem qar {w : World} {b : Nat} {x y z : Value} {T : TypeId} (h : w.heap[b]? = some (.cells #[x, y, z] T (0, 0))) :
 w.cell? ⟨b, 0, none⟩ = some x ∧ w.cell? ⟨b, 1, none⟩ = some y ∧ w.cell? ⟨b, 2, none⟩ = some z ∧ w.frozen? ⟨b, 0, none⟩ = false ∧ w.frozen? ⟨b, 1, none⟩ = false ∧ w.frozen? ⟨b, 2, none⟩ = false ∧ b < w.heap.size :=
 ⟨gn h 0, gn h 1, gn h 2, qak h 0, qak h 1, qak h 2, gu h⟩
theorem qaI {w0 w : World} {b : Nat} {d : Dg} {x y z : Value} (hs : qad w0 w) (hb : w0.heap.size ≤ b) (hd : d.at w) (kb : w.heap[b]? = some (.cells #[x, y, z] 46 (0, 0))) :
 (((w.setCell ⟨b, 0, none⟩ (.int .i64 d.n)).setCell ⟨b, 1, none⟩ (.slice d.a d.L.length d.cap)).setCell ⟨b, 2, none⟩ (.int .i64 d.r)).cell? ⟨b, 0, none⟩ = some (.int .i64 d.n) ∧
 (((w.setCell ⟨b, 0, none⟩ (.int .i64 d.n)).setCell ⟨b, 1, none⟩ (.slice d.a d.L.length d.cap)).setCell ⟨b, 2, none⟩ (.int .i64 d.r)).cell? ⟨b, 1, none⟩ = some (.slice d.a d.L.length d.cap) ∧
 (((w.setCell ⟨b, 0, none⟩ (.int .i64 d.n)).setCell ⟨b, 1, none⟩ (.slice d.a d.L.length d.cap)).setCell ⟨b, 2, none⟩ (.int .i64 d.r)).cell? ⟨b, 2, none⟩ = some (.int .i64 d.r) ∧
 d.at (((w.setCell ⟨b, 0, none⟩ (.int .i64 d.n)).setCell ⟨b, 1, none⟩ (.slice d.a d.L.length d.cap)).setCell ⟨b, 2, none⟩ (.int .i64 d.r)) ∧
 qad w0 (((w.setCell ⟨b, 0, none⟩ (.int .i64 d.n)).setCell ⟨b, 1, none⟩ (.slice d.a d.L.length d.cap)).setCell ⟨b, 2, none⟩ (.int .i64 d.r)) := by
 obtain ⟨hk, hf⟩ := qcA (u0 := .int .i64 d.n) (u1 := .slice d.a d.L.length d.cap) (u2 := .int .i64 d.r) kb
 exact ⟨gn hk 0, gn hk 1, gn hk 2, qaa.fr hd hf (fun k cur hk' e => by
  rw [← (show k = b from e), hk'] at kb
  simp at kb), hs.trans hf (fun i hi e => by have : i = b := e; omega)⟩
theorem qdi {w0 w : World} {b : Nat} {x y z : Value} (hs : qad w0 w) (hb : w0.heap.size ≤ b) (kb : w.heap[b]? = some (.cells #[x, y, z] 46 (0, 0))) :
 (((w.setCell ⟨b, 0, none⟩ (.int .i64 0)).setCell ⟨b, 1, none⟩ (.slice none 0 0)).setCell ⟨b, 2, none⟩ (.int .i64 0)).cell? ⟨b, 0, none⟩ = some (.int .i64 0) ∧
 (((w.setCell ⟨b, 0, none⟩ (.int .i64 0)).setCell ⟨b, 1, none⟩ (.slice none 0 0)).setCell ⟨b, 2, none⟩ (.int .i64 0)).cell? ⟨b, 1, none⟩ = some (.slice none 0 0) ∧
 (((w.setCell ⟨b, 0, none⟩ (.int .i64 0)).setCell ⟨b, 1, none⟩ (.slice none 0 0)).setCell ⟨b, 2, none⟩ (.int .i64 0)).cell? ⟨b, 2, none⟩ = some (.int .i64 0) ∧
 qad w0 (((w.setCell ⟨b, 0, none⟩ (.int .i64 0)).setCell ⟨b, 1, none⟩ (.slice none 0 0)).setCell ⟨b, 2, none⟩ (.int .i64 0)) := by
 obtain ⟨hk, hf⟩ := qcA (u0 := .int .i64 0) (u1 := .slice none 0 0) (u2 := .int .i64 0) kb
 exact ⟨gn hk 0, gn hk 1, gn hk 2, hs.trans hf (fun i hi e => by have : i = b := e; omega)⟩
abbrev DgN (n : Nat) (t : List Bool) (w : World) (e : Ending) (w' : World) : Prop :=
 ∃ d : Dg, e = .returned (.tuple #[.agg #[.int .i64 d.n, .slice d.a d.L.length d.cap, .int .i64 d.r], .int .i64 0]) ∧ d.at w' ∧ d.tab n t ∧ qad w w'
theorem DgS.same {S : Nat → Prop} {n : Nat} {t : List Bool} {w0 w : World} {e : Ending} {w' : World} (h : DgS S n t w e w') (hs : qad w0 w) (hS : ∀ i, i < w0.heap.size → ¬ S i) : DgN n t w0 e w' := by
 obtain ⟨d, h1, h2, h3, h4⟩ := h
 exact ⟨d, h1, h2, h3, hs.trans h4 (fun i hi hk => (hS i hi hk).elim)⟩
theorem Set_ok {n : Nat} (hn : n ≤ 4096) (l : List Int) (a : Option Addr) (q cap : Nat) (w : World) (hq : l.length = q) (hl : qan w (.slice a q cap) q (gw l)) (hq9 : q ≤ 1000) (h0 : qaw n l l.length 0 = 0) :
 Calls Tryz.prog 123 #[.int .i64 n, .slice a q cap] w (DgN (qa1 n) (qcH (qa1 n) 0 (l.map Int.toNat)) w) := by
 have CC := fun W => qoY hn W
 have CS := fun W (hW : qad w W) => qdh n l a cap W (by omega) (by rw [hq]; exact hl.same hW)
 rw [h0, hq] at CS
 have BI := fun W => qfe n W hn
 have CL := fun W (hW : qad w W) => qeL l a cap q W hq (hl.same hW) (by omega)
 have hrg := qii h0
 have h12 := qcQ hn
 have hle := (qcz hn).le
 have MD := fun base aC cC W (ho : W.ownsRow base 3 1 (.slice aC q cC) q (gw l)) => qkp (qa1 n) l aC cC q base W h12 hq (by omega) (fun x hx => by have := hrg x hx; omega) ho
 generalize qa1 n = b at *
 replace CC := gi CC; replace CS := gi CS; replace BI := gi BI; replace CL := gi CL; replace MD := gi MD; replace hl := gi hl; replace hq := gi hq; replace hrg := gi hrg; replace hle := gi hle; replace h0 := gi h0
 go_enter Tryz.func123, Tryz.ntmps123
 go_wp2_with fail
 have kb := gv w (.cells #[.int .i64 0, .slice none 0 0, .int .i64 0] 46)
 have hs : qad w (w.alloc (.cells #[.int .i64 0, .slice none 0 0, .int .i64 0] 46)) := fs2
 have hlt := gu kb
 generalize w.alloc (.cells #[.int .i64 0, .slice none 0 0, .int .i64 0] 46) = W0 at *
 replace kb := gi kb; replace hs := gi hs
 refine (CC.out _).mono ?_
 rintro e w1 ⟨rfl, rfl⟩
 go_wp2_with fail
 refine (CS.out _ hs.out).mono ?_
 rintro e w2 ⟨rfl, rfl⟩
 go_wp2_with fail
 refine (BI.out _).mono ?_
 rintro e w3 ⟨rfl, hs3⟩
 replace kb := gi (hs3.at kb.out id)
 have hs3 := hs.out.same hs3
 have hz3 := hs3.size
 have hbk := gu kb.out
 replace hs3 := gi hs3
 go_wp2_with fail
 refine (CL.out _ hs3.out).mono ?_
 rintro e w4 ⟨aC, cC, rfl, hC, hs4⟩
 replace kb := gi (hs4.at kb.out id)
 have hs4 := hs3.out.same hs4
 replace hs4 := gi hs4; replace hC := gi hC
 go_wp2_with fail
 refine (MD.out _ _ _ _ hC.out).mono ?_
 intro e w5 hM
 obtain ⟨d, rfl, hd, ht, hF⟩ := hM
 have kb5 := hF.at kb.out (fun hk => by have := (hC.out.lt _ hk).1; omega)
 have hs5 : qad w w5 := hs4.out.trans hF (fun i hi hk => by have := (hC.out.lt _ hk).1; omega)
 replace hd := gi hd; replace ht := gi ht; replace kb5 := gi kb5; replace hs5 := gi hs5
 clear hF
 obtain ⟨x0, x1, x2, z0, z1, z2, xl⟩ := qar kb5.out
 go_wp2_with fail
 obtain ⟨d0, d1, d2, hdF, hsF⟩ := qaI hs5.out (Nat.le_refl _) hd.out kb5.out
 refine bodyPost_ret (v := .tuple #[.agg #[.int .i64 d.n, .slice d.a d.L.length d.cap, .int .i64 d.r], .int .i64 0]) (by simp [results, Tryz.results123, go_sem, d0, d1, d2]) rfl ?_
 exact ⟨d, rfl, hdF, ht.out, hsF⟩
end Go.Proofs.YticcpnekjddanaaGreatDoor
