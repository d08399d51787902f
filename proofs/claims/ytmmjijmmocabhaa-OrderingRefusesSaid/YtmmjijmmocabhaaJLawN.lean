/- The law's number of nodes. The law's texts of tables, and the numbers of their nodes. -/
import Derived.Test.YtmmjijmmocabhaaJLawT
import Derived.Test.YtmmjijmmocabhaaJNodP
namespace Go.Proofs.Ytmmjijmmocabhaa
open Go.RowKit
set_option linter.unusedVariables false
set_option linter.unusedSimpArgs false

def txtB (t : List Bool) : ByteArray := ⟨(t.map (fun b => if b then (49 : UInt8) else 48)).toArray⟩
def tx (t : List Bool) : Value := .string (txtB t)
theorem txtB_size (a : List Bool) : (txtB a).size = a.length := by simp [txtB, ByteArray.size]
theorem txtB_app (a b : List Bool) : txtB a ++ txtB b = txtB (a ++ b) := by
  apply ByteArray.ext
  rw [ByteArray.data_append]
  simp [txtB]
theorem txtB_inj {a b : List Bool} (h : txtB a = txtB b) : a = b := by
  have := congrArg (fun z => z.data.toList) h
  simp only [txtB] at this
  refine (List.map_inj_right ?_).1 this
  intro x y h
  cases x <;> cases y <;> simp at h <;> rfl
theorem ba_beq (a b : ByteArray) : (a == b) = decide (a = b) := by
  obtain ⟨a⟩ := a
  obtain ⟨b⟩ := b
  rw [show ((⟨a⟩ : ByteArray) == ⟨b⟩) = (a == b) from rfl, Bool.eq_iff_iff, beq_iff_eq, decide_eq_true_iff]
  exact ⟨fun h => by rw [h], fun h => congrArg ByteArray.data h⟩
theorem txtB_one : txtB [true] = ⟨#[49]⟩ := rfl
theorem txtB_zero : txtB [false] = ⟨#[48]⟩ := rfl
theorem txtB_eq (a b : List Bool) : ((txtB a).toList == (txtB b).toList) = decide (a = b) := by
  rw [Bool.eq_iff_iff, beq_iff_eq, decide_eq_true_iff]
  constructor
  · intro h
    rw [ByteArray.toList_eq, ByteArray.toList_eq] at h
    exact txtB_inj (ByteArray.ext (Array.toList_inj.1 h))
  · rintro rfl; rfl

theorem u_str : Try.prog.underlying 9 = some .string := Try.underlying9
theorem findNow_tx (a : List Bool) : ∀ (es : List MapEntry) (ks : List (List Bool)) (i : Nat), es.map (·.key) = ks.map tx → Instr.findNow .string (tx a) es i = some (findIn a ks es i)
  | [], ks, i, h => by cases ks <;> simp [Instr.findNow, findIn] at *
  | e :: es, [], i, h => by simp at h
  | e :: es, x :: ks, i, h => by
    simp only [List.map_cons, List.cons.injEq] at h
    obtain ⟨h1, h2⟩ := h
    by_cases hx : a = x
    · subst hx; simp [Instr.findNow, findIn, h1, Instr.sameNow, tx, ba_beq]
    · have : (txtB a == txtB x) = false := by rw [ba_beq, decide_eq_false_iff_not]; exact fun h => hx (txtB_inj h)
      simp [Instr.findNow, findIn, h1, Instr.sameNow, tx, this, hx]
      exact findNow_tx a es ks (i + 1) h2
theorem key_tx : KeyOK Try.prog 9 tx where
  check a w b := by
    have h : ∀ n, (Instr.checkKey b (n + 1) 9 (tx a)).run Try.prog w = .ok () w := fun n => by simp [Instr.checkKey, run_underlying u_str, tx]
    exact h 9999
  find a es ks w h := by simp [Instr.findKey, run_underlying u_str, findNow_tx a es ks 0 h]
  same a := by unfold Instr.sameBits; simp [tx, ba_beq]

theorem bool_cell {w : World} {a : Option Addr} {cap n : Nat} {l : List Bool} (h : RowAt w (.slice a n cap) n (boolCells l)) {k : Nat} (hk : k < l.length) (hn : l.length = n) :
    ∃ b off, a = some ⟨b, off, none⟩ ∧ b < w.heap.size ∧ w.cell? ⟨b, off + k, none⟩ = some (.bool l[k]) := by
  obtain ⟨b, off, ha, hb, hc⟩ := h.cell (by omega)
  exact ⟨b, off, ha, hb, hc k _ (boolCells_get l k hk)⟩

set_option maxRecDepth 100000 in
set_option maxHeartbeats 1000000 in
theorem text_any (t : List Bool) (a : Option Addr) (c n : Nat) (w : World) (hn : t.length = n) (hT : RowAt w (.slice a n c) n (boolCells t)) (hl : n ≤ 1000000) :
    Calls Try.prog 63 #[.slice a n c] w fun e w' => e = .returned (tx t) ∧ Same w w' := by
  replace hT := Lib.hid hT; replace hn := Lib.hid hn
  go_enter Try.func63, Try.ntmps63
  go_wp2_with fail
  go_loopw [3, 4] (fun v i wr => ∃ k : Nat, i = .int .i64 k ∧ k ≤ n ∧ v = .string (txtB (t.take k)) ∧ Same w wr) (fun _ i _ => n - (intOf i).toNat)
  case atStart => exact ⟨0, rfl, by omega, rfl, (by repeat (first | exact Fr.refl _ _ | apply Fr.alloc | apply Fr.drewN | apply Fr.drew | apply Fr.undrew | apply Fr.undrewN))⟩
  case round =>
    obtain ⟨k, rfl, hk, rfl, hs⟩ := hrel
    by_cases hlt : k < n
    · have hkl : k < t.length := by rw [hn.out]; exact hlt
      obtain ⟨bo, off, rfl, hb', c0⟩ := bool_cell (hT.out.same hs) (k := k) hkl hn.out
      have htk := List.take_succ_eq_append_getElem hkl
      have hsz : (((txtB (t.take k)).size + 1 : Nat) : Int) ≤ 9223372036854775807 := by rw [txtB_size, List.length_take]; omega
      have h1 := (txtB_app (t.take k) [true]).symm
      have h0 := (txtB_app (t.take k) [false]).symm
      rw [txtB_one] at h1
      rw [txtB_zero] at h0
      generalize t[k] = x at *
      generalize hu : txtB (t.take k) = u at *
      cases x
      · rw [← htk] at h0
        replace hs := Lib.hid hs; replace h0 := Lib.hid h0; replace h1 := Lib.hid h1; replace htk := Lib.hid htk; replace hu := Lib.hid hu
        go_wp2_with fail
        go_roundw
        case rel => exact ⟨k + 1, by go_num, by omega, congrArg _ h0.out.symm, hs.out⟩
        case measure => simp [intOf]; omega
      · rw [← htk] at h1
        replace hs := Lib.hid hs; replace h0 := Lib.hid h0; replace h1 := Lib.hid h1; replace htk := Lib.hid htk; replace hu := Lib.hid hu
        go_wp2_with fail
        go_roundw
        case rel => exact ⟨k + 1, by go_num, by omega, congrArg _ h1.out.symm, hs.out⟩
        case measure => simp [intOf]; omega
    · obtain rfl : k = n := by omega
      rw [List.take_of_length_le (by rw [hn.out]; exact Nat.le_refl _)]
      replace hs := Lib.hid hs
      go_wp2_with fail
      go_ret
      exact ⟨rfl, hs.out⟩
end Go.Proofs.Ytmmjijmmocabhaa
namespace Go.Proofs.Ytmmjijmmocabhaa
open Go.RowKit
set_option linter.unusedVariables false
set_option linter.unusedSimpArgs false

theorem boolCells_cut (t : List Bool) (k j : Nat) : ((boolCells t).drop k).take j = boolCells ((t.drop k).take j) := by simp [boolCells, List.map_drop, List.map_take]

/-- A map that holds just the members of a list. -/
def SetOf (M : List (List Bool × Bool)) (s : List (List Bool)) : Prop := ∀ x, mget M x = if x ∈ s then some true else none
theorem SetOf.nil : SetOf [] [] := by intro x; simp [mget]
theorem SetOf.put {M : List (List Bool × Bool)} {s : List (List Bool)} (h : SetOf M s) (c : List Bool) : SetOf (mput M c true) (s ++ [c]) := by
  intro x
  by_cases e : x = c
  · subst e; rw [mget_put_same]; simp
  · rw [mget_put_other _ _ _ _ e, h x]; simp [e]

theorem chunk_halves {t : List Bool} {n d k : Nat} (ht : t.length = 2 ^ n) (hd : d + 1 ≤ n) (hk : k < 2 ^ (n - (d + 1))) :
    k * 2 ^ (d + 1) + 2 ^ d + 2 ^ d ≤ 2 ^ n ∧ (t.drop (k * 2 ^ (d + 1))).take (2 ^ d) ++ (t.drop (k * 2 ^ (d + 1) + 2 ^ d)).take (2 ^ d) = chunk t (d + 1) k ∧
      diffB (chunk t (d + 1) k) = ((t.drop (k * 2 ^ (d + 1))).take (2 ^ d) != (t.drop (k * 2 ^ (d + 1) + 2 ^ d)).take (2 ^ d)) := by
  have h1 : (k + 1) * 2 ^ (d + 1) ≤ 2 ^ (n - (d + 1)) * 2 ^ (d + 1) := Nat.mul_le_mul_right _ (by omega)
  rw [← Nat.pow_add, Nat.sub_add_cancel hd, Nat.add_mul] at h1
  have h2 : 2 ^ (d + 1) = 2 ^ d + 2 ^ d := by omega
  have hc := chunk_length ht hd hk
  generalize hp : k * 2 ^ (d + 1) = p at *
  have e : chunk t (d + 1) k = (t.drop p).take (2 ^ d) ++ (t.drop (p + 2 ^ d)).take (2 ^ d) := by
    unfold chunk
    rw [hp, h2, List.take_add, List.drop_drop]
  have hl : ((t.drop p).take (2 ^ d)).length = 2 ^ d := by simp [ht]; omega
  refine ⟨by omega, e.symm, ?_⟩
  unfold diffB
  rw [hc, h2, show (2 ^ d + 2 ^ d) / 2 = 2 ^ d by omega, e]
  have e1 : ∀ x y : List Bool, x.length = 2 ^ d → (x ++ y).take (2 ^ d) = x ∧ (x ++ y).drop (2 ^ d) = y := fun x y hx => ⟨by rw [← hx, List.take_left], by rw [← hx, List.drop_left]⟩
  rw [(e1 _ _ hl).1, (e1 _ _ hl).2]
theorem seenF_step (t : List Bool) (d k : Nat) : seenF t d (k + 1) = if diffB (chunk t d k) && !(seenF t d k).contains (chunk t d k) then seenF t d k ++ [chunk t d k] else seenF t d k := rfl
theorem seenF_le (t : List Bool) (d : Nat) : ∀ k, (seenF t d k).length ≤ k
  | 0 => by simp [seenF]
  | k + 1 => by
    have := seenF_le t d k
    rw [seenF_step]
    split <;> simp <;> omega

theorem mapS : Try.prog.underlying 95 = some (.map 9 4) := Try.underlying95
set_option maxRecDepth 100000 in
set_option maxHeartbeats 2000000 in
theorem nodes_any (n : Nat) (t : List Bool) (a : Option Addr) (c m : Nat) (w : World) (hn : n ≤ 5) (hm : m = 2 ^ n) (ht : t.length = m) (hT : RowAt w (.slice a m c) m (boolCells t)) :
    Calls Try.prog 29 #[.slice a m c] w fun e w' => e = .returned (.int .i64 (cntF t n n)) ∧ Same w w' := by
  have hmm := @run_makeMap Try.prog
  have hm32 : m ≤ 32 := by rw [hm]; exact Nat.pow_le_pow_right (by omega) hn
  have hm1 : 1 ≤ m := by rw [hm]; exact Nat.one_le_two_pow
  replace hT := Lib.hid hT; replace ht := Lib.hid ht; replace hm := Lib.hid hm
  go_enter Try.func29, Try.ntmps29
  go_wp2_with fail
  go_loopw [3, 4] (fun v l wr => ∃ d D k : Nat, l = .int .i64 D ∧ D = 2 ^ d ∧ d ≤ n ∧ v = .int .i64 k ∧ k + cntF t n d = cntF t n n ∧ k + 32 * d ≤ 32 * n ∧ Same w wr) (fun _ l _ => (intOf l).toNat)
  case atStart => exact ⟨n, m, 0, rfl, hm.out, by omega, rfl, by omega, by omega, (by repeat (first | exact Fr.refl _ _ | apply Fr.alloc | apply Fr.drewN | apply Fr.drew | apply Fr.undrew | apply Fr.undrewN))⟩
  case round =>
    obtain ⟨d, D, k, rfl, hD, hd, rfl, hc, hk, hs⟩ := hrel
    cases d with
    | zero =>
      obtain rfl : D = 1 := by simpa using hD
      have hck : k = cntF t n n := by simpa [cntF] using hc
      replace hs := Lib.hid hs; replace hD := Lib.hid hD; replace hc := Lib.hid hc; replace hck := Lib.hid hck
      go_wp2_with fail
      go_ret
      exact ⟨by rw [hck.out]; rfl, hs.out⟩
    | succ d =>
      obtain ⟨h, hh⟩ : ∃ h, h = 2 ^ d := ⟨_, rfl⟩
      have hDh : D = h + h := by rw [hD, hh]; omega
      have h1 : 1 ≤ h := by rw [hh]; exact Nat.one_le_two_pow
      obtain ⟨N, hN⟩ : ∃ N, N = 2 ^ (n - (d + 1)) := ⟨_, rfl⟩
      have hNm : N * D = m := by rw [hN, hD, hm.out, ← Nat.pow_add, Nat.sub_add_cancel hd]
      have hcs : cntF t n (d + 1) = (seenF t (d + 1) N).length + cntF t n d := by rw [hN]; rfl
      have hgt : 1 < (D : Int) := by omega
      have hq2 : (D : Int).tdiv 2 = h := by rw [Int.tdiv_eq_ediv_of_nonneg (by omega)]; omega
      have hsl := seenF_le t (d + 1)
      have hD32 : D ≤ 32 := by have : 2 ^ (d + 1) ≤ 2 ^ n := Nat.pow_le_pow_right (by omega) hd
                               rw [← hD, ← hm.out] at this; omega
      obtain ⟨wo, rfl⟩ : ∃ wo, wo = wr := ⟨_, rfl⟩
      have hw0 : wo.heap.size < (wo.alloc (.map #[] 0)).heap.size := by simp
      have hsz := hs.size
      replace hs := Lib.hid hs; replace hD := Lib.hid hD; replace hc := Lib.hid hc; replace hh := Lib.hid hh; replace hN := Lib.hid hN; replace hNm := Lib.hid hNm; replace hcs := Lib.hid hcs; replace hsl := Lib.hid hsl; replace hDh := Lib.hid hDh
      go_wp2_with fail
      go_loopw [3, 6] (fun v i ws => ∃ (j p q : Nat) (M : List (List Bool × Bool)), i = .int .i64 p ∧ p = j * D ∧ j ≤ N ∧ v = .int .i64 q ∧ q = k + (seenF t (d + 1) j).length ∧ MapAt tx Value.bool ws wo.heap.size M ∧ SetOf M (seenF t (d + 1) j) ∧ Same w ws) (fun _ i _ => m - (intOf i).toNat)
      case atStart => exact ⟨0, 0, k, [], rfl, by simp, by omega, rfl, by simp [seenF], mapAt_made _, SetOf.nil, hs.out.same (by repeat (first | exact Fr.refl _ _ | apply Fr.undrew | apply Fr.undrewN | apply Fr.drew | apply Fr.drewN | apply Fr.alloc))⟩
      case round =>
        obtain ⟨j, p, q, M, rfl, hp, hj, rfl, hq, hM, hS, hs2⟩ := hrel
        have hjN : j * D ≤ N * D := Nat.mul_le_mul_right _ hj
        rw [hNm.out, ← hp] at hjN
        by_cases hlt : p < m
        · have hjl : j < N := by
            rcases Nat.lt_or_ge j N with e | e
            · exact e
            · have : N * D ≤ j * D := Nat.mul_le_mul_right _ e
              rw [hNm.out, ← hp] at this
              omega
          obtain ⟨e1, e2, e3⟩ := chunk_halves (d := d) (k := j) (by rw [ht.out, hm.out]) hd (by rw [← hN.out]; exact hjl)
          rw [← hD.out, ← hp, ← hm.out] at e1
          rw [← hh.out] at e1
          rw [← hD.out, ← hp, ← hh.out] at e2 e3
          have hst := seenF_step t (d + 1) j
          have hle := hsl.out j
          have hDm : D ≤ m := by rw [hD.out, hm.out]; exact Nat.pow_le_pow_right (by omega) hd
          have hjm : j < m := by have := Nat.le_mul_of_pos_right j (show 0 < D by omega); omega
          generalize chunk t (d + 1) j = ch at *
          obtain ⟨b, off, rfl, hA⟩ := (hT.out.same hs2).cut (by omega) p (p + h) (by omega) (by omega) (by omega)
          obtain ⟨b', off', hbb, hB⟩ := (hT.out.same hs2).cut (by omega) (p + h) (p + h + h) (by omega) (by omega) (by omega)
          cases hbb
          rw [boolCells_cut, show p + h - p = h by omega] at hA
          rw [boolCells_cut, show p + h + h - (p + h) = h by omega] at hB
          have lA : ((t.drop p).take h).length = h := by simp [ht.out]; omega
          have lB : ((t.drop (p + h)).take h).length = h := by simp [ht.out]; omega
          generalize (t.drop p).take h = x at *
          generalize (t.drop (p + h)).take h = y at *
          have TA := fun W (hW : Same wr W) => text_any x _ _ h W lA (hA.same hW) (by omega)
          have TB := fun W (hW : Same wr W) => text_any y _ _ h W lB (hB.same hW) (by omega)
          obtain ⟨a9, c9, e9, hmc, hcl⟩ := hT.out.form
          cases e9
          unfold tx at TA TB
          have hc1 : p + h + h ≤ c := by omega
          have hcp : c ≠ p := by omega
          have hcp2 : c ≠ p + h := by omega
          have hq64 : q ≤ 1000 := by omega
          have s1 : (txtB x).size = h := by rw [txtB_size, lA]
          have s2 : (txtB y).size = h := by rw [txtB_size, lB]
          have s3 : (h : Int) + h ≤ 9223372036854775807 := by omega
          have scat : txtB x ++ txtB y = txtB ch := by rw [txtB_app, e2]
          have n1 : (0 : Int) ≤ (p : Int) + h := by omega
          have n2 : (p : Int) + h ≤ c := by omega
          have n3 : ((p : Int) + h).toNat = p + h := by omega
          have n4 : (0 : Int) ≤ (p : Int) + h + h := by omega
          have n5 : (p : Int) + h + h ≤ c := by omega
          have n6 : ((p : Int) + h + h).toNat = p + h + h := by omega
          have n10 : (p : Int) ≤ (p : Int) + h := by omega
          have n7 : p + h ≤ p + h + h := by omega
          have n8 : p + h - p = h := by omega
          have n9 : p + h + h - (p + h) = h := by omega
          have hwh : IntKind.i64.wrap (h : Int) = h := IntWalk.i64_in _ (by omega)
          have hwp : IntKind.i64.wrap ((p : Int) + h) = ((p + h : Nat) : Int) := by rw [IntWalk.i64_in _ (by omega)]; rfl
          have hwd : IntKind.i64.wrap ((p : Int) + D) = ((p + h + h : Nat) : Int) := by rw [IntWalk.i64_in _ (by omega), hDh.out]; omega
          have hpD : p + D = p + h + h := by rw [hDh.out]; omega
          replace hM := Lib.hid hM; replace hS := Lib.hid hS; replace hs2 := Lib.hid hs2; replace hp := Lib.hid hp; replace hj := Lib.hid hj; replace hq := Lib.hid hq; replace e2 := Lib.hid e2; replace e3 := Lib.hid e3; replace hst := Lib.hid hst; replace hle := Lib.hid hle; replace lA := Lib.hid lA; replace lB := Lib.hid lB; replace TA := Lib.hid TA; replace TB := Lib.hid TB; replace hA := Lib.hid hA; replace hB := Lib.hid hB
          go_upto_region 9 with fail
          refine wp_region_sched (fun _ => False) [0, 0, 0, 0, 0, 0, 0, 3, 0, 0, 0, 0, 0, 0, 0, 0, 0, 3, 0, 0] [0, 1, 2, 3, 4, 5, 6, 8, 9, 10, 11, 12, 13, 14, 15, 16, 7, 17, 18, 19] (by kernel_rfl) (by kernel_rfl) ?_
          repeat (first | (refine sched_w rfl rfl (fun _ hK => ?_); go_simp; refine hK _ ?_; clear hK) | (refine sched_s rfl rfl (fun _ hK => ?_); go_simp; first | (refine hK _ ?_; clear hK) | (refine ⟨_, fun _ => rfl, hK _ ?_⟩; clear hK)))
          refine sched_l rfl (by decide) (fun _ hK => ?_); go_simp
          refine (TA.out _ (by repeat (first | exact Fr.refl _ _ | apply Fr.undrew | apply Fr.undrewN | apply Fr.drew | apply Fr.drewN | apply Fr.alloc))).mono ?_
          rintro e w1 ⟨rfl, hs3⟩
          refine hK _ _ ?_; clear hK; try simp only [Act.put, List.setIfInBounds_toArray, List.set_cons_zero, List.set_cons_succ]
          refine sched_l rfl (by decide) (fun _ hK => ?_); go_simp
          have hs3' := (show Same wr _ from (by repeat (first | exact Fr.refl _ _ | apply Fr.undrew | apply Fr.undrewN | apply Fr.drew | apply Fr.drewN | apply Fr.alloc))).same hs3
          refine (TB.out _ hs3').mono ?_
          rintro e w2 ⟨rfl, hs4⟩
          have hs5 := hs3'.same hs4
          have hM2 := hM.out.of_block (hs5.block wo.heap.size hM.out.lt id)
          have hs6 := hs2.out.same hs5
          clear hs4 hs3 hs3' hs5
          refine hK _ _ ?_; clear hK; try simp only [Act.put, List.setIfInBounds_toArray, List.set_cons_zero, List.set_cons_succ]
          repeat (first | (refine sched_w rfl rfl (fun _ hK => ?_); go_simp; refine hK _ ?_; clear hK) | (refine sched_s rfl rfl (fun _ hK => ?_); go_simp; first | (refine hK _ ?_; clear hK) | (refine ⟨_, fun _ => rfl, hK _ ?_⟩; clear hK)))
          refine sched_nil (NoPanic.normal ?_)
          by_cases hxy : x = y
          · subst hxy
            have hb : ((txtB x).toList == (txtB x).toList) = true := by simp
            rw [show diffB ch = false by rw [e3.out]; simp, Bool.false_and, if_neg (by simp)] at hst
            replace hM2 := Lib.hid hM2; replace hs6 := Lib.hid hs6
            go_wp2_with fail
            go_roundw
            case rel => exact ⟨j + 1, p + h + h, q, M, by go_num, by rw [Nat.add_mul, Nat.one_mul, ← hp.out]; omega, hjl, rfl, by rw [hst]; exact hq.out, hM2.out, by rw [hst]; exact hS.out, hs6.out⟩
            case measure => simp [intOf]; omega
          · have hb : ((txtB x).toList == (txtB y).toList) = false := by rw [txtB_eq]; simpa using hxy
            have hdf : diffB ch = true := by rw [e3.out]; simpa using hxy
            rw [hdf, Bool.true_and] at hst
            by_cases hin : ch ∈ seenF t (d + 1) j
            · rw [show (seenF t (d + 1) j).contains ch = true by simpa using hin, if_neg (by simp)] at hst
              have hl := lookup_hit (w := w2) key_tx mapS hM2 (show mget M ch = some true by rw [hS.out ch, if_pos hin]) false
              unfold tx at hl
              replace hM2 := Lib.hid hM2; replace hs6 := Lib.hid hs6; replace hst := Lib.hid hst; replace hxy := Lib.hid hxy; replace hdf := Lib.hid hdf; replace hin := Lib.hid hin
              go_wp2_with fail
              go_roundw
              case rel => exact ⟨j + 1, p + h + h, q, M, by go_num, by rw [Nat.add_mul, Nat.one_mul, ← hp.out]; omega, hjl, rfl, by rw [hst.out]; exact hq.out, hM2.out, by rw [hst.out]; exact hS.out, hs6.out⟩
              case measure => simp [intOf]; omega
            · rw [show (seenF t (d + 1) j).contains ch = false by simpa using hin, Bool.not_false, if_pos rfl] at hst
              have hl := lookup_miss (w := w2) key_tx mapS hM2 (show mget M ch = none by rw [hS.out ch, if_neg hin]) (zeroBo _) false
              unfold tx at hl
              have hml := hM2.lt
              replace hM2 := Lib.hid hM2; replace hs6 := Lib.hid hs6; replace hst := Lib.hid hst; replace hxy := Lib.hid hxy; replace hdf := Lib.hid hdf; replace hin := Lib.hid hin
              go_wp2_with (at_mapUpdate; refine wpList_mput rfl (.tmp 52) (.tmp 55) (.const (.bool true)) rfl key_tx mapS wo.heap.size M rfl hM2.out ch rfl true rfl ?_; intro ob hob; replace hob := Lib.hid hob)
              go_roundw
              case rel => exact ⟨j + 1, p + h + h, q + 1, _, by go_num, by rw [Nat.add_mul, Nat.one_mul, ← hp.out]; omega, hjl, by go_num, by rw [hst.out, List.length_append, List.length_singleton, hq.out]; omega, hob.out, by rw [hst.out]; exact hS.out.put ch, hs6.out.setObj _ _ (fun hlt => by omega)⟩
              case measure => simp [intOf]; omega
        · have hjN2 : j = N := by
            rcases Nat.lt_or_ge j N with e | e
            · have : (j + 1) * D ≤ N * D := Nat.mul_le_mul_right _ e
              rw [hNm.out, Nat.add_mul, ← hp] at this
              omega
            · omega
          obtain rfl : p = m := by omega
          have hq160 : q + 32 * d ≤ 32 * n := by
            have := hsl.out N
            have hN32 : N ≤ 32 := by have := Nat.le_mul_of_pos_right N (show 0 < D by omega); rw [hNm.out] at this; omega
            rw [hjN2] at hq
            omega
          have hqc : q + cntF t n d = cntF t n n := by rw [← hc.out, hcs.out, hq, hjN2]; omega
          have hh32 : h + h = D := hDh.out.symm
          have hwh : IntKind.i64.wrap (h : Int) = h := IntWalk.i64_in _ (by omega)
          have hq1 : q ≤ 1000 := by omega
          replace hh32 := Lib.hid hh32
          replace hM := Lib.hid hM; replace hS := Lib.hid hS; replace hs2 := Lib.hid hs2; replace hp := Lib.hid hp; replace hj := Lib.hid hj; replace hq := Lib.hid hq; replace hqc := Lib.hid hqc
          go_wp2_with fail
          go_roundw
          case rel => exact ⟨d, h, q, by first | rfl | go_num, hh.out, by omega, rfl, hqc.out, hq160, hs2.out⟩
          case measure => have := hh32.out; simp [intOf]; omega
end Go.Proofs.Ytmmjijmmocabhaa
