/- RelationBits: the given statement. Printed by wip/mkrow.py. RelationBits walked. -/
import Derived.Test.YtcdkklddingfpaaGreatJRlM
import Derived.Test.YtcdkklddingfpaaGreatJRowS
namespace Go.Proofs.YtcdkklddingfpaaGreat
open Go.RowKit
set_option linter.unusedVariables false
set_option linter.unusedSimpArgs false

theorem RowAt.bool {w : World} {a : Option Addr} {q cap : Nat} {l : List Bool} (h : RowAt w (.slice a q cap) q (boolCells l)) {k : Nat} (hk : k < l.length) (hq : l.length = q) :
    ∃ b off, a = some ⟨b, off, none⟩ ∧ b < w.heap.size ∧ w.cell? ⟨b, off + k, none⟩ = some (.bool l[k]) := by
  obtain ⟨b, off, h1, h2, h3⟩ := h.cell (by omega)
  exact ⟨b, off, h1, h2, h3 _ _ (boolCells_get l k hk)⟩
set_option maxRecDepth 100000 in
set_option maxHeartbeats 8000000 in
theorem rbits_far (n s : Int) (l : List Bool) (a : Option Addr) (c : Nat) (w : World) (hl : 14 < l.length) :
    Calls Tryz.prog 5 #[.int .i64 n, .int .i64 s, .slice a l.length c] w fun e w' => e = .returned (.bool true) ∧ Same w w' := by
  have KN := fun W => known_any W
  generalize l.length = q at *
  have hq' : (14 : Int) < q := by omega
  replace KN := Lib.hid KN
  go_enter Tryz.func5, Tryz.ntmps5
  go_wp2_with fail
  refine (KN.out _).mono ?_
  rintro e w1 ⟨rfl, s1⟩
  replace s1 := Lib.hid s1
  go_wp2_with fail
  refine (KN.out _).mono ?_
  rintro e w2 ⟨rfl, s2⟩
  have hw := s1.out.same s2
  replace hw := Lib.hid hw
  go_wp2_with fail
  go_ret
  exact ⟨rfl, hw.out⟩
set_option maxRecDepth 100000 in
set_option maxHeartbeats 8000000 in
theorem rbits_bad (n s : Int) (hn : n < 0 ∨ 4096 < n) (l : List Bool) (a : Option Addr) (c : Nat) (w : World) (hl : l.length ≤ 14) :
    Calls Tryz.prog 5 #[.int .i64 n, .int .i64 s, .slice a l.length c] w fun e w' => e = .returned (.bool true) ∧ Same w w' := by
  have KN := fun W => known_any W
  generalize l.length = q at *
  have BI := fun W => Bits_bad hn W
  have EN := fun W => Encode_bad s hn W
  have DE := fun W => Decode_bad a q c hn W
  have hq' : ¬ (14 : Int) < q := by omega
  replace KN := Lib.hid KN; replace BI := Lib.hid BI; replace EN := Lib.hid EN; replace DE := Lib.hid DE
  by_cases h0 : n < 0
  all_goals
    first
      | have h0' : (n < 0) = True := by simpa using h0
      | have h0' : (4096 < n) = True := by simp; omega
    go_enter Tryz.func5, Tryz.ntmps5
    go_wp2_with fail
    refine (KN.out _).mono ?_
    rintro e w1 ⟨rfl, s1⟩
    replace s1 := Lib.hid s1
    go_wp2_with fail
    refine (BI.out _).mono ?_
    rintro e w2 ⟨rfl, s2⟩
    have hw := s1.out.same s2
    replace hw := Lib.hid hw
    go_wp2_with fail
    refine (EN.out _).mono ?_
    rintro e w3 ⟨rfl, s3⟩
    replace hw := Lib.hid (hw.out.same s3)
    go_wp2_with fail
    refine (DE.out _).mono ?_
    rintro e w4 ⟨rfl, s4⟩
    replace hw := Lib.hid (hw.out.same s4)
    go_wp2_with fail
    go_ret
    exact ⟨rfl, hw.out⟩

/-- What Decode returns. -/
theorem dec_any {n : Nat} (hn : n ≤ 4096) (l : List Bool) (a : Option Addr) (q c : Nat) (hq : l.length = q) (w : World) (hl : RowAt w (.slice a q c) q (boolCells l)) :
    ∃ X I G, ((q ≠ bitsF n ∧ X = 0 ∧ I = false ∧ G = 4) ∨ (q = bitsF n ∧ numB l < n ∧ X = numB l ∧ I = true ∧ G = 0) ∨ (q = bitsF n ∧ n ≤ numB l ∧ X = 0 ∧ I = false ∧ G = 0)) ∧
    ∀ W, Same w W → Calls Tryz.prog 36 #[.int .i64 n, .slice a q c] W fun e w' => e = .returned (.tuple #[.int .i64 ((X : Nat) : Int), .bool I, .int .i64 ((G : Nat) : Int)]) ∧ Same W w' := by
  by_cases h : q = bitsF n
  · by_cases hv : numB l < n
    · refine ⟨numB l, true, 0, .inr (.inl ⟨h, hv, rfl, rfl, rfl⟩), fun W hW => ?_⟩
      have := Decode_ok l a q c hn hq h W (hl.same hW)
      unfold decR at this
      rw [if_pos hv] at this
      exact this
    · refine ⟨0, false, 0, .inr (.inr ⟨h, by omega, rfl, rfl, rfl⟩), fun W hW => ?_⟩
      have := Decode_ok l a q c hn hq h W (hl.same hW)
      unfold decR at this
      rw [if_neg hv] at this
      exact this
  · exact ⟨0, false, 4, .inl ⟨h, rfl, rfl, rfl⟩, fun W hW => Decode_size a q c hn h W⟩
/-- What Encode returns. -/
def EncAt (b n : Nat) (s : Int) (qe : Nat) (E : Int) (a : Option Addr) (c : Nat) (w : World) : Prop := ((s < 0 ∨ (n : Int) ≤ s) ∧ qe = 0 ∧ E = 2 ∧ a = none ∧ c = 0) ∨ (0 ≤ s ∧ s < n ∧ qe = b ∧ E = 0 ∧ RowAt w (.slice a b c) b (boolCells (encL b s.toNat)))
theorem enc_any {n : Nat} (hn : n ≤ 4096) (s : Int) (w : World) :
    Calls Tryz.prog 35 #[.int .i64 n, .int .i64 s] w fun e w' => ∃ a qe c E, e = .returned (.tuple #[.slice a qe c, .int .i64 E]) ∧ EncAt (bitsF n) n s qe E a c w' ∧ Same w w' := by
  by_cases h : s < 0 ∨ (n : Int) ≤ s
  · exact (Encode_range hn h w).mono fun e w' ⟨h1, h2⟩ => ⟨none, 0, 0, 2, h1, .inl ⟨h, rfl, rfl, rfl, rfl⟩, h2⟩
  · have := Encode_ok (n := n) (s := s.toNat) hn (by omega) w
    rw [show ((s.toNat : Nat) : Int) = s by omega] at this
    exact this.mono fun e w' ⟨a, c, h1, h2, h3⟩ => ⟨a, bitsF n, c, 0, h1, .inr ⟨by omega, by omega, rfl, rfl, (SliceAt.of_owns h2).row⟩, h3⟩
theorem EncAt.same {b n : Nat} {s : Int} {qe : Nat} {E : Int} {a : Option Addr} {c : Nat} {w w' : World} (h : EncAt b n s qe E a c w) (hs : Same w w') : EncAt b n s qe E a c w' := by
  rcases h with h | ⟨h1, h2, h3, h4, h5⟩
  · exact .inl h
  · exact .inr ⟨h1, h2, h3, h4, h5.same hs⟩
theorem numB_14 (l : List Bool) (k : Nat) (h : l.length ≤ 14) (hk : k ≤ l.length) : numB (l.take k) ≤ 20000 := by
  have := numB_lt l k hk
  have h2 : 2 ^ k ≤ 2 ^ 14 := Nat.pow_le_pow_right (by omega) (by omega)
  omega

set_option maxRecDepth 100000 in
set_option maxHeartbeats 8000000 in
theorem rbits_ok (n : Nat) (s : Int) (hn : n ≤ 4096) (l : List Bool) (a : Option Addr) (c : Nat) (w : World) (hl : l.length ≤ 14) (hat : RowAt w (.slice a l.length c) l.length (boolCells l)) :
    Calls Tryz.prog 5 #[.int .i64 n, .int .i64 s, .slice a l.length c] w fun e w' => e = .returned (.bool true) ∧ Same w w' := by
  have KN := fun W => known_any W
  have BI := fun W => Bits_ok hn W
  have LB := fun W => lbits_any n W hn
  have EN := fun W => enc_any hn s W
  obtain ⟨X, I, G, hD, DE⟩ := dec_any hn l a _ c rfl w hat
  have hnum := fun k => numB_14 l k hl
  have hsn := fun (k : Nat) (h : k < l.length) => show numB (l.take (k + 1)) = 2 * numB (l.take k) + if l[k] then 1 else 0 by
    rw [List.take_add_one, List.getElem?_eq_getElem h]; exact numB_snoc _ _
  have hal : numB (l.take l.length) = numB l := by rw [List.take_of_length_le (Nat.le_refl _)]
  have hrd := fun (k : Nat) (h : k < l.length) W (hW : Same w W) => (hat.same hW).bool h rfl
  have D2 := fun (sn : Nat) (hs : sn < n) a2 c2 W h => Decode_ok (n := n) (encL (bitsF n) sn) a2 (bitsF n) c2 hn (encL_len _ _) rfl W h
  have hd2 : ∀ sn, sn < n → decR n (encL (bitsF n) sn) = .tuple #[.int .i64 sn, .bool true, .int .i64 0] := fun sn h => by
    have hb := (bitsF_is hn).1
    unfold decR
    rw [numB_enc _ _ (by omega), if_pos h]
  obtain ⟨b, hb⟩ : ∃ b, b = bitsF n := ⟨_, rfl⟩
  rw [← hb] at BI LB hD D2 hd2
  simp only [← hb] at EN
  obtain ⟨q, hq⟩ : ∃ q, q = l.length := ⟨_, rfl⟩
  rw [← hq] at hl hD DE hal hat ⊢
  have hq' : ¬ (14 : Int) < q := by omega
  replace KN := Lib.hid KN; replace BI := Lib.hid BI; replace LB := Lib.hid LB; replace EN := Lib.hid EN; replace DE := Lib.hid DE; replace hnum := Lib.hid hnum; replace hsn := Lib.hid hsn; replace hal := Lib.hid hal; replace hrd := Lib.hid hrd; replace D2 := Lib.hid D2; replace hd2 := Lib.hid hd2; replace hD := Lib.hid hD; replace hb := Lib.hid hb; replace hq := Lib.hid hq
  go_enter Tryz.func5, Tryz.ntmps5
  go_wp2_with fail
  refine (KN.out _).mono ?_
  rintro e w1 ⟨rfl, s1⟩
  replace s1 := Lib.hid s1
  go_wp2_with fail
  refine (BI.out _).mono ?_
  rintro e w2 ⟨rfl, s2⟩
  have hw := s1.out.same s2
  clear s1 s2
  replace hw := Lib.hid hw
  go_wp2_with fail
  refine (EN.out _).mono ?_
  rintro e w3 ⟨aE, qE, cE, E, rfl, hE, s3⟩
  replace hw := Lib.hid (hw.out.same s3)
  clear s3
  replace hE := Lib.hid hE
  go_wp2_with fail
  refine (DE.out _ hw.out).mono ?_
  rintro e w4 ⟨rfl, s4⟩
  replace hw := Lib.hid (hw.out.same s4); replace hE := Lib.hid (hE.out.same s4)
  clear s4
  have n0 : ((n : Int) < 0) = False := by simp
  have n4 : ((4096 : Int) < n) = False := by simp; omega
  go_wp2_with fail
  refine (LB.out _).mono ?_
  rintro e w5 ⟨rfl, s5⟩
  replace hw := Lib.hid (hw.out.same s5); replace hE := Lib.hid (hE.out.same s5)
  clear s5
  go_wp2_with fail
  go_loopw [14, 15] (fun v i wr => ∃ k : Nat, i = .int .i64 k ∧ k ≤ q ∧ v = .int .i64 (numB (l.take k) : Nat) ∧ Same w5 wr) (fun _ i _ => q - (intOf i).toNat)
  case atStart => exact ⟨0, rfl, by omega, by simp [numB], Fr.refl _ _⟩
  case round =>
    obtain ⟨k, rfl, hk, rfl, hs⟩ := hrel
    have hv := hnum.out k (by rw [← hq.out]; exact hk)
    by_cases hkq : k < q
    · have hkl : k < l.length := by rw [← hq.out]; exact hkq
      have hv1 := hnum.out (k + 1) (by omega)
      have hst := hsn.out k hkl
      obtain ⟨bb, off, rfl, hbl, z0⟩ := hrd.out k hkl _ (hw.out.same hs)
      have e1 : IntKind.i64.wrap ((numB (l.take k) : Nat) * 2 : Int) = (numB (l.take k) : Nat) * 2 := IntWalk.i64_in _ (by omega)
      have e2 : IntKind.i64.wrap (((numB (l.take k) : Nat) : Int) * 2 + 1) = ((numB (l.take k) : Nat) : Int) * 2 + 1 := IntWalk.i64_in _ (by omega)
      generalize l[k] = x at *
      rw [hst] at hv1
      replace hs := Lib.hid hs; replace hst := Lib.hid hst
      cases x with
      | true =>
        go_wp2_with fail
        go_roundw
        case rel => exact ⟨k + 1, by go_num, by omega, by rw [hst.out, if_pos rfl]; congr 1; omega, hs.out.same (by repeat (first | exact Fr.refl _ _ | apply Fr.alloc | apply Fr.drewN | apply Fr.drew | apply Fr.undrew | apply Fr.undrewN))⟩
        case measure => simp [intOf]; omega
      | false =>
        go_wp2_with fail
        go_roundw
        case rel => exact ⟨k + 1, by go_num, by omega, by rw [hst.out, if_neg (by simp)]; congr 1; omega, hs.out.same (by repeat (first | exact Fr.refl _ _ | apply Fr.alloc | apply Fr.drewN | apply Fr.drew | apply Fr.undrew | apply Fr.undrewN))⟩
        case measure => simp [intOf]; omega
    · obtain rfl : k = q := by omega
      rw [hal.out] at hv ⊢
      replace hw := Lib.hid (hw.out.same hs); replace hE := Lib.hid (hE.out.same hs)
      clear hs
      generalize numB l = V at *
      rcases hE.out with ⟨hst, rfl, rfl, rfl, rfl⟩ | ⟨hs0, hs1, hqe, rfl, hR⟩
      · clear hE
        rcases hD.out with ⟨hqb, rfl, rfl, rfl⟩ | ⟨hqb, hc, rfl, rfl, rfl⟩ | ⟨hqb, hc, rfl, rfl, rfl⟩
        all_goals
          by_cases h0 : s < 0
          all_goals
            first
              | have hqb2 : ((k : Int) == (b : Int)) = false := by simp; omega
              | have hqb2 : ((k : Int) == (b : Int)) = true := by simp; omega
            try first
              | have hvn : ((n : Int) ≤ V) = True := by simp; omega
              | have hvn : ((n : Int) ≤ V) = False := by simp; omega
            first
              | have h0' : (s < 0) = True := by simpa using h0
              | (have h0' : (s < 0) = False := by simpa using h0
                 have h1' : ((n : Int) ≤ s) = True := by simp; omega)
            replace hst := Lib.hid hst; replace hqb := Lib.hid hqb; replace h0 := Lib.hid h0
            go_wp2_with fail
            go_ret
            exact ⟨rfl, hw.out.same (by repeat (first | exact Fr.refl _ _ | apply Fr.alloc | apply Fr.drewN | apply Fr.drew | apply Fr.undrew | apply Fr.undrewN))⟩
      · clear hE
        replace hqe := hqe.symm
        subst hqe
        have h0' : (s < 0) = False := by simp; omega
        have h1' : ((n : Int) ≤ s) = False := by simp; omega
        obtain ⟨sn, rfl⟩ : ∃ sn : Nat, s = sn := ⟨s.toNat, by omega⟩
        rw [Int.toNat_natCast] at hR
        have D3 := D2.out sn (by omega) _ _ _ hR
        rw [hd2.out sn (by omega)] at D3
        have hsn' : sn < n := by omega
        replace hR := Lib.hid hR; replace D3 := Lib.hid D3; replace hsn' := Lib.hid hsn'
        rcases hD.out with ⟨hqb, rfl, rfl, rfl⟩ | ⟨hqb, hc, rfl, rfl, rfl⟩ | ⟨hqb, hc, rfl, rfl, rfl⟩
        all_goals
          first
            | have hqb2 : ((k : Int) == (b : Int)) = false := by simp; omega
            | have hqb2 : ((k : Int) == (b : Int)) = true := by simp; omega
          try first
            | have hvn : ((n : Int) ≤ V) = True := by simp; omega
            | have hvn : ((n : Int) ≤ V) = False := by simp; omega
          replace hqb := Lib.hid hqb
          go_wp2_with fail
          refine D3.out.mono ?_
          rintro e w6 ⟨rfl, s6⟩
          replace hw := Lib.hid (hw.out.same s6)
          clear s6
          go_wp2_with fail
          go_ret
          exact ⟨rfl, hw.out⟩
theorem rbits_any (n : Int) (hn : -9223372036854775808 ≤ n ∧ n ≤ 9223372036854775807) (s : Int) (hs : -9223372036854775808 ≤ s ∧ s ≤ 9223372036854775807) (l : List Bool) (a : Option Addr) (c : Nat) (w : World) (hat : RowAt w (.slice a l.length c) l.length (boolCells l)) :
    Calls Tryz.prog 5 #[.int .i64 n, .int .i64 s, .slice a l.length c] w fun e w' => e = .returned (.bool true) ∧ Same w w' := by
  by_cases hl : 14 < l.length
  · exact rbits_far n s l a c w hl
  · by_cases h : n < 0 ∨ 4096 < n
    · exact rbits_bad n s h l a c w (by omega)
    · have := rbits_ok n.toNat s (by omega) l a c w (by omega) hat
      rw [show ((n.toNat : Nat) : Int) = n by omega] at this
      exact this
end Go.Proofs.YtcdkklddingfpaaGreat
namespace Go.Proofs.YtcdkklddingfpaaGreat.relationBits
open Go.ChangeShapes Go.WideShapes Go.ChangeAt Go.RowKit
set_option linter.unusedVariables false

theorem own : ownKnob Tryz.prog.godebug = none := by kernel_rfl

set_option maxRecDepth 100000 in
theorem lifted (os : Os) (started : os.Started) (H : Type) (enc : TypeId × Value → H) :
    ReturnsInHanded {} Tryz.checked os 5 .any (Rows.relationBitsSpec.pre6 enc Tryz.prog Tryz.f5 Rows.relationBitsRow.domain false) (Rows.relationBitsSpec.post enc Tryz.prog Tryz.f5 false true false false) := by
  refine returnsInHanded_of_change (C := Tryz.checked) own started (by kernel_rfl) Tryz.func5
    (ChangeSpec.witness6 (enc := enc) (C := Tryz.checked) false ⟨#[], #[.int .i64 0, .int .i64 0, .slice none 0 0], []⟩ 8 (by kernel_rfl) (by kernel_rfl) (by kernel_rfl) (by kernel_rfl)) ?_
  intro W base args ds gs before hval0 hW hcnd _
  have hval : ∀ (j : Nat) t v, Tryz.f5.params[j]? = some t → args[j]? = some v → Value.okWide Tryz.prog W .any base t v := hval0
  have hW' := hW
  obtain ⟨p, q, hA0, hV, rfl, hfz, hnd⟩ := hW
  have hA : DataW.TrodAll enc Tryz.prog W 0 (fun _ => true) true Tryz.f5.params.toList args.toList ds p := hA0
  rw [Tryz.params5] at hA hval
  obtain ⟨v0, vs0, d0, ds0, p0, q0, hargs, rfl, rfl, h0, r0⟩ := trodAll_cons hA
  obtain ⟨v1, vs1, d1, ds1, p1, q1, rfl, rfl, rfl, h1, r1⟩ := trodAll_cons r0
  obtain ⟨v2, vs2, d2, ds2, p2, q2, rfl, rfl, rfl, h2, r2⟩ := trodAll_cons r1
  obtain ⟨rfl, rfl, rfl⟩ := trodAll_nil r2
  obtain rfl : args = #[v0, v1, v2] := by cases args; simp_all
  obtain ⟨rfl, rfl⟩ := trodVars_none hV
  obtain ⟨a0, rfl, rfl, rfl, w0⟩ := open_int Tryz.underlying3 (hval 0 3 v0 rfl rfl) h0
  obtain ⟨a1, rfl, rfl, rfl, w1⟩ := open_int Tryz.underlying3 (hval 1 3 v1 rfl rfl) h1
  have k2 := h2
  obtain ⟨a2, t2, c2, rfl, R2⟩ := open_boolsR h2 (okWide_slice Tryz.underlying63 (hval 2 63 v2 rfl rfl))
  clear hA0 hval0
  simp only [List.append_nil] at hW'
  refine (rbits_any a0 (i64_wf w0) a1 (i64_wf w1) t2 a2 c2 W R2).mono fun e W' ⟨he, hg⟩ => ?_
  subst he
  exact ⟨_, rfl, post_fr (pa := ([] ++ ([] ++ (p2 ++ [])))) (pv := []) hW' (fun _ _ _ => (trodAll_cons_mk (shut_bool Tryz.underlying4 _) trodAll_mk0)) (fun sp SP => (trodAll_cons_mk (shut_int Tryz.underlying3 w0) (trodAll_cons_mk (shut_int Tryz.underlying3 w1) (trodAll_cons_mk (stays (by kernel_rfl) (of_decide_eq_true (by kernel_rfl)) k2 hg (fun x hx => hW'.lt x (by simp [hx])) (fun x hx => SP x (by simp [hx]))) trodAll_mk0)))) (fun _ _ => rfl) (by simp) hg (ok_one (by kernel_rfl) rfl (okWide_bool_mk Tryz.underlying4 _))⟩

theorem over : Rows.relationBitsRow.holds Tryz.pinned (OpenSpec.ofChange Rows.relationBitsSpec) :=
  OpenClaim.holds_of_wide 5 Tryz.f5 rfl rfl rfl rfl rfl rfl rfl ⟨rfl, rfl, rfl, rfl, rfl⟩ rfl rfl rfl rfl rfl (by kernel_rfl) Tryz.func5 (by kernel_rfl)
    (of_decide_eq_true (by kernel_rfl)) (by unfold Func.isWrapper; first | (rw [if_pos (by decide +kernel)]; kernel_rfl) | (rw [if_neg (by decide +kernel)]; exact ⟨rfl, rfl⟩))
    (fun os started H enc _ => lifted os started H enc)
end Go.Proofs.YtcdkklddingfpaaGreat.relationBits

namespace Go.Proofs.YtcdkklddingfpaaGreat
/-- The given statement. -/
theorem relationBits_holds : Rows.RelationBitsSaid := relationBits.over
#print axioms relationBits_holds
end Go.Proofs.YtcdkklddingfpaaGreat
