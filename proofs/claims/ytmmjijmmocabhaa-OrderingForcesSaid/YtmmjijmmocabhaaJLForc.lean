/- OrderingForces walked. -/
import Derived.Test.YtmmjijmmocabhaaJLSpan
import Derived.Test.YtmmjijmmocabhaaJLawR
namespace Go.Proofs.Ytmmjijmmocabhaa
open Go.RowKit
set_option linter.unusedVariables false
set_option linter.unusedSimpArgs false

theorem for_groups {gs : List (List Int)} {o : List Int} {r : Int} (h : groupsErr gs o ≠ 0) : forErr gs o r = groupsErr gs o := by unfold forErr; rw [if_pos h]
theorem for_neg {gs : List (List Int)} {o : List Int} {r : Int} (h : groupsErr gs o = 0) (hr : r < 0) : forErr gs o r = 2 := by unfold forErr; rw [if_neg (by simp [h]), if_pos hr]
theorem for_ok {gs : List (List Int)} {o : List Int} {r : Int} (h : groupsErr gs o = 0) (hr : ¬ r < 0) : forErr gs o r = 0 := by unfold forErr; rw [if_neg (by simp [h]), if_neg hr]
theorem forAny_bad {gs : List (List Int)} {o : List Int} {r E : Int} {w : World} (h : forErr gs o r = E) (h0 : E ≠ 0) : ForAny gs o r w = fun e w' => e = .returned (.tuple #[.slice none 0 0, .int .i64 E]) ∧ Same w w' := by
  funext e w'
  unfold ForAny
  rw [if_neg (by rw [h]; exact h0), h]
theorem forAny_ok {gs : List (List Int)} {o : List Int} {r : Nat} {w : World} (h : groupsErr gs o = 0) : ForAny gs o r w = ForR (forceF gs r o) o.length w := by
  funext e w'
  unfold ForAny
  rw [if_pos (for_ok h (by omega)), Int.toNat_natCast]

set_option maxRecDepth 100000 in
set_option maxHeartbeats 4000000 in
/-- Too many groups, or elements, or a long order. -/
theorem forces_far (gs : List Grp) (a ao : Option Addr) (cap co k q : Nat) (r : Int) (w : World) (hG : GsAt w (.slice a k cap) k gs) (hq : q ≤ 9223372036854775807) (h : fewF gs = false ∨ (fewF gs = true ∧ 8 < q)) :
    Calls Try.prog 3 #[.slice a k cap, .slice ao q co, .int .i64 r] w fun e w' => e = .returned (.bool true) ∧ Same w w' := by
  have KN := fun W => known_any W
  have FW := fun W (hW : Same w W) => few_any gs a cap k W (hG.same hW)
  rcases h with hf | ⟨hf, h8⟩
  · rw [hf] at FW
    replace KN := Lib.hid KN; replace FW := Lib.hid FW; replace hG := Lib.hid hG
    go_enter Try.func3, Try.ntmps3
    go_wp2_with fail
    refine (KN.out _).mono ?_
    rintro e w1 ⟨rfl, hs1⟩
    have hs1 : Same w w1 := hs1
    replace hs1 := Lib.hid hs1
    go_wp2_with fail
    refine (FW.out _ hs1.out).mono ?_
    rintro e w2 ⟨rfl, hs2⟩
    have hs2 := hs1.out.same hs2
    replace hs2 := Lib.hid hs2
    go_wp2_with fail
    refine (KN.out _).mono ?_
    rintro e w3 ⟨rfl, hs3⟩
    have hs3 := hs2.out.same hs3
    replace hs3 := Lib.hid hs3
    go_wp2_with fail
    go_ret
    exact ⟨rfl, hs3.out⟩
  · rw [hf] at FW
    have h8' : (8 : Int) < q := by omega
    replace KN := Lib.hid KN; replace FW := Lib.hid FW; replace hG := Lib.hid hG
    go_enter Try.func3, Try.ntmps3
    go_wp2_with fail
    refine (KN.out _).mono ?_
    rintro e w1 ⟨rfl, hs1⟩
    have hs1 : Same w w1 := hs1
    replace hs1 := Lib.hid hs1
    go_wp2_with fail
    refine (FW.out _ hs1.out).mono ?_
    rintro e w2 ⟨rfl, hs2⟩
    have hs2 := hs1.out.same hs2
    replace hs2 := Lib.hid hs2
    go_wp2_with fail
    refine (KN.out _).mono ?_
    rintro e w3 ⟨rfl, hs3⟩
    have hs3 := hs2.out.same hs3
    replace hs3 := Lib.hid hs3
    go_wp2_with fail
    go_ret
    exact ⟨rfl, hs3.out⟩

set_option maxRecDepth 100000 in
set_option maxHeartbeats 8000000 in
theorem forces_bad (gs : List Grp) (o : List Int) (a ao : Option Addr) (cap co k q : Nat) (r : Int) (hr : -9223372036854775808 ≤ r ∧ r ≤ 9223372036854775807) (w : World) (hG : GsAt w (.slice a k cap) k gs) (hq : o.length = q) (hO : RowAt w (.slice ao q co) q (intCells o)) (hf : fewF gs = true) (h8 : ¬ 8 < q) (hbad : forErr (lst gs) o r ≠ 0) :
    Calls Try.prog 3 #[.slice a k cap, .slice ao q co, .int .i64 r] w fun e w' => e = .returned (.bool true) ∧ Same w w' := by
  have KN := fun W => known_any W
  have FW := fun W (hW : Same w W) => few_any gs a cap k W (hG.same hW)
  rw [hf] at FW
  have h8' : ¬ (8 : Int) < q := by omega
  have FO := fun W (hW : Same w W) => Force_any gs o a ao cap co k q r hr W (hG.same hW) hq (hO.same hW) (by omega)
  have CK := fun W (hW : Same w W) => lcheck_any o q ao co q W hq (hO.same hW) (by omega)
  have CG := fun W (hW : Same w W) => lcheckGroups_any gs q a cap k W (hG.same hW)
  obtain ⟨E, hE⟩ : ∃ E, forErr (lst gs) o r = E := ⟨_, rfl⟩
  rw [hE] at hbad
  have FO' := fun W (hW : Same w W) => by have := FO W hW; rw [forAny_bad hE hbad] at this; exact this
  clear FO
  by_cases he0 : ordErr q o = 0
  · have hgs := groups_gs (gs := lst gs) (o := o) (by rw [hq]; exact he0)
    rw [hq] at hgs
    rw [he0] at CK
    by_cases hg0 : gsErr q (lst gs) = 0
    · rw [hg0] at CG
      by_cases hr0 : r < 0
      · obtain rfl : E = 2 := by rw [← hE, for_neg (by rw [hgs]; exact hg0) hr0]
        replace KN := Lib.hid KN; replace FW := Lib.hid FW; replace hG := Lib.hid hG; replace hO := Lib.hid hO; replace FO' := Lib.hid FO'; replace CK := Lib.hid CK; replace CG := Lib.hid CG; replace hq := Lib.hid hq; replace hgs := Lib.hid hgs; replace he0 := Lib.hid he0; replace hE := Lib.hid hE
        go_enter Try.func3, Try.ntmps3
        go_wp2_with fail
        refine (KN.out _).mono ?_
        rintro e w1 ⟨rfl, hs1⟩
        have hs1 : Same w w1 := hs1
        replace hs1 := Lib.hid hs1
        go_wp2_with fail
        refine (FW.out _ hs1.out).mono ?_
        rintro e w2 ⟨rfl, hs2⟩
        have hs2 := hs1.out.same hs2
        replace hs2 := Lib.hid hs2
        go_wp2_with fail
        refine (FO'.out _ hs2.out).mono ?_
        rintro e w3 ⟨rfl, hs3⟩
        have hs3 := hs2.out.same hs3
        replace hs3 := Lib.hid hs3
        go_wp2_with fail
        refine (CK.out _ hs3.out).mono ?_
        rintro e w4 ⟨rfl, hs4⟩
        have hs4 := hs3.out.same hs4
        replace hs4 := Lib.hid hs4
        go_wp2_with fail
        refine (CG.out _ hs4.out).mono ?_
        rintro e w5 ⟨rfl, hs5⟩
        have hs5 := hs4.out.same hs5
        replace hs5 := Lib.hid hs5
        go_wp2_with fail
        go_ret
        exact ⟨by simp, hs5.out⟩
      · exact absurd (by rw [← hE]; exact for_ok (by rw [hgs]; exact hg0) hr0) hbad
    · obtain rfl : E = gsErr q (lst gs) := by rw [← hE, for_groups (by rw [hgs]; exact hg0), hgs]
      generalize gsErr q (lst gs) = E at *
      replace KN := Lib.hid KN; replace FW := Lib.hid FW; replace hG := Lib.hid hG; replace hO := Lib.hid hO; replace FO' := Lib.hid FO'; replace CK := Lib.hid CK; replace CG := Lib.hid CG; replace hq := Lib.hid hq; replace hgs := Lib.hid hgs; replace he0 := Lib.hid he0; replace hE := Lib.hid hE
      go_enter Try.func3, Try.ntmps3
      go_wp2_with fail
      refine (KN.out _).mono ?_
      rintro e w1 ⟨rfl, hs1⟩
      have hs1 : Same w w1 := hs1
      replace hs1 := Lib.hid hs1
      go_wp2_with fail
      refine (FW.out _ hs1.out).mono ?_
      rintro e w2 ⟨rfl, hs2⟩
      have hs2 := hs1.out.same hs2
      replace hs2 := Lib.hid hs2
      go_wp2_with fail
      refine (FO'.out _ hs2.out).mono ?_
      rintro e w3 ⟨rfl, hs3⟩
      have hs3 := hs2.out.same hs3
      replace hs3 := Lib.hid hs3
      go_wp2_with fail
      refine (CK.out _ hs3.out).mono ?_
      rintro e w4 ⟨rfl, hs4⟩
      have hs4 := hs3.out.same hs4
      replace hs4 := Lib.hid hs4
      go_wp2_with fail
      refine (CG.out _ hs4.out).mono ?_
      rintro e w5 ⟨rfl, hs5⟩
      have hs5 := hs4.out.same hs5
      replace hs5 := Lib.hid hs5
      go_wp2_with fail
      go_ret
      exact ⟨by simp, hs5.out⟩
  · have hgs := groups_ord (gs := lst gs) (o := o) (by rw [hq]; exact he0)
    rw [hq] at hgs
    obtain rfl : E = ordErr q o := by rw [← hE, for_groups (by rw [hgs]; exact he0), hgs]
    generalize ordErr q o = E at *
    replace KN := Lib.hid KN; replace FW := Lib.hid FW; replace hG := Lib.hid hG; replace hO := Lib.hid hO; replace FO' := Lib.hid FO'; replace CK := Lib.hid CK; replace CG := Lib.hid CG; replace hq := Lib.hid hq; replace hgs := Lib.hid hgs; replace hE := Lib.hid hE
    go_enter Try.func3, Try.ntmps3
    go_wp2_with fail
    refine (KN.out _).mono ?_
    rintro e w1 ⟨rfl, hs1⟩
    have hs1 : Same w w1 := hs1
    replace hs1 := Lib.hid hs1
    go_wp2_with fail
    refine (FW.out _ hs1.out).mono ?_
    rintro e w2 ⟨rfl, hs2⟩
    have hs2 := hs1.out.same hs2
    replace hs2 := Lib.hid hs2
    go_wp2_with fail
    refine (FO'.out _ hs2.out).mono ?_
    rintro e w3 ⟨rfl, hs3⟩
    have hs3 := hs2.out.same hs3
    replace hs3 := Lib.hid hs3
    go_wp2_with fail
    refine (CK.out _ hs3.out).mono ?_
    rintro e w4 ⟨rfl, hs4⟩
    have hs4 := hs3.out.same hs4
    replace hs4 := Lib.hid hs4
    go_wp2_with fail
    go_ret
    exact ⟨by simp, hs4.out⟩

set_option maxRecDepth 100000 in
set_option maxHeartbeats 8000000 in
theorem forces_ok (gs : List Grp) (o : List Int) (a ao : Option Addr) (cap co k q r : Nat) (hr : (r : Int) ≤ 9223372036854775807) (w : World) (hG : GsAt w (.slice a k cap) k gs) (hq : o.length = q) (hO : RowAt w (.slice ao q co) q (intCells o)) (hf : fewF gs = true) (h8 : ¬ 8 < q) (he : groupsErr (lst gs) o = 0) :
    Calls Try.prog 3 #[.slice a k cap, .slice ao q co, .int .i64 r] w fun e w' => e = .returned (.bool true) ∧ Same w w' := by
  have KN := fun W => known_any W
  have FW := fun W (hW : Same w W) => few_any gs a cap k W (hG.same hW)
  rw [hf] at FW
  have h8' : ¬ (8 : Int) < q := by omega
  have FO := fun W (hW : Same w W) => by
    have := Force_any gs o a ao cap co k q r (by omega) W (hG.same hW) hq (hO.same hW) (by omega)
    rw [forAny_ok he, hq] at this
    exact this
  have CK := fun W (hW : Same w W) => lcheck_any o q ao co q W hq (hO.same hW) (by omega)
  have CG := fun W (hW : Same w W) => lcheckGroups_any gs q a cap k W (hG.same hW)
  have he0 : ordErr o.length o = 0 := by
    unfold groupsErr at he
    split at he
    · omega
    · rename_i h; simpa using h
  have hgs := he
  rw [groups_gs he0] at hgs
  obtain ⟨ho, h64, hgr⟩ := groups_zero he
  rw [hq] at ho hgr he0 hgs
  rw [lst_len, hG.len] at h64
  rw [he0] at CK
  rw [hgs] at CG
  have LSP := fun (x : List Int) (hx : IsOrd q x) ax cx W (hW : Same w W) hX => lspan_any hx gs hgr a ax cap cx k W h64 (hG.same hW) hX
  have RD := fun (x : List Int) (hx : IsOrd q x) ax cx W (hW : Same w W) hX => lround_any hx gs hgr a ax cap cx k W h64 (hG.same hW) hX
  have hfin := forceF_ord (lst gs) r ho
  obtain ⟨R, hR⟩ : ∃ R, R = forceF (lst gs) r o := ⟨_, rfl⟩
  rw [← hR] at FO hfin
  have SM := fun (x : List Int) ax bx cx dx W (hx : x.length = q) hX hY => osame_any R x ax bx cx dx q q W hfin.len hx hX hY (by omega)
  replace KN := Lib.hid KN; replace FW := Lib.hid FW; replace hG := Lib.hid hG; replace hO := Lib.hid hO; replace FO := Lib.hid FO; replace CK := Lib.hid CK; replace CG := Lib.hid CG; replace LSP := Lib.hid LSP; replace RD := Lib.hid RD; replace hq := Lib.hid hq; replace ho := Lib.hid ho; replace hgr := Lib.hid hgr; replace hgs := Lib.hid hgs; replace he := Lib.hid he; replace he0 := Lib.hid he0; replace hfin := Lib.hid hfin; replace hR := Lib.hid hR; replace SM := Lib.hid SM
  go_enter Try.func3, Try.ntmps3
  go_wp2_with fail
  refine (KN.out _).mono ?_
  rintro e w1 ⟨rfl, hs1⟩
  have hs1 : Same w w1 := hs1
  replace hs1 := Lib.hid hs1
  go_wp2_with fail
  refine (FW.out _ hs1.out).mono ?_
  rintro e w2 ⟨rfl, hs2⟩
  have hs2 := hs1.out.same hs2
  replace hs2 := Lib.hid hs2
  go_wp2_with fail
  refine (FO.out _ hs2.out).mono ?_
  rintro e w3 ⟨aF, cF, rfl, hF, hs3⟩
  have hs3 := hs2.out.same hs3
  replace hs3 := Lib.hid hs3; replace hF := Lib.hid hF
  go_wp2_with fail
  refine (CK.out _ hs3.out).mono ?_
  rintro e w4 ⟨rfl, hs4⟩
  replace hF := Lib.hid (hF.out.same hs4)
  have hs4 := hs3.out.same hs4
  replace hs4 := Lib.hid hs4
  go_wp2_with fail
  refine (CG.out _ hs4.out).mono ?_
  rintro e w5 ⟨rfl, hs5⟩
  replace hF := Lib.hid (hF.out.same hs5)
  have hs5 := hs4.out.same hs5
  replace hs5 := Lib.hid hs5
  go_wp2_with fail
  go_loopw [10, 11] (fun b i wr => ∃ (j c : Nat) (a : Option Addr) (x : List Int), i = .int .i64 j ∧ j ≤ r ∧ b = .slice a q c ∧ IsOrd q x ∧ forceF (lst gs) (r - j) x = R ∧ RowAt wr (.slice a q c) q (intCells x) ∧ RowAt wr (.slice aF q cF) q (intCells R) ∧ Same w wr) (fun _ i _ => r - (intOf i).toNat)
  case atStart => exact ⟨0, co, ao, o, rfl, by omega, rfl, ho.out, by rw [hR.out]; rfl, hO.out.same hs5.out, hF.out, hs5.out⟩
  case round =>
    clear hs1 hs2 hs3 hs4 hs5 hF
    obtain ⟨j, c, ax, x, rfl, hj, rfl, hx, hfx, hX, hF, hs⟩ := hrel
    by_cases hlt : j < r
    · obtain ⟨d, hd⟩ : ∃ d, r - j = d + 1 := ⟨r - j - 1, by omega⟩
      have hd' : r - (j + 1) = d := by omega
      rw [hd] at hfx
      unfold forceF at hfx
      have hy := roundF_ord hx (lst gs)
      obtain ⟨y, hyd⟩ : ∃ y, y = roundF (lst gs) x := ⟨_, rfl⟩
      have RDx := RD.out x hx
      rw [← hyd] at RDx hy hfx
      have LX := LSP.out x hx
      have LY := LSP.out y hy
      generalize spanF (posA x) (lst gs) = sx at *
      generalize spanF (posA y) (lst gs) = sy at *
      by_cases hc : sx ≤ sy
      · rw [if_pos hc] at hfx
        replace RDx := Lib.hid RDx; replace LX := Lib.hid LX; replace LY := Lib.hid LY; replace hx := Lib.hid hx; replace hy := Lib.hid hy; replace hfx := Lib.hid hfx; replace hX := Lib.hid hX; replace hF := Lib.hid hF; replace hs := Lib.hid hs; replace hyd := Lib.hid hyd
        go_wp2_with fail
        refine (RDx.out _ _ _ hs.out hX.out).mono ?_
        rintro e w6 ⟨ay, cy, rfl, hY, hs6⟩
        replace hX := Lib.hid (hX.out.same hs6)
        replace hF := Lib.hid (hF.out.same hs6)
        have hs6 := hs.out.same hs6
        replace hs6 := Lib.hid hs6; replace hY := Lib.hid hY
        go_wp2_with fail
        refine (LY.out _ _ _ hs6.out hY.out).mono ?_
        rintro e w7 ⟨rfl, hs7⟩
        replace hX := Lib.hid (hX.out.same hs7); replace hF := Lib.hid (hF.out.same hs7)
        have hs7 := hs6.out.same hs7
        replace hs7 := Lib.hid hs7
        go_wp2_with fail
        refine (LX.out _ _ _ hs7.out hX.out).mono ?_
        rintro e w8 ⟨rfl, hs8⟩
        replace hX := Lib.hid (hX.out.same hs8); replace hF := Lib.hid (hF.out.same hs8)
        have hs8 := hs7.out.same hs8
        replace hs8 := Lib.hid hs8
        go_wp2_with fail
        refine (SM.out x _ _ _ _ _ hx.out.len hF.out hX.out).mono ?_
        rintro e w9 ⟨rfl, hs9⟩
        have hs9 := hs8.out.same hs9
        rw [hfx.out]
        replace hs9 := Lib.hid hs9
        go_wp2_with fail
        go_ret
        exact ⟨by simp, hs9.out⟩
      · rw [if_neg hc] at hfx
        replace RDx := Lib.hid RDx; replace LX := Lib.hid LX; replace LY := Lib.hid LY; replace hx := Lib.hid hx; replace hy := Lib.hid hy; replace hfx := Lib.hid hfx; replace hX := Lib.hid hX; replace hF := Lib.hid hF; replace hs := Lib.hid hs; replace hyd := Lib.hid hyd
        go_wp2_with fail
        refine (RDx.out _ _ _ hs.out hX.out).mono ?_
        rintro e w6 ⟨ay, cy, rfl, hY, hs6⟩
        replace hX := Lib.hid (hX.out.same hs6)
        replace hF := Lib.hid (hF.out.same hs6)
        have hs6 := hs.out.same hs6
        replace hs6 := Lib.hid hs6; replace hY := Lib.hid hY
        go_wp2_with fail
        refine (LY.out _ _ _ hs6.out hY.out).mono ?_
        rintro e w7 ⟨rfl, hs7⟩
        replace hX := Lib.hid (hX.out.same hs7); replace hF := Lib.hid (hF.out.same hs7); replace hY := Lib.hid (hY.out.same hs7)
        have hs7 := hs6.out.same hs7
        replace hs7 := Lib.hid hs7
        go_wp2_with fail
        refine (LX.out _ _ _ hs7.out hX.out).mono ?_
        rintro e w8 ⟨rfl, hs8⟩
        replace hY := Lib.hid (hY.out.same hs8); replace hF := Lib.hid (hF.out.same hs8)
        have hs8 := hs7.out.same hs8
        replace hs8 := Lib.hid hs8
        go_wp2_with fail
        go_roundw
        case rel => exact ⟨j + 1, cy, ay, y, by go_num, by omega, rfl, hy.out, by rw [hd']; exact hfx.out, hY.out, hF.out, hs8.out⟩
        case measure => simp [intOf]; omega
    · obtain rfl : j = r := by omega
      rw [Nat.sub_self] at hfx
      have hfx : x = R := hfx
      replace hx := Lib.hid hx; replace hfx := Lib.hid hfx; replace hX := Lib.hid hX; replace hF := Lib.hid hF; replace hs := Lib.hid hs
      go_wp2_with fail
      refine (SM.out x _ _ _ _ _ hx.out.len hF.out hX.out).mono ?_
      rintro e w7 ⟨rfl, hs7⟩
      have hs7 := hs.out.same hs7
      rw [hfx.out]
      replace hs7 := Lib.hid hs7
      go_wp2_with fail
      go_ret
      exact ⟨by simp, hs7.out⟩
theorem orderingForces_any (gs : List Grp) (a : Option Addr) (cap : Nat) (o : List Int) (ao : Option Addr) (co : Nat) (r : Int) (hr : -9223372036854775808 ≤ r ∧ r ≤ 9223372036854775807) (w : World) (hG : GsAt w (.slice a gs.length cap) gs.length gs) (hO : RowAt w (.slice ao o.length co) o.length (intCells o)) :
    Calls Try.prog 3 #[.slice a gs.length cap, .slice ao o.length co, .int .i64 r] w fun e w' => e = .returned (.bool true) ∧ Same w w' := by
  by_cases hf : fewF gs = true
  · by_cases h8 : 8 < o.length
    · exact forces_far gs a ao cap co _ _ r w hG (row_max hO) (.inr ⟨hf, h8⟩)
    · by_cases hb : forErr (lst gs) o r = 0
      · have he : groupsErr (lst gs) o = 0 := by
          by_cases h : groupsErr (lst gs) o = 0
          · exact h
          · exact absurd (for_groups (r := r) h ▸ hb) h
        have hr0 : ¬ r < 0 := fun h => by rw [for_neg he h] at hb; omega
        obtain ⟨m, rfl⟩ : ∃ m : Nat, r = m := ⟨r.toNat, by omega⟩
        exact forces_ok gs o a ao cap co _ _ m hr.2 w hG rfl hO hf h8 he
      · exact forces_bad gs o a ao cap co _ _ r hr w hG rfl hO hf h8 hb
  · exact forces_far gs a ao cap co _ _ r w hG (row_max hO) (.inl (by simpa using hf))
end Go.Proofs.Ytmmjijmmocabhaa
