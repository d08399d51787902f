/- OrderingRefuses walked. -/
import Derived.Test.YtmmjijmmocabhaaJKnwW
import Derived.Test.YtmmjijmmocabhaaJOrdP
import Derived.Test.YtmmjijmmocabhaaJLSpan
namespace Go.Proofs.Ytmmjijmmocabhaa
open Go.RowKit
set_option linter.unusedVariables false
set_option linter.unusedSimpArgs false

def chkV (n : Int) (L : List Nd) (r : Int) : Int := checkF n L r (tableF n.toNat [] 0 (tab L n.toNat 0 r)).1 (tableF n.toNat [] 0 (tab L n.toNat 0 r)).2
theorem chk_call (n r : Int) (aL : Option Addr) (capL q : Nat) (L : List Nd) (w : World) (hq : L.length = q) (hL : NodesAt w aL L capL) (hl : q ≤ 12) :
    ∀ W, Same w W → Calls Try.prog 45 #[.agg #[.int .i64 n, .slice aL q capL, .int .i64 r]] W fun e w' => e = .returned (.int .i64 (chkV n L r)) ∧ Same W w' := by
  intro W hW
  subst hq
  exact check_nds n r aL capL L W (hL.same hW) (by omega) (tableF n.toNat [] 0 (tab L n.toNat 0 r)).1 (tableF n.toNat [] 0 (tab L n.toNat 0 r)).2 (fun h1 h2 h3 h4 h5 => check_vis h1 h3 h4 h5 (by omega))
theorem chk_tab {n r : Int} {L : List Nd} (h : chkV n L r = 0) (hl : L.length ≤ 12) : 0 ≤ n ∧ n ≤ 40 ∧ IsTab n.toNat (tab L n.toNat 0 r) L r := by
  unfold chkV checkF at h
  split at h
  · omega
  · rename_i h1
    split at h
    · omega
    · split at h
      · rename_i h2 h3; exact absurd h h3
      · split at h
        · omega
        · split at h
          · rename_i h5
            refine ⟨by omega, by omega, ⟨by omega, tab_length _ _ _ _, ?_, by omega⟩⟩
            exact Prod.ext h5.2.symm h5.1.symm
          · omega

set_option maxRecDepth 100000 in
set_option maxHeartbeats 8000000 in
theorem refuses_far (n r : Int) (aL : Option Addr) (capL q : Nat) (ao : Option Addr) (co k : Nat) (w : World) (hq : q ≤ 9223372036854775807) (hk : k ≤ 9223372036854775807) (h : 6 < q ∨ (¬ 6 < q ∧ 6 < k)) :
    Calls Try.prog 10 #[.agg #[.int .i64 n, .slice aL q capL, .int .i64 r], .slice ao k co] w fun e w' => e = .returned (.bool true) ∧ Same w w' := by
  have KN := fun W => known_any W
  rcases h with h | ⟨h, h2⟩
  · have h' : (6 : Int) < q := by omega
    replace KN := Lib.hid KN
    go_enter Try.func10, Try.ntmps10
    go_wp2_with fail
    have kb := heap_new w (.cells #[.int .i64 n, .slice aL q capL, .int .i64 r] 45)
    refine (KN.out _).mono ?_
    rintro e w1 ⟨rfl, hs1⟩
    replace kb := Lib.hid (hs1.at kb id)
    have hs1 : Same w w1 := (show Same w _ from (by repeat (first | exact Fr.refl _ _ | apply Fr.alloc | apply Fr.drewN | apply Fr.drew | apply Fr.undrew | apply Fr.undrewN))).same hs1
    replace hs1 := Lib.hid hs1
    have k0 := cell_at kb.out 0
    have k1 := cell_at kb.out 1
    have k2 := cell_at kb.out 2
    have kl := lt_of_heap kb.out
    go_wp2_with fail
    refine (KN.out _).mono ?_
    rintro e w3 ⟨rfl, hs3⟩
    have hs3 := hs1.out.same hs3
    replace hs3 := Lib.hid hs3
    go_wp2_with fail
    go_ret
    exact ⟨rfl, hs3.out⟩
  · have h' : ¬ (6 : Int) < q := by omega
    have h2' : (6 : Int) < k := by omega
    replace KN := Lib.hid KN
    go_enter Try.func10, Try.ntmps10
    go_wp2_with fail
    have kb := heap_new w (.cells #[.int .i64 n, .slice aL q capL, .int .i64 r] 45)
    refine (KN.out _).mono ?_
    rintro e w1 ⟨rfl, hs1⟩
    replace kb := Lib.hid (hs1.at kb id)
    have hs1 : Same w w1 := (show Same w _ from (by repeat (first | exact Fr.refl _ _ | apply Fr.alloc | apply Fr.drewN | apply Fr.drew | apply Fr.undrew | apply Fr.undrewN))).same hs1
    replace hs1 := Lib.hid hs1
    have k0 := cell_at kb.out 0
    have k1 := cell_at kb.out 1
    have k2 := cell_at kb.out 2
    have kl := lt_of_heap kb.out
    go_wp2_with fail
    refine (KN.out _).mono ?_
    rintro e w3 ⟨rfl, hs3⟩
    have hs3 := hs1.out.same hs3
    replace hs3 := Lib.hid hs3
    go_wp2_with fail
    go_ret
    exact ⟨rfl, hs3.out⟩

set_option maxRecDepth 100000 in
set_option maxHeartbeats 16000000 in
theorem refuses_bad (n r : Int) (aL : Option Addr) (capL q : Nat) (L : List Nd) (o : List Int) (ao : Option Addr) (co k : Nat) (w : World) (hq : L.length = q) (hL : NodesAt w aL L capL) (hk : o.length = k) (hO : RowAt w (.slice ao k co) k (intCells o)) (h6 : ¬ 6 < q) (h6k : ¬ 6 < k)
    (hb : errF (chkV n L r) n o ≠ 0) :
    Calls Try.prog 10 #[.agg #[.int .i64 n, .slice aL q capL, .int .i64 r], .slice ao k co] w fun e w' => e = .returned (.bool true) ∧ Same w w' := by
  have KN := fun W => known_any W
  have h6' : ¬ (6 : Int) < q := by omega
  have h6k' : ¬ (6 : Int) < k := by omega
  have CK := chk_call n r aL capL q L w hq hL (by omega)
  have LC := fun W (hW : Same w W) => lcheck_any o n ao co k W hk (hO.same hW) (by omega)
  have CI : ∀ W, Same w W → ChkIs n r (errF (chkV n L r) n o) aL ao q capL k co W := fun W hW W' hW' => fcheck_any n r (chkV n L r) aL ao q capL k co o W' (fun W'' hW'' => CK W'' ((hW.same hW').same hW'')) hk (hO.same (hW.same hW')) (by omega)
  have PB := fun W (hW : Same w W) => Permute_bad n r _ aL ao q capL k co W (CI W hW) hb
  have SB := fun W (hW : Same w W) => Size_bad n r _ aL ao q capL k co W (CI W hW) hb
  have FB := fun W (hW : Same w W) => Sift_bad n r _ aL ao q capL k co W (CI W hW) hb
  have IB := fun W (hW : Same w W) => Improve_bad n r _ aL ao q capL k co W (CI W hW) hb
  obtain ⟨c, hc⟩ : ∃ c, c = chkV n L r := ⟨_, rfl⟩
  rw [← hc] at CK CI PB SB FB IB hb
  by_cases hc0 : c = 0
  · have hE : errF c n o = ordErr n o := by unfold errF; rw [if_neg (by simpa using hc0)]
    rw [hE] at PB SB FB IB hb
    obtain ⟨E, hEd⟩ : ∃ E, E = ordErr n o := ⟨_, rfl⟩
    rw [← hEd] at PB SB FB IB hb LC
    clear CI
    by_cases hn6 : 6 < n
    · have LL := fun W (hW : Same w W) => Least_limit n r aL q capL W hn6 (fun W' hW' => by have := CK W' (hW.same hW'); rw [hc0] at this; exact this)
      subst hc0
      replace KN := Lib.hid KN; replace CK := Lib.hid CK; replace LC := Lib.hid LC; replace PB := Lib.hid PB; replace SB := Lib.hid SB; replace FB := Lib.hid FB; replace IB := Lib.hid IB; replace LL := Lib.hid LL; replace hL := Lib.hid hL; replace hO := Lib.hid hO; replace hq := Lib.hid hq; replace hk := Lib.hid hk; replace hc := Lib.hid hc; replace hE := Lib.hid hE; replace hEd := Lib.hid hEd
      go_enter Try.func10, Try.ntmps10
      go_wp2_with fail
      have kb := heap_new w (.cells #[.int .i64 n, .slice aL q capL, .int .i64 r] 45)
      refine (KN.out _).mono ?_
      rintro e w1 ⟨rfl, hs1⟩
      replace kb := Lib.hid (hs1.at kb id)
      have hs1 : Same w w1 := (show Same w _ from (by repeat (first | exact Fr.refl _ _ | apply Fr.alloc | apply Fr.drewN | apply Fr.drew | apply Fr.undrew | apply Fr.undrewN))).same hs1
      replace hs1 := Lib.hid hs1
      have k0 := cell_at kb.out 0
      have k1 := cell_at kb.out 1
      have k2 := cell_at kb.out 2
      have kl := lt_of_heap kb.out
      go_wp2_with fail
      refine (CK.out _ hs1.out).mono ?_
      rintro e w2 ⟨rfl, hs2⟩
      clear k0 k1 k2 kl
      replace kb := Lib.hid (hs2.at kb.out id)
      have hs2 := hs1.out.same hs2
      replace hs2 := Lib.hid hs2
      have k0 := cell_at kb.out 0
      have k1 := cell_at kb.out 1
      have k2 := cell_at kb.out 2
      have kl := lt_of_heap kb.out
      go_wp2_with fail
      refine (LC.out _ hs2.out).mono ?_
      rintro e w3 ⟨rfl, hs3⟩
      clear k0 k1 k2 kl
      replace kb := Lib.hid (hs3.at kb.out id)
      have hs3 := hs2.out.same hs3
      replace hs3 := Lib.hid hs3
      have k0 := cell_at kb.out 0
      have k1 := cell_at kb.out 1
      have k2 := cell_at kb.out 2
      have kl := lt_of_heap kb.out
      go_wp2_with fail
      refine (PB.out _ hs3.out).mono ?_
      rintro e w4 ⟨rfl, hs4⟩
      clear k0 k1 k2 kl
      replace kb := Lib.hid (hs4.at kb.out id)
      have hs4 := hs3.out.same hs4
      replace hs4 := Lib.hid hs4
      go_upto_region 10 with fail
      have ka := heap_new w4 (.cells #[.int .i64 0, .slice none 0 0, .int .i64 0] 45)
      have hsA : Same w4 (w4.alloc (.cells #[.int .i64 0, .slice none 0 0, .int .i64 0] 45)) := (by repeat (first | exact Fr.refl _ _ | apply Fr.alloc | apply Fr.drewN | apply Fr.drew | apply Fr.undrew | apply Fr.undrewN))
      replace kb := Lib.hid (hsA.at kb.out id)
      have hs5 := hs4.out.same hsA
      generalize w4.alloc (.cells #[.int .i64 0, .slice none 0 0, .int .i64 0] 45) = W4 at *
      generalize w4.heap.size = b4 at *
      clear hsA
      replace ka := Lib.hid ka; replace hs5 := Lib.hid hs5
      have k0 := cell_at kb.out 0
      have k1 := cell_at kb.out 1
      have k2 := cell_at kb.out 2
      have kl := lt_of_heap kb.out
      go_wp2_with fail
      refine (SB.out _ hs5.out).mono ?_
      rintro e w6 ⟨rfl, hs6⟩
      clear k0 k1 k2 kl
      replace kb := Lib.hid (hs6.at kb.out id); replace ka := Lib.hid (hs6.at ka.out id)
      have hs6 := hs5.out.same hs6
      replace hs6 := Lib.hid hs6
      have k0 := cell_at kb.out 0
      have k1 := cell_at kb.out 1
      have k2 := cell_at kb.out 2
      have kl := lt_of_heap kb.out
      go_wp2_with fail
      refine (FB.out _ hs6.out).mono ?_
      rintro e w7 ⟨rfl, hs7⟩
      clear k0 k1 k2 kl
      replace kb := Lib.hid (hs7.at kb.out id); replace ka := Lib.hid (hs7.at ka.out id)
      have hs7 := hs6.out.same hs7
      replace hs7 := Lib.hid hs7
      have k0 := cell_at kb.out 0
      have k1 := cell_at kb.out 1
      have k2 := cell_at kb.out 2
      have kl := lt_of_heap kb.out
      go_wp2_with fail
      refine (IB.out _ hs7.out).mono ?_
      rintro e w8 ⟨rfl, hs8⟩
      clear k0 k1 k2 kl
      replace kb := Lib.hid (hs8.at kb.out id); replace ka := Lib.hid (hs8.at ka.out id)
      have hs8 := hs7.out.same hs8
      replace hs8 := Lib.hid hs8
      have k0 := cell_at kb.out 0
      have k1 := cell_at kb.out 1
      have k2 := cell_at kb.out 2
      have kl := lt_of_heap kb.out
      have u0 := cell_at ka.out 0
      have u1 := cell_at ka.out 1
      have u2 := cell_at ka.out 2
      have ul := lt_of_heap ka.out
      go_wp2_with fail
      refine (LL.out _ hs8.out).mono ?_
      rintro e w9 ⟨rfl, hs9⟩
      have hs9 := hs8.out.same hs9
      replace hs9 := Lib.hid hs9
      go_wp2_with fail
      go_ret
      exact ⟨by simp, hs9.out⟩
    · subst hc0
      replace KN := Lib.hid KN; replace CK := Lib.hid CK; replace LC := Lib.hid LC; replace PB := Lib.hid PB; replace SB := Lib.hid SB; replace FB := Lib.hid FB; replace IB := Lib.hid IB; replace hL := Lib.hid hL; replace hO := Lib.hid hO; replace hq := Lib.hid hq; replace hk := Lib.hid hk; replace hc := Lib.hid hc; replace hE := Lib.hid hE; replace hEd := Lib.hid hEd
      go_enter Try.func10, Try.ntmps10
      go_wp2_with fail
      have kb := heap_new w (.cells #[.int .i64 n, .slice aL q capL, .int .i64 r] 45)
      refine (KN.out _).mono ?_
      rintro e w1 ⟨rfl, hs1⟩
      replace kb := Lib.hid (hs1.at kb id)
      have hs1 : Same w w1 := (show Same w _ from (by repeat (first | exact Fr.refl _ _ | apply Fr.alloc | apply Fr.drewN | apply Fr.drew | apply Fr.undrew | apply Fr.undrewN))).same hs1
      replace hs1 := Lib.hid hs1
      have k0 := cell_at kb.out 0
      have k1 := cell_at kb.out 1
      have k2 := cell_at kb.out 2
      have kl := lt_of_heap kb.out
      go_wp2_with fail
      refine (CK.out _ hs1.out).mono ?_
      rintro e w2 ⟨rfl, hs2⟩
      clear k0 k1 k2 kl
      replace kb := Lib.hid (hs2.at kb.out id)
      have hs2 := hs1.out.same hs2
      replace hs2 := Lib.hid hs2
      have k0 := cell_at kb.out 0
      have k1 := cell_at kb.out 1
      have k2 := cell_at kb.out 2
      have kl := lt_of_heap kb.out
      go_wp2_with fail
      refine (LC.out _ hs2.out).mono ?_
      rintro e w3 ⟨rfl, hs3⟩
      clear k0 k1 k2 kl
      replace kb := Lib.hid (hs3.at kb.out id)
      have hs3 := hs2.out.same hs3
      replace hs3 := Lib.hid hs3
      have k0 := cell_at kb.out 0
      have k1 := cell_at kb.out 1
      have k2 := cell_at kb.out 2
      have kl := lt_of_heap kb.out
      go_wp2_with fail
      refine (PB.out _ hs3.out).mono ?_
      rintro e w4 ⟨rfl, hs4⟩
      clear k0 k1 k2 kl
      replace kb := Lib.hid (hs4.at kb.out id)
      have hs4 := hs3.out.same hs4
      replace hs4 := Lib.hid hs4
      go_upto_region 10 with fail
      have ka := heap_new w4 (.cells #[.int .i64 0, .slice none 0 0, .int .i64 0] 45)
      have hsA : Same w4 (w4.alloc (.cells #[.int .i64 0, .slice none 0 0, .int .i64 0] 45)) := (by repeat (first | exact Fr.refl _ _ | apply Fr.alloc | apply Fr.drewN | apply Fr.drew | apply Fr.undrew | apply Fr.undrewN))
      replace kb := Lib.hid (hsA.at kb.out id)
      have hs5 := hs4.out.same hsA
      generalize w4.alloc (.cells #[.int .i64 0, .slice none 0 0, .int .i64 0] 45) = W4 at *
      generalize w4.heap.size = b4 at *
      clear hsA
      replace ka := Lib.hid ka; replace hs5 := Lib.hid hs5
      have k0 := cell_at kb.out 0
      have k1 := cell_at kb.out 1
      have k2 := cell_at kb.out 2
      have kl := lt_of_heap kb.out
      go_wp2_with fail
      refine (SB.out _ hs5.out).mono ?_
      rintro e w6 ⟨rfl, hs6⟩
      clear k0 k1 k2 kl
      replace kb := Lib.hid (hs6.at kb.out id); replace ka := Lib.hid (hs6.at ka.out id)
      have hs6 := hs5.out.same hs6
      replace hs6 := Lib.hid hs6
      have k0 := cell_at kb.out 0
      have k1 := cell_at kb.out 1
      have k2 := cell_at kb.out 2
      have kl := lt_of_heap kb.out
      go_wp2_with fail
      refine (FB.out _ hs6.out).mono ?_
      rintro e w7 ⟨rfl, hs7⟩
      clear k0 k1 k2 kl
      replace kb := Lib.hid (hs7.at kb.out id); replace ka := Lib.hid (hs7.at ka.out id)
      have hs7 := hs6.out.same hs7
      replace hs7 := Lib.hid hs7
      have k0 := cell_at kb.out 0
      have k1 := cell_at kb.out 1
      have k2 := cell_at kb.out 2
      have kl := lt_of_heap kb.out
      go_wp2_with fail
      refine (IB.out _ hs7.out).mono ?_
      rintro e w8 ⟨rfl, hs8⟩
      clear k0 k1 k2 kl
      replace kb := Lib.hid (hs8.at kb.out id); replace ka := Lib.hid (hs8.at ka.out id)
      have hs8 := hs7.out.same hs8
      replace hs8 := Lib.hid hs8
      have k0 := cell_at kb.out 0
      have k1 := cell_at kb.out 1
      have k2 := cell_at kb.out 2
      have kl := lt_of_heap kb.out
      have u0 := cell_at ka.out 0
      have u1 := cell_at ka.out 1
      have u2 := cell_at ka.out 2
      have ul := lt_of_heap ka.out
      go_wp2_with fail
      go_ret
      exact ⟨by simp, hs8.out⟩
  · have hE : errF c n o = c := by unfold errF; rw [if_pos hc0]
    rw [hE] at PB SB FB IB hb
    have LL := fun W (hW : Same w W) => Least_bad n r c aL q capL W hc0 (fun W' hW' => CK W' (hW.same hW'))
    clear CI
    replace KN := Lib.hid KN; replace CK := Lib.hid CK; replace LC := Lib.hid LC; replace PB := Lib.hid PB; replace SB := Lib.hid SB; replace FB := Lib.hid FB; replace IB := Lib.hid IB; replace LL := Lib.hid LL; replace hL := Lib.hid hL; replace hO := Lib.hid hO; replace hq := Lib.hid hq; replace hk := Lib.hid hk; replace hc := Lib.hid hc; replace hE := Lib.hid hE
    go_enter Try.func10, Try.ntmps10
    go_wp2_with fail
    have kb := heap_new w (.cells #[.int .i64 n, .slice aL q capL, .int .i64 r] 45)
    refine (KN.out _).mono ?_
    rintro e w1 ⟨rfl, hs1⟩
    replace kb := Lib.hid (hs1.at kb id)
    have hs1 : Same w w1 := (show Same w _ from (by repeat (first | exact Fr.refl _ _ | apply Fr.alloc | apply Fr.drewN | apply Fr.drew | apply Fr.undrew | apply Fr.undrewN))).same hs1
    replace hs1 := Lib.hid hs1
    have k0 := cell_at kb.out 0
    have k1 := cell_at kb.out 1
    have k2 := cell_at kb.out 2
    have kl := lt_of_heap kb.out
    go_wp2_with fail
    refine (CK.out _ hs1.out).mono ?_
    rintro e w2 ⟨rfl, hs2⟩
    clear k0 k1 k2 kl
    replace kb := Lib.hid (hs2.at kb.out id)
    have hs2 := hs1.out.same hs2
    replace hs2 := Lib.hid hs2
    have k0 := cell_at kb.out 0
    have k1 := cell_at kb.out 1
    have k2 := cell_at kb.out 2
    have kl := lt_of_heap kb.out
    go_wp2_with fail
    refine (PB.out _ hs2.out).mono ?_
    rintro e w4 ⟨rfl, hs4⟩
    clear k0 k1 k2 kl
    replace kb := Lib.hid (hs4.at kb.out id)
    have hs4 := hs2.out.same hs4
    replace hs4 := Lib.hid hs4
    go_upto_region 10 with fail
    have ka := heap_new w4 (.cells #[.int .i64 0, .slice none 0 0, .int .i64 0] 45)
    have hsA : Same w4 (w4.alloc (.cells #[.int .i64 0, .slice none 0 0, .int .i64 0] 45)) := (by repeat (first | exact Fr.refl _ _ | apply Fr.alloc | apply Fr.drewN | apply Fr.drew | apply Fr.undrew | apply Fr.undrewN))
    replace kb := Lib.hid (hsA.at kb.out id)
    have hs5 := hs4.out.same hsA
    generalize w4.alloc (.cells #[.int .i64 0, .slice none 0 0, .int .i64 0] 45) = W4 at *
    generalize w4.heap.size = b4 at *
    clear hsA
    replace ka := Lib.hid ka; replace hs5 := Lib.hid hs5
    have k0 := cell_at kb.out 0
    have k1 := cell_at kb.out 1
    have k2 := cell_at kb.out 2
    have kl := lt_of_heap kb.out
    go_wp2_with fail
    refine (SB.out _ hs5.out).mono ?_
    rintro e w6 ⟨rfl, hs6⟩
    clear k0 k1 k2 kl
    replace kb := Lib.hid (hs6.at kb.out id); replace ka := Lib.hid (hs6.at ka.out id)
    have hs6 := hs5.out.same hs6
    replace hs6 := Lib.hid hs6
    have k0 := cell_at kb.out 0
    have k1 := cell_at kb.out 1
    have k2 := cell_at kb.out 2
    have kl := lt_of_heap kb.out
    go_wp2_with fail
    refine (FB.out _ hs6.out).mono ?_
    rintro e w7 ⟨rfl, hs7⟩
    clear k0 k1 k2 kl
    replace kb := Lib.hid (hs7.at kb.out id); replace ka := Lib.hid (hs7.at ka.out id)
    have hs7 := hs6.out.same hs7
    replace hs7 := Lib.hid hs7
    have k0 := cell_at kb.out 0
    have k1 := cell_at kb.out 1
    have k2 := cell_at kb.out 2
    have kl := lt_of_heap kb.out
    go_wp2_with fail
    refine (IB.out _ hs7.out).mono ?_
    rintro e w8 ⟨rfl, hs8⟩
    clear k0 k1 k2 kl
    replace kb := Lib.hid (hs8.at kb.out id); replace ka := Lib.hid (hs8.at ka.out id)
    have hs8 := hs7.out.same hs8
    replace hs8 := Lib.hid hs8
    have k0 := cell_at kb.out 0
    have k1 := cell_at kb.out 1
    have k2 := cell_at kb.out 2
    have kl := lt_of_heap kb.out
    have u0 := cell_at ka.out 0
    have u1 := cell_at ka.out 1
    have u2 := cell_at ka.out 2
    have ul := lt_of_heap ka.out
    go_wp2_with fail
    refine (LL.out _ hs8.out).mono ?_
    rintro e w9 ⟨rfl, hs9⟩
    have hs9 := hs8.out.same hs9
    replace hs9 := Lib.hid hs9
    go_wp2_with fail
    go_ret
    exact ⟨by simp, hs9.out⟩

set_option maxRecDepth 100000 in
set_option maxHeartbeats 16000000 in
theorem refuses_ok (n : Nat) (r : Int) (aL : Option Addr) (capL q : Nat) (L : List Nd) (t : List Bool) (o : List Int) (ao : Option Addr) (co : Nat) (w : World) (hq : L.length = q) (hL : NodesAt w aL L capL) (hO : RowAt w (.slice ao n co) n (intCells o)) (h6 : ¬ 6 < q) (h6k : ¬ 6 < n)
    (hc : chkV n L r = 0) (hT : IsTab n t L r) (ho : IsOrd n o) :
    Calls Try.prog 10 #[.agg #[.int .i64 n, .slice aL q capL, .int .i64 r], .slice ao n co] w fun e w' => e = .returned (.bool true) ∧ Same w w' := by
  have KN := fun W => known_any W
  have h6' : ¬ (6 : Int) < q := by omega
  have h6k' : ¬ (6 : Int) < n := by omega
  have CK := chk_call n r aL capL q L w hq hL (by omega)
  have h0 : ordErr n o = 0 := ordErr_zero.2 ⟨by rw [ho.len], by rw [ho.len]; exact ho⟩
  have LC := fun W (hW : Same w W) => lcheck_any o n ao co n W ho.len (hO.same hW) (by omega)
  rw [hc] at CK
  rw [h0] at LC
  have CI : ∀ W, Same w W → ChkIs n r 0 aL ao q capL n co W := fun W hW W' hW' => by
    have := fcheck_any n r 0 aL ao q capL n co o W' (fun W'' hW'' => CK W'' ((hW.same hW').same hW'')) ho.len (hO.same (hW.same hW')) (by omega)
    rw [show errF 0 n o = 0 by unfold errF; rw [if_neg (by simp), h0]] at this
    exact this
  have PO := fun W (hW : Same w W) => by have := Permute_ok (by omega) hT ho aL capL ao co W (hL.same hW) (hO.same hW) (by rw [hq]; exact CI W hW); rw [hq] at this; exact this
  have SO := fun W (hW : Same w W) => by have := Size_ok (by omega) hT ho aL capL ao co W (hL.same hW) (hO.same hW) (by rw [hq]; exact CI W hW); rw [hq] at this; exact this
  have FO := fun W (hW : Same w W) => by have := Sift_ok (by omega) hT ho aL capL ao co W (hL.same hW) (hO.same hW) (by rw [hq]; exact CI W hW); rw [hq] at this; exact this
  have IO := fun W (hW : Same w W) => by have := Improve_ok (by omega) hT ho aL capL ao co W (hL.same hW) (hO.same hW) (by rw [hq]; exact CI W hW); rw [hq] at this; exact this
  clear CI
  replace KN := Lib.hid KN; replace CK := Lib.hid CK; replace LC := Lib.hid LC; replace PO := Lib.hid PO; replace SO := Lib.hid SO; replace FO := Lib.hid FO; replace IO := Lib.hid IO; replace hL := Lib.hid hL; replace hO := Lib.hid hO; replace hq := Lib.hid hq; replace hT := Lib.hid hT; replace ho := Lib.hid ho; replace hc := Lib.hid hc; replace h0 := Lib.hid h0
  go_enter Try.func10, Try.ntmps10
  go_wp2_with fail
  have kb := heap_new w (.cells #[.int .i64 n, .slice aL q capL, .int .i64 r] 45)
  refine (KN.out _).mono ?_
  rintro e w1 ⟨rfl, hs1⟩
  replace kb := Lib.hid (hs1.at kb id)
  have hs1 : Same w w1 := (show Same w _ from (by repeat (first | exact Fr.refl _ _ | apply Fr.alloc | apply Fr.drewN | apply Fr.drew | apply Fr.undrew | apply Fr.undrewN))).same hs1
  replace hs1 := Lib.hid hs1
  have k0 := cell_at kb.out 0
  have k1 := cell_at kb.out 1
  have k2 := cell_at kb.out 2
  have kl := lt_of_heap kb.out
  go_wp2_with fail
  refine (CK.out _ hs1.out).mono ?_
  rintro e w2 ⟨rfl, hs2⟩
  clear k0 k1 k2 kl
  replace kb := Lib.hid (hs2.at kb.out id)
  have hs2 := hs1.out.same hs2
  replace hs2 := Lib.hid hs2
  have k0 := cell_at kb.out 0
  have k1 := cell_at kb.out 1
  have k2 := cell_at kb.out 2
  have kl := lt_of_heap kb.out
  go_wp2_with fail
  refine (LC.out _ hs2.out).mono ?_
  rintro e w3 ⟨rfl, hs3⟩
  clear k0 k1 k2 kl
  replace kb := Lib.hid (hs3.at kb.out id)
  have hs3 := hs2.out.same hs3
  replace hs3 := Lib.hid hs3
  have k0 := cell_at kb.out 0
  have k1 := cell_at kb.out 1
  have k2 := cell_at kb.out 2
  have kl := lt_of_heap kb.out
  go_wp2_with fail
  refine (PO.out _ hs3.out).mono ?_
  rintro e w4 ⟨d, rfl, hd, hdt, hs4⟩
  clear k0 k1 k2 kl
  replace kb := Lib.hid (hs4.at kb.out id)
  have hs4 := hs3.out.same hs4
  replace hs4 := Lib.hid hs4
  go_upto_region 10 with fail
  have hsA : Same w4 (w4.alloc (.cells #[.int .i64 d.n, .slice d.a d.L.length d.cap, .int .i64 d.r] 45)) := (by repeat (first | exact Fr.refl _ _ | apply Fr.alloc | apply Fr.drewN | apply Fr.drew | apply Fr.undrew | apply Fr.undrewN))
  replace kb := Lib.hid (hsA.at kb.out id)
  have hs5 := hs4.out.same hsA
  generalize w4.alloc (.cells #[.int .i64 d.n, .slice d.a d.L.length d.cap, .int .i64 d.r] 45) = W4 at *
  generalize w4.heap.size = b4 at *
  clear hsA
  replace hs5 := Lib.hid hs5
  have k0 := cell_at kb.out 0
  have k1 := cell_at kb.out 1
  have k2 := cell_at kb.out 2
  have kl := lt_of_heap kb.out
  go_wp2_with fail
  refine (SO.out _ hs5.out).mono ?_
  rintro e w6 ⟨rfl, hs6⟩
  clear k0 k1 k2 kl
  replace kb := Lib.hid (hs6.at kb.out id)
  have hs6 := hs5.out.same hs6
  replace hs6 := Lib.hid hs6
  have k0 := cell_at kb.out 0
  have k1 := cell_at kb.out 1
  have k2 := cell_at kb.out 2
  have kl := lt_of_heap kb.out
  go_wp2_with fail
  refine (FO.out _ hs6.out).mono ?_
  rintro e w7 ⟨aS, cS, rfl, _, hs7⟩
  clear k0 k1 k2 kl
  replace kb := Lib.hid (hs7.at kb.out id)
  have hs7 := hs6.out.same hs7
  replace hs7 := Lib.hid hs7
  have k0 := cell_at kb.out 0
  have k1 := cell_at kb.out 1
  have k2 := cell_at kb.out 2
  have kl := lt_of_heap kb.out
  go_wp2_with fail
  refine (IO.out _ hs7.out).mono ?_
  rintro e w8 ⟨aI, cI, rfl, _, hs8⟩
  have hs8 := hs7.out.same hs8
  replace hs8 := Lib.hid hs8
  go_wp2_with fail
  go_ret
  exact ⟨by simp, hs8.out⟩
theorem orderingRefuses_any (n r : Int) (aL : Option Addr) (capL : Nat) (L : List Nd) (o : List Int) (ao : Option Addr) (co : Nat) (w : World) (hL : NodesAt w aL L capL) (hO : RowAt w (.slice ao o.length co) o.length (intCells o)) :
    Calls Try.prog 10 #[.agg #[.int .i64 n, .slice aL L.length capL, .int .i64 r], .slice ao o.length co] w fun e w' => e = .returned (.bool true) ∧ Same w w' := by
  have hlm : L.length ≤ 9223372036854775807 := by
    have h1 := hL.2.1
    have h2 := hL.1
    unfold maxLen at h1
    omega
  by_cases h6 : 6 < L.length
  · exact refuses_far n r aL capL _ ao co _ w hlm (row_max hO) (.inl h6)
  · by_cases h6k : 6 < o.length
    · exact refuses_far n r aL capL _ ao co _ w hlm (row_max hO) (.inr ⟨h6, h6k⟩)
    · by_cases hb : errF (chkV n L r) n o = 0
      · have hc : chkV n L r = 0 := by
          unfold errF at hb
          split at hb
          · rename_i h; exact absurd hb h
          · rename_i h; simpa using h
        have h0 : ordErr n o = 0 := by
          unfold errF at hb
          rw [if_neg (by simp [hc])] at hb
          exact hb
        obtain ⟨e, ho⟩ := ordErr_zero.1 h0
        obtain ⟨_, _, hT⟩ := chk_tab hc (by omega)
        subst e
        rw [Int.toNat_natCast] at hT
        exact refuses_ok o.length r aL capL _ L _ o ao co w rfl hL hO h6 h6k hc hT ho
      · exact refuses_bad n r aL capL _ L o ao co _ w rfl hL rfl hO h6 h6k hb
end Go.Proofs.Ytmmjijmmocabhaa
