/- The error of Check, handed on by all functions. -/
import Derived.Test.YtaebjalpebgliaaOpsR
import Derived.Test.YtaebjalpebgliaaQuanW
import Derived.Test.YtaebjalpebgliaaRename
namespace Go.Proofs.Ytaebjalpebgliaa
open Go.RowKit
set_option linter.unusedVariables false
set_option linter.unusedSimpArgs false

/-- Check answers c, in all worlds to come. -/
def ChkIs (d : Dg) (c : Int) (w : World) : Prop := ∀ W, Same w W → Calls Try.prog 23 #[d.v] W fun e w' => e = .returned (.int .i64 c) ∧ Same W w'
theorem ChkIs.same {d : Dg} {c : Int} {w w' : World} (h : ChkIs d c w) (hs : Same w w') : ChkIs d c w' := fun W hW => h W (hs.same hW)

set_option maxRecDepth 100000 in
set_option maxHeartbeats 1000000 in
theorem table_chk (d : Dg) (c : Int) (w : World) (hc : c ≠ 0) (CE : ChkIs d c w) :
    Calls Try.prog 26 #[d.v] w fun e w' => e = .returned (.tuple #[.slice none 0 0, .int .i64 c]) ∧ Same w w' := by
  obtain ⟨n, a, cap, L, r⟩ := d
  unfold ChkIs at CE
  simp only [Dg.v] at CE ⊢
  generalize L.length = q at CE ⊢
  have hc1 : (c != 0) = true := by simpa using hc
  replace CE := Lib.hid CE; replace hc := Lib.hid hc
  go_enter Try.func26, Try.ntmps26
  go_wp2_with fail
  refine (CE.out _ (by repeat (first | exact Fr.refl _ _ | apply Fr.alloc | apply Fr.drewN | apply Fr.drew | apply Fr.undrew | apply Fr.undrewN))).mono ?_
  rintro e w1 ⟨rfl, hs1⟩
  have hw1 : Same w w1 := (show Same w _ from (by repeat (first | exact Fr.refl _ _ | apply Fr.alloc | apply Fr.drewN | apply Fr.drew | apply Fr.undrew | apply Fr.undrewN))).same hs1
  replace hs1 := Lib.hid hs1; replace hw1 := Lib.hid hw1
  go_wp2_with fail
  go_ret2
  exact ⟨rfl, hw1.out⟩

set_option maxRecDepth 100000 in
set_option maxHeartbeats 1000000 in
theorem value_chk (d : Dg) (c : Int) (ab : Option Addr) (qb cb : Nat) (w : World) (hc : c ≠ 0) (CE : ChkIs d c w) :
    Calls Try.prog 36 #[d.v, .slice ab qb cb] w fun e w' => e = .returned (.tuple #[.bool false, .int .i64 c]) ∧ Same w w' := by
  obtain ⟨n, a, cap, L, r⟩ := d
  unfold ChkIs at CE
  simp only [Dg.v] at CE ⊢
  generalize L.length = q at CE ⊢
  have hc1 : (c != 0) = true := by simpa using hc
  replace CE := Lib.hid CE; replace hc := Lib.hid hc
  go_enter Try.func36, Try.ntmps36
  go_wp2_with fail
  refine (CE.out _ (by repeat (first | exact Fr.refl _ _ | apply Fr.alloc | apply Fr.drewN | apply Fr.drew | apply Fr.undrew | apply Fr.undrewN))).mono ?_
  rintro e w1 ⟨rfl, hs1⟩
  have hw1 : Same w w1 := (show Same w _ from (by repeat (first | exact Fr.refl _ _ | apply Fr.alloc | apply Fr.drewN | apply Fr.drew | apply Fr.undrew | apply Fr.undrewN))).same hs1
  replace hs1 := Lib.hid hs1; replace hw1 := Lib.hid hw1
  go_wp2_with fail
  go_ret2
  exact ⟨rfl, hw1.out⟩

set_option maxRecDepth 100000 in
set_option maxHeartbeats 1000000 in
theorem count_chk (d : Dg) (c : Int) (w : World) (hc : c ≠ 0) (CE : ChkIs d c w) :
    Calls Try.prog 33 #[d.v] w fun e w' => e = .returned (.tuple #[.int .i64 0, .int .i64 c]) ∧ Same w w' := by
  obtain ⟨n, a, cap, L, r⟩ := d
  unfold ChkIs at CE
  simp only [Dg.v] at CE ⊢
  generalize L.length = q at CE ⊢
  have hc1 : (c != 0) = true := by simpa using hc
  replace CE := Lib.hid CE; replace hc := Lib.hid hc
  go_enter Try.func33, Try.ntmps33
  go_wp2_with fail
  refine (CE.out _ (by repeat (first | exact Fr.refl _ _ | apply Fr.alloc | apply Fr.drewN | apply Fr.drew | apply Fr.undrew | apply Fr.undrewN))).mono ?_
  rintro e w1 ⟨rfl, hs1⟩
  have hw1 : Same w w1 := (show Same w _ from (by repeat (first | exact Fr.refl _ _ | apply Fr.alloc | apply Fr.drewN | apply Fr.drew | apply Fr.undrew | apply Fr.undrewN))).same hs1
  replace hs1 := Lib.hid hs1; replace hw1 := Lib.hid hw1
  go_wp2_with fail
  go_ret2
  exact ⟨rfl, hw1.out⟩

set_option maxRecDepth 100000 in
set_option maxHeartbeats 1000000 in
theorem any_chk (d : Dg) (c : Int) (w : World) (hc : c ≠ 0) (CE : ChkIs d c w) :
    Calls Try.prog 35 #[d.v] w fun e w' => e = .returned (.tuple #[.slice none 0 0, .bool false, .int .i64 c]) ∧ Same w w' := by
  obtain ⟨n, a, cap, L, r⟩ := d
  unfold ChkIs at CE
  simp only [Dg.v] at CE ⊢
  generalize L.length = q at CE ⊢
  have hc1 : (c != 0) = true := by simpa using hc
  replace CE := Lib.hid CE; replace hc := Lib.hid hc
  go_enter Try.func35, Try.ntmps35
  go_wp2_with fail
  refine (CE.out _ (by repeat (first | exact Fr.refl _ _ | apply Fr.alloc | apply Fr.drewN | apply Fr.drew | apply Fr.undrew | apply Fr.undrewN))).mono ?_
  rintro e w1 ⟨rfl, hs1⟩
  have hw1 : Same w w1 := (show Same w _ from (by repeat (first | exact Fr.refl _ _ | apply Fr.alloc | apply Fr.drewN | apply Fr.drew | apply Fr.undrew | apply Fr.undrewN))).same hs1
  replace hs1 := Lib.hid hs1; replace hw1 := Lib.hid hw1
  go_wp2_with fail
  go_ret3
  exact ⟨rfl, hw1.out⟩

set_option maxRecDepth 100000 in
set_option maxHeartbeats 1000000 in
theorem all_chk (d : Dg) (c : Int) (w : World) (hc : c ≠ 0) (CE : ChkIs d c w) :
    Calls Try.prog 34 #[d.v] w fun e w' => e = .returned (.tuple #[.slice none 0 0, .int .i64 c]) ∧ Same w w' := by
  obtain ⟨n, a, cap, L, r⟩ := d
  unfold ChkIs at CE
  simp only [Dg.v] at CE ⊢
  generalize L.length = q at CE ⊢
  have hc1 : (c != 0) = true := by simpa using hc
  replace CE := Lib.hid CE; replace hc := Lib.hid hc
  go_enter Try.func34, Try.ntmps34
  go_wp2_with fail
  refine (CE.out _ (by repeat (first | exact Fr.refl _ _ | apply Fr.alloc | apply Fr.drewN | apply Fr.drew | apply Fr.undrew | apply Fr.undrewN))).mono ?_
  rintro e w1 ⟨rfl, hs1⟩
  have hw1 : Same w w1 := (show Same w _ from (by repeat (first | exact Fr.refl _ _ | apply Fr.alloc | apply Fr.drewN | apply Fr.drew | apply Fr.undrew | apply Fr.undrewN))).same hs1
  replace hs1 := Lib.hid hs1; replace hw1 := Lib.hid hw1
  go_wp2_with fail
  go_ret2
  exact ⟨rfl, hw1.out⟩

set_option maxRecDepth 100000 in
set_option maxHeartbeats 1000000 in
theorem support_chk (d : Dg) (c : Int) (w : World) (hc : c ≠ 0) (CE : ChkIs d c w) :
    Calls Try.prog 43 #[d.v] w fun e w' => e = .returned (.tuple #[.slice none 0 0, .int .i64 c]) ∧ Same w w' := by
  obtain ⟨n, a, cap, L, r⟩ := d
  unfold ChkIs at CE
  simp only [Dg.v] at CE ⊢
  generalize L.length = q at CE ⊢
  have hc1 : (c != 0) = true := by simpa using hc
  replace CE := Lib.hid CE; replace hc := Lib.hid hc
  go_enter Try.func43, Try.ntmps43
  go_wp2_with fail
  refine (CE.out _ (by repeat (first | exact Fr.refl _ _ | apply Fr.alloc | apply Fr.drewN | apply Fr.drew | apply Fr.undrew | apply Fr.undrewN))).mono ?_
  rintro e w1 ⟨rfl, hs1⟩
  have hw1 : Same w w1 := (show Same w _ from (by repeat (first | exact Fr.refl _ _ | apply Fr.alloc | apply Fr.drewN | apply Fr.drew | apply Fr.undrew | apply Fr.undrewN))).same hs1
  replace hs1 := Lib.hid hs1; replace hw1 := Lib.hid hw1
  go_wp2_with fail
  go_ret2
  exact ⟨rfl, hw1.out⟩

set_option maxRecDepth 100000 in
set_option maxHeartbeats 1000000 in
theorem restrict_chk (d : Dg) (c : Int) (u : Int) (b : Bool) (w : World) (hc : c ≠ 0) (CE : ChkIs d c w) :
    Calls Try.prog 37 #[d.v, .int .i64 u, .bool b] w (DErr w c) := by
  obtain ⟨n, a, cap, L, r⟩ := d
  unfold ChkIs at CE
  simp only [Dg.v] at CE ⊢
  generalize L.length = q at CE ⊢
  have hc1 : (c != 0) = true := by simpa using hc
  replace CE := Lib.hid CE; replace hc := Lib.hid hc
  go_enter Try.func37, Try.ntmps37
  go_wp2_with fail
  refine (CE.out _ (by repeat (first | exact Fr.refl _ _ | apply Fr.alloc | apply Fr.drewN | apply Fr.drew | apply Fr.undrew | apply Fr.undrewN))).mono ?_
  rintro e w1 ⟨rfl, hs1⟩
  have kt : w1.heap[w.heap.size + 1 + 1 + 1]? = some (.cells #[.int .i64 0, .slice none 0 0, .int .i64 0] 31 (0, 0)) := hs1.at (heap_new_at (by simp) _) id
  have hs : Same w w1 := (show Same w _ from (by repeat (first | exact Fr.refl _ _ | apply Fr.alloc | apply Fr.drewN | apply Fr.drew | apply Fr.undrew | apply Fr.undrewN))).same hs1
  obtain ⟨⟨t0, t1, t2, f0, f1, f2, tb⟩, d0, d1, d2, hF, hK, hSl⟩ := res3 (a := .int .i64 0) (c := .slice none 0 0) (d := .int .i64 0) kt hs (by omega); replace hF := Lib.hid hF; replace hK := Lib.hid hK; replace hSl := Lib.hid hSl; replace kt := Lib.hid kt; replace hs := Lib.hid hs
  replace hs1 := Lib.hid hs1
  go_wp2_with fail
  refine bodyPost_ret (v := .tuple #[.agg #[.int .i64 0, .slice none 0 0, .int .i64 0], .int .i64 c]) (by simp [results, Try.results37, go_sem, d0, d1, d2]) rfl ?_
  exact ⟨rfl, hF.out⟩

set_option maxRecDepth 100000 in
set_option maxHeartbeats 1000000 in
theorem rename_chk (d : Dg) (c : Int) (m : Int) (aq : Option Addr) (qb cb : Nat) (w : World) (hc : c ≠ 0) (CE : ChkIs d c w) :
    Calls Try.prog 22 #[d.v, .int .i64 m, .slice aq qb cb] w (DErr w c) := by
  obtain ⟨n, a, cap, L, r⟩ := d
  unfold ChkIs at CE
  simp only [Dg.v] at CE ⊢
  generalize L.length = q at CE ⊢
  have hc1 : (c != 0) = true := by simpa using hc
  replace CE := Lib.hid CE; replace hc := Lib.hid hc
  go_enter Try.func22, Try.ntmps22
  go_wp2_with fail
  refine (CE.out _ (by repeat (first | exact Fr.refl _ _ | apply Fr.alloc | apply Fr.drewN | apply Fr.drew | apply Fr.undrew | apply Fr.undrewN))).mono ?_
  rintro e w1 ⟨rfl, hs1⟩
  have kt : w1.heap[w.heap.size + 1]? = some (.cells #[.int .i64 0, .slice none 0 0, .int .i64 0] 31 (0, 0)) := hs1.at (heap_new_at (by simp) _) id
  have hs : Same w w1 := (show Same w _ from (by repeat (first | exact Fr.refl _ _ | apply Fr.alloc | apply Fr.drewN | apply Fr.drew | apply Fr.undrew | apply Fr.undrewN))).same hs1
  obtain ⟨⟨t0, t1, t2, f0, f1, f2, tb⟩, d0, d1, d2, hF, hK, hSl⟩ := res3 (a := .int .i64 0) (c := .slice none 0 0) (d := .int .i64 0) kt hs (by omega); replace hF := Lib.hid hF; replace hK := Lib.hid hK; replace hSl := Lib.hid hSl; replace kt := Lib.hid kt; replace hs := Lib.hid hs
  replace hs1 := Lib.hid hs1
  go_wp2_with fail
  refine bodyPost_ret (v := .tuple #[.agg #[.int .i64 0, .slice none 0 0, .int .i64 0], .int .i64 c]) (by simp [results, Try.results22, go_sem, d0, d1, d2]) rfl ?_
  exact ⟨rfl, hF.out⟩

set_option maxRecDepth 100000 in
set_option maxHeartbeats 1000000 in
theorem quantify_chk (d : Dg) (c : Int) (F : FuncId) (aq : Option Addr) (qb cb : Nat) (w : World) (hc : c ≠ 0) (CE : ChkIs d c w) :
    Calls Try.prog 67 #[d.v, .slice aq qb cb, .func (.func F) #[] #[]] w (DErr w c) := by
  obtain ⟨n, a, cap, L, r⟩ := d
  unfold ChkIs at CE
  simp only [Dg.v] at CE ⊢
  generalize L.length = q at CE ⊢
  have hc1 : (c != 0) = true := by simpa using hc
  replace CE := Lib.hid CE; replace hc := Lib.hid hc
  go_enter Try.func67, Try.ntmps67
  go_wp2_with fail
  refine (CE.out _ (by repeat (first | exact Fr.refl _ _ | apply Fr.alloc | apply Fr.drewN | apply Fr.drew | apply Fr.undrew | apply Fr.undrewN))).mono ?_
  rintro e w1 ⟨rfl, hs1⟩
  have kt : w1.heap[w.heap.size + 1 + 1 + 1]? = some (.cells #[.int .i64 0, .slice none 0 0, .int .i64 0] 31 (0, 0)) := hs1.at (heap_new_at (by simp) _) id
  have hs : Same w w1 := (show Same w _ from (by repeat (first | exact Fr.refl _ _ | apply Fr.alloc | apply Fr.drewN | apply Fr.drew | apply Fr.undrew | apply Fr.undrewN))).same hs1
  obtain ⟨⟨t0, t1, t2, f0, f1, f2, tb⟩, d0, d1, d2, hF, hK, hSl⟩ := res3 (a := .int .i64 0) (c := .slice none 0 0) (d := .int .i64 0) kt hs (by omega); replace hF := Lib.hid hF; replace hK := Lib.hid hK; replace hSl := Lib.hid hSl; replace kt := Lib.hid kt; replace hs := Lib.hid hs
  replace hs1 := Lib.hid hs1
  go_wp2_with fail
  refine bodyPost_ret (v := .tuple #[.agg #[.int .i64 0, .slice none 0 0, .int .i64 0], .int .i64 c]) (by simp [results, Try.results67, go_sem, d0, d1, d2]) rfl ?_
  exact ⟨rfl, hF.out⟩

set_option maxRecDepth 100000 in
set_option maxHeartbeats 1000000 in
theorem exists_chk (d : Dg) (c : Int) (aq : Option Addr) (qb cb : Nat) (w : World) (hc : c ≠ 0) (CE : ChkIs d c w) :
    Calls Try.prog 39 #[d.v, .slice aq qb cb] w (DErr w c) := by
  have Q := fun W (hW : Same w W) => quantify_chk d c 68 aq qb cb W hc (CE.same hW)
  obtain ⟨n, a, cap, L, r⟩ := d
  simp only [Dg.v] at Q ⊢
  generalize L.length = q at Q ⊢
  replace Q := Lib.hid Q; replace hc := Lib.hid hc
  clear CE
  go_enter Try.func39, Try.ntmps39
  go_wp2_with fail
  refine (Q.out _ (by repeat (first | exact Fr.refl _ _ | apply Fr.alloc | apply Fr.drewN | apply Fr.drew | apply Fr.undrew | apply Fr.undrewN))).mono ?_
  rintro e w1 ⟨rfl, hs1⟩
  have kt : w1.heap[w.heap.size + 1]? = some (.cells #[.int .i64 0, .slice none 0 0, .int .i64 0] 31 (0, 0)) := hs1.at (heap_new_at (by simp) _) id
  have hs : Same w w1 := (show Same w _ from (by repeat (first | exact Fr.refl _ _ | apply Fr.alloc | apply Fr.drewN | apply Fr.drew | apply Fr.undrew | apply Fr.undrewN))).same hs1
  obtain ⟨⟨t0, t1, t2, f0, f1, f2, tb⟩, d0, d1, d2, hF, hK, hSl⟩ := res3 (a := .int .i64 0) (c := .slice none 0 0) (d := .int .i64 0) kt hs (by omega); replace hF := Lib.hid hF; replace hK := Lib.hid hK; replace hSl := Lib.hid hSl; replace kt := Lib.hid kt; replace hs := Lib.hid hs
  replace hs1 := Lib.hid hs1
  go_wp2_with fail
  refine bodyPost_ret (v := .tuple #[.agg #[.int .i64 0, .slice none 0 0, .int .i64 0], .int .i64 c]) (by simp [results, Try.results39, go_sem, d0, d1, d2]) rfl ?_
  exact ⟨rfl, hF.out⟩

/-! ### by combine -/
theorem check_chk (a : Option Addr) (cap : Nat) (d : Dg) (l : List Dg) (c : Int) (w : World) (h : DgsAt w a cap (d :: l)) (hl : (d :: l).length ≤ 1000) (heq : ∀ x ∈ d :: l, x = d) (hc : c ≠ 0) (CE : ChkIs d c w) :
    Calls Try.prog 76 #[.slice a (d :: l).length cap] w fun e w' => e = .returned (.int .i64 c) ∧ Same w w' := by
  have := checks_any a cap (d :: l) (fun _ => c) w h hl (fun x hx W hW => by rw [heq x hx]; exact CE W hW)
  have e : checksF (fun _ => c) (d :: l) = c := by simp [checksF, firstC, hc]
  rw [e] at this
  exact this

theorem not_chk (d : Dg) (c : Int) (w : World) (hc : c ≠ 0) (CE : ChkIs d c w) : Calls Try.prog 15 #[d.v] w (DOut w 0 [] 0 c) := by
  refine not_call d 0 _ _ c w (fun W a hW hD => ?_)
  exact (comb_err _ a 1 1 c hc W (fun W' hW' => check_chk a 1 d [] c W' (SliceAt.same hD hW') (by simp) (by simp) hc (CE.same (hW.same hW')))).mono fun e w' h => h.out
theorem and_chk (d : Dg) (c : Int) (w : World) (hc : c ≠ 0) (CE : ChkIs d c w) : Calls Try.prog 16 #[d.v, d.v] w (DOut w 0 [] 0 c) := by
  refine and_call d d 0 _ _ c w (fun W a hW hD => ?_)
  exact (comb_err _ a 2 2 c hc W (fun W' hW' => check_chk a 2 d [d] c W' (SliceAt.same hD hW') (by simp) (by simp) hc (CE.same (hW.same hW')))).mono fun e w' h => h.out
theorem ite_chk (d : Dg) (c : Int) (w : World) (hc : c ≠ 0) (CE : ChkIs d c w) : Calls Try.prog 19 #[d.v, d.v, d.v] w (DOut w 0 [] 0 c) := by
  refine ite_call d d d 0 _ _ c w (fun W a hW hD => ?_)
  exact (comb_err _ a 3 3 c hc W (fun W' hW' => check_chk a 3 d [d, d] c W' (SliceAt.same hD hW') (by simp) (by simp) hc (CE.same (hW.same hW')))).mono fun e w' h => h.out
end Go.Proofs.Ytaebjalpebgliaa
