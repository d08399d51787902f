/- NetworkLocals walked. NetworkLocals: plain law. slices.IndexFunc and ContainsFunc over ints, for any closure; the closures of NetworkLocals. Printed by mkidxi.py. -/
import Derived.Test.YtknlkcfnfjchdaaGreatVLTup
import Derived.Test.YtknlkcfnfjchdaaGreatVLNetB
import Derived.Test.YtknlkcfnfjchdaaGreatVNetT
import Derived.Test.YtknlkcfnfjchdaaGreatVNetA
import Derived.Test.YtknlkcfnfjchdaaGreatVLEna
import Derived.Test.YtknlkcfnfjchdaaGreatVNetLc
namespace Go.Proofs.YtknlkcfnfjchdaaGreat
open Go.RowKit
set_option linter.unusedVariables false
set_option linter.unusedSimpArgs false

set_option maxRecDepth 100000 in
set_option maxHeartbeats 4000000 in
theorem idxI_any (gs : List Int) (p : Int → Bool) (F : FuncId) (cs : Array Value) (a : Option Addr) (k cap : Nat) (w : World) (hG : RowAt w (.slice a k cap) k (intCells gs))
    (ent : ∀ (args : Array Value) (W : World), (callFunc F args).run Tryz.prog W = .ok (.enter F args) W) (hk9 : k ≤ 1000000)
    (HC : ∀ g ∈ gs, ∀ W, Same w W → Calls Tryz.prog F (#[.int .i64 g] ++ cs) W fun e W' => e = .returned (.bool (p g)) ∧ Same W W') :
    Calls Tryz.prog 112 #[.slice a k cap, .func (.func F) #[] cs] w fun e w' => ∃ r : Int, e = .returned (.int .i64 r) ∧ decide (0 ≤ r) = gs.any p ∧ Same w w' := by
  have hlen : gs.length = k := by have := hG.1; simpa [intCells] using this
  have hrow := fun (j : Nat) (hj : j < gs.length) W (hW : Same w W) => (show ∃ b off, a = some ⟨b, off, none⟩ ∧ b < W.heap.size ∧ W.cell? ⟨b, off + j, none⟩ = some (.int .i64 gs[j]) from by
    have h := (hG.same hW).ints (hlen ▸ hj)
    have e : toF gs j = gs[j] := by simp [toF, List.getD, hj]
    rw [e] at h
    exact h)
  have HC' := fun (j : Nat) (hj : j < gs.length) W (hW : Same w W) => HC gs[j] (List.getElem_mem hj) W hW
  have hst : ∀ j (hj : j < gs.length), (gs.take (j + 1)).any p = ((gs.take j).any p || p gs[j]) := fun j hj => by
    rw [List.take_succ_eq_append_getElem hj, List.any_append]
    simp
  have hyes : ∀ j (hj : j < gs.length), p gs[j] = true → gs.any p = true := fun j hj h => List.any_eq_true.2 ⟨gs[j], List.getElem_mem hj, h⟩
  have hend : (gs.take k).any p = gs.any p := by rw [List.take_of_length_le (by omega)]
  have hlt : ∀ j, j < k → j < gs.length := fun j h => hlen ▸ h
  obtain ⟨AN, hAN⟩ : ∃ f : Nat → Bool, f = fun j => (gs.take j).any p := ⟨_, rfl⟩
  have hA0 : AN 0 = false := by rw [hAN]; rfl
  have hAs : ∀ j (hj : j < gs.length), AN (j + 1) = (AN j || p gs[j]) := fun j hj => by rw [hAN]; exact hst j hj
  have hAe : AN k = gs.any p := by rw [hAN]; exact hend
  clear HC hG hst hend hAN hlen
  generalize gs.any p = R at *
  replace hrow := Lib.hid hrow; replace HC' := Lib.hid HC'; replace hyes := Lib.hid hyes; replace hlt := Lib.hid hlt; replace hA0 := Lib.hid hA0; replace hAs := Lib.hid hAs; replace hAe := Lib.hid hAe
  go_enter Tryz.func112, Tryz.ntmps112
  go_wp2_with fail
  go_loopw [5, 8] (fun _ i wr => ∃ j : Nat, i = .int .i64 j ∧ j ≤ k ∧ AN j = false ∧ Same w wr) (fun _ i _ => k - (intOf i).toNat)
  case atStart => exact ⟨0, rfl, by omega, hA0.out, Fr.refl _ _⟩
  case round =>
    obtain ⟨j, rfl, hj, hno, hs⟩ := hrel
    by_cases hjk : j < k
    · obtain ⟨b, off, rfl, hb, c0⟩ := hrow.out j (hlt.out j hjk) _ hs
      have HCj := HC'.out j (hlt.out j hjk) _ hs
      have hyj := hyes.out j (hlt.out j hjk)
      have hsj := hAs.out j (hlt.out j hjk)
      generalize gs[j]'(hlt.out j hjk) = g at *
      generalize p g = r at *
      replace hno := Lib.hid hno; replace hs := Lib.hid hs; replace HCj := Lib.hid HCj; replace hyj := Lib.hid hyj; replace hsj := Lib.hid hsj
      go_wp2_with fail
      refine HCj.out.mono ?_
      rintro e w2 ⟨rfl, sP⟩
      have hs2 := hs.out.same sP
      clear sP c0
      replace hs2 := Lib.hid hs2
      cases r
      · go_wp2_with fail
        go_roundw
        case rel => exact ⟨j + 1, by go_num, by omega, by rw [hsj.out, hno.out]; rfl, hs2.out⟩
        case measure => simp [intOf]; omega
      · go_wp2_with fail
        go_ret
        exact ⟨j, rfl, by rw [hyj.out (by simp)]; simp, hs2.out⟩
    · obtain rfl : j = k := by omega
      replace hno := Lib.hid hno; replace hs := Lib.hid hs
      go_wp2_with fail
      go_ret
      exact ⟨-1, rfl, by rw [← hAe.out, hno.out]; rfl, hs.out⟩

set_option maxRecDepth 100000 in
theorem containsF_any (gs : List Int) (p : Int → Bool) (F : FuncId) (cs : Array Value) (a : Option Addr) (k cap : Nat) (w : World) (hG : RowAt w (.slice a k cap) k (intCells gs))
    (ent : ∀ (args : Array Value) (W : World), (callFunc F args).run Tryz.prog W = .ok (.enter F args) W) (hk9 : k ≤ 1000000)
    (HC : ∀ g ∈ gs, ∀ W, Same w W → Calls Tryz.prog F (#[.int .i64 g] ++ cs) W fun e W' => e = .returned (.bool (p g)) ∧ Same W W') :
    Calls Tryz.prog 51 #[.slice a k cap, .func (.func F) #[] cs] w fun e w' => e = .returned (.bool (gs.any p)) ∧ Same w w' := by
  have IX := idxI_any gs p F cs a k cap w hG ent hk9 HC
  clear HC hG
  generalize gs.any p = R at *
  replace IX := Lib.hid IX
  go_enter Tryz.func51, Tryz.ntmps51
  go_wp2_with fail
  refine IX.out.mono ?_
  rintro e w2 ⟨r, rfl, hr, hs⟩
  by_cases h0 : 0 ≤ r
  · rw [decide_eq_true h0] at hr
    subst hr
    replace hs := Lib.hid hs
    go_wp2_with fail
    go_ret
    exact ⟨rfl, hs.out⟩
  · rw [decide_eq_false h0] at hr
    subst hr
    have h0' : (0 ≤ r) = False := by simpa using h0
    replace hs := Lib.hid hs
    go_wp2_with fail
    go_ret
    exact ⟨rfl, hs.out⟩

theorem enter_locals1 (args : Array Value) (W : World) : (callFunc 49 args).run Tryz.prog W = .ok (.enter 49 args) W := by kernel_rfl
theorem enter_locals2 (args : Array Value) (W : World) : (callFunc 50 args).run Tryz.prog W = .ok (.enter 50 args) W := by kernel_rfl
theorem enter_locals21 (args : Array Value) (W : World) : (callFunc 52 args).run Tryz.prog W = .ok (.enter 52 args) W := by kernel_rfl
theorem enter_locals3 (args : Array Value) (W : World) : (callFunc 53 args).run Tryz.prog W = .ok (.enter 53 args) W := by kernel_rfl
theorem enter_locals4 (args : Array Value) (W : World) : (callFunc 56 args).run Tryz.prog W = .ok (.enter 56 args) W := by kernel_rfl
set_option maxRecDepth 100000 in
set_option maxHeartbeats 4000000 in
theorem locals1 (v : Value) (w : World) : Calls Tryz.prog 49 #[v] w fun e w' => e = .returned (.bool true) ∧ Same w w' := by
  go_enter Tryz.func49, Tryz.ntmps49
  go_wp2_with fail
  go_ret
  exact ⟨rfl, Fr.refl _ _⟩
set_option maxRecDepth 100000 in
set_option maxHeartbeats 4000000 in
theorem locals21 (x : Int) (w : World) : Calls Tryz.prog 52 #[.int .i64 x] w fun e w' => e = .returned (.bool (x != 0)) ∧ Same w w' := by
  by_cases h : x = 0
  · subst h
    go_enter Tryz.func52, Tryz.ntmps52
    go_wp2_with fail
    go_ret
    exact ⟨rfl, Fr.refl _ _⟩
  · have hb : (x != 0) = true := by simpa using h
    rw [hb]
    go_enter Tryz.func52, Tryz.ntmps52
    go_wp2_with fail
    go_ret
    exact ⟨by simp [h], Fr.refl _ _⟩
set_option maxRecDepth 100000 in
set_option maxHeartbeats 4000000 in
theorem locals2 (y : List Int) (a : Option Addr) (k c : Nat) (hk : k ≤ 1000) (w : World) (hY : RowAt w (.slice a k c) k (intCells y)) : Calls Tryz.prog 50 #[.slice a k c] w fun e w' => e = .returned (.bool (!(y.any fun x => x != 0))) ∧ Same w w' := by
  have CF := containsF_any y (fun x => x != 0) 52 #[] a k c w hY enter_locals21 (by omega) (fun g _ W _ => locals21 g W)
  generalize (y.any fun x => x != 0) = r at *
  replace CF := Lib.hid CF
  go_enter Tryz.func50, Tryz.ntmps50
  go_wp2_with fail
  refine CF.out.mono ?_
  rintro e w2 ⟨rfl, hs⟩
  replace hs := Lib.hid hs
  go_wp2_with fail
  go_ret
  exact ⟨rfl, hs.out⟩
set_option maxRecDepth 100000 in
set_option maxHeartbeats 4000000 in
theorem locals4 (y Q : List Int) (a aQ : Option Addr) (k c qQ cQ i ba bq : Nat) (hi : i < k) (hQl : Q.length = qQ) (hq : qQ ≤ 1000) (w : World) (hY : RowAt w (.slice a k c) k (intCells y)) (hQ : RowAt w (.slice aQ qQ cQ) qQ (intCells Q))
    (ka : w.heap[ba]? = some (.cells #[.int .i64 i] 3 (0, 0))) (kq : w.heap[bq]? = some (.cells #[.slice aQ qQ cQ] 31 (0, 0))) :
    Calls Tryz.prog 56 #[.slice a k c, .pointer (some ⟨bq, 0, none⟩), .pointer (some ⟨ba, 0, none⟩)] w fun e w' => e = .returned (.bool (decide (y.getD i 0 ∈ Q))) ∧ Same w w' := by
  obtain ⟨b, off, rfl, hb, y0⟩ := (show ∃ b off, a = some ⟨b, off, none⟩ ∧ b < w.heap.size ∧ w.cell? ⟨b, off + i, none⟩ = some (.int .i64 (y.getD i 0)) from hY.ints hi)
  have CN := fun W (hW : Same w W) => sContains_any Q (y.getD i 0) aQ qQ cQ W hQl (hQ.same hW) (by omega)
  generalize y.getD i 0 = v at *
  have a0 := cell_at ka 0
  have al := lt_of_heap ka
  have q0 := cell_at kq 0
  have ql := lt_of_heap kq
  clear hY hQ ka kq
  replace CN := Lib.hid CN
  go_enter Tryz.func56, Tryz.ntmps56
  go_upto_region 1 with fail
  refine wp_region_sched (fun q => q = ba ∨ q = bq ∨ q = b) [1, 0, 1, 0, 1, 3, 0] [1, 0, 2, 3, 4, 5, 6] (by kernel_rfl) (by kernel_rfl) ?_
  repeat (first | (refine sched_w rfl rfl (fun _ hK => ?_); go_simp; refine hK _ ?_; clear hK) | (refine sched_s rfl rfl (fun _ hK => ?_); go_simp; first | (refine hK _ ?_; clear hK) | (refine ⟨_, fun _ => rfl, hK _ ?_⟩; clear hK)))
  refine sched_l rfl (by decide) (fun _ hK => ?_)
  go_simp
  refine (CN.out _ fs3).mono ?_
  rintro e w' ⟨rfl, s1⟩
  refine hK _ _ ?_
  clear hK
  have hs := (show Same w _ from fs3).same s1
  clear s1 a0 q0 y0
  replace hs := Lib.hid hs
  (try simp only [Act.put, List.setIfInBounds_toArray, List.set_cons_zero, List.set_cons_succ])
  repeat (first | (refine sched_w rfl rfl (fun _ hK => ?_); go_simp; refine hK _ ?_; clear hK) | (refine sched_s rfl rfl (fun _ hK => ?_); go_simp; first | (refine hK _ ?_; clear hK) | (refine ⟨_, fun _ => rfl, hK _ ?_⟩; clear hK)))
  refine sched_nil (NoPanic.normal ?_)
  go_wp2_with fail
  go_ret
  exact ⟨rfl, hs.out⟩
set_option maxRecDepth 100000 in
set_option maxHeartbeats 8000000 in
theorem locals3 (N : Nw) (OK : NetOk N) (x : List Nat) (a : Option Addr) (c bn : Nat) (w : World) (hat : N.at w) (hX : RowAt w (.slice a N.As.length c) N.As.length (intCells (natI x)))
    (kn : w.heap[bn]? = some (.cells #[.slice N.aA N.As.length N.cA, .slice N.aO N.o.length N.cO] 36 (0, 0))) :
    Calls Tryz.prog 53 #[.slice a N.As.length c, .pointer (some ⟨bn, 0, none⟩)] w fun e w' => e = .returned (.bool ((List.range N.As.length).all fun i => decide (x.getD i 0 ∈ N.marks i))) ∧ Same w w' := by
  have hm12 := OK.ok.m12
  obtain ⟨m, hmm⟩ : ∃ m, m = N.As.length := ⟨_, rfl⟩
  have hm12m : m ≤ 12 := by omega
  have hlt : ∀ k, k < m → k < N.As.length := fun k h => hmm ▸ h
  have hR : ∀ (k : Nat) (hk : k < m) W (hW : Same w W), ∃ b off, N.aA = some ⟨b, off, none⟩ ∧ b < W.heap.size ∧ W.cell? ⟨b, off + k * 4, none⟩ = some (.slice (N.As[k]'(hlt k hk)).aA (N.As[k]'(hlt k hk)).al.length (N.As[k]'(hlt k hk)).cA) ∧ W.cell? ⟨b, off + k * 4 + 1, none⟩ = some (.int .i64 ((N.ns.getD k 0 : Nat) : Int)) ∧
      W.cell? ⟨b, off + k * 4 + 2, none⟩ = some (.slice (N.As[k]'(hlt k hk)).aM (N.As[k]'(hlt k hk)).ma.length (N.As[k]'(hlt k hk)).cM) ∧ W.cell? ⟨b, off + k * 4 + 3, none⟩ = some (.slice (N.As[k]'(hlt k hk)).aE (N.As[k]'(hlt k hk)).es.length (N.As[k]'(hlt k hk)).cE) := fun k hk W hW => by
    have := (hat.au.same hW).row (hlt k hk)
    rw [(OK.ok.n4 (hlt k hk)).2] at this
    exact this
  have hXr := fun (k : Nat) (hk : k < m) W (hW : Same w W) => (hX.same hW).nat (hlt k hk)
  have hmem : ∀ (k : Nat) (hk : k < m), decide (((x.getD k 0 : Nat) : Int) ∈ (N.As[k]'(hlt k hk)).ma) = decide (x.getD k 0 ∈ N.marks k) := fun k hk => by
    rw [← (OK.ma (hlt k hk)).1]
    refine decide_eq_decide.2 ⟨fun h => ?_, fun h => List.mem_map.2 ⟨_, h, rfl⟩⟩
    obtain ⟨v, hv, he⟩ := List.mem_map.1 h
    have : v = x.getD k 0 := by omega
    rw [← this]; exact hv
  have CN : ∀ (k : Nat) (hk : k < m) W (hW : Same w W), Calls Tryz.prog 54 #[.slice (N.As[k]'(hlt k hk)).aM (N.As[k]'(hlt k hk)).ma.length (N.As[k]'(hlt k hk)).cM, .int .i64 ((x.getD k 0 : Nat) : Int)] W fun e w' => e = .returned (.bool (decide (x.getD k 0 ∈ N.marks k))) ∧ Same W w' := fun k hk W hW => by
    rw [← hmem k hk]
    exact sContains_any (N.As[k]'(hlt k hk)).ma ((x.getD k 0 : Nat) : Int) (N.As[k]'(hlt k hk)).aM (N.As[k]'(hlt k hk)).ma.length (N.As[k]'(hlt k hk)).cM W rfl ((hat.au.each _ (List.getElem_mem (hlt k hk))).ma.same hW) (by have := (OK.sm _ (List.getElem_mem (hlt k hk))).ma; omega)
  rw [← hmm] at kn hX ⊢
  obtain ⟨P, hP⟩ : ∃ P : Bool, P = (List.range m).all fun i => decide (x.getD i 0 ∈ N.marks i) := ⟨_, rfl⟩
  rw [← hP]
  obtain ⟨ok, hok⟩ : ∃ f : Nat → Bool, f = fun k => decide (x.getD k 0 ∈ N.marks k) := ⟨_, rfl⟩
  have hok' : ∀ k, decide (x.getD k 0 ∈ N.marks k) = ok k := fun k => by rw [hok]
  simp only [hok'] at CN hP
  have hno : ∀ k, k < m → ok k = false → P = false := fun k hk h => by
    rw [hP]; exact List.all_eq_false.2 ⟨k, List.mem_range.2 hk, by rw [h]; simp⟩
  have hgd : (∀ k, k < m → ok k = true) → P = true := fun h => by
    rw [hP]; exact List.all_eq_true.2 fun k hk => h k (List.mem_range.1 hk)
  clear hat OK hX hmem hP hok hok'
  generalize N.aA = aA at *
  generalize N.cA = cA at *
  generalize N.aO = aO at *
  generalize N.cO = cO at *
  generalize N.o.length = qo at *
  generalize N.ns = ns at *
  generalize N.As = As at *
  clear hmm
  replace hR := Lib.hid hR; replace hXr := Lib.hid hXr; replace CN := Lib.hid CN; replace hno := Lib.hid hno; replace hgd := Lib.hid hgd; replace kn := Lib.hid kn
  go_enter Tryz.func53, Tryz.ntmps53
  have y0 := cell_at kn.out 0
  have y1 := cell_at kn.out 1
  have yl := lt_of_heap kn.out
  go_wp2_with fail
  go_loopw [9] (fun i wr => ∃ k : Nat, i = .int .i64 k ∧ k ≤ m ∧ (∀ i, i < k → ok i = true) ∧ Same w wr) (fun i _ => m - (intOf i).toNat)
  case atStart => exact ⟨0, rfl, by omega, fun i h => by omega, Fr.refl _ _⟩
  case round =>
    clear y0 y1 yl
    obtain ⟨k, rfl, hk, hup, hs⟩ := hrel
    by_cases hkm : k < m
    · obtain ⟨b0, off0, ha0, hb0, x0, x1, x2, x3⟩ := hR.out k hkm _ hs
      obtain ⟨b1, off1, ha1, hb1, y0⟩ := hXr.out k hkm _ hs
      have CNk := fun W hW => CN.out k hkm W hW
      have hnk := hno.out k hkm
      generalize (As[k]'(hlt k hkm)).aA = fA at *
      generalize (As[k]'(hlt k hkm)).al.length = qA at *
      generalize (As[k]'(hlt k hkm)).cA = gA at *
      generalize (As[k]'(hlt k hkm)).aM = fM at *
      generalize (As[k]'(hlt k hkm)).ma.length = qM at *
      generalize (As[k]'(hlt k hkm)).cM = gM at *
      generalize (As[k]'(hlt k hkm)).aE = fE at *
      generalize (As[k]'(hlt k hkm)).es.length = qE at *
      generalize (As[k]'(hlt k hkm)).cE = gE at *
      generalize ns.getD k 0 = nk at *
      generalize x.getD k 0 = xk at *
      generalize hok : ok k = r at *
      subst ha0 ha1
      replace hup := Lib.hid hup; replace hs := Lib.hid hs; replace CNk := Lib.hid CNk; replace hnk := Lib.hid hnk; replace hok := Lib.hid hok
      go_upto_region 4 with fail
      have ka := heap_new wr (.cells #[.slice fA qA gA, .int .i64 nk, .slice fM qM gM, .slice fE qE gE] 44)
      have s2 : Same wr (wr.alloc (.cells #[.slice fA qA gA, .int .i64 nk, .slice fM qM gM, .slice fE qE gE] 44)) := fs2
      have y0 := s2.cell? ⟨b1, off1 + k, none⟩ hb1 y0
      have hb1 := Nat.lt_of_lt_of_le hb1 s2.size
      replace hs := Lib.hid (hs.out.same s2)
      generalize wr.alloc (.cells #[.slice fA qA gA, .int .i64 nk, .slice fM qM gM, .slice fE qE gE] 44) = W2 at *
      generalize wr.heap.size = ba at *
      clear x0 x1 x2 x3 hb0 s2
      replace ka := Lib.hid ka
      have u0 := cell_at ka.out 0
      have u1 := cell_at ka.out 1
      have u2 := cell_at ka.out 2
      have u3 := cell_at ka.out 3
      have ul := lt_of_heap ka.out
      refine wp_region_sched (fun q => q = ba ∨ q = b1) [0, 1, 0, 0, 0, 1, 3, 0] [0, 2, 3, 4, 1, 5, 6, 7] (by kernel_rfl) (by kernel_rfl) ?_
      repeat (first | (refine sched_w rfl rfl (fun _ hK => ?_); go_simp; refine hK _ ?_; clear hK) | (refine sched_s rfl rfl (fun _ hK => ?_); go_simp; first | (refine hK _ ?_; clear hK) | (refine ⟨_, fun _ => rfl, hK _ ?_⟩; clear hK)))
      refine sched_l rfl (by decide) (fun _ hK => ?_)
      go_simp
      refine (CNk.out _ (hs.out.same fs3)).mono ?_
      rintro e w' ⟨rfl, s1⟩
      refine hK _ _ ?_
      clear hK
      have hs1 := hs.out.same ((show Same W2 _ from fs3).same s1)
      clear u0 u1 u2 u3 ul
      clear s1 y0 hb1 ka
      replace hs1 := Lib.hid hs1
      (try simp only [Act.put, List.setIfInBounds_toArray, List.set_cons_zero, List.set_cons_succ])
      repeat (first | (refine sched_w rfl rfl (fun _ hK => ?_); go_simp; refine hK _ ?_; clear hK) | (refine sched_s rfl rfl (fun _ hK => ?_); go_simp; first | (refine hK _ ?_; clear hK) | (refine ⟨_, fun _ => rfl, hK _ ?_⟩; clear hK)))
      refine sched_nil (NoPanic.normal ?_)
      cases r
      · have e := hnk.out rfl
        subst e
        go_wp2_with fail
        go_ret
        exact ⟨rfl, hs1.out⟩
      · have hup1 : ∀ i, i < k + 1 → ok i = true := fun i hi => by
          rcases Nat.lt_succ_iff_lt_or_eq.1 hi with h9 | rfl
          · exact hup.out i h9
          · exact hok.out
        replace hup1 := Lib.hid hup1
        go_wp2_with fail
        go_roundw
        case rel => exact ⟨k + 1, by go_num, by omega, hup1.out, hs1.out.same fs2⟩
        case measure => simp [intOf]; omega
    · obtain rfl : k = m := by omega
      have e := hgd.out hup
      subst e
      replace hs := Lib.hid hs; replace hup := Lib.hid hup
      go_wp2_with fail
      go_ret
      exact ⟨rfl, hs.out⟩

theorem sup_chosen {N : Nw} (S : Nat → List Nat) (h : N.emp = false → ∀ i, i < N.As.length → ∀ v ∈ S i, v < N.ns.getD i 0) : Sup N.ns (N.chosen S) := fun x hx => by
  unfold Nw.chosen at hx
  rw [Bool.and_eq_true, List.all_eq_true] at hx
  refine okT_iff.2 (fun i hi => ?_)
  rw [N.ns_len] at hi
  exact h (by simpa using hx.1) i hi _ (by simpa using hx.2 i (List.mem_range.2 hi))
theorem emp_tup {N : Nw} {x : List Nat} (hx : x ∈ tupsF N.ns) : N.emp = false := by
  obtain ⟨h1, h2⟩ := tups_iff.1 hx
  unfold Nw.emp
  refine List.any_eq_false.2 (fun v hv => ?_)
  obtain ⟨i, hi, rfl⟩ := List.mem_iff_getElem.1 hv
  have h3 := okT_iff.1 h2 i hi
  have h4 : N.ns.getD i 0 = N.ns[i] := by simp [List.getD, hi]
  simp only [beq_iff_eq]
  omega
theorem chosen_tup {N : Nw} {x : List Nat} (hx : x ∈ tupsF N.ns) (S : Nat → List Nat) : N.chosen S x = (List.range N.As.length).all fun i => decide (x.getD i 0 ∈ S i) := by
  unfold Nw.chosen
  rw [emp_tup hx]
  rfl
theorem ren_mem {n : Nat} {S : List Nat} (h : renErr n (natI S) (natI S).length 0 = 0) : ∀ v ∈ S, v < n := fun v hv => by
  have H := renErr_up (natI S).length 0 h
  obtain ⟨k, hk, rfl⟩ := List.mem_iff_getElem.1 hv
  have := (H k (by omega) (by rw [natI_len]; omega)).2.1
  simp only [toF, natI, List.getD, List.getElem?_map, List.getElem?_eq_getElem hk, Option.map_some, Option.getD_some] at this
  omega
theorem ren_nat {n : Int} {Q : List Int} (h : renErr n Q Q.length 0 = 0) : Q = natI (Q.map Int.toNat) := by
  have H := renErr_up Q.length 0 h
  refine List.ext_getElem? (fun i => ?_)
  simp only [natI, List.getElem?_map]
  by_cases hi : i < Q.length
  · have := (H i (by omega) (by omega)).1
    simp only [toF, List.getD, List.getElem?_eq_getElem hi, Option.getD_some] at this
    simp only [List.getElem?_eq_getElem hi, Option.map_some, Option.some.injEq]
    omega
  · simp [List.getElem?_eq_none (Nat.le_of_not_lt hi)]
theorem natI_getD (x : List Nat) (i : Nat) : (natI x).getD i 0 = ((x.getD i 0 : Nat) : Int) := by
  simp only [natI, List.getD_eq_getElem?_getD, List.getElem?_map]
  cases x[i]? <;> simp
theorem zero_all {x : List Nat} {m : Nat} (hx : x.length = m) : ((List.range m).all fun i => decide (x.getD i 0 ∈ [0])) = !((natI x).any fun v => v != 0) := by
  rw [Bool.eq_iff_iff, List.all_eq_true, Bool.not_eq_true', List.any_eq_false]
  constructor
  · intro h v hv
    obtain ⟨u, hu, rfl⟩ := List.mem_map.1 hv
    obtain ⟨k, hk, rfl⟩ := List.mem_iff_getElem.1 hu
    have := h k (List.mem_range.2 (by omega))
    simp [List.getD, hk] at this
    simp [this]
  · intro h k hk
    have hk := List.mem_range.1 hk
    have := h ((x[k]'(by omega) : Nat) : Int) (List.mem_map.2 ⟨x[k]'(by omega), List.getElem_mem _, rfl⟩)
    simp at this
    simp [List.getD, show k < x.length by omega, this]
theorem loc_all {N : Nw} {x : List Nat} (hx : x ∈ tupsF N.ns) {k : Nat} (hk : k < N.As.length) (S : List Nat) : ((List.range N.As.length).all fun i => decide (x.getD i 0 ∈ locS N k S i)) = decide ((natI x).getD k 0 ∈ natI S) := by
  rw [natI_getD]
  have e : decide (((x.getD k 0 : Nat) : Int) ∈ natI S) = decide (x.getD k 0 ∈ S) := decide_eq_decide.2 ⟨fun h => by
    obtain ⟨v, hv, he⟩ := List.mem_map.1 h
    have : v = x.getD k 0 := by omega
    rw [← this]; exact hv, fun h => List.mem_map.2 ⟨_, h, rfl⟩⟩
  rw [e, Bool.eq_iff_iff, List.all_eq_true, decide_eq_true_iff]
  constructor
  · intro h
    have := h k (List.mem_range.2 hk)
    unfold locS at this
    rw [if_pos rfl] at this
    simpa using this
  · intro h i hi
    unfold locS
    by_cases hik : i = k
    · subst hik; rw [if_pos rfl]; simpa using h
    · rw [if_neg hik]
      have h2 := okT_iff.1 (tups_iff.1 hx).2 i (by rw [N.ns_len]; exact List.mem_range.1 hi)
      exact decide_eq_true (List.mem_range.2 h2)
theorem sup_loc {N : Nw} {k : Nat} {S : List Nat} (h : renErr (N.ns.getD k 0 : Nat) (natI S) (natI S).length 0 = 0) : Sup N.ns (N.chosen (locS N k S)) := sup_chosen _ fun _ i hi v hv => by
  unfold locS at hv
  by_cases hik : i = k
  · subst hik; rw [if_pos rfl] at hv; exact ren_mem h v hv
  · rw [if_neg hik] at hv; exact List.mem_range.1 hv
theorem sup_marks {N : Nw} (OK : NetOk N) : Sup N.ns (N.chosen N.marks) := sup_chosen _ fun _ i hi v hv => ren_mem (OK.ma hi).2.2 v hv
theorem sup_zero (N : Nw) : Sup N.ns (N.chosen fun _ => [0]) := sup_chosen _ fun he i hi v hv => by
  have h1 : v = 0 := by simpa using hv
  unfold Nw.emp at he
  have := List.any_eq_false.1 he (N.ns.getD i 0) (by rw [List.getD_eq_getElem?_getD, List.getElem?_eq_getElem (by rw [N.ns_len]; exact hi)]; exact List.getElem_mem _)
  simp only [beq_iff_eq] at this
  omega

set_option maxRecDepth 100000 in
set_option maxHeartbeats 16000000 in
theorem locals_any (B : List Nat) (h86 : B.length = 86) (hB : ∀ y ∈ B, y < 256) (a : Int) (Q : List Int) (aQ : Option Addr) (cQ : Nat) (w : World) (hQ : RowAt w (.slice aQ Q.length cQ) Q.length (intCells Q)) :
    Calls Tryz.prog 9 #[.agg (bytC B).toArray, .int .i64 a, .slice aQ Q.length cQ] w fun e w' => e = .returned (.bool true) ∧ Same w w' := by
  have KN := fun W => known13_any W
  have MK := fun W => Make13_any B h86 hB 3 (by omega) W
  obtain ⟨cs, hcs⟩ : ∃ cs, cs = (bytC B).toArray := ⟨_, rfl⟩
  have hsz : cs.size = 86 := by rw [hcs]; simp [bytC, h86]
  rw [← hcs] at MK ⊢
  clear hB
  obtain ⟨qQ, hqQ⟩ : ∃ q, q = Q.length := ⟨_, rfl⟩
  rw [← hqQ] at hQ ⊢
  replace KN := Lib.hid KN; replace MK := Lib.hid MK; replace hsz := Lib.hid hsz; replace hcs := Lib.hid hcs; replace hQ := Lib.hid hQ; replace hqQ := Lib.hid hqQ
  go_enter Tryz.func9, Tryz.ntmps9
  go_upto_region 1 with fail
  have kg := heap_old (heap_old (heap_new w (.cells cs 30)) (.cells #[.int .i64 a] 3)) (.cells #[.slice aQ qQ cQ] 31)
  have ka := heap_old (heap_new (w.alloc (.cells cs 30)) (.cells #[.int .i64 a] 3)) (.cells #[.slice aQ qQ cQ] 31)
  have ke := heap_new ((w.alloc (.cells cs 30)).alloc (.cells #[.int .i64 a] 3)) (.cells #[.slice aQ qQ cQ] 31)
  simp only [← al1] at ka ke
  have s0 : Same w (((w.alloc (.cells cs 30)).alloc (.cells #[.int .i64 a] 3)).alloc (.cells #[.slice aQ qQ cQ] 31)) := fs3
  generalize ((w.alloc (.cells cs 30)).alloc (.cells #[.int .i64 a] 3)).alloc (.cells #[.slice aQ qQ cQ] 31) = W0 at *
  obtain ⟨bg, hbg⟩ : ∃ b, b = w.heap.size := ⟨_, rfl⟩
  rw [← hbg] at kg ka ke ⊢
  obtain ⟨ba, hba⟩ : ∃ b, b = bg + 1 := ⟨_, rfl⟩
  rw [← hba] at ka ke ⊢
  obtain ⟨bq, hbq⟩ : ∃ b, b = ba + 1 := ⟨_, rfl⟩
  rw [← hbq] at ke ⊢
  clear hbg hba hbq
  replace kg := Lib.hid kg; replace ka := Lib.hid ka; replace ke := Lib.hid ke; replace s0 := Lib.hid s0
  go_wp2_with fail
  refine (KN.out _).mono ?_
  rintro e w1 ⟨rfl, s1⟩
  replace kg := Lib.hid (s1.at kg.out id)
  replace ka := Lib.hid (s1.at ka.out id)
  replace ke := Lib.hid (s1.at ke.out id)
  have hs1 := s0.out.same s1
  clear s1 s0
  replace hs1 := Lib.hid hs1
  have y0 := cell_at ke.out 0
  have yl := lt_of_heap ke.out
  by_cases h8 : 6 < qQ
  · have h8i : (6 : Int) < qQ := by omega
    go_wp2_with fail
    refine (KN.out _).mono ?_
    rintro e w2 ⟨rfl, s2⟩
    have hs2 := hs1.out.same s2
    clear s2 y0 yl
    replace hs2 := Lib.hid hs2
    go_wp2_with fail
    go_ret
    exact ⟨rfl, hs2.out⟩
  have h8i : ((6 : Int) < qQ) = False := by simp; omega
  go_upto_region 3 with fail
  clear y0 yl h8i
  refine wp_region_lit ?_
  refine wpList_load_row rfl 30 (.tmp 3) rfl bg 0 rfl cs.toList _ (by have := range_row kg.out 0 86; rw [List.drop_zero, List.take_of_length_le (by simp [hsz.out])] at this; exact this) Tryz.underlying30 rfl (by rw [infoGp13]; simp [hsz.out]) ?_
  (try simp only [Act.put, List.setIfInBounds_toArray, List.set_cons_zero, List.set_cons_succ])
  refine wpList_step (fun K hK => ?_)
  go_simp
  refine (MK.out _).mono ?_
  rintro e w2 ⟨N, rfl, hat, hmd, s2⟩
  have hG := hmd.grp (by omega)
  replace ka := Lib.hid (s2.at ka.out id)
  replace ke := Lib.hid (s2.at ke.out id)
  have hsx := hs1.out.same s2
  have hQ2 := hQ.out.same hsx
  clear s2 hs1 MK hmd kg hQ
  refine hK _ _ ?_
  clear hK
  unfold Nw.v
  (try simp only [Act.put, List.setIfInBounds_toArray, List.set_cons_zero, List.set_cons_succ])
  have OK := hG.net
  have h9 : N.all ≤ 9 := hG.grp.all
  have hm3 := hG.m3
  have VA := fun W (hW : Same w2 W) => Valid_any N OK W (hat.same hW)
  have IN := fun W (hW : Same w2 W) => Initial_any N OK W (hat.same hW)
  have MA := fun W (hW : Same w2 W) => Marked_any N OK W (hat.same hW)
  have I1 := fun (d : Dg) W (hW : Same w2 W) (hd : d.at W) (T : d.tab N.all (N.set (okT N.ns))) =>
    is_any N OK.ok (by omega) hG.t1000 hG.tl d (okT N.ns) (fun _ => true) (fun x h => h) (fun x hx => (tups_iff.1 hx).2) 49 #[] W (hat.same hW) hd T enter_locals1 (fun x hx W' a c hW' hR => locals1 _ W')
  have I2 := fun (d : Dg) W (hW : Same w2 W) (hd : d.at W) (T : d.tab N.all (N.set (N.chosen fun _ => [0]))) =>
    is_any N OK.ok (by omega) hG.t1000 hG.tl d (N.chosen fun _ => [0]) (fun x => !((natI x).any fun v => v != 0)) (sup_zero N) (fun x hx => by rw [chosen_tup hx, zero_all (by rw [(tups_iff.1 hx).1, N.ns_len])]) 50 #[] W (hat.same hW) hd T enter_locals2 (fun x hx W' a c hW' hR => locals2 (natI x) a N.As.length c (by omega) W' hR)
  have I3 := fun (bn : Nat) (d : Dg) W (hW : Same w2 W) (hd : d.at W) (T : d.tab N.all (N.set (N.chosen N.marks))) (kn : W.heap[bn]? = some (.cells #[.slice N.aA N.As.length N.cA, .slice N.aO N.o.length N.cO] 36 (0, 0))) =>
    is_any N OK.ok (by omega) hG.t1000 hG.tl d (N.chosen N.marks) (fun x => (List.range N.As.length).all fun i => decide (x.getD i 0 ∈ N.marks i)) (sup_marks OK) (fun x hx => chosen_tup hx _) 53 #[.pointer (some ⟨bn, 0, none⟩)] W (hat.same hW) hd T enter_locals3 (fun x hx W' a c hW' hR => locals3 N OK x a c bn W' (hat.same (hW.same hW')) hR (hW'.at kn id))
  have I4 := fun (k : Nat) (hk : k < N.As.length) (h0 : renErr (N.ns.getD k 0 : Nat) Q Q.length 0 = 0) (S : List Nat) (hS : Q = natI S) (ba bq : Nat) (d : Dg) W (hW : Same w2 W) (hd : d.at W) (T : d.tab N.all (N.set (N.chosen (locS N k S))))
      (ka : W.heap[ba]? = some (.cells #[.int .i64 k] 3 (0, 0))) (kq : W.heap[bq]? = some (.cells #[.slice aQ qQ cQ] 31 (0, 0))) =>
    is_any N OK.ok (by omega) hG.t1000 hG.tl d (N.chosen (locS N k S)) (fun x => decide ((natI x).getD k 0 ∈ Q)) (sup_loc (by rw [← hS]; exact h0)) (fun x hx => by rw [chosen_tup hx, loc_all hx hk, hS]) 56 #[.pointer (some ⟨bq, 0, none⟩), .pointer (some ⟨ba, 0, none⟩)] W (hat.same hW) hd T enter_locals4 (fun x hx W' a c hW' hR => locals4 (natI x) Q a aQ N.As.length c qQ cQ k ba bq hk hqQ.out.symm (by omega) W' hR (hQ2.same (hW.same hW')) (hW'.at ka id) (hW'.at kq id))
  have LO := fun (E : Int) (T : List Bool) (hE : (a < 0 ∨ (N.As.length : Int) ≤ a) ∧ E = 10 ∨ ∃ k : Nat, a = k ∧ k < N.As.length ∧ E = renErr (N.ns.getD k 0 : Nat) Q Q.length 0 ∧ (E = 0 → ∃ S : List Nat, Q = natI S ∧ T = N.set (N.chosen (locS N k S)))) W (hW : Same w2 W) =>
    Local_net N OK a Q aQ qQ cQ hqQ.out.symm (by omega) W (hat.same hW) (hQ2.same hW) E T hE
  have hRr : ∀ (k : Nat) (hk : k < N.As.length) W (hW : Same w2 W), ∃ b off, N.aA = some ⟨b, off, none⟩ ∧ b < W.heap.size ∧ W.cell? ⟨b, off + k * 4 + 1, none⟩ = some (.int .i64 ((N.ns.getD k 0 : Nat) : Int)) := fun k hk W hW => by
    obtain ⟨b, off, h1, h2, h3, h4, h5, h6⟩ := (hat.au.same hW).row hk
    rw [(OK.ok.n4 hk).2] at h4
    exact ⟨b, off, h1, h2, h4⟩
  have CS := fun (k : Nat) W (hW : Same w2 W) => checkSet_any (N.ns.getD k 0 : Nat) Q aQ cQ W (by have := hqQ.out; omega) (by rw [← hqQ.out]; exact hQ2.same hW)
  rw [← hqQ.out] at CS LO I4
  have hrn : ∀ k, renErr (N.ns.getD k 0 : Nat) Q qQ 0 = 0 → Q = natI (Q.map Int.toNat) := fun k h => ren_nat (n := (N.ns.getD k 0 : Nat)) (by rw [← hqQ.out]; exact h)
  obtain ⟨nf, hnf⟩ : ∃ f : Nat → Nat, f = fun k => N.ns.getD k 0 := ⟨_, rfl⟩
  have hnf' : ∀ k, N.ns.getD k 0 = nf k := fun k => by rw [hnf]
  simp only [hnf'] at CS hRr I4 LO hrn
  clear hnf hnf'
  obtain ⟨ch, hch⟩ : ∃ f : Nat → List Nat → List Bool, f = fun k S => N.set (N.chosen (locS N k S)) := ⟨_, rfl⟩
  have hch' : ∀ k S, N.set (N.chosen (locS N k S)) = ch k S := fun k S => by rw [hch]
  simp only [hch'] at I4 LO
  clear hch hch'
  generalize N.set (okT N.ns) = tV at *
  generalize N.set (N.chosen fun _ => [0]) = tI at *
  generalize N.set (N.chosen N.marks) = tM at *
  clear OK hat hG hQ2
  generalize N.all = n at *
  generalize N.As.length = m at *
  generalize N.o.length = qo at *
  generalize N.aA = aA at *
  generalize N.cA = cA at *
  generalize N.aO = aO at *
  generalize N.cO = cO at *
  replace VA := Lib.hid VA; replace IN := Lib.hid IN; replace MA := Lib.hid MA; replace I1 := Lib.hid I1; replace I2 := Lib.hid I2; replace I3 := Lib.hid I3; replace I4 := Lib.hid I4; replace LO := Lib.hid LO; replace CS := Lib.hid CS; replace hRr := Lib.hid hRr; replace hrn := Lib.hid hrn; replace hsx := Lib.hid hsx
  go_upto_region 4 with fail
  have kn := heap_new w2 (.cells #[.slice aA m cA, .slice aO qo cO] 36)
  have hs : Same w2 (w2.alloc (.cells #[.slice aA m cA, .slice aO qo cO] 36)) := fs2
  generalize w2.alloc (.cells #[.slice aA m cA, .slice aO qo cO] 36) = WA at *
  generalize w2.heap.size = bn at *
  replace ka := Lib.hid (hs.at ka.out id)
  replace ke := Lib.hid (hs.at ke.out id)
  replace kn := Lib.hid kn; replace hs := Lib.hid hs
  have x0 := cell_at kn.out 0
  have x1 := cell_at kn.out 1
  have xl := lt_of_heap kn.out
  go_wp2_with fail
  refine (VA.out _ hs.out).mono ?_
  intro e v1 hM
  obtain ⟨a1, c1, L1, r1, rfl, d1, z1, s1⟩ := hM.open
  clear hM
  clear x0 x1 xl
  go_upto_region 5 with fail
  have q1 : Bd (v1.alloc (.cells #[.int .i64 n, .slice a1 L1.length c1, .int .i64 r1] 54)) v1.heap.size n _ a1 c1 L1 r1 := ⟨heap_new _ _, SliceAt.same d1 fs2, z1⟩
  have sP := s1.same (show Same v1 (v1.alloc (.cells #[.int .i64 n, .slice a1 L1.length c1, .int .i64 r1] 54)) from fs2)
  clear d1 z1 s1
  generalize v1.alloc (.cells #[.int .i64 n, .slice a1 L1.length c1, .int .i64 r1] 54) = W1 at *
  generalize v1.heap.size = b1 at *
  replace kn := Lib.hid (sP.at kn.out id)
  replace ka := Lib.hid (sP.at ka.out id)
  replace ke := Lib.hid (sP.at ke.out id)
  replace hs := Lib.hid (hs.out.same sP)
  clear sP
  replace q1 := Lib.hid q1
  have x0 := cell_at kn.out 0
  have x1 := cell_at kn.out 1
  have xl := lt_of_heap kn.out
  go_wp2_with fail
  refine (IN.out _ hs.out).mono ?_
  intro e v2 hM
  obtain ⟨a2, c2, L2, r2, rfl, d2, z2, s2⟩ := hM.open
  clear hM
  clear x0 x1 xl
  go_upto_region 6 with fail
  have q2 : Bd (v2.alloc (.cells #[.int .i64 n, .slice a2 L2.length c2, .int .i64 r2] 54)) v2.heap.size n _ a2 c2 L2 r2 := ⟨heap_new _ _, SliceAt.same d2 fs2, z2⟩
  have sP := s2.same (show Same v2 (v2.alloc (.cells #[.int .i64 n, .slice a2 L2.length c2, .int .i64 r2] 54)) from fs2)
  clear d2 z2 s2
  generalize v2.alloc (.cells #[.int .i64 n, .slice a2 L2.length c2, .int .i64 r2] 54) = W2 at *
  generalize v2.heap.size = b2 at *
  replace kn := Lib.hid (sP.at kn.out id)
  replace ka := Lib.hid (sP.at ka.out id)
  replace ke := Lib.hid (sP.at ke.out id)
  replace q1 := Lib.hid (q1.out.same sP)
  replace hs := Lib.hid (hs.out.same sP)
  clear sP
  replace q2 := Lib.hid q2
  have x0 := cell_at kn.out 0
  have x1 := cell_at kn.out 1
  have xl := lt_of_heap kn.out
  go_wp2_with fail
  refine (MA.out _ hs.out).mono ?_
  intro e v3 hM
  obtain ⟨a3, c3, L3, r3, rfl, d3, z3, s3⟩ := hM.open
  clear hM
  clear x0 x1 xl
  go_upto_region 7 with fail
  have q3 : Bd (v3.alloc (.cells #[.int .i64 n, .slice a3 L3.length c3, .int .i64 r3] 54)) v3.heap.size n _ a3 c3 L3 r3 := ⟨heap_new _ _, SliceAt.same d3 fs2, z3⟩
  have sP := s3.same (show Same v3 (v3.alloc (.cells #[.int .i64 n, .slice a3 L3.length c3, .int .i64 r3] 54)) from fs2)
  clear d3 z3 s3
  generalize v3.alloc (.cells #[.int .i64 n, .slice a3 L3.length c3, .int .i64 r3] 54) = W3 at *
  generalize v3.heap.size = b3 at *
  replace kn := Lib.hid (sP.at kn.out id)
  replace ka := Lib.hid (sP.at ka.out id)
  replace ke := Lib.hid (sP.at ke.out id)
  replace q1 := Lib.hid (q1.out.same sP)
  replace q2 := Lib.hid (q2.out.same sP)
  replace hs := Lib.hid (hs.out.same sP)
  clear sP
  replace q3 := Lib.hid q3
  have x0 := cell_at kn.out 0
  have x1 := cell_at kn.out 1
  have xl := lt_of_heap kn.out
  have z0 := cell_at q1.out.heap 0
  have z1 := cell_at q1.out.heap 1
  have z2 := cell_at q1.out.heap 2
  have zl := lt_of_heap q1.out.heap
  go_wp2_with fail
  refine (I1.out ⟨n, a1, c1, L1, r1⟩ _ hs.out q1.out.at' ⟨rfl, q1.out.tab⟩).mono ?_
  rintro e u1 ⟨rfl, sP⟩
  clear x0 x1 xl
  clear z0 z1 z2 zl
  clear q1
  replace kn := Lib.hid (sP.at kn.out id)
  replace ka := Lib.hid (sP.at ka.out id)
  replace ke := Lib.hid (sP.at ke.out id)
  replace q2 := Lib.hid (q2.out.same sP)
  replace q3 := Lib.hid (q3.out.same sP)
  replace hs := Lib.hid (hs.out.same sP)
  clear sP
  have x0 := cell_at kn.out 0
  have x1 := cell_at kn.out 1
  have xl := lt_of_heap kn.out
  have z0 := cell_at q2.out.heap 0
  have z1 := cell_at q2.out.heap 1
  have z2 := cell_at q2.out.heap 2
  have zl := lt_of_heap q2.out.heap
  go_wp2_with fail
  refine (I2.out ⟨n, a2, c2, L2, r2⟩ _ hs.out q2.out.at' ⟨rfl, q2.out.tab⟩).mono ?_
  rintro e u2 ⟨rfl, sP⟩
  clear x0 x1 xl
  clear z0 z1 z2 zl
  clear q2
  replace kn := Lib.hid (sP.at kn.out id)
  replace ka := Lib.hid (sP.at ka.out id)
  replace ke := Lib.hid (sP.at ke.out id)
  replace q3 := Lib.hid (q3.out.same sP)
  replace hs := Lib.hid (hs.out.same sP)
  clear sP
  have x0 := cell_at kn.out 0
  have x1 := cell_at kn.out 1
  have xl := lt_of_heap kn.out
  have z0 := cell_at q3.out.heap 0
  have z1 := cell_at q3.out.heap 1
  have z2 := cell_at q3.out.heap 2
  have zl := lt_of_heap q3.out.heap
  go_wp2_with fail
  refine (I3.out bn ⟨n, a3, c3, L3, r3⟩ _ hs.out q3.out.at' ⟨rfl, q3.out.tab⟩ kn.out).mono ?_
  rintro e u3 ⟨rfl, sP⟩
  clear x0 x1 xl
  clear z0 z1 z2 zl
  clear q3
  replace kn := Lib.hid (sP.at kn.out id)
  replace ka := Lib.hid (sP.at ka.out id)
  replace ke := Lib.hid (sP.at ke.out id)
  replace hs := Lib.hid (hs.out.same sP)
  clear sP
  have x0 := cell_at kn.out 0
  have x1 := cell_at kn.out 1
  have xl := lt_of_heap kn.out
  have a0 := cell_at ka.out 0
  have al := lt_of_heap ka.out
  have y0 := cell_at ke.out 0
  have yl := lt_of_heap ke.out
  by_cases hout : a < 0 ∨ (m : Int) ≤ a
  · go_wp2_with fail
    refine (LO.out 10 [] (Or.inl ⟨hout, rfl⟩) _ hs.out).mono ?_
    intro e v4 hM
    rcases hM with ⟨_, rfl, s4⟩ | ⟨h, _⟩
    case inr => exact absurd h (by decide)
    clear x0 x1 xl
    clear a0 al y0 yl
    go_upto_region 12 with fail
    have q4 := heap_new v4 (.cells #[.int .i64 0, .slice none 0 0, .int .i64 0] 54)
    have sP := s4.same (show Same v4 (v4.alloc (.cells #[.int .i64 0, .slice none 0 0, .int .i64 0] 54)) from fs2)
    clear s4
    generalize v4.alloc (.cells #[.int .i64 0, .slice none 0 0, .int .i64 0] 54) = W4 at *
    generalize v4.heap.size = b4 at *
    replace kn := Lib.hid (sP.at kn.out id)
    replace ka := Lib.hid (sP.at ka.out id)
    replace ke := Lib.hid (sP.at ke.out id)
    replace hs := Lib.hid (hs.out.same sP)
    clear sP
    replace q4 := Lib.hid q4
    have x0 := cell_at kn.out 0
    have x1 := cell_at kn.out 1
    have xl := lt_of_heap kn.out
    have a0 := cell_at ka.out 0
    have al := lt_of_heap ka.out
    have y0 := cell_at ke.out 0
    have yl := lt_of_heap ke.out
    have hend := hsx.out.same hs.out
    have hcase : (a < 0) = True ∧ (0 ≤ a) = False ∨ (a < 0) = False ∧ (0 ≤ a) = True ∧ (a < (m : Int)) = False := by
      rcases (show a < 0 ∨ 0 ≤ a by omega) with h | h
      · exact Or.inl ⟨eq_true h, eq_false (by omega)⟩
      · exact Or.inr ⟨eq_false (by omega), eq_true h, eq_false (by omega)⟩
    replace hend := Lib.hid hend
    clear hout
    have z0 := cell_at q4.out 0
    have z1 := cell_at q4.out 1
    have z2 := cell_at q4.out 2
    have zl := lt_of_heap q4.out
    rcases hcase with ⟨hc, hd⟩ | ⟨hc, hd, hf⟩
    · go_wp2_with fail
      go_ret
      exact ⟨rfl, hend.out.same fs2⟩
    · go_wp2_with fail
      go_ret
      exact ⟨rfl, hend.out.same fs2⟩
  obtain ⟨k, rfl⟩ : ∃ k : Nat, a = k := ⟨a.toNat, by omega⟩
  have hk : k < m := by omega
  clear hout
  obtain ⟨er, her⟩ : ∃ e, e = renErr (nf k : Nat) Q qQ 0 := ⟨_, rfl⟩
  have CSk := fun W hW => CS.out k W hW
  have hrk := hrn.out k
  have I4k := fun h0 => I4.out k hk h0
  rw [← her] at hrk I4k
  simp only [← her] at CSk
  have LOk := fun T h => LO.out er T (Or.inr ⟨k, rfl, hk, her, h⟩)
  obtain ⟨nk, hnk⟩ : ∃ q, q = nf k := ⟨_, rfl⟩
  rw [← hnk] at CSk
  have hRk := hRr.out k hk
  rw [← hnk] at hRk
  have hk0 : ((k : Int) < 0) = False := by simp
  have hk1 : (0 ≤ (k : Int)) = True := by simp
  have hkm : ((k : Int) < (m : Int)) = True := by simp; omega
  clear her hnk
  replace CSk := Lib.hid CSk; replace hrk := Lib.hid hrk; replace I4k := Lib.hid I4k; replace LOk := Lib.hid LOk; replace hRk := Lib.hid hRk
  by_cases h0 : er = 0
  · subst h0
    have hQS := hrk.out rfl
    go_wp2_with fail
    refine (LOk.out (ch k (Q.map Int.toNat)) (fun _ => ⟨_, hQS, rfl⟩) _ hs.out).mono ?_
    intro e v4 hM
    obtain ⟨a4, c4, L4, r4, rfl, d4, z4, s4⟩ := (hM.ok0 rfl).open
    clear hM
    clear x0 x1 xl
    clear a0 al y0 yl
    replace hQS := Lib.hid hQS
    go_upto_region 12 with fail
    have q4 : Bd (v4.alloc (.cells #[.int .i64 n, .slice a4 L4.length c4, .int .i64 r4] 54)) v4.heap.size n _ a4 c4 L4 r4 := ⟨heap_new _ _, SliceAt.same d4 fs2, z4⟩
    have sP := s4.same (show Same v4 (v4.alloc (.cells #[.int .i64 n, .slice a4 L4.length c4, .int .i64 r4] 54)) from fs2)
    clear d4 z4 s4
    generalize v4.alloc (.cells #[.int .i64 n, .slice a4 L4.length c4, .int .i64 r4] 54) = W4 at *
    generalize v4.heap.size = b4 at *
    replace kn := Lib.hid (sP.at kn.out id)
    replace ka := Lib.hid (sP.at ka.out id)
    replace ke := Lib.hid (sP.at ke.out id)
    replace hs := Lib.hid (hs.out.same sP)
    clear sP
    replace q4 := Lib.hid q4
    have x0 := cell_at kn.out 0
    have x1 := cell_at kn.out 1
    have xl := lt_of_heap kn.out
    have a0 := cell_at ka.out 0
    have al := lt_of_heap ka.out
    have y0 := cell_at ke.out 0
    have yl := lt_of_heap ke.out
    obtain ⟨b0, off0, rfl, hb0, c1⟩ := hRk.out _ hs.out
    go_upto_region 14 with fail
    refine wp_region_sched (fun q => q = bn ∨ q = ba ∨ q = bq ∨ q = b0) [1, 0, 1, 1, 0, 0, 1, 3, 0] [1, 0, 2, 3, 4, 5, 6, 7, 8] (by kernel_rfl) (by kernel_rfl) ?_
    repeat (first | (refine sched_w rfl rfl (fun _ hK => ?_); go_simp; refine hK _ ?_; clear hK) | (refine sched_s rfl rfl (fun _ hK => ?_); go_simp; first | (refine hK _ ?_; clear hK) | (refine ⟨_, fun _ => rfl, hK _ ?_⟩; clear hK)))
    refine sched_l rfl (by decide) (fun _ hK => ?_)
    go_simp
    refine (CSk.out _ (hs.out.same fs3)).mono ?_
    rintro e w' ⟨rfl, rfl⟩
    refine hK _ _ ?_
    clear hK
    (try simp only [Act.put, List.setIfInBounds_toArray, List.set_cons_zero, List.set_cons_succ])
    repeat (first | (refine sched_w rfl rfl (fun _ hK => ?_); go_simp; refine hK _ ?_; clear hK) | (refine sched_s rfl rfl (fun _ hK => ?_); go_simp; first | (refine hK _ ?_; clear hK) | (refine ⟨_, fun _ => rfl, hK _ ?_⟩; clear hK)))
    refine sched_nil (NoPanic.normal ?_)
    have s2 : Same W4 W4.drew := fs3
    replace kn := Lib.hid (s2.at kn.out id)
    replace ka := Lib.hid (s2.at ka.out id)
    replace ke := Lib.hid (s2.at ke.out id)
    replace q4 := Lib.hid (q4.out.same s2)
    replace hs := Lib.hid (hs.out.same s2)
    clear s2
    generalize W4.drew = W5 at *
    clear x0 x1 xl
    clear a0 al y0 yl c1 hb0
    have x0 := cell_at kn.out 0
    have x1 := cell_at kn.out 1
    have xl := lt_of_heap kn.out
    have z0 := cell_at q4.out.heap 0
    have z1 := cell_at q4.out.heap 1
    have z2 := cell_at q4.out.heap 2
    have zl := lt_of_heap q4.out.heap
    go_wp2_with fail
    refine (I4k.out (by trivial) _ hQS.out ba bq ⟨n, a4, c4, L4, r4⟩ _ hs.out q4.out.at' ⟨rfl, q4.out.tab⟩ ka.out ke.out).mono ?_
    rintro e v5 ⟨rfl, s5⟩
    have hend := hsx.out.same (hs.out.same s5)
    clear s5
    replace hend := Lib.hid hend
    go_wp2_with fail
    go_ret
    exact ⟨rfl, hend.out.same fs2⟩
  · go_wp2_with fail
    refine (LOk.out [] (fun h => absurd h h0) _ hs.out).mono ?_
    intro e v4 hM
    rcases hM with ⟨_, rfl, s4⟩ | ⟨h, _⟩
    case inr => exact absurd h h0
    clear x0 x1 xl
    clear a0 al y0 yl
    go_upto_region 12 with fail
    have q4 := heap_new v4 (.cells #[.int .i64 0, .slice none 0 0, .int .i64 0] 54)
    have sP := s4.same (show Same v4 (v4.alloc (.cells #[.int .i64 0, .slice none 0 0, .int .i64 0] 54)) from fs2)
    clear s4
    generalize v4.alloc (.cells #[.int .i64 0, .slice none 0 0, .int .i64 0] 54) = W4 at *
    generalize v4.heap.size = b4 at *
    replace kn := Lib.hid (sP.at kn.out id)
    replace ka := Lib.hid (sP.at ka.out id)
    replace ke := Lib.hid (sP.at ke.out id)
    replace hs := Lib.hid (hs.out.same sP)
    clear sP
    replace q4 := Lib.hid q4
    have x0 := cell_at kn.out 0
    have x1 := cell_at kn.out 1
    have xl := lt_of_heap kn.out
    have a0 := cell_at ka.out 0
    have al := lt_of_heap ka.out
    have y0 := cell_at ke.out 0
    have yl := lt_of_heap ke.out
    obtain ⟨b0, off0, rfl, hb0, c1⟩ := hRk.out _ hs.out
    go_upto_region 14 with fail
    refine wp_region_sched (fun q => q = bn ∨ q = ba ∨ q = bq ∨ q = b0) [1, 0, 1, 1, 0, 0, 1, 3, 0] [1, 0, 2, 3, 4, 5, 6, 7, 8] (by kernel_rfl) (by kernel_rfl) ?_
    repeat (first | (refine sched_w rfl rfl (fun _ hK => ?_); go_simp; refine hK _ ?_; clear hK) | (refine sched_s rfl rfl (fun _ hK => ?_); go_simp; first | (refine hK _ ?_; clear hK) | (refine ⟨_, fun _ => rfl, hK _ ?_⟩; clear hK)))
    refine sched_l rfl (by decide) (fun _ hK => ?_)
    go_simp
    refine (CSk.out _ (hs.out.same fs3)).mono ?_
    rintro e w' ⟨rfl, rfl⟩
    refine hK _ _ ?_
    clear hK
    (try simp only [Act.put, List.setIfInBounds_toArray, List.set_cons_zero, List.set_cons_succ])
    repeat (first | (refine sched_w rfl rfl (fun _ hK => ?_); go_simp; refine hK _ ?_; clear hK) | (refine sched_s rfl rfl (fun _ hK => ?_); go_simp; first | (refine hK _ ?_; clear hK) | (refine ⟨_, fun _ => rfl, hK _ ?_⟩; clear hK)))
    refine sched_nil (NoPanic.normal ?_)
    have s2 : Same W4 W4.drew := fs3
    replace kn := Lib.hid (s2.at kn.out id)
    replace ka := Lib.hid (s2.at ka.out id)
    replace ke := Lib.hid (s2.at ke.out id)
    replace q4 := Lib.hid (s2.at q4.out id)
    replace hs := Lib.hid (hs.out.same s2)
    clear s2
    generalize W4.drew = W5 at *
    clear x0 x1 xl
    clear a0 al y0 yl c1 hb0
    have hend := hsx.out.same hs.out
    replace hend := Lib.hid hend
    have z0 := cell_at q4.out 0
    have z1 := cell_at q4.out 1
    have z2 := cell_at q4.out 2
    have zl := lt_of_heap q4.out
    go_wp2_with fail
    go_ret
    exact ⟨rfl, hend.out.same fs2⟩
end Go.Proofs.YtknlkcfnfjchdaaGreat
