/- The law's checkGroups and few. The law's width. The law's ends, span, width. The law's check of an order, and position. The law's sift. The law's permuted. The law's size and order of a described function. append(out[:at:at], append([]int{x}, out[at:]...)...), and the law's moved. -/
import Derived.Test.YtmmjijmmocabhaaJLawN
import Derived.Test.YtmmjijmmocabhaaJOrdJ
import Derived.ArgAppend
import Derived.Test.YtmmjijmmocabhaaJGrpV
namespace Go.Proofs.Ytmmjijmmocabhaa
open Go.RowKit
set_option linter.unusedVariables false
set_option linter.unusedSimpArgs false

theorem step_append {P : Program} {w : World} {ops : Array Oper} {o : Oper} {a : Act} {KK : Act → World → Prop} {Q : Exit → Act → World → Prop} {E : Prop}
    (hg : o.guard = none) (s x : Operand) (t : TypeId) (ho : o.op = .call { callee := .builtin .append, args := #[s, x], argTypes := #[t, t] }) (v : Value) (w' : World)
    (hr : (Builtin.append_ #[t, t] o.type #[a.eval s, a.eval x]).run P w = .ok v w') (h : KK (a.put o.dst v) w') : if Region.wanted o (yielded ops a.tmps) = true then Oper.wp P o a w KK Q else E := by
  have hw : Region.wanted o (yielded ops a.tmps) = true := by simp [Region.wanted, hg]
  rw [if_pos hw]
  unfold Oper.wp execOp
  simp only [ho, resolve, invoke, builtin, Sem.run_bind, Sem.run_pure, Result.andThen_ok, List.map_toArray, List.map_cons, List.map_nil, hr]
  exact h

theorem s_int : Try.prog.underlying 23 = some (.slice 3) := Try.underlying23
theorem owns_some {w : World} {base n : Nat} {v : Value} {l : List Int} (h : w.ownsRow base 3 1 v n (intCells l)) (hn : 0 < n) : ∃ g cap, v = .slice (some ⟨g, 0, none⟩) n cap ∧ l.length = n ∧ OwnI w base g cap l := by
  refine owns_OwnI h ?_
  rintro rfl
  rcases h.2 with ⟨_, e⟩ | ⟨g, cap, cur, e, _⟩
  · omega
  · cases e

theorem app_full {w : World} {ao : Option Addr} {n m c : Nat} {l l' : List Int} (ad : Addr) (t1 : TypeId) (hl : l.length = n) (hl' : l'.length = m) (hm : 0 < m) (hb : n + m ≤ 1000000)
    (hnone : ao = none → n = 0) (hold : ∀ b, ao = some b → ∀ j u, (intCells l)[j]? = some u → w.cell? (b.add j) = some u) (hnew : ∀ j u, (intCells l')[j]? = some u → w.cell? (ad.add j) = some u) :
    ∃ g c' w', (Builtin.append_ #[23, 23] t1 #[.slice ao n n, .slice (some ad) m c]).run Try.prog w = .ok (.slice (some ⟨g, 0, none⟩) (n + m) c') w' ∧ OwnI w' w.heap.size g c' (l ++ l') ∧ Same w w' := by
  obtain ⟨i3, hi3, hi3z, hi3s, hi3b⟩ := info_parts info3
  have cl : (intCells l).length = n * 1 := by simp [intCells, hl]
  have cl' : (intCells l').length = m * 1 := by simp [intCells, hl']
  have hc : intCells l ++ intCells l' = intCells (l ++ l') := by simp [intCells]
  cases ao with
  | some b =>
    obtain ⟨v', w', hr, h1, h2⟩ := run_append_arg_grows (P := Try.prog) w 23 t1 3 i3 (.int .i64 0) 1 8 s_int hi3 hi3z hi3s hi3b rfl (by omega) b n n (intCells l) cl (hold b rfl) ad m c (intCells l') cl' hnew (by omega) (by unfold maxLen; omega) (by omega)
    rw [hc] at h1
    obtain ⟨g, c', rfl, _, ho⟩ := owns_some h1 (by omega)
    exact ⟨g, c', w', hr, ho, (Fr.refl _ _).grown h2 (by simp)⟩
  | none =>
    obtain rfl := hnone rfl
    obtain rfl : l = [] := List.eq_nil_of_length_eq_zero hl
    obtain ⟨v', w', hr, h1, h2, _⟩ := run_append_own (P := Try.prog) w w.heap.size 23 t1 3 i3 (.int .i64 0) 1 8 s_int hi3 hi3z hi3s hi3b rfl (by omega) (.slice none 0 0) 0 [] (World.ownsRow_nil w _ _ _) ad m c (intCells l') cl' hnew (by intro u hu; simp [intCells] at hu; obtain ⟨x, _, rfl⟩ := hu; rfl) (by unfold maxLen; omega) (by omega) (Nat.le_refl _)
    rw [show ([] : List Value) = intCells [] from rfl, hc] at h1
    obtain ⟨g, c', rfl, _, ho⟩ := owns_some h1 (by omega)
    exact ⟨g, c', w', hr, ho, (Fr.refl _ _).grown h2 (by simp [Value.ownBlock])⟩

theorem OwnI.cells {w : World} {base g cap : Nat} {l : List Int} (h : OwnI w base g cap l) : ∀ j u, (intCells l)[j]? = some u → w.cell? ((⟨g, 0, none⟩ : Addr).add j) = some u := by
  intro j u hu
  have hn : 0 < l.length := by
    have := (List.getElem?_eq_some_iff.1 hu).1
    simp [intCells] at this
    omega
  obtain ⟨b, off, e, _, hc⟩ := (h.row rfl).cell hn
  cases e
  rw [Addr.add_lit]
  exact hc j u hu

theorem ins_runs {w : World} {ao : Option Addr} {c n q : Nat} {l : List Int} {x : Int} (fb : Nat) (hO : RowAt w (.slice ao n c) n (intCells l)) (hfb : w.heap[fb]? = some (.cells #[.int .i64 x] 3 (0, 0))) (hq : q ≤ n) (hn : n ≤ 100000) (tl : Option Addr)
    (htl : q < n → ∀ b off, ao = some ⟨b, off, none⟩ → tl = some ⟨b, off + q, none⟩) (t1 t2 : TypeId) :
    ∃ g1 c1 w1 g2 c2 w2, (Builtin.append_ #[23, 23] t1 #[.slice (some ⟨fb, 0, none⟩) 1 1, .slice tl (n - q) (c - q)]).run Try.prog w = .ok (.slice (some ⟨g1, 0, none⟩) (1 + (n - q)) c1) w1 ∧
      (Builtin.append_ #[23, 23] t2 #[.slice ao q q, .slice (some ⟨g1, 0, none⟩) (1 + (n - q)) c1]).run Try.prog w1 = .ok (.slice (some ⟨g2, 0, none⟩) (q + (1 + (n - q))) c2) w2 ∧
      OwnI w2 w.heap.size g2 c2 (l.take q ++ x :: l.drop q) ∧ Same w w2 := by
  obtain ⟨i3, hi3, hi3z, hi3s, hi3b⟩ := info_parts info3
  have hl : l.length = n := by have := hO.1; simpa [intCells] using this
  have hnc : n ≤ c := by obtain ⟨a, c', e, h1, _⟩ := hO.form; cases e; exact h1
  have c0 := cell_at hfb 0
  simp at c0
  have hfc : ∀ j u, (intCells [x])[j]? = some u → w.cell? ((⟨fb, 0, none⟩ : Addr).add j) = some u := by
    intro j u hu
    rw [Addr.add_lit]
    cases j with
    | zero => simp [intCells] at hu; subst hu; simpa using c0
    | succ j => simp [intCells] at hu
  have first : ∃ g1 c1 w1, (Builtin.append_ #[23, 23] t1 #[.slice (some ⟨fb, 0, none⟩) 1 1, .slice tl (n - q) (c - q)]).run Try.prog w = .ok (.slice (some ⟨g1, 0, none⟩) (1 + (n - q)) c1) w1 ∧ Same w w1 ∧ ∀ j u, (intCells (x :: l.drop q))[j]? = some u → w1.cell? ((⟨g1, 0, none⟩ : Addr).add j) = some u := by
    by_cases h : q < n
    · obtain ⟨b, off, rfl, hb, hc⟩ := hO.cell (by omega)
      obtain rfl := htl h b off rfl
      obtain ⟨g, c', w', hr, ho, hs⟩ := app_full (w := w) (ao := some ⟨fb, 0, none⟩) (n := 1) (m := n - q) (c := c - q) (l := [x]) (l' := l.drop q) ⟨b, off + q, none⟩ t1 rfl (by simp [hl]) (by omega) (by omega) (by simp) (by intro b' e; cases e; exact hfc)
        (by
          intro j u hu
          rw [Addr.add_lit, Nat.add_assoc]
          refine hc _ _ ?_
          simpa [intCells, List.getElem?_drop] using hu)
      exact ⟨g, c', w', hr, hs, ho.cells⟩
    · obtain rfl : q = n := by omega
      refine ⟨fb, 1, w, ?_, Fr.refl _ _, ?_⟩
      · simp only [Nat.sub_self]
        have ld : ∀ a : Addr, (loadCells a 0).run Try.prog w = .ok #[] w := fun a => by simp [loadCells, loadCellsFrom]
        cases tl <;> simp [ld, Builtin.append_, run_underlying s_int, sizeOf, typeInfo, hi3, Builtin.lenOf, Builtin.firstCells, storeCells]
      · rw [List.drop_of_length_le (by omega)]
        exact hfc
  obtain ⟨g1, c1, w1, hr1, hs1, hc1⟩ := first
  obtain ⟨g2, c2, w2, hr2, ho2, hs2⟩ := app_full (w := w1) (ao := ao) (n := q) (m := 1 + (n - q)) (c := c1) (l := l.take q) (l' := x :: l.drop q) ⟨g1, 0, none⟩ t2 (by simp; omega) (by simp; omega) (by omega) (by omega)
    (by
      intro e
      rcases Nat.eq_zero_or_pos n with h | h
      · omega
      · obtain ⟨b, off, e', _⟩ := hO.cell h
        rw [e] at e'; cases e')
    (by
      rintro b rfl j u hu
      have hq0 : j < q := by have := (List.getElem?_eq_some_iff.1 hu).1; simp [intCells] at this; omega
      obtain ⟨b, off, e', _, hc⟩ := (hO.same hs1).cell (by omega)
      cases e'
      rw [Addr.add_lit]
      refine hc _ _ ?_
      rw [intCells, List.map_take] at hu
      rw [List.getElem?_take, if_pos hq0] at hu
      exact hu)
    hc1
  exact ⟨g1, c1, w1, g2, c2, w2, hr1, hr2, ho2.base hs1.size, hs1.same hs2⟩

/-! ### moved -/
def delF (o : List Int) (v : Int) : List Int := o.filter fun x => !(x == v)
theorem delF_succ (o : List Int) (v : Int) {k : Nat} (hk : k < o.length) : delF (o.take (k + 1)) v = delF (o.take k) v ++ (if o[k] = v then [] else [o[k]]) := by
  unfold delF
  rw [List.take_succ_eq_append_getElem hk, List.filter_append]
  by_cases h : o[k] = v <;> simp [h]
theorem delF_le (o : List Int) (v : Int) : (delF o v).length ≤ o.length := List.length_filter_le _ _
set_option maxRecDepth 100000 in
set_option maxHeartbeats 2000000 in
theorem moved_any (o : List Int) (v : Int) (p r : Nat) (a : Option Addr) (cap q : Nat) (w : World) (hq : o.length = q) (hO : RowAt w (.slice a q cap) q (intCells o)) (hl : q ≤ 1000) (hr : (delF o v).length = r) (hp : p ≤ r) :
    Calls Try.prog 33 #[.slice a q cap, .int .i64 v, .int .i64 p] w fun e w' => ∃ g c, e = .returned (.slice (some ⟨g, 0, none⟩) (p + (1 + (r - p))) c) ∧ OwnI w' w.heap.size g c (movF o v p) ∧ Same w w' := by
  obtain ⟨i3, hi3, hi3z, hi3s, hi3b⟩ := info_parts info3
  have hrq : r ≤ q := by rw [← hr, ← hq]; exact delF_le o v
  replace hO := Lib.hid hO; replace hq := Lib.hid hq; replace hr := Lib.hid hr
  go_enter Try.func33, Try.ntmps33
  go_wp2_with fail
  go_loopw [7, 8] (fun x i wr => ∃ (k z c : Nat) (a : Option Addr), i = .int .i64 k ∧ k ≤ q ∧ x = .slice a z c ∧ z = (delF (o.take k) v).length ∧ z ≤ k ∧ wr.ownsRow w.heap.size 3 1 (.slice a z c) z (intCells (delF (o.take k) v)) ∧ Same w wr) (fun _ i _ => q - (intOf i).toNat)
  case atStart => exact ⟨0, 0, 0, none, rfl, by omega, rfl, rfl, by omega, World.ownsRow_nil _ _ _ _, (by repeat (first | exact Fr.refl _ _ | apply Fr.alloc | apply Fr.drewN | apply Fr.drew | apply Fr.undrew | apply Fr.undrewN))⟩
  case round =>
    obtain ⟨k, z, c, a', rfl, hk, rfl, hz, hzk, ho, hs⟩ := hrel
    by_cases hlt : k < q
    · have hkl : k < o.length := by rw [hq.out]; exact hlt
      obtain ⟨bo, off, rfl, hb', c0⟩ := int_cell (hO.out.same hs) (k := k) hkl hq.out
      have hds := delF_succ o v hkl
      generalize o[k] = x at *
      have hws := hs.size
      by_cases hx : x = v
      · subst hx
        rw [if_pos rfl, List.append_nil] at hds
        have hb : (x != x) = false := by simp
        replace ho := Lib.hid ho; replace hs := Lib.hid hs; replace hz := Lib.hid hz; replace hds := Lib.hid hds
        go_wp2_with fail
        go_roundw
        case rel => exact ⟨k + 1, z, c, a', by go_num, by omega, rfl, by rw [hds.out]; exact hz.out, by omega, by rw [hds.out]; exact ho.out, hs.out⟩
        case measure => simp [intOf]; omega
      · rw [if_neg hx] at hds
        have hb : (x != v) = true := by simpa using hx
        replace ho := Lib.hid ho; replace hs := Lib.hid hs; replace hz := Lib.hid hz; replace hds := Lib.hid hds; replace hx := Lib.hid hx
        go_wp2_with (at_builtin; refine wpList_append1 rfl (.tmp 21) (.tmp 26) 23 rfl w.heap.size 3 i3 (.int .i64 0) 1 8 Try.underlying23 hi3 hi3z hi3s hi3b rfl (by decide) (by decide) a' z c (intCells (delF (o.take k) v)) rfl (owns_same ho.out (by repeat (first | exact Fr.refl _ _ | apply Fr.alloc | apply Fr.drewN | apply Fr.drew | apply Fr.undrew | apply Fr.undrewN))) (by omega) wr.heap.size [.int .i64 x] rfl rfl (heap_new _ _) (by simp [Value.oneCell']) (by simp; omega) ?_; intro a5 c5 w5 ho5 hG5)
        have hs5 : Same w w5 := grew_fresh (hs.out.same (by repeat (first | exact Fr.refl _ _ | apply Fr.alloc | apply Fr.drewN | apply Fr.drew | apply Fr.undrew | apply Fr.undrewN))) hG5 (fun k hk => (ho.out.lt k hk).1)
        have ho5' : w5.ownsRow w.heap.size 3 1 (.slice a5 (z + 1) c5) (z + 1) (intCells (delF (o.take (k + 1)) v)) := by
          rw [hds.out]; have := ho5; simpa [intCells] using this
        clear ho5 hG5
        go_roundw
        case rel => exact ⟨k + 1, z + 1, c5, a5, by go_num, by omega, rfl, by rw [hds.out, List.length_append, ← hz.out]; rfl, by omega, ho5', hs5⟩
        case measure => simp [intOf]; omega
    · obtain rfl : k = q := by omega
      rw [List.take_of_length_le (by rw [hq.out]; exact Nat.le_refl _)] at ho hz
      obtain rfl : z = r := by rw [hz, hr.out]
      replace hz := Lib.hid hz; replace hs := Lib.hid hs
      have hrow := (SliceAt.of_owns ho).row
      obtain ⟨a1, c1, e1, hrc, hcm, hcn, hcell⟩ := hrow.2
      cases e1
      have hMF : movF o v p = (delF o v).take p ++ v :: (delF o v).drop p := rfl
      generalize delF o v = l at *
      have hsz := hs.out.size
      have n0 : (0 : Int) ≤ (p : Int) := by omega
      have n1 : (p : Int) ≤ c := by omega
      have n2 : p ≤ c := by omega
      have n3 : (p : Int) ≤ z := by omega
      have n4 : ((p : Int)).toNat = p := by omega
      rcases ho.2 with ⟨e0, ez⟩ | ⟨g, c', cur, e0, hg0, _⟩
      · cases e0
        obtain rfl : p = 0 := by omega
        replace ho := Lib.hid ho; replace hrow := Lib.hid hrow; replace hcell := Lib.hid hcell; replace hMF := Lib.hid hMF; replace hr := Lib.hid hr
        go_upto_region 7 with fail
        refine wp_region_sched (fun _ => False) [0, 0, 0, 0, 0, 2, 0, 0, 0, 3, 3, 0] [0, 1, 2, 3, 4, 6, 7, 8, 5, 9, 10, 11] (by kernel_rfl) (by kernel_rfl) ?_
        repeat (first | (refine sched_w rfl rfl (fun _ hK => ?_); go_simp; refine hK _ ?_; clear hK) | (refine sched_s rfl rfl (fun _ hK => ?_); go_simp; first | (refine hK _ ?_; clear hK) | (refine ⟨_, fun _ => rfl, hK _ ?_⟩; clear hK)))
        refine sched_g rfl rfl (fun _ hK => ?_); go_simp; refine hK _ _ (Kp.of_same (by repeat (first | exact Fr.refl _ _ | apply Fr.alloc | apply Fr.drewN | apply Fr.drew | apply Fr.undrew | apply Fr.undrewN))) ?_; clear hK
        obtain ⟨g1, c1, w1, g2, c2, w2, hr1, hr2, ho2, hs2⟩ := ins_runs (w := wr.drew.alloc (.cells #[.int .i64 v] 3)) (x := v) wr.heap.size (hrow.out.same (by repeat (first | exact Fr.refl _ _ | apply Fr.undrew | apply Fr.undrewN | apply Fr.drew | apply Fr.drewN | apply Fr.alloc))) (heap_new _ _) hp (by omega) _ (fun h => by omega) 23 23
        simp only [Nat.sub_self, Nat.add_zero, Nat.zero_add] at hr1 hr2
        refine sched_l rfl (by decide) (fun _ hK => ?_)
        refine step_append rfl (.tmp 33) (.tmp 36) 23 rfl _ _ hr1 (hK _ _ ?_)
        clear hK
        (try simp only [Act.put, List.setIfInBounds_toArray, List.set_cons_zero, List.set_cons_succ])
        refine sched_l rfl (by decide) (fun _ hK => ?_)
        refine step_append rfl (.tmp 31) (.tmp 37) 23 rfl _ _ hr2 (hK _ _ ?_)
        clear hK
        (try simp only [Act.put, List.setIfInBounds_toArray, List.set_cons_zero, List.set_cons_succ])
        have hs5 := hs.out.same ((show Same wr _ from (by repeat (first | exact Fr.refl _ _ | apply Fr.undrew | apply Fr.undrewN | apply Fr.drew | apply Fr.drewN | apply Fr.alloc))).same hs2)
        have ho5 := ho2.base (base' := w.heap.size) (by simp; omega)
        clear hr1 hr2 ho2 hs2
        rw [← hMF.out] at ho5
        replace ho5 := Lib.hid ho5; replace hs5 := Lib.hid hs5
        repeat (first | (refine sched_w rfl rfl (fun _ hK => ?_); go_simp; refine hK _ ?_; clear hK) | (refine sched_s rfl rfl (fun _ hK => ?_); go_simp; first | (refine hK _ ?_; clear hK) | (refine ⟨_, fun _ => rfl, hK _ ?_⟩; clear hK)))
        refine sched_nil (NoPanic.normal ?_)
        go_wp2_with fail
        go_ret
        exact ⟨g2, c2, by simp, ho5.out, hs5.out⟩
      · cases e0
        by_cases hpz : p < z
        · have hcp : c ≠ p := by omega
          replace ho := Lib.hid ho; replace hrow := Lib.hid hrow; replace hcell := Lib.hid hcell; replace hMF := Lib.hid hMF; replace hr := Lib.hid hr
          go_upto_region 7 with fail
          refine wp_region_sched (fun _ => False) [0, 0, 0, 0, 0, 2, 0, 0, 0, 3, 3, 0] [0, 1, 2, 3, 4, 6, 7, 8, 5, 9, 10, 11] (by kernel_rfl) (by kernel_rfl) ?_
          repeat (first | (refine sched_w rfl rfl (fun _ hK => ?_); go_simp; refine hK _ ?_; clear hK) | (refine sched_s rfl rfl (fun _ hK => ?_); go_simp; first | (refine hK _ ?_; clear hK) | (refine ⟨_, fun _ => rfl, hK _ ?_⟩; clear hK)))
          refine sched_g rfl rfl (fun _ hK => ?_); go_simp; refine hK _ _ (Kp.of_same (by repeat (first | exact Fr.refl _ _ | apply Fr.alloc | apply Fr.drewN | apply Fr.drew | apply Fr.undrew | apply Fr.undrewN))) ?_; clear hK
          obtain ⟨g1, c1, w1, g2, c2, w2, hr1, hr2, ho2, hs2⟩ := ins_runs (w := wr.drew.alloc (.cells #[.int .i64 v] 3)) (x := v) wr.heap.size (hrow.out.same (by repeat (first | exact Fr.refl _ _ | apply Fr.undrew | apply Fr.undrewN | apply Fr.drew | apply Fr.drewN | apply Fr.alloc))) (heap_new _ _) hp (by omega) _ (fun _ b off e => by cases e; simp; rfl) 23 23
          refine sched_l rfl (by decide) (fun _ hK => ?_)
          refine step_append rfl (.tmp 33) (.tmp 36) 23 rfl _ _ hr1 (hK _ _ ?_)
          clear hK
          (try simp only [Act.put, List.setIfInBounds_toArray, List.set_cons_zero, List.set_cons_succ])
          refine sched_l rfl (by decide) (fun _ hK => ?_)
          refine step_append rfl (.tmp 31) (.tmp 37) 23 rfl _ _ hr2 (hK _ _ ?_)
          clear hK
          (try simp only [Act.put, List.setIfInBounds_toArray, List.set_cons_zero, List.set_cons_succ])
          have hs5 := hs.out.same ((show Same wr _ from (by repeat (first | exact Fr.refl _ _ | apply Fr.undrew | apply Fr.undrewN | apply Fr.drew | apply Fr.drewN | apply Fr.alloc))).same hs2)
          have ho5 := ho2.base (base' := w.heap.size) (by simp; omega)
          clear hr1 hr2 ho2 hs2
          rw [← hMF.out] at ho5
          replace ho5 := Lib.hid ho5; replace hs5 := Lib.hid hs5
          repeat (first | (refine sched_w rfl rfl (fun _ hK => ?_); go_simp; refine hK _ ?_; clear hK) | (refine sched_s rfl rfl (fun _ hK => ?_); go_simp; first | (refine hK _ ?_; clear hK) | (refine ⟨_, fun _ => rfl, hK _ ?_⟩; clear hK)))
          refine sched_nil (NoPanic.normal ?_)
          go_wp2_with fail
          go_ret
          exact ⟨g2, c2, by simp, ho5.out, hs5.out⟩
        · obtain rfl : p = z := by omega
          replace ho := Lib.hid ho; replace hrow := Lib.hid hrow; replace hcell := Lib.hid hcell; replace hMF := Lib.hid hMF; replace hr := Lib.hid hr
          go_upto_region 7 with fail
          refine wp_region_sched (fun _ => False) [0, 0, 0, 0, 0, 2, 0, 0, 0, 3, 3, 0] [0, 1, 2, 3, 4, 6, 7, 8, 5, 9, 10, 11] (by kernel_rfl) (by kernel_rfl) ?_
          repeat (first | (refine sched_w rfl rfl (fun _ hK => ?_); go_simp; refine hK _ ?_; clear hK) | (refine sched_s rfl rfl (fun _ hK => ?_); go_simp; first | (refine hK _ ?_; clear hK) | (refine ⟨_, fun _ => rfl, hK _ ?_⟩; clear hK)))
          refine sched_g rfl rfl (fun _ hK => ?_); go_simp; refine hK _ _ (Kp.of_same (by repeat (first | exact Fr.refl _ _ | apply Fr.alloc | apply Fr.drewN | apply Fr.drew | apply Fr.undrew | apply Fr.undrewN))) ?_; clear hK
          obtain ⟨g1, c1, w1, g2, c2, w2, hr1, hr2, ho2, hs2⟩ := ins_runs (w := wr.drew.alloc (.cells #[.int .i64 v] 3)) (x := v) wr.heap.size (hrow.out.same (by repeat (first | exact Fr.refl _ _ | apply Fr.undrew | apply Fr.undrewN | apply Fr.drew | apply Fr.drewN | apply Fr.alloc))) (heap_new _ _) hp (by omega) _ (fun h => by omega) 23 23
          simp only [Nat.sub_self, Nat.add_zero, Nat.zero_add] at hr1 hr2
          refine sched_l rfl (by decide) (fun _ hK => ?_)
          refine step_append rfl (.tmp 33) (.tmp 36) 23 rfl _ _ hr1 (hK _ _ ?_)
          clear hK
          (try simp only [Act.put, List.setIfInBounds_toArray, List.set_cons_zero, List.set_cons_succ])
          refine sched_l rfl (by decide) (fun _ hK => ?_)
          refine step_append rfl (.tmp 31) (.tmp 37) 23 rfl _ _ hr2 (hK _ _ ?_)
          clear hK
          (try simp only [Act.put, List.setIfInBounds_toArray, List.set_cons_zero, List.set_cons_succ])
          have hs5 := hs.out.same ((show Same wr _ from (by repeat (first | exact Fr.refl _ _ | apply Fr.undrew | apply Fr.undrewN | apply Fr.drew | apply Fr.drewN | apply Fr.alloc))).same hs2)
          have ho5 := ho2.base (base' := w.heap.size) (by simp; omega)
          clear hr1 hr2 ho2 hs2
          rw [← hMF.out] at ho5
          replace ho5 := Lib.hid ho5; replace hs5 := Lib.hid hs5
          repeat (first | (refine sched_w rfl rfl (fun _ hK => ?_); go_simp; refine hK _ ?_; clear hK) | (refine sched_s rfl rfl (fun _ hK => ?_); go_simp; first | (refine hK _ ?_; clear hK) | (refine ⟨_, fun _ => rfl, hK _ ?_⟩; clear hK)))
          refine sched_nil (NoPanic.normal ?_)
          go_wp2_with fail
          all_goals
            go_ret
            exact ⟨g2, c2, by simp, ho5.out, hs5.out⟩
end Go.Proofs.Ytmmjijmmocabhaa
namespace Go.Proofs.Ytmmjijmmocabhaa
open Go.RowKit
set_option linter.unusedVariables false
set_option linter.unusedSimpArgs false

/-- A described function: variables, bits, the order's five numbers. -/
structure Fn5 where
  v : Int
  b : Int
  o : List Int
  hv : 0 ≤ v ∧ v < 256
  hb : 0 ≤ b ∧ b ≤ 4294967295
  ho : o.length = 5
  hr : ∀ x ∈ o, 0 ≤ x ∧ x < 256
def Fn5.val (f : Fn5) : Value := .agg (#[.int .u8 f.v, .int .u32 f.b] ++ (f.o.map (Value.int .u8)).toArray)
def Fn5.n (f : Fn5) : Nat := (f.v % 6).toNat
theorem Fn5.n5 (f : Fn5) : f.n ≤ 5 := by unfold Fn5.n; have := f.hv; omega
def Fn5.get (f : Fn5) (k : Nat) : Nat := (f.o.getD k 0).toNat
theorem Fn5.get_cast (f : Fn5) {k : Nat} (hk : k < 5) : f.o[k]? = some (f.get k : Int) ∧ f.get k < 256 := by
  have h := f.ho
  have h1 : k < f.o.length := by omega
  have h2 := f.hr _ (List.getElem_mem h1)
  unfold Fn5.get
  simp only [List.getD, List.getElem?_eq_getElem h1, Option.getD_some, Option.some.injEq]
  omega
/-- The order that is described: of the first k variables. -/
def ordL (f : Fn5) : Nat → List Int
  | 0 => []
  | k + 1 => (ordL f k).take (f.get k % (k + 1)) ++ (k : Int) :: (ordL f k).drop (f.get k % (k + 1))
theorem ordL_perm (f : Fn5) : ∀ k, (ordL f k).Perm ((List.range k).map fun (i : Nat) => (i : Int))
  | 0 => by simp [ordL]
  | k + 1 => by
    have ih := ordL_perm f k
    rw [ordL, List.range_succ, List.map_append, List.map_singleton]
    refine List.perm_middle.trans ?_
    rw [List.take_append_drop]
    exact (List.Perm.cons _ ih).trans (List.perm_append_singleton _ _).symm
theorem ordL_len (f : Fn5) (k : Nat) : (ordL f k).length = k := by rw [(ordL_perm f k).length_eq]; simp
theorem ordL_ord (f : Fn5) {k : Nat} (hk : k ≤ 40) : IsOrd k (ordL f k) where
  n40 := hk
  len := ordL_len f k
  nodup := by
    rw [(ordL_perm f k).nodup_iff, List.nodup_iff_pairwise_ne, List.pairwise_map]
    exact List.Pairwise.imp (fun h e => h (by omega)) (List.nodup_iff_pairwise_ne.1 List.nodup_range)
  range x hx := by
    have := (ordL_perm f k).mem_iff.1 hx
    simp at this
    omega

@[go_sem] theorem len5 : Try.prog.arrayLen 36 = 5 := by kernel_rfl
theorem boxed5 (f : Fn5) : ∃ cur, f.val = .agg cur ∧ cur = #[.int .u8 f.v, .int .u32 f.b] ++ (f.o.map (Value.int .u8)).toArray := ⟨_, rfl, rfl⟩
theorem fn_cells (f : Fn5) : ∃ a b c d e : Int, f.o = [a, b, c, d, e] := by
  obtain ⟨v, b, o, _, _, h, _⟩ := f
  match o, h with
  | [a, b, c, d, e], _ => exact ⟨a, b, c, d, e, rfl⟩

set_option maxRecDepth 100000 in
set_option maxHeartbeats 1000000 in
theorem size_any (f : Fn5) (w : World) : Calls Try.prog 21 #[f.val] w fun e w' => e = .returned (.int .i64 f.n) ∧ Same w w' := by
  obtain ⟨a, b, c, d, e, ho⟩ := fn_cells f
  have hn : (f.n : Int) = f.v % 6 := by unfold Fn5.n; have := f.hv; omega
  obtain ⟨N, hN⟩ : ∃ N, N = f.n := ⟨_, rfl⟩
  rw [← hN] at hn ⊢
  unfold Fn5.val
  rw [ho]
  have hv := f.hv
  generalize f.v = v at *
  generalize f.b = bb at *
  have h1 : v.tmod 6 = N := by rw [Int.tmod_eq_emod_of_nonneg hv.1]; omega
  have h2 : IntKind.u8.wrap (N : Int) = N := by unfold IntKind.wrap; simp [IntKind.bits, IntKind.signed]; omega
  simp only [List.map_cons, List.map_nil, List.append_toArray, List.cons_append, List.nil_append]
  have h3 : wrap64 (N : Int) = N := by unfold wrap64; omega
  clear hn
  replace hN := Lib.hid hN; replace ho := Lib.hid ho; replace hv := Lib.hid hv
  go_enter Try.func21, Try.ntmps21
  go_wp2_with fail
  go_ret
  exact ⟨by simp [h3], (by repeat (first | exact Fr.refl _ _ | apply Fr.undrew | apply Fr.undrewN | apply Fr.drew | apply Fr.drewN | apply Fr.alloc))⟩

theorem fn_load (f : Fn5) {w : World} {b : Nat} {a1 a2 a3 a4 a5 : Int} (ho : f.o = [a1, a2, a3, a4, a5]) (h : w.heap[b]? = some (.cells #[.int .u8 f.v, .int .u32 f.b, .int .u8 a1, .int .u8 a2, .int .u8 a3, .int .u8 a4, .int .u8 a5] 38 (0, 0))) {k : Nat} (hk : k < 5) : w.cell? ⟨b, 2 + k, none⟩ = some (.int .u8 (f.get k)) := by
  have h1 := (f.get_cast hk).1
  rw [ho] at h1
  rw [cell_at h]
  have : (#[Value.int .u8 f.v, .int .u32 f.b, .int .u8 a1, .int .u8 a2, .int .u8 a3, .int .u8 a4, .int .u8 a5] : Array Value)[2 + k]? = ([a1, a2, a3, a4, a5] : List Int)[k]?.map (Value.int .u8) := by
    match k, hk with
    | 0, _ => rfl
    | 1, _ => rfl
    | 2, _ => rfl
    | 3, _ => rfl
    | 4, _ => rfl
  rw [this, h1]
  rfl
set_option maxRecDepth 100000 in
set_option maxHeartbeats 2000000 in
theorem order_any (f : Fn5) (w : World) : Calls Try.prog 22 #[f.val] w fun e w' => ∃ a c, e = .returned (.slice a f.n c) ∧ w'.ownsRow w.heap.size 3 1 (.slice a f.n c) f.n (intCells (ordL f f.n)) ∧ Same w w' := by
  have SZ := fun W => size_any f W
  obtain ⟨a1, a2, a3, a4, a5, ho⟩ := fn_cells f
  have hld := fun (W : World) (b : Nat) => fn_load f (w := W) (b := b) ho
  have hgt := fun k (hk : k < 5) => (f.get_cast hk).2
  have hos := ordL f
  have hn5 := f.n5
  obtain ⟨N, hN⟩ : ∃ N, N = f.n := ⟨_, rfl⟩
  rw [← hN] at hn5 ⊢
  unfold Fn5.val at SZ ⊢
  rw [ho] at SZ ⊢
  simp only [List.map_cons, List.map_nil, List.append_toArray, List.cons_append, List.nil_append, ← hN] at SZ ⊢
  replace hN := Lib.hid hN; replace ho := Lib.hid ho; replace SZ := Lib.hid SZ; replace hld := Lib.hid hld; replace hgt := Lib.hid hgt
  go_enter Try.func22, Try.ntmps22
  go_wp2_with fail
  have kb := heap_new w (.cells #[.int .u8 f.v, .int .u32 f.b, .int .u8 a1, .int .u8 a2, .int .u8 a3, .int .u8 a4, .int .u8 a5] 38)
  go_loopw [3, 4] (fun x i wr => ∃ (k c : Nat) (a : Option Addr), i = .int .i64 k ∧ k ≤ N ∧ x = .slice a k c ∧ wr.ownsRow w.heap.size 3 1 (.slice a k c) k (intCells (ordL f k)) ∧ wr.heap[w.heap.size]? = some (.cells #[.int .u8 f.v, .int .u32 f.b, .int .u8 a1, .int .u8 a2, .int .u8 a3, .int .u8 a4, .int .u8 a5] 38 (0, 0)) ∧ Same w wr) (fun _ i _ => N - (intOf i).toNat)
  case atStart => exact ⟨0, 0, none, rfl, by omega, rfl, World.ownsRow_nil _ _ _ _, kb, (by repeat (first | exact Fr.refl _ _ | apply Fr.alloc | apply Fr.drewN | apply Fr.drew | apply Fr.undrew | apply Fr.undrewN))⟩
  case round =>
    obtain ⟨k, c, a, rfl, hk, rfl, hO, kb, hs⟩ := hrel
    have e0 := cell_at kb 0
    have e1 := cell_at kb 1
    have e2 := cell_at kb 2
    have e3 := cell_at kb 3
    have e4 := cell_at kb 4
    have e5 := cell_at kb 5
    have e6 := cell_at kb 6
    have el := lt_of_heap kb
    by_cases hlt : k < N
    · replace hO := Lib.hid hO; replace hs := Lib.hid hs; replace kb := Lib.hid kb
      go_wp2_with fail
      refine (SZ.out _).mono ?_
      rintro e w1 ⟨rfl, hs1⟩
      clear e0 e1 e2 e3 e4 e5 e6
      have hs2 := hs.out.same ((show Same wr _ from (by repeat (first | exact Fr.refl _ _ | apply Fr.undrew | apply Fr.undrewN | apply Fr.drew | apply Fr.drewN | apply Fr.alloc))).same hs1)
      have kb1 := hs1.at kb.out id
      have eg := hld.out _ _ kb1 (k := k) (by omega)
      have hg := hgt.out k (by omega)
      have hO1 := owns_same hO.out ((show Same wr _ from (by repeat (first | exact Fr.refl _ _ | apply Fr.undrew | apply Fr.undrewN | apply Fr.drew | apply Fr.drewN | apply Fr.alloc))).same hs1)
      have el1 := lt_of_heap kb1
      clear hs1
      obtain ⟨q, hq⟩ : ∃ q, q = f.get k % (k + 1) := ⟨_, rfl⟩
      have hqk : q ≤ k := by rw [hq]; have := Nat.mod_lt (f.get k) (show 0 < k + 1 by omega); omega
      have hqe : ((f.get k : Nat) : Int).tmod ((k : Int) + 1) = q := by rw [hq, Int.tmod_eq_emod_of_nonneg (by omega)]; push_cast; rfl
      have hos : ordL f (k + 1) = (ordL f k).take q ++ (k : Int) :: (ordL f k).drop q := by rw [ordL, hq]
      generalize f.get k = G at *
      have hwG : wrap64 (G : Int) = G := by unfold wrap64; omega
      have hk1 : ((k : Int) + 1 == 0) = false := by simp; omega
      have hwk : IntKind.i64.wrap ((k : Int) + 1) = (k : Int) + 1 := IntWalk.i64_in _ (by omega)
      have hwq : IntKind.i64.wrap (q : Int) = q := IntWalk.i64_in _ (by omega)
      have hrow := (SliceAt.of_owns hO1).row
      obtain ⟨a', c1, e1, hrc, hcm, hcn, hcell⟩ := hrow.2
      cases e1
      have hsz := hs2.size
      have n0 : (0 : Int) ≤ (q : Int) := by omega
      have n1 : (q : Int) ≤ c := by omega
      have n2 : q ≤ c := by omega
      have n3 : (q : Int) ≤ k := by omega
      have n4 : ((q : Int)).toNat = q := by omega
      replace hos := Lib.hid hos; replace hq := Lib.hid hq; replace hcell := Lib.hid hcell; replace hs2 := Lib.hid hs2; replace kb1 := Lib.hid kb1
      rcases hO1.2 with ⟨e0, ez⟩ | ⟨g, c', cur, e0, hg0, _⟩
      · cases e0
        obtain rfl : q = 0 := by omega
        replace hO1 := Lib.hid hO1; replace hrow := Lib.hid hrow
        go_upto_region 6 with fail
        refine wp_region_sched (fun _ => False) [0, 0, 0, 0, 0, 2, 0, 0, 0, 3, 3, 0] [0, 1, 2, 3, 4, 6, 7, 8, 5, 9, 10, 11] (by kernel_rfl) (by kernel_rfl) ?_
        repeat (first | (refine sched_w rfl rfl (fun _ hK => ?_); go_simp; refine hK _ ?_; clear hK) | (refine sched_s rfl rfl (fun _ hK => ?_); go_simp; first | (refine hK _ ?_; clear hK) | (refine ⟨_, fun _ => rfl, hK _ ?_⟩; clear hK)))
        refine sched_g rfl rfl (fun _ hK => ?_); go_simp; refine hK _ _ (Kp.of_same (by repeat (first | exact Fr.refl _ _ | apply Fr.alloc | apply Fr.drewN | apply Fr.drew | apply Fr.undrew | apply Fr.undrewN))) ?_; clear hK
        obtain ⟨g1, c1', w1', g2, c2, w2', hr1, hr2, ho2, hs2'⟩ := ins_runs (w := ((w1.alloc (.cells #[.int .i64 ((0 : Nat) : Int)] 3)).drew)) (x := ((0 : Nat) : Int)) w1.heap.size ((hrow.out).same (by repeat (first | exact Fr.refl _ _ | apply Fr.undrew | apply Fr.undrewN | apply Fr.drew | apply Fr.drewN | apply Fr.alloc))) (heap_new _ _) (Nat.le_refl 0) (by omega) _ (fun h => absurd h (by omega)) 23 23
        simp only [Nat.sub_self, Nat.add_zero, Nat.zero_add] at hr1 hr2
        refine sched_l rfl (by decide) (fun _ hK => ?_)
        refine step_append rfl (.tmp 26) (.tmp 29) 23 rfl _ _ hr1 (hK _ _ ?_)
        clear hK
        (try simp only [Act.put, List.setIfInBounds_toArray, List.set_cons_zero, List.set_cons_succ])
        refine sched_l rfl (by decide) (fun _ hK => ?_)
        refine step_append rfl (.tmp 24) (.tmp 30) 23 rfl _ _ hr2 (hK _ _ ?_)
        clear hK
        (try simp only [Act.put, List.setIfInBounds_toArray, List.set_cons_zero, List.set_cons_succ])
        clear hr1 hr2
        have hs5 := hs2.out.same ((show Same w1 _ from (by repeat (first | exact Fr.refl _ _ | apply Fr.undrew | apply Fr.undrewN | apply Fr.drew | apply Fr.drewN | apply Fr.alloc))).same hs2')
        have ho5 := (ho2.base (base' := w.heap.size) (by simp; omega)).owns (n := 0 + 1) (by simp [ordL_len] <;> omega)
        have kb5 := ((show Same w1 _ from (by repeat (first | exact Fr.refl _ _ | apply Fr.undrew | apply Fr.undrewN | apply Fr.drew | apply Fr.drewN | apply Fr.alloc))).same hs2').at kb1.out id
        clear ho2 hs2'
        rw [← hos.out] at ho5
        replace ho5 := Lib.hid ho5; replace hs5 := Lib.hid hs5; replace kb5 := Lib.hid kb5
        repeat (first | (refine sched_w rfl rfl (fun _ hK => ?_); go_simp; refine hK _ ?_; clear hK) | (refine sched_s rfl rfl (fun _ hK => ?_); go_simp; first | (refine hK _ ?_; clear hK) | (refine ⟨_, fun _ => rfl, hK _ ?_⟩; clear hK)))
        refine sched_nil (NoPanic.normal ?_)
        go_wp2_with fail
        go_roundw
        case rel => exact ⟨0 + 1, c2, some ⟨g2, 0, none⟩, by go_num, by omega, by simp, ho5.out, kb5.out, hs5.out⟩
        case measure => simp [intOf]; omega
      · cases e0
        by_cases hqz : q < k
        · have hcp : c ≠ q := by omega
          replace hO1 := Lib.hid hO1; replace hrow := Lib.hid hrow
          go_upto_region 6 with fail
          refine wp_region_sched (fun _ => False) [0, 0, 0, 0, 0, 2, 0, 0, 0, 3, 3, 0] [0, 1, 2, 3, 4, 6, 7, 8, 5, 9, 10, 11] (by kernel_rfl) (by kernel_rfl) ?_
          repeat (first | (refine sched_w rfl rfl (fun _ hK => ?_); go_simp; refine hK _ ?_; clear hK) | (refine sched_s rfl rfl (fun _ hK => ?_); go_simp; first | (refine hK _ ?_; clear hK) | (refine ⟨_, fun _ => rfl, hK _ ?_⟩; clear hK)))
          refine sched_g rfl rfl (fun _ hK => ?_); go_simp; refine hK _ _ (Kp.of_same (by repeat (first | exact Fr.refl _ _ | apply Fr.alloc | apply Fr.drewN | apply Fr.drew | apply Fr.undrew | apply Fr.undrewN))) ?_; clear hK
          obtain ⟨g1, c1', w1', g2, c2, w2', hr1, hr2, ho2, hs2'⟩ := ins_runs (w := ((w1.alloc (.cells #[.int .i64 (k : Int)] 3)).drew)) (x := (k : Int)) w1.heap.size ((hrow.out).same (by repeat (first | exact Fr.refl _ _ | apply Fr.undrew | apply Fr.undrewN | apply Fr.drew | apply Fr.drewN | apply Fr.alloc))) (heap_new _ _) hqk (by omega) _ (fun _ b off e => by cases e; simp; rfl) 23 23
          rw [show q + (1 + (k - q)) = k + 1 by omega] at hr2
          refine sched_l rfl (by decide) (fun _ hK => ?_)
          refine step_append rfl (.tmp 26) (.tmp 29) 23 rfl _ _ hr1 (hK _ _ ?_)
          clear hK
          (try simp only [Act.put, List.setIfInBounds_toArray, List.set_cons_zero, List.set_cons_succ])
          refine sched_l rfl (by decide) (fun _ hK => ?_)
          refine step_append rfl (.tmp 24) (.tmp 30) 23 rfl _ _ hr2 (hK _ _ ?_)
          clear hK
          (try simp only [Act.put, List.setIfInBounds_toArray, List.set_cons_zero, List.set_cons_succ])
          clear hr1 hr2
          have hs5 := hs2.out.same ((show Same w1 _ from (by repeat (first | exact Fr.refl _ _ | apply Fr.undrew | apply Fr.undrewN | apply Fr.drew | apply Fr.drewN | apply Fr.alloc))).same hs2')
          have ho5 := (ho2.base (base' := w.heap.size) (by simp; omega)).owns (n := k + 1) (by simp [ordL_len] <;> omega)
          have kb5 := ((show Same w1 _ from (by repeat (first | exact Fr.refl _ _ | apply Fr.undrew | apply Fr.undrewN | apply Fr.drew | apply Fr.drewN | apply Fr.alloc))).same hs2').at kb1.out id
          clear ho2 hs2'
          rw [← hos.out] at ho5
          replace ho5 := Lib.hid ho5; replace hs5 := Lib.hid hs5; replace kb5 := Lib.hid kb5
          repeat (first | (refine sched_w rfl rfl (fun _ hK => ?_); go_simp; refine hK _ ?_; clear hK) | (refine sched_s rfl rfl (fun _ hK => ?_); go_simp; first | (refine hK _ ?_; clear hK) | (refine ⟨_, fun _ => rfl, hK _ ?_⟩; clear hK)))
          refine sched_nil (NoPanic.normal ?_)
          go_wp2_with fail
          go_roundw
          case rel => exact ⟨k + 1, c2, some ⟨g2, 0, none⟩, by go_num, by omega, by simp, ho5.out, kb5.out, hs5.out⟩
          case measure => simp [intOf]; omega
        · obtain rfl : q = k := by omega
          replace hO1 := Lib.hid hO1; replace hrow := Lib.hid hrow
          go_upto_region 6 with fail
          refine wp_region_sched (fun _ => False) [0, 0, 0, 0, 0, 2, 0, 0, 0, 3, 3, 0] [0, 1, 2, 3, 4, 6, 7, 8, 5, 9, 10, 11] (by kernel_rfl) (by kernel_rfl) ?_
          repeat (first | (refine sched_w rfl rfl (fun _ hK => ?_); go_simp; refine hK _ ?_; clear hK) | (refine sched_s rfl rfl (fun _ hK => ?_); go_simp; first | (refine hK _ ?_; clear hK) | (refine ⟨_, fun _ => rfl, hK _ ?_⟩; clear hK)))
          refine sched_g rfl rfl (fun _ hK => ?_); go_simp; refine hK _ _ (Kp.of_same (by repeat (first | exact Fr.refl _ _ | apply Fr.alloc | apply Fr.drewN | apply Fr.drew | apply Fr.undrew | apply Fr.undrewN))) ?_; clear hK
          obtain ⟨g1, c1', w1', g2, c2, w2', hr1, hr2, ho2, hs2'⟩ := ins_runs (w := ((w1.alloc (.cells #[.int .i64 (q : Int)] 3)).drew)) (x := (q : Int)) w1.heap.size ((hrow.out).same (by repeat (first | exact Fr.refl _ _ | apply Fr.undrew | apply Fr.undrewN | apply Fr.drew | apply Fr.drewN | apply Fr.alloc))) (heap_new _ _) hqk (by omega) _ (fun h => absurd h (by omega)) 23 23
          simp only [Nat.sub_self, Nat.add_zero, Nat.zero_add] at hr1 hr2
          refine sched_l rfl (by decide) (fun _ hK => ?_)
          refine step_append rfl (.tmp 26) (.tmp 29) 23 rfl _ _ hr1 (hK _ _ ?_)
          clear hK
          (try simp only [Act.put, List.setIfInBounds_toArray, List.set_cons_zero, List.set_cons_succ])
          refine sched_l rfl (by decide) (fun _ hK => ?_)
          refine step_append rfl (.tmp 24) (.tmp 30) 23 rfl _ _ hr2 (hK _ _ ?_)
          clear hK
          (try simp only [Act.put, List.setIfInBounds_toArray, List.set_cons_zero, List.set_cons_succ])
          clear hr1 hr2
          have hs5 := hs2.out.same ((show Same w1 _ from (by repeat (first | exact Fr.refl _ _ | apply Fr.undrew | apply Fr.undrewN | apply Fr.drew | apply Fr.drewN | apply Fr.alloc))).same hs2')
          have ho5 := (ho2.base (base' := w.heap.size) (by simp; omega)).owns (n := q + 1) (by simp [ordL_len] <;> omega)
          have kb5 := ((show Same w1 _ from (by repeat (first | exact Fr.refl _ _ | apply Fr.undrew | apply Fr.undrewN | apply Fr.drew | apply Fr.drewN | apply Fr.alloc))).same hs2').at kb1.out id
          clear ho2 hs2'
          rw [← hos.out] at ho5
          replace ho5 := Lib.hid ho5; replace hs5 := Lib.hid hs5; replace kb5 := Lib.hid kb5
          repeat (first | (refine sched_w rfl rfl (fun _ hK => ?_); go_simp; refine hK _ ?_; clear hK) | (refine sched_s rfl rfl (fun _ hK => ?_); go_simp; first | (refine hK _ ?_; clear hK) | (refine ⟨_, fun _ => rfl, hK _ ?_⟩; clear hK)))
          refine sched_nil (NoPanic.normal ?_)
          go_wp2_with fail
          go_roundw
          case rel => exact ⟨q + 1, c2, some ⟨g2, 0, none⟩, by go_num, by omega, by simp, ho5.out, kb5.out, hs5.out⟩
          case measure => simp [intOf]; omega
    · obtain rfl : k = N := by omega
      replace hO := Lib.hid hO; replace hs := Lib.hid hs; replace kb := Lib.hid kb
      go_wp2_with fail
      refine (SZ.out _).mono ?_
      rintro e w1 ⟨rfl, hs1⟩
      have hs2 := hs.out.same ((show Same wr _ from (by repeat (first | exact Fr.refl _ _ | apply Fr.undrew | apply Fr.undrewN | apply Fr.drew | apply Fr.drewN | apply Fr.alloc))).same hs1)
      have hO1 := owns_same hO.out ((show Same wr _ from (by repeat (first | exact Fr.refl _ _ | apply Fr.undrew | apply Fr.undrewN | apply Fr.drew | apply Fr.drewN | apply Fr.alloc))).same hs1)
      clear hs1
      replace hO1 := Lib.hid hO1; replace hs2 := Lib.hid hs2
      go_wp2_with fail
      go_ret
      exact ⟨a, c, rfl, hO1.out, hs2.out⟩
end Go.Proofs.Ytmmjijmmocabhaa
namespace Go.Proofs.Ytmmjijmmocabhaa
open Go.RowKit
set_option linter.unusedVariables false
set_option linter.unusedSimpArgs false

theorem and1_all : ∀ (y : Fin 32) (s : Fin 5), bits .and .i64 (((y.val : Nat) : Int) / 2 ^ s.val) 1 = ((y.val / 2 ^ s.val % 2 : Nat) : Int) := by decide +kernel
theorem or1_all : ∀ (y : Fin 32) (s : Fin 5), y.val / 2 ^ s.val % 2 = 0 → bits .or .i64 ((y.val : Nat) : Int) ((2 ^ s.val : Nat) : Int) = ((y.val + 2 ^ s.val : Nat) : Int) := by decide +kernel
theorem and1 {y s : Nat} (hy : y < 32) (hs : s < 5) : bits .and .i64 ((y : Int) / 2 ^ s) 1 = ((y / 2 ^ s % 2 : Nat) : Int) := and1_all ⟨y, hy⟩ ⟨s, hs⟩
theorem or1 {y s : Nat} (hy : y < 32) (hs : s < 5) (h : y / 2 ^ s % 2 = 0) : bits .or .i64 (y : Int) ((2 ^ s : Nat) : Int) = ((y + 2 ^ s : Nat) : Int) := or1_all ⟨y, hy⟩ ⟨s, hs⟩ h

theorem wrapP_all : ∀ u : Fin 5, wrap64 (2 ^ u.val) = ((2 ^ u.val : Nat) : Int) := by decide +kernel
theorem wrapP {u : Nat} (h : u < 5) : wrap64 (2 ^ u) = ((2 ^ u : Nat) : Int) := wrapP_all ⟨u, h⟩

theorem take_set (cs : List Bool) (k : Nat) (x : Bool) (h : k < cs.length) : (cs.set k x).take (k + 1) = cs.take k ++ [x] := by
  rw [List.take_succ_eq_append_getElem (by simpa using h), List.getElem_set_self]
  congr 1
  rw [List.take_set_of_le (Nat.le_refl k)]

set_option maxRecDepth 100000 in
set_option maxHeartbeats 2000000 in
theorem permuted_any (n : Nat) (t : List Bool) (o : List Int) (at_ ao : Option Addr) (ct co m : Nat) (w : World) (hn : n ≤ 5) (hm : m = 2 ^ n) (ht : t.length = m) (hI : IsOrd n o) (hT : RowAt w (.slice at_ m ct) m (boolCells t)) (hO : RowAt w (.slice ao n co) n (intCells o)) :
    Calls Try.prog 27 #[.slice at_ m ct, .slice ao n co] w fun e w' => ∃ b, e = .returned (.slice (some ⟨b, 0, none⟩) m m) ∧ w.heap.size ≤ b ∧ BoolsAt w' b (permT o n t) ∧ Same w w' := by
  have hm32 : m ≤ 32 := by rw [hm]; exact Nat.pow_le_pow_right (by omega) hn
  have hm1 : 1 ≤ m := by rw [hm]; exact Nat.one_le_two_pow
  have hol := hI.len
  replace hT := Lib.hid hT; replace ht := Lib.hid ht; replace hm := Lib.hid hm; replace hI := Lib.hid hI; replace hO := Lib.hid hO; replace hol := Lib.hid hol
  go_enter Try.func27, Try.ntmps27
  obtain ⟨i3, hi3, hi3z, hi3s, hi3b⟩ := info_parts info4
  go_wp2_with (at_make; refine wpList_mkb _ rfl (.tmp 13) (.tmp 13) 39 rfl 4 i3 Try.underlying39 hi3 hi3z hi3s hi3b m rfl rfl (by omega) ?_)
  go_loopw [7] (fun i wr => ∃ (k : Nat) (cs : List Bool), i = .int .i64 k ∧ k ≤ m ∧ cs.length = m ∧ cs.take k = colF (fun y => t.getD (permI o n y) false) k ∧ BoolsAt wr w.heap.size cs ∧ Same w wr) (fun i _ => m - (intOf i).toNat)
  case atStart => exact ⟨0, List.replicate m false, rfl, by omega, by simp, rfl, heap_new _ _, (by repeat (first | exact Fr.refl _ _ | apply Fr.alloc | apply Fr.drewN | apply Fr.drew | apply Fr.undrew | apply Fr.undrewN))⟩
  case round =>
    obtain ⟨y, cs, rfl, hy, hcs, htk, hB, hs⟩ := hrel
    have b2 := hB.lt
    have hfr := hB.free y
    by_cases hlt : y < m
    · have hc := hB.cell (k := y) (by omega)
      have hxe := xF_end hI.out y
      have hpl := permI_lt o n y
      rw [← hm.out] at hpl
      have htk1 := take_set cs y (t.getD (permI o n y) false) (by omega)
      obtain ⟨wo, rfl⟩ : ∃ wo, wo = wr := ⟨_, rfl⟩
      replace hB := Lib.hid hB; replace hs := Lib.hid hs; replace hcs := Lib.hid hcs; replace htk := Lib.hid htk; replace hxe := Lib.hid hxe; replace htk1 := Lib.hid htk1
      go_wp2_with fail
      go_loopw [8, 9] (fun x i wr => ∃ k x' : Nat, i = .int .i64 k ∧ k ≤ n ∧ x = .int .i64 x' ∧ x' = xF o n y k ∧ wr = wo) (fun _ i _ => n - (intOf i).toNat)
      case atStart => exact ⟨0, 0, rfl, by omega, rfl, rfl, rfl⟩
      case round =>
        obtain ⟨k, x, rfl, hk, rfl, hx, rfl⟩ := hrel
        by_cases hkn : k < n
        · have hkl : k < o.length := by rw [hol.out]; exact hkn
          obtain ⟨bo, off, rfl, hbo, c0⟩ := int_cell (hO.out.same hs.out) (k := k) hkl hol.out
          have hr := hI.out.range _ (List.getElem_mem hkl)
          obtain ⟨v, hv⟩ : ∃ v : Nat, o[k] = v := ⟨o[k].toNat, by omega⟩
          have hov : o[k]? = some (v : Int) := by rw [List.getElem?_eq_getElem hkl, hv]
          have hfree := xF_free hI.out y k v hkn hov
          have hxl : x < 32 := by rw [hx]; exact Nat.lt_of_lt_of_le (xF_lt hI.out y k (by omega)) (by rw [← hm.out]; omega)
          have hxs : xF o n y (k + 1) = if bitF n y k then withF n (xF o n y k) v true else xF o n y k := by rw [xF, show (o.getD k 0) = (v : Int) by simp [List.getD, hov]]; rfl
          rw [← hx] at hxs hfree
          rw [hv] at c0 hr
          obtain ⟨s, hs1⟩ : ∃ s, s = n - 1 - k := ⟨_, rfl⟩
          obtain ⟨u, hu1⟩ : ∃ u, u = n - 1 - v := ⟨_, rfl⟩
          have hvn : v < n := hfree.2
          have hb0 : x / 2 ^ u % 2 = 0 := by have := hfree.1; simp only [bitF, decide_eq_false_iff_not, ← hu1] at this; omega
          have ha := and1 (y := y) (s := s) (by omega) (by omega)
          have horr := or1 (y := x) (s := u) hxl (by omega) hb0
          have hwit : withF n x v true = x + 2 ^ u := by unfold withF; rw [hfree.1, ← hu1]; simp
          rw [hwit] at hxs
          have hbit : bitF n y k = decide (y / 2 ^ s % 2 = 1) := by rw [bitF, ← hs1]
          have ee1 : ((n : Int) - 1 - k) = (s : Int) := by omega
          have ee2 : ((n : Int) - 1 - v) = (u : Int) := by omega
          rw [hbit] at hxs
          generalize hz : y / 2 ^ s % 2 = z at *
          have hz2 : z < 2 := by omega
          clear hfree hr hwit hbit
          have hwu := wrapP (u := u) (by omega)
          have hP : 2 ^ u ≤ 2 ^ 4 := Nat.pow_le_pow_right (by omega) (by omega)
          obtain ⟨P, hPe⟩ : ∃ P : Nat, P = 2 ^ u := ⟨_, rfl⟩
          rw [← hPe] at hwu horr hxs hP
          replace hx := Lib.hid hx; replace hxs := Lib.hid hxs; replace hov := Lib.hid hov; replace hv := Lib.hid hv; replace hb0 := Lib.hid hb0; replace hz := Lib.hid hz; replace hs1 := Lib.hid hs1; replace hu1 := Lib.hid hu1; replace hPe := Lib.hid hPe
          by_cases h1 : z = 1
          · subst h1
            have hxs' : xF o n y (k + 1) = x + P := by rw [hxs.out]; simp
            replace hxs' := Lib.hid hxs'
            go_wp2_with fail
            go_roundw
            case rel => exact ⟨k + 1, x + P, by go_num, by omega, by go_num, hxs'.out.symm, trivial⟩
            case measure => simp [intOf]; omega
          · obtain rfl : z = 0 := by omega
            have hxs' : xF o n y (k + 1) = x := by rw [hxs.out]; simp
            replace hxs' := Lib.hid hxs'
            go_wp2_with fail
            go_roundw
            case rel => exact ⟨k + 1, x, by go_num, by omega, rfl, hxs'.out.symm, trivial⟩
            case measure => simp [intOf]; omega
        · obtain rfl : k = n := by omega
          rw [hxe.out] at hx
          have hxm : x < m := by rw [hx]; exact hpl
          obtain ⟨bt, off, rfl, hbt, c0⟩ := bool_cell (hT.out.same hs.out) (k := x) (by rw [ht.out]; exact hxm) ht.out
          have hg : t.getD (permI o k y) false = t[x]'(by rw [ht.out]; exact hxm) := by rw [← hx]; simp [List.getD, ht.out, hxm]
          have hcc := colF_succ (fun y => t.getD (permI o k y) false) y
          have hB2 := hB.out.set y (t.getD (permI o k y) false)
          rw [hg] at hB2 htk1 hcc
          generalize t[x]'(by rw [ht.out]; exact hxm) = z at *
          replace hx := Lib.hid hx; replace hg := Lib.hid hg; replace hB2 := Lib.hid hB2; replace hcc := Lib.hid hcc
          go_wp2_with fail
          go_roundw
          case rel => exact ⟨y + 1, cs.set y z, by go_num, by omega, by simpa using hcs.out, by rw [htk1.out, htk.out, hcc.out], hB2.out, hs.out.setCell _ _ (by simp)⟩
          case measure => simp [intOf]; omega
    · obtain rfl : y = m := by omega
      rw [List.take_of_length_le (by omega)] at htk
      have hcs2 : cs = permT o n t := by rw [htk, permT, hm.out]
      rw [hcs2] at hB
      replace hB := Lib.hid hB; replace hs := Lib.hid hs; replace hcs := Lib.hid hcs; replace htk := Lib.hid htk; replace hcs2 := Lib.hid hcs2
      go_wp2_with fail
      go_ret
      exact ⟨w.heap.size, rfl, Nat.le_refl _, hB.out, hs.out⟩
end Go.Proofs.Ytmmjijmmocabhaa
namespace Go.Proofs.Ytmmjijmmocabhaa
open Go.RowKit
set_option linter.unusedVariables false
set_option linter.unusedSimpArgs false

theorem moved_ord {n : Nat} {o : List Int} (h : IsOrd n o) (v p : Nat) (hv : v < n) (hp : p < n) (a : Option Addr) (c : Nat) (w : World) (hO : RowAt w (.slice a n c) n (intCells o)) :
    Calls Try.prog 33 #[.slice a n c, .int .i64 v, .int .i64 p] w fun e w' => ∃ g c, e = .returned (.slice (some ⟨g, 0, none⟩) n c) ∧ RowAt w' (.slice (some ⟨g, 0, none⟩) n c) n (intCells (movF o v p)) ∧ Same w w' := by
  have hd := del_length h hv
  have h40 := h.n40
  refine (moved_any o v p (n - 1) a c n w h.len hO (by omega) (by unfold delF; omega) (by omega)).mono ?_
  rintro e w' ⟨g, c', rfl, ho, hs⟩
  have e1 : p + (1 + (n - 1 - p)) = n := by omega
  have hl : (movF o v p).length = n := by rw [movF, List.length_append, List.length_take, List.length_cons, List.length_drop]; omega
  exact ⟨g, c', by rw [e1], ho.row hl, hs⟩

theorem cnt_sz {n : Nat} {t : List Bool} (o : List Int) (hn : n ≤ 40) : ((cntF (permT o n t) n n : Nat) : Int) = szF n t o := by
  unfold szF
  rw [nodes_cnt hn (permT_length o n t)]
theorem best_sz (n : Nat) (t : List Bool) (o : List Int) (v : Nat) : ∀ p, (bestF n t o v (p + 1)).2 = szF n t (bestF n t o v (p + 1)).1
  | 0 => by rw [bestF, if_pos (.inl (by simp [bestF]))]
  | p + 1 => by
    rw [bestF]
    split
    · rfl
    · exact best_sz n t o v p
theorem best_one (n : Nat) (t : List Bool) (o : List Int) (v : Nat) : (bestF n t o v 1).1 = movF o v 0 := by rw [bestF, if_pos (.inl (by simp [bestF]))]
theorem best_next (n : Nat) (t : List Bool) (o : List Int) (v : Nat) {p : Nat} (hp : 1 ≤ p) : (bestF n t o v (p + 1)).1 = if szF n t (movF o v p) < szF n t (bestF n t o v p).1 then movF o v p else (bestF n t o v p).1 := by
  obtain ⟨p, rfl⟩ : ∃ q, p = q + 1 := ⟨p - 1, by omega⟩
  have h1 := best_sz n t o v p
  have h2 := szF_nonneg n t (bestF n t o v (p + 1)).1
  rw [bestF, ← h1]
  rw [← h1] at h2
  by_cases h : szF n t (movF o v (p + 1)) < (bestF n t o v (p + 1)).2
  · rw [if_pos (.inr h), if_pos h]
  · rw [if_neg (by rintro (e | e) <;> omega), if_neg h]

set_option maxRecDepth 100000 in
set_option maxHeartbeats 2000000 in
theorem lsift_any (n : Nat) (t : List Bool) (o : List Int) (at_ ao : Option Addr) (ct co m : Nat) (w : World) (hn : n ≤ 5) (hm : m = 2 ^ n) (ht : t.length = m) (hI : IsOrd n o) (hT : RowAt w (.slice at_ m ct) m (boolCells t)) (hO : RowAt w (.slice ao n co) n (intCells o)) :
    Calls Try.prog 44 #[.slice at_ m ct, .slice ao n co] w fun e w' => ∃ a c, e = .returned (.slice a n c) ∧ RowAt w' (.slice a n c) n (intCells (siftF n t o)) ∧ Same w w' := by
  have hm32 : m ≤ 32 := by rw [hm]; exact Nat.pow_le_pow_right (by omega) hn
  have MV := fun (x : List Int) (hx : IsOrd n x) (v p : Nat) (hv : v < n) (hp : p < n) a c W hW => moved_ord hx v p hv hp a c W hW
  have PM := fun (x : List Int) (hx : IsOrd n x) a c W (hW : Same w W) hO' => permuted_any n t x at_ a ct c m W hn hm ht hx (hT.same hW) hO'
  have ND := fun (x : List Int) b W hB => nodes_any n (permT x n t) (some ⟨b, 0, none⟩) m m W hn hm (by rw [permT_length, hm]) hB
  replace hm := Lib.hid hm; replace ht := Lib.hid ht; replace hI := Lib.hid hI; replace MV := Lib.hid MV; replace PM := Lib.hid PM; replace ND := Lib.hid ND; replace hO := Lib.hid hO
  go_enter Try.func44, Try.ntmps44
  go_wp2_with fail
  go_loopw [1, 5] (fun x i wr => ∃ (v c : Nat) (a : Option Addr), i = .int .i64 v ∧ v ≤ n ∧ x = .slice a n c ∧ RowAt wr (.slice a n c) n (intCells (siftN n t o v)) ∧ Same w wr) (fun _ i _ => n - (intOf i).toNat)
  case atStart => exact ⟨0, co, ao, rfl, by omega, rfl, hO.out.same (by repeat (first | exact Fr.refl _ _ | apply Fr.alloc | apply Fr.drewN | apply Fr.drew | apply Fr.undrew | apply Fr.undrewN)), (by repeat (first | exact Fr.refl _ _ | apply Fr.alloc | apply Fr.drewN | apply Fr.drew | apply Fr.undrew | apply Fr.undrewN))⟩
  case round =>
    obtain ⟨v, c, a, rfl, hv, rfl, hR, hs⟩ := hrel
    have ho2 := siftN_ord (t := t) hI.out v hv
    by_cases hlt : v < n
    · obtain ⟨x, hx⟩ : ∃ x, x = siftN n t o v := ⟨_, rfl⟩
      have hsv : siftN n t o (v + 1) = (bestF n t x v n).1 := by rw [hx]; rfl
      rw [← hx] at hR ho2
      replace hR := Lib.hid hR; replace hs := Lib.hid hs; replace ho2 := Lib.hid ho2; replace hx := Lib.hid hx; replace hsv := Lib.hid hsv
      go_wp2_with fail
      refine (MV.out x ho2.out v 0 hlt (by omega) a c _ hR.out).mono ?_
      rintro e w1 ⟨g1, c1, rfl, hR1, hs1⟩
      have hs2 := hs.out.same hs1
      have hR2 := hR.out.same hs1
      rw [← best_one n t x v] at hR1
      clear hs1
      replace hR1 := Lib.hid hR1; replace hs2 := Lib.hid hs2; replace hR2 := Lib.hid hR2
      go_wp2_with fail
      go_loopw [6, 7] (fun y i wr => ∃ (p c' : Nat) (a' : Option Addr), i = .int .i64 p ∧ 1 ≤ p ∧ p ≤ n ∧ y = .slice a' n c' ∧ RowAt wr (.slice a' n c') n (intCells (bestF n t x v p).1) ∧ RowAt wr (.slice a n c) n (intCells x) ∧ Same w wr) (fun _ i _ => n - (intOf i).toNat)
      case atStart => exact ⟨1, c1, _, rfl, by omega, by omega, rfl, hR1.out, hR2.out, hs2.out⟩
      case round =>
        clear hR1 hs2 hR2 hR hs
        obtain ⟨p, c', a', rfl, hp1, hp, rfl, hB, hR, hs⟩ := hrel
        by_cases hpt : p < n
        · have hbn := best_next n t x v hp1
          have hbo := bestF_ord (t := t) ho2.out hlt p
          obtain ⟨y, hy⟩ : ∃ y, y = (bestF n t x v p).1 := ⟨_, rfl⟩
          obtain ⟨z, hz⟩ : ∃ z, z = movF x v p := ⟨_, rfl⟩
          have hzo : IsOrd n z := by rw [hz]; exact movF_ord ho2.out hlt p
          rw [← hy] at hB hbn hbo
          rw [← hz] at hbn
          replace hB := Lib.hid hB; replace hR := Lib.hid hR; replace hs := Lib.hid hs; replace hbn := Lib.hid hbn; replace hbo := Lib.hid hbo; replace hy := Lib.hid hy; replace hz := Lib.hid hz; replace hzo := Lib.hid hzo
          go_wp2_with fail
          refine (MV.out x ho2.out v p hlt hpt a c _ hR.out).mono ?_
          rintro e w1 ⟨g1, c1, rfl, hZ, hs1⟩
          rw [← hz.out] at hZ
          have hR2 := hR.out.same hs1
          have hB2 := hB.out.same hs1
          have hs2 := hs.out.same hs1
          clear hs1
          replace hZ := Lib.hid hZ; replace hR2 := Lib.hid hR2; replace hB2 := Lib.hid hB2; replace hs2 := Lib.hid hs2
          go_wp2_with fail
          refine (PM.out z hzo.out _ _ _ hs2.out hZ.out).mono ?_
          rintro e w2 ⟨b2, rfl, _, hT2, hs3⟩
          have hR3 := hR2.out.same hs3
          have hB3 := hB2.out.same hs3
          have hZ3 := hZ.out.same hs3
          have hs4 := hs2.out.same hs3
          have hT3 := (hT2.slice (by rw [permT_length, ← hm.out]; omega)).row
          rw [permT_length, ← hm.out] at hT3
          clear hs3 hT2
          replace hZ3 := Lib.hid hZ3; replace hR3 := Lib.hid hR3; replace hB3 := Lib.hid hB3; replace hs4 := Lib.hid hs4; replace hT3 := Lib.hid hT3
          go_wp2_with fail
          refine (ND.out z _ _ hT3.out).mono ?_
          rintro e w3 ⟨rfl, hs5⟩
          have hR4 := hR3.out.same hs5
          have hB4 := hB3.out.same hs5
          have hZ4 := hZ3.out.same hs5
          have hs6 := hs4.out.same hs5
          clear hs5
          rw [cnt_sz z (by omega)]
          replace hZ4 := Lib.hid hZ4; replace hR4 := Lib.hid hR4; replace hB4 := Lib.hid hB4; replace hs6 := Lib.hid hs6
          go_wp2_with fail
          refine (PM.out y hbo.out _ _ _ hs6.out hB4.out).mono ?_
          rintro e w4 ⟨b3, rfl, _, hT4, hs7⟩
          have hR5 := hR4.out.same hs7
          have hB5 := hB4.out.same hs7
          have hZ5 := hZ4.out.same hs7
          have hs8 := hs6.out.same hs7
          have hT5 := (hT4.slice (by rw [permT_length, ← hm.out]; omega)).row
          rw [permT_length, ← hm.out] at hT5
          clear hs7 hT4
          replace hZ5 := Lib.hid hZ5; replace hR5 := Lib.hid hR5; replace hB5 := Lib.hid hB5; replace hs8 := Lib.hid hs8; replace hT5 := Lib.hid hT5
          go_wp2_with fail
          refine (ND.out y _ _ hT5.out).mono ?_
          rintro e w5 ⟨rfl, hs9⟩
          have hR6 := hR5.out.same hs9
          have hB6 := hB5.out.same hs9
          have hZ6 := hZ5.out.same hs9
          have hs10 := hs8.out.same hs9
          clear hs9
          rw [cnt_sz y (by omega)]
          by_cases hc : szF n t z < szF n t y
          · rw [if_pos hc] at hbn
            replace hZ6 := Lib.hid hZ6; replace hR6 := Lib.hid hR6; replace hB6 := Lib.hid hB6; replace hs10 := Lib.hid hs10
            go_wp2_with fail
            go_roundw
            case rel => exact ⟨p + 1, c1, some ⟨g1, 0, none⟩, by go_num, by omega, by omega, rfl, by rw [hbn.out]; exact hZ6.out, hR6.out, hs10.out⟩
            case measure => simp [intOf]; omega
          · rw [if_neg hc] at hbn
            replace hZ6 := Lib.hid hZ6; replace hR6 := Lib.hid hR6; replace hB6 := Lib.hid hB6; replace hs10 := Lib.hid hs10
            go_wp2_with fail
            go_roundw
            case rel => exact ⟨p + 1, c', a', by go_num, by omega, by omega, rfl, by rw [hbn.out]; exact hB6.out, hR6.out, hs10.out⟩
            case measure => simp [intOf]; omega
        · obtain rfl : p = n := by omega
          rw [← hsv.out] at hB
          replace hB := Lib.hid hB; replace hR := Lib.hid hR; replace hs := Lib.hid hs
          go_wp2_with fail
          go_roundw
          case rel => exact ⟨v + 1, c', a', by go_num, by omega, rfl, hB.out, hs.out⟩
          case measure => simp [intOf]; omega
    · obtain rfl : v = n := by omega
      replace hR := Lib.hid hR; replace hs := Lib.hid hs
      go_wp2_with fail
      go_ret
      exact ⟨a, c, rfl, hR.out, hs.out⟩
end Go.Proofs.Ytmmjijmmocabhaa
namespace Go.Proofs.Ytmmjijmmocabhaa
open Go.RowKit
set_option linter.unusedVariables false
set_option linter.unusedSimpArgs false

set_option maxRecDepth 100000 in
set_option maxHeartbeats 2000000 in
theorem lcheck_any (o : List Int) (n : Int) (a : Option Addr) (cap q : Nat) (w : World) (hq : o.length = q) (hO : RowAt w (.slice a q cap) q (intCells o)) (hl : q ≤ 1000000) :
    Calls Try.prog 15 #[.slice a q cap, .int .i64 n] w fun e w' => e = .returned (.int .i64 (ordErr n o)) ∧ Same w w' := by
  obtain ⟨R, hR⟩ : ∃ R, R = ordErr n o := ⟨_, rfl⟩
  rw [← hR]
  unfold ordErr at hR
  by_cases h1 : n < 0 ∨ 40 < n
  · rw [if_pos h1] at hR
    subst hR
    replace hO := Lib.hid hO; replace hq := Lib.hid hq
    rcases h1 with h1 | h1
    · go_enter Try.func15, Try.ntmps15
      go_wp2_with fail
      go_ret
      exact ⟨rfl, (by repeat (first | exact Fr.refl _ _ | apply Fr.alloc | apply Fr.drewN | apply Fr.drew | apply Fr.undrew | apply Fr.undrewN))⟩
    · have h2 : ¬ n < 0 := by omega
      go_enter Try.func15, Try.ntmps15
      go_wp2_with fail
      go_ret
      exact ⟨rfl, (by repeat (first | exact Fr.refl _ _ | apply Fr.alloc | apply Fr.drewN | apply Fr.drew | apply Fr.undrew | apply Fr.undrewN))⟩
  · rw [if_neg h1] at hR
    have n0 : ¬ n < 0 := by omega
    have n1 : ¬ 40 < n := by omega
    clear h1
    by_cases h2 : (o.length : Int) ≠ n
    · rw [if_pos h2] at hR
      subst hR
      have hb : ((q : Int) != n) = true := by rw [← hq]; simpa using h2
      replace hO := Lib.hid hO; replace hq := Lib.hid hq; replace h2 := Lib.hid h2
      go_enter Try.func15, Try.ntmps15
      go_wp2_with fail
      go_ret
      exact ⟨rfl, (by repeat (first | exact Fr.refl _ _ | apply Fr.alloc | apply Fr.drewN | apply Fr.drew | apply Fr.undrew | apply Fr.undrewN))⟩
    · rw [if_neg h2] at hR
      obtain rfl : n = (q : Int) := by omega
      clear h2 n0
      have hb : ((q : Int) != (q : Int)) = false := by simp
      have hq40 : q ≤ 40 := by omega
      replace hO := Lib.hid hO; replace hq := Lib.hid hq; replace hR := Lib.hid hR
      go_enter Try.func15, Try.ntmps15
      go_wp2_with fail
      go_loopw [5] (fun i wr => ∃ k : Nat, i = .int .i64 k ∧ k ≤ q ∧ R = dupF q (o.drop k) (o.take k) ∧ Same w wr) (fun i _ => q - (intOf i).toNat)
      case atStart => exact ⟨0, rfl, by omega, hR.out, (by repeat (first | exact Fr.refl _ _ | apply Fr.alloc | apply Fr.drewN | apply Fr.drew | apply Fr.undrew | apply Fr.undrewN))⟩
      case round =>
        obtain ⟨k, rfl, hk, hRk, hs⟩ := hrel
        by_cases hlt : k < q
        · have hkl : k < o.length := by rw [hq.out]; exact hlt
          obtain ⟨b, off, rfl, hb', c0⟩ := int_cell (hO.out.same hs) (k := k) hkl hq.out
          rw [dupF_step hkl] at hRk
          by_cases hr : o[k] < 0 ∨ (q : Int) ≤ o[k]
          · rw [if_pos hr] at hRk
            generalize hv : o[k] = v at *
            replace hRk := Lib.hid hRk; replace hs := Lib.hid hs; replace hv := Lib.hid hv
            rcases hr with hr | hr
            · go_wp2_with fail
              go_ret
              exact ⟨by rw [hRk.out]; rfl, hs.out⟩
            · have hr2 : ¬ v < 0 := by omega
              go_wp2_with fail
              go_ret
              exact ⟨by rw [hRk.out]; rfl, hs.out⟩
          · rw [if_neg hr] at hRk
            obtain ⟨v, hv⟩ : ∃ v, v = o[k] := ⟨_, rfl⟩
            rw [← hv] at hr hRk c0
            have hr1 : ¬ v < 0 := by omega
            have hr2 : ¬ (q : Int) ≤ v := by omega
            clear hr
            obtain ⟨wo, rfl⟩ : ∃ wo, wo = wr := ⟨_, rfl⟩
            replace hRk := Lib.hid hRk; replace hs := Lib.hid hs; replace hv := Lib.hid hv
            go_wp2_with fail
            go_loopw [6] (fun i wr => ∃ j : Nat, i = .int .i64 j ∧ j ≤ k ∧ v ∉ o.take j ∧ Same w wr) (fun i _ => k - (intOf i).toNat)
            case atStart => exact ⟨0, rfl, by omega, by simp, hs.out.same (by repeat (first | exact Fr.refl _ _ | apply Fr.alloc | apply Fr.drewN | apply Fr.drew | apply Fr.undrew | apply Fr.undrewN))⟩
            case round =>
              obtain ⟨j, rfl, hj, hnot, hs2⟩ := hrel
              obtain ⟨b', off', hbb, hb2, c1⟩ := int_cell (hO.out.same hs2) (k := k) hkl hq.out
              cases hbb
              rw [← hv.out] at c1
              by_cases hjk : j < k
              · have hjq : j < q := by omega
                have hjl : j < o.length := by rw [hq.out]; exact hjq
                obtain ⟨b', off', hbb, _, c2⟩ := int_cell (hO.out.same hs2) (k := j) hjl hq.out
                cases hbb
                have hmem : o[j] ∈ o.take k := by
                  rw [List.mem_take_iff_getElem]
                  exact ⟨j, by omega, rfl⟩
                have hst := List.take_succ_eq_append_getElem hjl
                generalize hu : o[j] = u at *
                by_cases huv : u = v
                · subst huv
                  have hR8 : R = 8 := by rw [hRk.out, if_pos hmem]
                  have hb3 : (u == u) = true := by simp
                  replace hR8 := Lib.hid hR8; replace hs2 := Lib.hid hs2; replace hnot := Lib.hid hnot; replace hmem := Lib.hid hmem; replace hst := Lib.hid hst; replace hu := Lib.hid hu
                  go_upto_region 13 with fail
                  refine wp_region_sched (L2 b b) [0, 0, 0, 1, 0, 0, 0, 1, 0] [0, 1, 2, 4, 5, 6, 3, 7, 8] (by kernel_rfl) (by kernel_rfl) ?_
                  repeat (first | (refine sched_w rfl rfl (fun _ hK => ?_); go_simp; refine hK _ ?_; clear hK) | (refine sched_s rfl rfl (fun _ hK => ?_); go_simp; first | (refine hK _ ?_; clear hK) | (refine ⟨_, fun _ => rfl, hK _ ?_⟩; clear hK)))
                  refine sched_nil (NoPanic.normal ?_)
                  go_wp2_with fail
                  go_ret
                  exact ⟨by rw [hR8.out]; rfl, hs2.out.same (by repeat (first | exact Fr.refl _ _ | apply Fr.undrew | apply Fr.undrewN | apply Fr.drew | apply Fr.drewN | apply Fr.alloc))⟩
                · have hnot2 : v ∉ o.take (j + 1) := by rw [hst]; simp only [List.mem_append, List.mem_singleton, not_or]; exact ⟨hnot, fun e => huv e.symm⟩
                  have hb3 : (u == v) = false := by simpa using huv
                  replace hs2 := Lib.hid hs2; replace hnot := Lib.hid hnot; replace hmem := Lib.hid hmem; replace hst := Lib.hid hst; replace hu := Lib.hid hu; replace huv := Lib.hid huv; replace hnot2 := Lib.hid hnot2
                  go_upto_region 13 with fail
                  refine wp_region_sched (L2 b b) [0, 0, 0, 1, 0, 0, 0, 1, 0] [0, 1, 2, 4, 5, 6, 3, 7, 8] (by kernel_rfl) (by kernel_rfl) ?_
                  repeat (first | (refine sched_w rfl rfl (fun _ hK => ?_); go_simp; refine hK _ ?_; clear hK) | (refine sched_s rfl rfl (fun _ hK => ?_); go_simp; first | (refine hK _ ?_; clear hK) | (refine ⟨_, fun _ => rfl, hK _ ?_⟩; clear hK)))
                  refine sched_nil (NoPanic.normal ?_)
                  go_wp2_with fail
                  go_roundw
                  case rel => exact ⟨j + 1, by go_num, by omega, hnot2.out, hs2.out.same (by repeat (first | exact Fr.refl _ _ | apply Fr.undrew | apply Fr.undrewN | apply Fr.drew | apply Fr.drewN | apply Fr.alloc))⟩
                  case measure => simp [intOf]; omega
              · obtain rfl : j = k := by omega
                have hR2 : R = dupF q (o.drop (j + 1)) (o.take (j + 1)) := by rw [hRk.out, if_neg hnot]
                replace hs2 := Lib.hid hs2; replace hnot := Lib.hid hnot; replace hR2 := Lib.hid hR2
                go_wp2_with fail
                go_roundw
                case rel => exact ⟨j + 1, by go_num, by omega, hR2.out, hs2.out⟩
                case measure => simp [intOf]; omega
        · obtain rfl : k = q := by omega
          have hR0 : R = 0 := by rw [hRk, List.drop_of_length_le (by rw [hq.out]; exact Nat.le_refl _)]; rfl
          replace hRk := Lib.hid hRk; replace hs := Lib.hid hs; replace hR0 := Lib.hid hR0
          go_wp2_with fail
          go_ret
          exact ⟨by rw [hR0.out]; rfl, hs.out⟩

/-! ### position -/
def posL (o : List Int) (v : Int) : Int := if v ∈ o then (o.idxOf v : Int) else -1
set_option maxRecDepth 100000 in
set_option maxHeartbeats 1000000 in
theorem position_any (o : List Int) (v : Int) (a : Option Addr) (cap q : Nat) (w : World) (hq : o.length = q) (hO : RowAt w (.slice a q cap) q (intCells o)) (hl : q ≤ 1000000) :
    Calls Try.prog 39 #[.slice a q cap, .int .i64 v] w fun e w' => e = .returned (.int .i64 (posL o v)) ∧ Same w w' := by
  obtain ⟨R, hR⟩ : ∃ R, R = posL o v := ⟨_, rfl⟩
  rw [← hR]
  replace hO := Lib.hid hO; replace hq := Lib.hid hq; replace hR := Lib.hid hR
  go_enter Try.func39, Try.ntmps39
  go_wp2_with fail
  go_loopw [5] (fun i wr => ∃ k : Nat, i = .int .i64 k ∧ k ≤ q ∧ v ∉ o.take k ∧ Same w wr) (fun i _ => q - (intOf i).toNat)
  case atStart => exact ⟨0, rfl, by omega, by simp, (by repeat (first | exact Fr.refl _ _ | apply Fr.alloc | apply Fr.drewN | apply Fr.drew | apply Fr.undrew | apply Fr.undrewN))⟩
  case round =>
    obtain ⟨k, rfl, hk, hn, hs⟩ := hrel
    by_cases hlt : k < q
    · have hkl : k < o.length := by rw [hq.out]; exact hlt
      obtain ⟨b, off, rfl, hb', c0⟩ := int_cell (hO.out.same hs) (k := k) hkl hq.out
      have hst := List.take_succ_eq_append_getElem hkl
      by_cases hx : o[k] = v
      · have hRv : R = k := by
          have hm : v ∈ o := by rw [← hx]; exact List.getElem_mem hkl
          rw [hR.out, posL, if_pos hm]
          have e : o = o.take k ++ v :: o.drop (k + 1) := by rw [← hx, ← List.drop_eq_getElem_cons hkl, List.take_append_drop]
          have e2 : o.idxOf v = k := (congrArg (List.idxOf v) e).trans (by rw [List.idxOf_append, if_neg hn, List.idxOf_cons_self, List.length_take]; omega)
          rw [e2]
        generalize hy : o[k] = y at *
        subst hx
        have hb2 : (y == y) = true := by simp
        replace hs := Lib.hid hs; replace hn := Lib.hid hn; replace hst := Lib.hid hst; replace hRv := Lib.hid hRv; replace hy := Lib.hid hy
        go_wp2_with fail
        go_ret
        exact ⟨by rw [hRv.out]; rfl, hs.out⟩
      · have hn2 : v ∉ o.take (k + 1) := by rw [hst]; simp only [List.mem_append, List.mem_singleton, not_or]; exact ⟨hn, fun e => hx e.symm⟩
        generalize hy : o[k] = y at *
        have hb2 : (y == v) = false := by simpa using hx
        replace hs := Lib.hid hs; replace hn := Lib.hid hn; replace hst := Lib.hid hst; replace hn2 := Lib.hid hn2; replace hx := Lib.hid hx; replace hy := Lib.hid hy
        go_wp2_with fail
        go_roundw
        case rel => exact ⟨k + 1, by go_num, by omega, hn2.out, hs.out⟩
        case measure => simp [intOf]; omega
    · obtain rfl : k = q := by omega
      rw [List.take_of_length_le (by rw [hq.out]; exact Nat.le_refl _)] at hn
      have hRv : R = -1 := by rw [hR.out, posL, if_neg hn]
      replace hs := Lib.hid hs; replace hn := Lib.hid hn; replace hRv := Lib.hid hRv
      go_wp2_with fail
      go_ret
      exact ⟨by rw [hRv.out]; rfl, hs.out⟩
end Go.Proofs.Ytmmjijmmocabhaa
namespace Go.Proofs.Ytmmjijmmocabhaa
open Go.RowKit
set_option linter.unusedVariables false
set_option linter.unusedSimpArgs false

theorem posL_eq {n : Nat} {o : List Int} (h : IsOrd n o) {v : Int} (hv : 0 ≤ v ∧ v < n) : posL o v = posA o v := by
  have hm := h.has (v := v.toNat) (by omega)
  have e : ((v.toNat : Nat) : Int) = v := by omega
  rw [e] at hm
  unfold posL posA atF
  rw [if_pos hm, e]

theorem pos_any {n : Nat} {o : List Int} (ho : IsOrd n o) {v : Int} (hv : 0 ≤ v ∧ v < n) (a : Option Addr) (c : Nat) (w : World) (hO : RowAt w (.slice a n c) n (intCells o)) :
    Calls Try.prog 39 #[.slice a n c, .int .i64 v] w fun e w' => e = .returned (.int .i64 (posA o v)) ∧ Same w w' := by
  have h40 := ho.n40
  rw [← posL_eq ho hv]
  exact position_any o v a c n w ho.len hO (by omega)

set_option maxRecDepth 100000 in
set_option maxHeartbeats 4000000 in
theorem lends_any {n : Nat} {o : List Int} (ho : IsOrd n o) {g : List Int} (hg : IsGrp n g) (ga ao : Option Addr) (gc p co : Nat) (w : World) (hp : g.length = p) (hR : RowAt w (.slice ga p gc) p (intCells g)) (hO : RowAt w (.slice ao n co) n (intCells o)) :
    Calls Try.prog 53 #[.slice ga p gc, .slice ao n co] w fun e w' => e = .returned (.tuple #[.int .i64 (loF (posA o) g), .int .i64 (hiF (posA o) g)]) ∧ Same w w' := by
  have h40 := ho.n40
  have hp0 := hg.pos
  have PO := fun k (hk : k < g.length) W (hW : Same w W) => pos_any ho (hg.range _ (List.getElem_mem hk)) ao co W (hO.same hW)
  have hbd := ends_bd (f := posA o) (a := 0) (b := 39) hg.pos (fun x hx => posA_bd ho (hg.range x hx))
  obtain ⟨bg, off, rfl, hbg, r0⟩ := int_cell hR (k := 0) hp0 hp
  rw [Nat.add_zero] at r0
  have hlo0 : loK (posA o) g 0 = posA o g[0] := by
    unfold loK; simp [List.headD]
    cases g with
    | nil => simp at hp0
    | cons x l => rfl
  have hhi0 : hiK (posA o) g 0 = posA o g[0] := by
    unfold hiK; simp [List.headD]
    cases g with
    | nil => simp at hp0
    | cons x l => rfl
  have hpp : 0 < p := by omega
  have hp8 : p ≤ 8 := by have := hg.le; omega
  have P0 := PO 0 hp0
  have hlK := fun k (h : k < g.length) => loK_succ (posA o) h
  have hhK := fun k (h : k < g.length) => hiK_succ (posA o) h
  have hlE := loK_end (posA o) g
  have hhE := hiK_end (posA o) g
  generalize g[0] = v0 at *
  generalize posA o v0 = y0 at *
  replace ho := Lib.hid ho; replace hg := Lib.hid hg; replace hp := Lib.hid hp; replace hR := Lib.hid hR; replace hO := Lib.hid hO; replace PO := Lib.hid PO; replace P0 := Lib.hid P0; replace hbd := Lib.hid hbd; replace hlo0 := Lib.hid hlo0; replace hhi0 := Lib.hid hhi0; replace hp0 := Lib.hid hp0; replace hlK := Lib.hid hlK; replace hhK := Lib.hid hhK; replace hlE := Lib.hid hlE; replace hhE := Lib.hid hhE
  go_enter Try.func53, Try.ntmps53
  go_upto_region 1 with fail
  refine wp_region_sched (L2 bg bg) [0, 0, 0, 1, 2, 0, 0, 0, 1, 3, 0, 0] [0, 1, 2, 5, 6, 7, 3, 8, 4, 9, 10, 11] (by kernel_rfl) (by kernel_rfl) ?_
  repeat (first | (refine sched_w rfl rfl (fun _ hK => ?_); go_simp; refine hK _ ?_; clear hK) | (refine sched_s rfl rfl (fun _ hK => ?_); go_simp; first | (refine hK _ ?_; clear hK) | (refine ⟨_, fun _ => rfl, hK _ ?_⟩; clear hK)))
  refine sched_g rfl rfl (fun _ hK => ?_)
  go_simp
  refine (P0.out _ (by repeat (first | exact Fr.refl _ _ | apply Fr.undrew | apply Fr.undrewN | apply Fr.drew | apply Fr.drewN | apply Fr.alloc))).mono ?_
  rintro e w1 ⟨rfl, hs1⟩
  refine hK _ _ (Kp.of_same hs1) ?_
  clear hK
  (try simp only [Act.put, List.setIfInBounds_toArray, List.set_cons_zero, List.set_cons_succ])
  have hs2 : Same w w1 := (show Same w _ from (by repeat (first | exact Fr.refl _ _ | apply Fr.undrew | apply Fr.undrewN | apply Fr.drew | apply Fr.drewN | apply Fr.alloc))).same hs1
  replace hs1 := Lib.hid hs1; replace hs2 := Lib.hid hs2
  refine sched_l rfl (by decide) (fun _ hK => ?_); go_simp
  refine (P0.out _ hs2.out).mono ?_
  rintro e w2 ⟨rfl, hs3⟩
  have hs4 := hs2.out.same hs3
  refine hK _ _ ?_; clear hK; try simp only [Act.put, List.setIfInBounds_toArray, List.set_cons_zero, List.set_cons_succ]
  replace hs3 := Lib.hid hs3; replace hs4 := Lib.hid hs4
  repeat (first | (refine sched_w rfl rfl (fun _ hK => ?_); go_simp; refine hK _ ?_; clear hK) | (refine sched_s rfl rfl (fun _ hK => ?_); go_simp; first | (refine hK _ ?_; clear hK) | (refine ⟨_, fun _ => rfl, hK _ ?_⟩; clear hK)))
  refine sched_nil (NoPanic.normal ?_)
  go_wp2_with fail
  clear r0
  go_loopw [4, 5, 6] (fun lo hi i wr => ∃ k : Nat, i = .int .i64 k ∧ k ≤ p ∧ lo = .int .i64 (loK (posA o) g k) ∧ hi = .int .i64 (hiK (posA o) g k) ∧ Same w wr) (fun _ _ i _ => p - (intOf i).toNat)
  case atStart => exact ⟨0, rfl, by omega, by rw [hlo0.out], by rw [hhi0.out], hs4.out⟩
  case round =>
    obtain ⟨k, rfl, hk, rfl, rfl, hs⟩ := hrel
    by_cases hlt : k < p
    · have hkl : k < g.length := by rw [hp.out]; exact hlt
      obtain ⟨b', off', hb', hbg', r0⟩ := int_cell (hR.out.same hs) (k := k) hkl hp.out
      cases hb'
      have Pk := PO.out k hkl
      have l1 := hlK.out k hkl
      have l2 := hhK.out k hkl
      generalize g[k] = v at *
      generalize posA o v = y at *
      replace hs := Lib.hid hs; replace l1 := Lib.hid l1; replace l2 := Lib.hid l2; replace Pk := Lib.hid Pk
      go_wp2_with fail
      refine (Pk.out _ hs.out).mono ?_
      rintro e w5 ⟨rfl, hs5⟩
      have hs6 := hs.out.same hs5
      replace hs5 := Lib.hid hs5; replace hs6 := Lib.hid hs6
      go_wp2_with fail
      go_roundw
      case rel => exact ⟨k + 1, by go_num, by omega, by rw [l1.out], by rw [l2.out], hs6.out⟩
      case measure => simp [intOf]; omega
    · obtain rfl : k = p := by omega
      rw [← hp.out, hlE.out, hhE.out]
      replace hs := Lib.hid hs
      go_wp2_with fail
      go_ret2
      exact ⟨rfl, hs.out⟩

set_option maxRecDepth 100000 in
set_option maxHeartbeats 4000000 in
theorem lspan_any {n : Nat} {o : List Int} (ho : IsOrd n o) (gs : List Grp) (hgs : ∀ g ∈ lst gs, IsGrp n g) (a ao : Option Addr) (cap co k : Nat) (w : World) (hk : k ≤ 64) (hG : GsAt w (.slice a k cap) k gs) (hO : RowAt w (.slice ao n co) n (intCells o)) :
    Calls Try.prog 18 #[.slice a k cap, .slice ao n co] w fun e w' => e = .returned (.int .i64 (spanF (posA o) (lst gs))) ∧ Same w w' := by
  have hbd : ∀ j, j ≤ k → 0 ≤ spanF (posA o) ((lst gs).take j) ∧ spanF (posA o) ((lst gs).take j) ≤ 2496 := by
    intro j hj
    have := spanF_bd (f := posA o) (B := 39) ((lst gs).take j) (fun g hg => by have := ends40 ho (hgs g (List.mem_of_mem_take hg)); omega)
    have hl : ((lst gs).take j).length ≤ 64 := by simp; omega
    omega
  replace hgs := Lib.hid hgs; replace hG := Lib.hid hG; replace hO := Lib.hid hO; replace ho := Lib.hid ho; replace hbd := Lib.hid hbd
  go_enter Try.func18, Try.ntmps18
  go_wp2_with fail
  go_loopw [5, 6] (fun s i wr => ∃ j : Nat, i = .int .i64 j ∧ j ≤ k ∧ s = .int .i64 (spanF (posA o) ((lst gs).take j)) ∧ Same w wr) (fun _ i _ => k - (intOf i).toNat)
  case atStart => exact ⟨0, rfl, by omega, by simp [spanF], (by repeat (first | exact Fr.refl _ _ | apply Fr.alloc | apply Fr.drewN | apply Fr.drew | apply Fr.undrew | apply Fr.undrewN))⟩
  case round =>
    obtain ⟨j, rfl, hj, rfl, hs⟩ := hrel
    by_cases hlt : j < k
    · have hjl : j < gs.length := by rw [hG.out.len]; exact hlt
      obtain ⟨b, off, rfl, hbl, c0, hR⟩ := (hG.out.same hs).get hjl
      have hgj := hgs.out _ (List.getElem_mem (show j < (lst gs).length by rw [lst_len]; exact hjl))
      have hsp := spanF_succ (posA o) (show j < (lst gs).length by rw [lst_len]; exact hjl)
      have hb0 := hbd.out j (by omega)
      have hb1 := hbd.out (j + 1) (by omega)
      have he := ends40 ho.out hgj
      rw [lst_get gs hjl] at hgj hsp he
      generalize gs[j] = g at *
      obtain ⟨ga, gc, gl⟩ := g
      simp only at c0 hR hgj hsp he
      obtain ⟨p, hp⟩ : ∃ p, gl.length = p := ⟨_, rfl⟩
      rw [hp] at c0 hR
      have EN := lends_any ho.out hgj ga ao gc p co wr hp hR (hO.out.same hs)
      generalize loF (posA o) gl = lo at *
      generalize hiF (posA o) gl = hi at *
      have hsp' : spanF (posA o) (List.take (j + 1) (lst gs)) = spanF (posA o) (List.take j (lst gs)) + hi - lo := by omega
      rw [hsp] at hb1
      generalize spanF (posA o) (List.take j (lst gs)) = S at *
      replace hs := Lib.hid hs; replace hR := Lib.hid hR; replace hgj := Lib.hid hgj; replace hp := Lib.hid hp; replace EN := Lib.hid EN; replace hsp := Lib.hid hsp; replace hsp' := Lib.hid hsp'
      go_wp2_with fail
      refine EN.out.mono ?_
      rintro e w5 ⟨rfl, hs5⟩
      have hs6 := hs.out.same hs5
      replace hs5 := Lib.hid hs5; replace hs6 := Lib.hid hs6
      go_wp2_with fail
      go_roundw
      case rel => exact ⟨j + 1, by go_num, by omega, by rw [hsp'.out], hs6.out⟩
      case measure => simp [intOf]; omega
    · obtain rfl : j = k := by omega
      rw [show (lst gs).take j = lst gs by apply List.take_of_length_le; rw [lst_len, hG.out.len]; exact Nat.le_refl _]
      replace hs := Lib.hid hs
      go_wp2_with fail
      go_ret
      exact ⟨rfl, hs.out⟩
end Go.Proofs.Ytmmjijmmocabhaa
namespace Go.Proofs.Ytmmjijmmocabhaa
open Go.RowKit
set_option linter.unusedVariables false
set_option linter.unusedSimpArgs false

theorem mxF_nn (F : Nat → Int) : ∀ k, 0 ≤ mxF F k
  | 0 => Int.le_refl _
  | k + 1 => by have := mxF_nn F k; rw [mxF]; omega
theorem mxF_tail (F : Nat → Int) (k : Nat) : ∀ d, (∀ j, k ≤ j → j < k + d → F j = 0) → mxF F (k + d) = mxF F k
  | 0, _ => rfl
  | d + 1, h => by
    have h0 := mxF_nn F k
    rw [show k + (d + 1) = k + d + 1 by omega, mxF, mxF_tail F k d (fun j h1 h2 => h j h1 (by omega)), h (k + d) (by omega) (by omega)]
    omega
theorem mxF_bd (F : Nat → Int) (B : Int) (h0 : 0 ≤ B) (h : ∀ j, F j ≤ B) : ∀ k, mxF F k ≤ B
  | 0 => h0
  | k + 1 => by have := mxF_bd F B h0 h k; have := h k; rw [mxF]; omega
theorem ends_n {n : Nat} {o : List Int} (h : IsOrd n o) {g : List Int} (hg : IsGrp n g) : 0 ≤ loF (posA o) g ∧ hiF (posA o) g ≤ n - 1 := by
  have := ends_bd (f := posA o) (a := 0) (b := n - 1) hg.pos (fun x hx => by
    have hr := hg.range x hx
    have := atF_lt h (v := x.toNat) (by omega)
    unfold posA
    omega) g.length (Nat.le_refl _)
  rw [loK_end, hiK_end] at this
  omega
theorem cross_out {n : Nat} {o : List Int} (h : IsOrd n o) {gs : List (List Int)} (hgs : ∀ g ∈ gs, IsGrp n g) {j : Nat} (hj : j = 0 ∨ n ≤ j) : crossF (posA o) gs j = 0 := by
  unfold crossF
  have : (gs.filter fun g => decide (loF (posA o) g < (j : Int) ∧ (j : Int) ≤ hiF (posA o) g)) = [] := by
    rw [List.filter_eq_nil_iff]
    intro g hg
    have := ends_n h (hgs g hg)
    have hp := (hgs g hg).range
    simp only [decide_eq_true_eq]
    omega
  rw [this]
  rfl
theorem width_mx {n : Nat} {o : List Int} (h : IsOrd n o) {gs : List (List Int)} (hgs : ∀ g ∈ gs, IsGrp n g) {k : Nat} (hk : n ≤ k) (hk41 : k ≤ 41) : widthF (posA o) gs = mxF (crossF (posA o) gs) k := by
  unfold widthF
  have := mxF_tail (crossF (posA o) gs) k (41 - k) (fun j h1 _ => cross_out h hgs (.inr (by omega)))
  rw [← this]
  congr 1
  omega

set_option maxRecDepth 100000 in
set_option maxHeartbeats 4000000 in
theorem lwidth_any {n : Nat} {o : List Int} (ho : IsOrd n o) (gs : List Grp) (hgs : ∀ g ∈ lst gs, IsGrp n g) (a ao : Option Addr) (cap co k : Nat) (w : World) (hk : k ≤ 64) (hG : GsAt w (.slice a k cap) k gs) (hO : RowAt w (.slice ao n co) n (intCells o)) :
    Calls Try.prog 36 #[.slice a k cap, .slice ao n co] w fun e w' => e = .returned (.int .i64 (widthF (posA o) (lst gs))) ∧ Same w w' := by
  have h40 := ho.n40
  have hbd : ∀ i j, i ≤ k → 0 ≤ crossF (posA o) ((lst gs).take i) j ∧ crossF (posA o) ((lst gs).take i) j ≤ 64 := by
    intro i j hi
    have := crossF_bd (posA o) ((lst gs).take i) j
    have hl : ((lst gs).take i).length ≤ 64 := by simp; omega
    omega
  have hgl : (lst gs).take k = lst gs := by apply List.take_of_length_le; rw [lst_len, hG.len]; exact Nat.le_refl _
  have hmx := fun q => mxF_nn (crossF (posA o) (lst gs)) q
  have hmb := mxF_bd (crossF (posA o) (lst gs)) 64 (by omega) (fun j => by have := hbd k j (Nat.le_refl _); rw [hgl] at this; exact this.2)
  have hm1 : mxF (crossF (posA o) (lst gs)) 1 = 0 := by
    rw [mxF, mxF, cross_out ho hgs (.inl rfl)]; rfl
  have hms : ∀ q, mxF (crossF (posA o) (lst gs)) (q + 1) = max (mxF (crossF (posA o) (lst gs)) q) (crossF (posA o) (lst gs) q) := fun _ => rfl
  replace hgs := Lib.hid hgs; replace hG := Lib.hid hG; replace hO := Lib.hid hO; replace ho := Lib.hid ho; replace hbd := Lib.hid hbd; replace hgl := Lib.hid hgl; replace hmx := Lib.hid hmx; replace hmb := Lib.hid hmb; replace hm1 := Lib.hid hm1; replace hms := Lib.hid hms
  go_enter Try.func36, Try.ntmps36
  go_wp2_with fail
  go_loopw [5, 6] (fun s i wr => ∃ q : Nat, i = .int .i64 q ∧ 1 ≤ q ∧ (q ≤ n ∨ q = 1) ∧ s = .int .i64 (mxF (crossF (posA o) (lst gs)) q) ∧ Same w wr) (fun _ i _ => n - (intOf i).toNat)
  case atStart => exact ⟨1, rfl, by omega, .inr rfl, by rw [hm1.out], (by repeat (first | exact Fr.refl _ _ | apply Fr.alloc | apply Fr.drewN | apply Fr.drew | apply Fr.undrew | apply Fr.undrewN))⟩
  case round =>
    obtain ⟨q, rfl, hq1, hqn, rfl, hs⟩ := hrel
    by_cases hlt : q < n
    · obtain ⟨wo, rfl⟩ : ∃ wo, wo = wr := ⟨_, rfl⟩
      have hq41 : q ≤ 41 := by omega
      have hM0 := hmx.out q
      have hM1 := hmb.out q
      have hMs := hms.out q
      generalize mxF (crossF (posA o) (lst gs)) q = M at *
      replace hs := Lib.hid hs; replace hMs := Lib.hid hMs
      clear hqn
      go_wp2_with fail
      go_loopw [7, 8] (fun s i wr => ∃ j : Nat, i = .int .i64 j ∧ j ≤ k ∧ s = .int .i64 (crossF (posA o) ((lst gs).take j) q) ∧ Same w wr) (fun _ i _ => k - (intOf i).toNat)
      case atStart => exact ⟨0, rfl, by omega, by simp [crossF], hs.out.same (by repeat (first | exact Fr.refl _ _ | apply Fr.alloc | apply Fr.drewN | apply Fr.drew | apply Fr.undrew | apply Fr.undrewN))⟩
      case round =>
        obtain ⟨j, rfl, hj, rfl, hs2⟩ := hrel
        by_cases hjk : j < k
        · have hjl : j < gs.length := by rw [hG.out.len]; exact hjk
          obtain ⟨b, off, rfl, hbl, c0, hR⟩ := (hG.out.same hs2).get hjl
          have hgj := hgs.out _ (List.getElem_mem (show j < (lst gs).length by rw [lst_len]; exact hjl))
          have hsp := crossF_succ (posA o) (show j < (lst gs).length by rw [lst_len]; exact hjl) q
          have hb0 := hbd.out j q (by omega)
          rw [lst_get gs hjl] at hgj hsp
          generalize gs[j] = g at *
          obtain ⟨ga, gc, gl⟩ := g
          simp only at c0 hR hgj hsp
          obtain ⟨p, hp⟩ : ∃ p, gl.length = p := ⟨_, rfl⟩
          rw [hp] at c0 hR
          have EN := lends_any ho.out hgj ga ao gc p co wr hp hR (hO.out.same hs2)
          generalize loF (posA o) gl = lo at *
          generalize hiF (posA o) gl = hi at *
          generalize crossF (posA o) (List.take j (lst gs)) q = S at *
          obtain ⟨hS0, hS1⟩ := hb0
          replace hs2 := Lib.hid hs2; replace hR := Lib.hid hR; replace hgj := Lib.hid hgj; replace hp := Lib.hid hp; replace EN := Lib.hid EN
          go_wp2_with fail
          refine EN.out.mono ?_
          rintro e w5 ⟨rfl, hs5⟩
          have hs6 := hs2.out.same hs5
          replace hs5 := Lib.hid hs5; replace hs6 := Lib.hid hs6
          by_cases hc1 : lo < q
          · by_cases hc2 : (q : Int) ≤ hi
            · rw [if_pos ⟨hc1, hc2⟩] at hsp
              replace hsp := Lib.hid hsp
              go_wp2_with fail
              go_roundw
              case rel => exact ⟨j + 1, by go_num, by omega, by rw [hsp.out], hs6.out⟩
              case measure => simp [intOf]; omega
            · rw [if_neg (fun h => hc2 h.2), Int.add_zero] at hsp
              replace hsp := Lib.hid hsp
              go_wp2_with fail
              go_roundw
              case rel => exact ⟨j + 1, by go_num, by omega, by rw [hsp.out], hs6.out⟩
              case measure => simp [intOf]; omega
          · rw [if_neg (fun h => hc1 h.1), Int.add_zero] at hsp
            replace hsp := Lib.hid hsp
            go_wp2_with fail
            go_roundw
            case rel => exact ⟨j + 1, by go_num, by omega, by rw [hsp.out], hs6.out⟩
            case measure => simp [intOf]; omega
        · obtain rfl : j = k := by omega
          rw [hgl.out]
          generalize crossF (posA o) (lst gs) q = C at *
          replace hs2 := Lib.hid hs2
          go_wp2_with fail
          go_roundw
          case rel => exact ⟨q + 1, by go_num, by omega, by omega, by rw [hMs.out], hs2.out⟩
          case measure => simp [intOf]; omega
    · have hw := width_mx ho.out hgs.out (k := q) (by omega) (by omega)
      replace hs := Lib.hid hs; replace hw := Lib.hid hw
      go_wp2_with fail
      go_ret
      exact ⟨by rw [hw.out]; rfl, hs.out⟩
end Go.Proofs.Ytmmjijmmocabhaa
namespace Go.Proofs.Ytmmjijmmocabhaa
open Go.RowKit
set_option linter.unusedVariables false
set_option linter.unusedSimpArgs false

set_option maxRecDepth 100000 in
set_option maxHeartbeats 4000000 in
theorem lcheckGroups_any (gs : List Grp) (q : Int) (a : Option Addr) (cap k : Nat) (w : World) (hG : GsAt w (.slice a k cap) k gs) :
    Calls Try.prog 16 #[.slice a k cap, .int .i64 q] w fun e w' => e = .returned (.int .i64 (gsErr q (lst gs))) ∧ Same w w' := by
  obtain ⟨E, hE⟩ : ∃ E, E = gsErr q (lst gs) := ⟨_, rfl⟩
  rw [← hE]
  unfold gsErr at hE
  rw [lst_len, hG.len] at hE
  have hkm : k ≤ 9223372036854775807 := by
    obtain ⟨_, a', c', e, h1, h2, _⟩ := hG.1
    cases e; unfold maxLen at h2; omega
  by_cases h64 : 64 < k
  · rw [if_pos h64] at hE
    subst hE
    have h64' : (64 : Int) < k := by omega
    replace hG := Lib.hid hG
    go_enter Try.func16, Try.ntmps16
    go_wp2_with fail
    go_ret
    exact ⟨rfl, (by repeat (first | exact Fr.refl _ _ | apply Fr.alloc | apply Fr.drewN | apply Fr.drew | apply Fr.undrew | apply Fr.undrewN))⟩
  · rw [if_neg h64] at hE
    have h64' : ¬ (64 : Int) < k := by omega
    replace hG := Lib.hid hG; replace hE := Lib.hid hE
    go_enter Try.func16, Try.ntmps16
    go_wp2_with fail
    go_loopw [5] (fun i wr => ∃ j : Nat, i = .int .i64 j ∧ j ≤ k ∧ E = gErr q ((lst gs).drop j) ∧ Same w wr) (fun i _ => k - (intOf i).toNat)
    case atStart => exact ⟨0, rfl, by omega, hE.out, (by repeat (first | exact Fr.refl _ _ | apply Fr.alloc | apply Fr.drewN | apply Fr.drew | apply Fr.undrew | apply Fr.undrewN))⟩
    case round =>
      obtain ⟨j, rfl, hj, hEj, hsr⟩ := hrel
      by_cases hlt : j < k
      · have hjl : j < gs.length := by rw [hG.out.len]; exact hlt
        obtain ⟨b, off, rfl, hbl, c0, hR⟩ := (hG.out.same hsr).get hjl
        rw [gErr_drop _ (by rw [lst_len]; exact hjl), lst_get gs hjl] at hEj
        generalize gs[j] = g at *
        obtain ⟨ga, gc, gl⟩ := g
        simp only at c0 hR hEj
        have CS := fun (h8 : gl.length ≤ 1000) => checkSet_any q gl ga gc wr h8 hR
        obtain ⟨p, hp⟩ : ∃ p, gl.length = p := ⟨_, rfl⟩
        rw [hp] at c0 hR hEj CS
        have hpm : p ≤ 9223372036854775807 := by
          obtain ⟨_, a', c', e, h1, h2, _⟩ := hR
          cases e; unfold maxLen at h2; omega
        by_cases h1 : p = 0
        · rw [if_pos h1] at hEj
          subst h1
          subst hEj
          replace hR := Lib.hid hR; replace hsr := Lib.hid hsr; replace CS := Lib.hid CS; replace hp := Lib.hid hp
          go_wp2_with fail
          go_ret
          exact ⟨rfl, hsr.out⟩
        · rw [if_neg h1] at hEj
          have hb1 : ((p : Int) == 0) = false := by simp; omega
          by_cases h2 : 8 < p
          · rw [if_pos h2] at hEj
            subst hEj
            have h2' : (8 : Int) < p := by omega
            replace hR := Lib.hid hR; replace hsr := Lib.hid hsr; replace CS := Lib.hid CS; replace hp := Lib.hid hp; replace h1 := Lib.hid h1
            go_wp2_with fail
            go_ret
            exact ⟨rfl, hsr.out⟩
          · rw [if_neg h2] at hEj
            have h2' : ¬ (8 : Int) < p := by omega
            have CS' := CS (by omega)
            obtain ⟨s, hse⟩ : ∃ s, s = renErr q gl p 0 := ⟨_, rfl⟩
            rw [← hse] at CS' hEj
            by_cases h3 : s = 0
            · rw [if_neg (by omega)] at hEj
              have hb3 : (s != 0) = false := by simpa using h3
              clear h3
              replace hR := Lib.hid hR; replace hsr := Lib.hid hsr; replace CS := Lib.hid CS; replace hp := Lib.hid hp; replace h1 := Lib.hid h1; replace hEj := Lib.hid hEj; replace hse := Lib.hid hse; replace CS' := Lib.hid CS'
              go_wp2_with fail
              refine CS'.out.mono ?_
              rintro e w2 ⟨rfl, rfl⟩
              go_wp2_with fail
              go_roundw
              case rel => exact ⟨j + 1, by go_num, by omega, hEj.out, hsr.out⟩
              case measure => simp [intOf]; omega
            · rw [if_pos h3] at hEj
              subst hEj
              have hb3 : (E != 0) = true := by simpa using h3
              replace hR := Lib.hid hR; replace hsr := Lib.hid hsr; replace CS := Lib.hid CS; replace hp := Lib.hid hp; replace h1 := Lib.hid h1; replace hse := Lib.hid hse; replace CS' := Lib.hid CS'; replace h3 := Lib.hid h3
              go_wp2_with fail
              refine CS'.out.mono ?_
              rintro e w2 ⟨rfl, rfl⟩
              go_wp2_with fail
              go_ret
              exact ⟨rfl, hsr.out⟩
      · have e0 : (lst gs).drop j = [] := by apply List.drop_eq_nil_of_le; rw [lst_len, hG.out.len]; omega
        rw [e0, gErr] at hEj
        subst hEj
        replace hsr := Lib.hid hsr; replace e0 := Lib.hid e0
        go_wp2_with fail
        go_ret
        exact ⟨rfl, hsr.out⟩

/-! ### few -/
def fewF (gs : List Grp) : Bool := (gs.take 9).all (fun g => decide (g.l.length ≤ 9)) && decide (gs.length ≤ 8)
theorem few_yes {gs : List Grp} (h : fewF gs = true) : gs.length ≤ 8 ∧ ∀ g ∈ gs, g.l.length ≤ 9 := by
  unfold fewF at h
  rw [Bool.and_eq_true, decide_eq_true_eq, List.all_eq_true] at h
  rw [List.take_of_length_le (by omega)] at h
  exact ⟨h.2, fun g hg => by simpa using h.1 g hg⟩
set_option maxRecDepth 100000 in
set_option maxHeartbeats 2000000 in
theorem few_any (gs : List Grp) (a : Option Addr) (cap k : Nat) (w : World) (hG : GsAt w (.slice a k cap) k gs) :
    Calls Try.prog 13 #[.slice a k cap] w fun e w' => e = .returned (.bool (fewF gs)) ∧ Same w w' := by
  obtain ⟨R, hR⟩ : ∃ R, R = fewF gs := ⟨_, rfl⟩
  rw [← hR]
  have hkm : k ≤ 9223372036854775807 := by
    obtain ⟨_, a', c', e, h1, h2, _⟩ := hG.1
    cases e; unfold maxLen at h2; omega
  have hl := hG.len
  unfold fewF at hR
  rw [hl] at hR
  replace hG := Lib.hid hG; replace hR := Lib.hid hR; replace hl := Lib.hid hl
  go_enter Try.func13, Try.ntmps13
  go_wp2_with fail
  go_loopw [3] (fun i wr => ∃ j : Nat, i = .int .i64 j ∧ j ≤ k ∧ j ≤ 9 ∧ (gs.take j).all (fun g => decide (g.l.length ≤ 9)) = true ∧ Same w wr) (fun i _ => k - (intOf i).toNat)
  case atStart => exact ⟨0, rfl, by omega, by omega, by simp, (by repeat (first | exact Fr.refl _ _ | apply Fr.alloc | apply Fr.drewN | apply Fr.drew | apply Fr.undrew | apply Fr.undrewN))⟩
  case round =>
    obtain ⟨j, rfl, hj, hj9, hall, hs⟩ := hrel
    by_cases hlt : j < k
    · by_cases h9 : j < 9
      · have hjl : j < gs.length := by rw [hl.out]; exact hlt
        obtain ⟨b, off, rfl, hbl, c0, hR'⟩ := (hG.out.same hs).get hjl
        have hst := List.take_succ_eq_append_getElem hjl
        have hpm : gs[j].l.length ≤ 9223372036854775807 := by
          obtain ⟨_, a', c', e, h1, h2, _⟩ := hR'
          cases e; unfold maxLen at h2; omega
        obtain ⟨p, hp⟩ : ∃ p, gs[j].l.length = p := ⟨_, rfl⟩
        rw [hp] at c0 hpm
        by_cases hp9 : 9 < p
        · have hRf : R = false := by
            rw [hR.out]
            have : (gs.take 9).all (fun g => decide (g.l.length ≤ 9)) = false := by
              rw [List.all_eq_false]
              exact ⟨gs[j], by rw [List.mem_take_iff_getElem]; exact ⟨j, by omega, rfl⟩, by simp; omega⟩
            rw [this]; rfl
          have hp' : (9 : Int) < p := by omega
          generalize gs[j] = g at *
          replace hs := Lib.hid hs; replace hall := Lib.hid hall; replace hst := Lib.hid hst; replace hR' := Lib.hid hR'; replace hRf := Lib.hid hRf; replace hp := Lib.hid hp
          go_wp2_with fail
          go_ret
          exact ⟨by rw [hRf.out]; rfl, hs.out⟩
        · have hp' : ¬ (9 : Int) < p := by omega
          have hall2 : (gs.take (j + 1)).all (fun g => decide (g.l.length ≤ 9)) = true := by rw [hst, List.all_append, hall]; simp; omega
          generalize gs[j] = g at *
          replace hs := Lib.hid hs; replace hall := Lib.hid hall; replace hst := Lib.hid hst; replace hR' := Lib.hid hR'; replace hp := Lib.hid hp; replace hall2 := Lib.hid hall2
          go_wp2_with fail
          go_roundw
          case rel => exact ⟨j + 1, by go_num, by omega, by omega, hall2.out, hs.out⟩
          case measure => simp [intOf]; omega
      · obtain rfl : j = 9 := by omega
        have hRf : R = false := by rw [hR.out, show decide (k ≤ 8) = false by simp; omega, Bool.and_false]
        have hk8 : ¬ (k : Int) ≤ 8 := by omega
        replace hs := Lib.hid hs; replace hall := Lib.hid hall; replace hRf := Lib.hid hRf
        go_wp2_with fail
        go_ret
        exact ⟨by rw [hRf.out]; rfl, hs.out⟩
    · obtain rfl : j = k := by omega
      have hRv : R = decide ((j : Int) ≤ 8) := by
        rw [List.take_of_length_le (by rw [hl.out]; exact Nat.le_refl _)] at hall
        rw [hR.out, List.take_of_length_le (by rw [hl.out]; omega), hall, Bool.true_and]
        simp; omega
      replace hs := Lib.hid hs; replace hall := Lib.hid hall; replace hRv := Lib.hid hRv
      go_wp2_with fail
      go_ret
      exact ⟨by rw [hRv.out]; rfl, hs.out⟩
end Go.Proofs.Ytmmjijmmocabhaa
