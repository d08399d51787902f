/- The law's orders: all orders, level by level. -/
import Derived.Test.YtmmjijmmocabhaaJPerQ
import Derived.Test.YtmmjijmmocabhaaJGrpV
namespace Go.Proofs.Ytmmjijmmocabhaa
open Go.RowKit
set_option linter.unusedVariables false
set_option linter.unusedSimpArgs false

/-- A row of rows of the call's own. -/
structure OG (base : Nat) (w : World) (a : Option Addr) (k c : Nat) (gs : List Grp) : Prop where
  len : gs.length = k
  own : w.ownsRow base 23 1 (.slice a k c) k (gs.map Grp.v)
  el : ∀ g ∈ gs, SliceAt w 3 1 g.v g.l.length (intCells g.l)
theorem OG.same {base : Nat} {w w' : World} {a : Option Addr} {k c : Nat} {gs : List Grp} (h : OG base w a k c gs) (hs : Same w w') : OG base w' a k c gs := ⟨h.len, owns_same h.own hs, fun g hg => (h.el g hg).same hs⟩
theorem Grp.row {w : World} {g : Grp} (h : SliceAt w 3 1 g.v g.l.length (intCells g.l)) : RowAt w g.v g.l.length (intCells g.l) := h.row
theorem OG.gs {base : Nat} {w : World} {a : Option Addr} {k c : Nat} {gs : List Grp} (h : OG base w a k c gs) : GsAt w (.slice a k c) k gs := ⟨(SliceAt.of_owns h.own).row, fun g hg => Grp.row (h.el g hg)⟩
theorem OG.nil (base : Nat) (w : World) : OG base w none 0 0 [] := ⟨rfl, World.ownsRow_nil _ _ _ _, by simp⟩
theorem OG.push {base : Nat} {w W w' : World} {a a' : Option Addr} {k c c' : Nat} {gs : List Grp} {g : Grp} (h : OG base w a k c gs) (hs : Same w W) (hg : SliceAt W 3 1 g.v g.l.length (intCells g.l))
    (ho : w'.ownsRow base 23 1 (.slice a' (k + 1) c') (k + 1) (gs.map Grp.v ++ [g.v])) (hG : Grew (fun _ => False) W w' (.slice a k c) (.slice a' (k + 1) c')) : OG base w' a' (k + 1) c' (gs ++ [g]) := by
  have h2 := h.same hs
  have key : ∀ x : Grp, SliceAt W 3 1 x.v x.l.length (intCells x.l) → SliceAt w' 3 1 x.v x.l.length (intCells x.l) := fun x hx => hx.fr hG.1 (fun k cur hk hS => by
    rcases hS with hS | hS
    · obtain ⟨cur', e⟩ := own_block h2.own hS
      rw [e] at hk
      simp at hk
    · exact hS)
  refine ⟨by simp [h.len], by simpa using ho, fun x hx => ?_⟩
  rcases List.mem_append.1 hx with hx | hx
  · exact key x (h2.el x hx)
  · simp at hx; subst hx; exact key x hg

theorem owns_base {w : World} {base base' : Nat} {T : TypeId} {sz : Nat} {v : Value} {n : Nat} {xs : List Value} (h : w.ownsRow base' T sz v n xs) (hb : base ≤ base') : w.ownsRow base T sz v n xs :=
  ⟨h.1, h.2.imp id (fun ⟨g, cap, cur, e, hb', rest⟩ => ⟨g, cap, cur, e, Nat.le_trans hb hb', rest⟩)⟩

/-! ### the orders that one order gives -/
def stepF (n : Nat) (l : List Int) (v : Nat) : List (List Int) := (List.range v).flatMap fun (v : Nat) => if (v : Int) ∈ l then [] else [l ++ [(v : Int)]]
theorem stepF_succ (n : Nat) (l : List Int) (v : Nat) : stepF n l (v + 1) = stepF n l v ++ if (v : Int) ∈ l then [] else [l ++ [(v : Int)]] := by
  unfold stepF; rw [List.range_succ, List.flatMap_append]; simp
theorem stepF_len (n : Nat) (l : List Int) : ∀ v, (stepF n l v).length ≤ v
  | 0 => by simp [stepF]
  | v + 1 => by
    have := stepF_len n l v
    rw [stepF_succ, List.length_append]
    split <;> simp <;> omega
theorem levF_step (n i : Nat) : levF n (i + 1) = (levF n i).flatMap fun l => stepF n l n := rfl
theorem flat_take (n : Nat) {L : List (List Int)} {j : Nat} (h : j < L.length) : (L.take (j + 1)).flatMap (fun l => stepF n l n) = (L.take j).flatMap (fun l => stepF n l n) ++ stepF n L[j] n := by
  rw [List.take_succ_eq_append_getElem h, List.flatMap_append]; simp
theorem flat_len (n : Nat) (L : List (List Int)) : (L.flatMap fun l => stepF n l n).length ≤ L.length * n := by
  induction L with
  | nil => simp
  | cons x L ih =>
    have := stepF_len n x n
    simp only [List.flatMap_cons, List.length_append, List.length_cons, Nat.add_mul]
    omega
theorem levF_len (n : Nat) : ∀ i, (levF n i).length ≤ n ^ i
  | 0 => by simp [levF]
  | i + 1 => by
    have h1 := flat_len n (levF n i)
    have h2 := Nat.mul_le_mul_right n (levF_len n i)
    rw [levF_step, Nat.pow_succ]
    omega
theorem levF_3125 {n i : Nat} (hn : n ≤ 5) (hi : i ≤ n) : (levF n i).length ≤ 3125 := by
  have h1 := levF_len n i
  have h2 : n ^ i ≤ 5 ^ 5 := Nat.le_trans (Nat.pow_le_pow_left hn i) (Nat.pow_le_pow_right (by omega) (by omega))
  omega

theorem info_ii : (Try.prog.info? 23).map (fun i => (i.zero, i.size, i.bytes)) = some (some (.slice none 0 0), 1, 24) := by kernel_rfl
/-- append of a row that is only read, wherever it lies. -/
theorem wpList_appendR {P : Program} {w : World} {ops : Array Oper} {rest : List Oper} {o : Oper} {a : Act} {Q : Exit → Act → World → Prop} (hgd : o.guard = none) (s x : Operand) (t : TypeId)
    (ho : o.op = .call { callee := .builtin .append, args := #[s, x], argTypes := #[t, t] })
    (base : Nat) (e : TypeId) (i : TypeInfo) (z : Value) (bytes : Nat) (ht : P.underlying t = some (.slice e)) (hi : P.info? e = some i) (hz : i.zero = some z)
    (hsize : i.size = 1) (hby : i.bytes = bytes) (hzs : z.cells.size = 1) (hb : bytes ≤ 1000)
    (v : Value) (n : Nat) (xs : List Value) (hs : a.eval s = v) (hown : w.ownsRow base e 1 v n xs)
    (ga : Option Addr) (m c : Nat) (news : List Value) (hx : a.eval x = .slice ga m c) (hR : RowAt w (.slice ga m c) m news) (h1 : ∀ u ∈ news, u.oneCell' = true) (h63 : n + m ≤ 1000000000) (hbase : base ≤ w.heap.size)
    (h : ∀ a' cap' w', w'.ownsRow base e 1 (.slice a' (n + m) cap') (n + m) (xs ++ news) → Grew (fun _ => False) w w' v (.slice a' (n + m) cap') → wpList P ops Q rest (a.put o.dst (.slice a' (n + m) cap')) w') :
    wpList P ops Q (o :: rest) a w := by
  cases ga with
  | some ad =>
    refine wpList_appendN hgd s x t ho base e i z 1 bytes ht hi hz hsize hby hzs (by decide) hb v n xs hs hown ad m c news hx (by rw [hR.1, Nat.mul_one]) (fun j u hu => ?_) h1 h63 hbase h
    have hj : j < m := by
      have := (List.getElem?_eq_some_iff.1 hu).1
      rw [hR.1] at this; exact this
    obtain ⟨b, off, e', _, hc⟩ := hR.cell (by omega)
    cases e'
    rw [Addr.add_lit]
    exact hc j u hu
  | none =>
    have hm : m = 0 := by
      rcases Nat.eq_zero_or_pos m with h0 | h0
      · exact h0
      · obtain ⟨b, off, e', _⟩ := hR.cell h0
        cases e'
    subst hm
    have hc : c = 0 := by
      obtain ⟨_, a', cap', e', _, _, h3, _⟩ := hR
      cases e'
      exact h3 rfl
    subst hc
    obtain rfl : news = [] := List.length_eq_zero_iff.1 hR.1
    obtain ⟨a', cap', rfl⟩ : ∃ a' cap', v = .slice a' n cap' := by
      rcases hown.2 with ⟨rfl, hz⟩ | ⟨g, cap, cur, rfl, _⟩
      · exact ⟨none, 0, by rw [hz]⟩
      · exact ⟨_, _, rfl⟩
    have hr := run_append_owned_none (P := P) (w := w) base t o.type e i 1 ht hi _ n xs hown
    refine wpList_plain hgd fun K hK => ?_
    unfold Oper.wp execOp
    simp only [ho, resolve, invoke, builtin, Sem.run_bind, Sem.run_pure, Result.andThen_ok, List.map_toArray, List.map_cons, List.map_nil, hs, hx, hr]
    exact hK _ _ (h a' cap' w (by rw [List.append_nil]; exact hown) (Grew.refl _ _ _))

set_option maxRecDepth 100000 in
set_option maxHeartbeats 8000000 in
theorem lorders_any {n : Nat} (hn : n ≤ 5) (w : World) :
    Calls Try.prog 42 #[.int .i64 n] w fun e w' => ∃ a k c gs, e = .returned (.slice a k c) ∧ GsAt w' (.slice a k c) k gs ∧ lst gs = ordsF n ∧ k ≤ 3125 ∧ Same w w' := by
  obtain ⟨i3, hi3, hi3z, hi3s, hi3b⟩ := info_parts info3
  obtain ⟨j3, hj3, hj3z, hj3s, hj3b⟩ := info_parts info_ii
  have hL := lev_ords n
  go_enter Try.func42, Try.ntmps42
  replace hL := Lib.hid hL
  go_wp2_with fail
  have h1 : (w.alloc (.cells #[.slice none 0 0] 23)).ownsRow w.heap.size 23 1 (.slice (some ⟨w.heap.size, 0, none⟩) 1 1) 1 [.slice none 0 0] := own_of_block (heap_new _ _) (Nat.le_refl _) rfl rfl (by unfold maxLen; omega)
  go_loopw [3, 4] (fun v3 v4 wr => ∃ (i k c : Nat) (a : Option Addr) (gs : List Grp), v4 = .int .i64 i ∧ i ≤ n ∧ v3 = .slice a k c ∧ OG w.heap.size wr a k c gs ∧ lst gs = levF n i ∧ Same w wr) (fun _ i _ => n - (intOf i).toNat)
  case atStart => exact ⟨0, 1, 1, _, [⟨none, 0, []⟩], rfl, by omega, rfl, ⟨rfl, h1, fun g hg => by simp at hg; subst hg; exact SliceAt.nil _ _ _⟩, rfl, (by repeat (first | exact Fr.refl _ _ | apply Fr.alloc | apply Fr.drewN | apply Fr.drew | apply Fr.undrew | apply Fr.undrewN))⟩
  case round =>
    clear h1
    obtain ⟨i, k, c, a, gs, rfl, hi, rfl, hG, hlv, hs⟩ := hrel
    have hk3 : k ≤ 3125 := by
      have h1 := levF_3125 hn hi
      rw [← hlv, lst_len, hG.len] at h1
      exact h1
    have hwo := hs.size
    by_cases hlt : i < n
    · obtain ⟨wo, rfl⟩ : ∃ wo, wo = wr := ⟨_, rfl⟩
      have hLs := levF_step n i
      have hgl : (lst gs).length = k := by rw [lst_len, hG.len]
      rw [← hlv] at hLs
      replace hG := Lib.hid hG; replace hlv := Lib.hid hlv; replace hs := Lib.hid hs; replace hLs := Lib.hid hLs; replace hgl := Lib.hid hgl
      go_wp2_with fail
      go_loopw [5, 20] (fun v5 v20 wr => ∃ (j k2 c2 : Nat) (a2 : Option Addr) (hs2 : List Grp), v20 = .int .i64 j ∧ j ≤ k ∧ v5 = .slice a2 k2 c2 ∧ OG wo.heap.size wr a2 k2 c2 hs2 ∧ lst hs2 = ((lst gs).take j).flatMap (fun l => stepF n l n) ∧ Same wo wr) (fun _ j _ => k - (intOf j).toNat)
      case atStart => exact ⟨0, 0, 0, none, [], rfl, by omega, rfl, OG.nil _ _, by simp [lst], (by repeat (first | exact Fr.refl _ _ | apply Fr.alloc | apply Fr.drewN | apply Fr.drew | apply Fr.undrew | apply Fr.undrewN))⟩
      case round =>
        obtain ⟨j, k2, c2, a2, gs2, rfl, hj, rfl, hG2, hl2, hs2⟩ := hrel
        have hwm := hs2.size
        by_cases hjk : j < k
        · obtain ⟨wm, rfl⟩ : ∃ wm, wm = wr := ⟨_, rfl⟩
          have hjl : j < gs.length := by rw [hG.out.len]; exact hjk
          have hjl2 : j < (lst gs).length := by rw [hgl.out]; exact hjk
          have hRo : RowAt wo (.slice gs[j].a gs[j].l.length gs[j].cap) gs[j].l.length (intCells gs[j].l) := hG.out.gs.2 _ (List.getElem_mem hjl)
          obtain ⟨b, off, rfl, hbl, c0, hR⟩ := (hG.out.gs.same hs2).get hjl
          have hft := flat_take n hjl2
          rw [lst_get gs hjl] at hft
          have hk2 : k2 ≤ 15625 := by
            have h1 := flat_len n ((lst gs).take j)
            rw [← hl2, lst_len, hG2.len, List.length_take] at h1
            have h2 : min j (lst gs).length * n ≤ 3125 * 5 := Nat.mul_le_mul (by omega) hn
            omega
          have hmem : gs[j].l ∈ levF n i := by
            rw [← hlv.out, ← lst_get gs hjl]; exact List.getElem_mem _
          have hll := lev_len n i _ hmem
          clear hmem
          generalize gs[j] = g at *
          obtain ⟨ga, gc, gl⟩ := g
          simp only at c0 hR hft hll hRo
          obtain ⟨p, hp⟩ : ∃ p, gl.length = p := ⟨_, rfl⟩
          rw [hp] at c0 hR hRo
          have hpm : p ≤ 5 := by omega
          clear hll
          replace hG2 := Lib.hid hG2; replace hl2 := Lib.hid hl2; replace hs2 := Lib.hid hs2; replace hft := Lib.hid hft; replace hp := Lib.hid hp; replace hR := Lib.hid hR; replace hRo := Lib.hid hRo
          go_wp2_with fail
          go_loopw [5, 8] (fun v5 v8 wr => ∃ (v k3 c3 : Nat) (a3 : Option Addr) (gs3 : List Grp), v8 = .int .i64 v ∧ v ≤ n ∧ v5 = .slice a3 k3 c3 ∧ OG wo.heap.size wr a3 k3 c3 gs3 ∧ lst gs3 = ((lst gs).take j).flatMap (fun l => stepF n l n) ++ stepF n gl v ∧ k3 ≤ 15625 + v ∧ Same wo wr) (fun _ v _ => n - (intOf v).toNat)
          case atStart => exact ⟨0, k2, c2, a2, gs2, rfl, by omega, rfl, hG2.out, by rw [hl2.out]; simp [stepF], by omega, hs2.out⟩
          case round =>
            clear c0
            obtain ⟨v, k3, c3, a3, gs3, rfl, hv, rfl, hG3, hl3, hk3', hs3⟩ := hrel
            have hR3 := hRo.out.same hs3
            have hwv := hs3.size
            by_cases hvn : v < n
            · obtain ⟨wv, rfl⟩ : ∃ wv, wv = wr := ⟨_, rfl⟩
              have hss := stepF_succ n gl v
              replace hG3 := Lib.hid hG3; replace hl3 := Lib.hid hl3; replace hs3 := Lib.hid hs3; replace hR3 := Lib.hid hR3; replace hss := Lib.hid hss
              go_wp2_with fail
              go_loopw [9, 31] (fun v9 v31 wr => ∃ q : Nat, v31 = .int .i64 q ∧ q ≤ p ∧ v9 = .bool (decide ((v : Int) ∈ gl.take q)) ∧ Same wv wr) (fun _ q _ => p - (intOf q).toNat)
              case atStart => exact ⟨0, rfl, by omega, by simp, (by repeat (first | exact Fr.refl _ _ | apply Fr.alloc | apply Fr.drewN | apply Fr.drew | apply Fr.undrew | apply Fr.undrewN))⟩
              case round =>
                obtain ⟨q, rfl, hq, rfl, hs4⟩ := hrel
                by_cases hqp : q < p
                · have hql : q < gl.length := by rw [hp.out]; exact hqp
                  obtain ⟨b3, off3, rfl, hb3, c3⟩ := int_cell (hR3.out.same hs4) (k := q) hql hp.out
                  have hst := List.take_succ_eq_append_getElem hql
                  generalize gl[q] = y at *
                  have hin : decide ((v : Int) ∈ gl.take (q + 1)) = (decide ((v : Int) ∈ gl.take q) || (y == (v : Int))) := by
                    rw [hst]
                    by_cases e : y = (v : Int)
                    · subst e; simp
                    · simp [e, Ne.symm e]
                  generalize hbb : decide ((v : Int) ∈ gl.take q) = bb at *
                  replace hs4 := Lib.hid hs4; replace hst := Lib.hid hst; replace hin := Lib.hid hin; replace hbb := Lib.hid hbb
                  cases bb
                  · go_wp2_with fail
                    go_roundw
                    case rel => exact ⟨q + 1, by go_num, by omega, by rw [hin.out]; rfl, hs4.out⟩
                    case measure => simp [intOf]; omega
                  · go_wp2_with fail
                    go_roundw
                    case rel => exact ⟨q + 1, by go_num, by omega, by rw [hin.out]; rfl, hs4.out⟩
                    case measure => simp [intOf]; omega
                · obtain rfl : q = p := by omega
                  rw [List.take_of_length_le (by rw [hp.out]; exact Nat.le_refl _)]
                  have hss2 := hss.out
                  by_cases hin : (v : Int) ∈ gl
                  · have hd : decide ((v : Int) ∈ gl) = true := by simpa using hin
                    rw [if_pos hin, List.append_nil] at hss2
                    replace hs4 := Lib.hid hs4; replace hin := Lib.hid hin; replace hss2 := Lib.hid hss2
                    go_wp2_with fail
                    go_roundw
                    case rel => exact ⟨v + 1, k3, c3, a3, gs3, by go_num, by omega, rfl, hG3.out.same hs4.out, by rw [hl3.out, hss2.out], by omega, hs3.out.same hs4.out⟩
                    case measure => simp [intOf]; omega
                  · have hd : decide ((v : Int) ∈ gl) = false := by simpa using hin
                    rw [if_neg hin] at hss2
                    have hRq := hR3.out.same hs4
                    have hb3 : wo.heap.size ≤ wr.heap.size := by have := hs4.size; have := hs3.out.size; omega
                    replace hs4 := Lib.hid hs4; replace hin := Lib.hid hin; replace hss2 := Lib.hid hss2; replace hRq := Lib.hid hRq
                    go_wp2_with (first
                      | (at_builtin; refine wpList_appendR rfl (.tmp 45) (.tmp 46) 23 rfl wr.heap.size 3 i3 (.int .i64 0) 8 Try.underlying23 hi3 hi3z hi3s hi3b rfl (by decide) (.slice (some ⟨wr.heap.size, 0, none⟩) 0 0) 0 [] rfl (own_of_block (heap_new _ _) (Nat.le_refl _) rfl rfl (by unfold maxLen; omega)) ga q gc (intCells gl) rfl (hRq.out.same (by repeat (first | exact Fr.refl _ _ | apply Fr.alloc | apply Fr.drewN | apply Fr.drew | apply Fr.undrew | apply Fr.undrewN))) (by intro u hu; obtain ⟨x, _, rfl⟩ := List.mem_map.1 hu; rfl) (by omega) (by simp) ?_; intro a4 c4 w4 ho4 hG4; simp only [Nat.zero_add, List.nil_append] at ho4 hG4 ⊢; have hs5 : Same wr w4 := grew_fresh (W := wr.alloc (.cells #[] 3)) (by repeat (first | exact Fr.refl _ _ | apply Fr.alloc | apply Fr.drewN | apply Fr.drew | apply Fr.undrew | apply Fr.undrewN)) hG4 (fun k hk => by simp only [Value.ownBlock, Option.some.injEq] at hk; omega); replace ho4 := Lib.hid ho4; replace hs5 := Lib.hid hs5; clear hG4)
                      | (at_builtin; refine wpList_append1 rfl (.tmp 47) (.tmp 49) 23 rfl wr.heap.size 3 i3 (.int .i64 0) 1 8 Try.underlying23 hi3 hi3z hi3s hi3b rfl (by decide) (by decide) a4 q c4 (intCells gl) rfl (owns_same ho4.out (by repeat (first | exact Fr.refl _ _ | apply Fr.alloc | apply Fr.drewN | apply Fr.drew | apply Fr.undrew | apply Fr.undrewN))) (by omega) w4.heap.size [.int .i64 v] rfl rfl (heap_new _ _) (by simp [Value.oneCell']) (by have := hs5.out.size; simp; omega) ?_; intro a5 c5 w5 ho5 hG5; have hs6 : Same wr w5 := grew_fresh (hs5.out.same (by repeat (first | exact Fr.refl _ _ | apply Fr.alloc | apply Fr.drewN | apply Fr.drew | apply Fr.undrew | apply Fr.undrewN))) hG5 (fun k hk => (ho4.out.lt k hk).1); replace ho5 := Lib.hid ho5; replace hs6 := Lib.hid hs6; clear hG5)
                      | (at_builtin; refine wpList_append1 rfl (.tmp 44) (.tmp 51) 22 rfl wo.heap.size 23 j3 (.slice none 0 0) 1 24 Try.underlying22 hj3 hj3z hj3s hj3b rfl (by decide) (by decide) a3 k3 c3 (gs3.map Grp.v) rfl (owns_same hG3.out.own ((hs4.out.same hs6.out).same (by repeat (first | exact Fr.refl _ _ | apply Fr.alloc | apply Fr.drewN | apply Fr.drew | apply Fr.undrew | apply Fr.undrewN)))) (by omega) w5.heap.size [.slice a5 (q + 1) c5] rfl rfl (heap_new _ _) (by simp [Value.oneCell']) (by have := hs6.out.size; simp; omega) ?_; intro a6 c6 w6 ho6 hG6; replace ho6 := Lib.hid ho6; replace hG6 := Lib.hid hG6))
                    have hg6 : SliceAt (w5.alloc (.cells #[.slice a5 (q + 1) c5] 23)) 3 1 (Grp.v ⟨a5, c5, gl ++ [(v : Int)]⟩) (gl ++ [(v : Int)]).length (intCells (gl ++ [(v : Int)])) := by
                      have := (SliceAt.of_owns ho5.out).same (show Same w5 (w5.alloc (.cells #[.slice a5 (q + 1) c5] 23)) from (by repeat (first | exact Fr.refl _ _ | apply Fr.alloc | apply Fr.drewN | apply Fr.drew | apply Fr.undrew | apply Fr.undrewN)))
                      unfold Grp.v
                      simp only [List.length_append, List.length_singleton, hp.out]
                      simpa [intCells] using this
                    have hv6 : Grp.v ⟨a5, c5, gl ++ [(v : Int)]⟩ = .slice a5 (q + 1) c5 := by unfold Grp.v; simp [hp.out]
                    have hWs : Same wv (w5.alloc (.cells #[.slice a5 (q + 1) c5] 23)) := (hs4.out.same hs6.out).alloc _
                    have hG7 := OG.push (g := ⟨a5, c5, gl ++ [(v : Int)]⟩) hG3.out hWs hg6 (by rw [hv6]; exact ho6.out) hG6.out
                    have hs7 : Same wo w6 := grew_fresh (hs3.out.same hWs) hG6.out (fun k hk => (hG3.out.own.lt k hk).1)
                    replace hG7 := Lib.hid hG7; replace hs7 := Lib.hid hs7
                    clear ho4 ho5 ho6 hG6 hs5 hs6 hg6 hv6 hWs
                    go_roundw
                    case rel => exact ⟨v + 1, k3 + 1, c6, a6, _, by go_num, by omega, rfl, hG7.out, by rw [lst, List.map_append, ← lst, hl3.out, hss2.out, List.append_assoc]; rfl, by omega, hs7.out⟩
                    case measure => simp [intOf]; omega
            · obtain rfl : v = n := by omega
              replace hG3 := Lib.hid hG3; replace hl3 := Lib.hid hl3; replace hs3 := Lib.hid hs3; replace hR3 := Lib.hid hR3
              go_wp2_with fail
              go_roundw
              case rel => exact ⟨j + 1, k3, c3, a3, gs3, by go_num, by omega, rfl, hG3.out, by rw [hl3.out, hft.out], hs3.out⟩
              case measure => simp [intOf]; omega
        · obtain rfl : j = k := by omega
          rw [List.take_of_length_le (by rw [hgl.out]; exact Nat.le_refl _)] at hl2
          replace hG2 := Lib.hid hG2; replace hl2 := Lib.hid hl2; replace hs2 := Lib.hid hs2
          go_wp2_with fail
          go_roundw
          case rel => exact ⟨i + 1, k2, c2, a2, gs2, by go_num, by omega, rfl, ⟨hG2.out.len, owns_base hG2.out.own hwo, hG2.out.el⟩, by rw [hl2.out, hLs.out], hs.out.same hs2.out⟩
          case measure => simp [intOf]; omega
    · obtain rfl : i = n := by omega
      replace hG := Lib.hid hG; replace hlv := Lib.hid hlv; replace hs := Lib.hid hs
      go_wp2_with fail
      go_ret
      exact ⟨a, k, c, gs, rfl, hG.out.gs, by rw [hlv.out, hL.out], hk3, hs.out⟩
end Go.Proofs.Ytmmjijmmocabhaa
