/-  -/
import Derived.Test.YticcpnekjddanaaGreatDoorZMkP
import Derived.Deep.MidRow
set_option linter.unusedVariables false
set_option linter.unusedSimpArgs false
set_option maxRecDepth 100000
set_option maxHeartbeats 8000000
namespace Go.Proofs.YticcpnekjddanaaGreatDoor
open Go.RowKit
theorem qlK {P : Program} {ops : Array Oper} {Q : Exit → Act → World → Prop} {L : Nat → Prop} {kds : List Nat} {F : Act → World → Prop} {i : Nat} {rest : List Nat} {op : Oper} {a : Act} {w : World} (ho : ops[i]? = some op) (hk : kds.getD i 3 = 1)
 (hw : Region.wanted op (yielded ops a.tmps) = true) (ty : TypeId) (x : Operand) (hop : op.op = .load ty x) (b o : Nat) (hx : a.eval x = .pointer (some ⟨b, o, none⟩)) (cs : List Value) (d : TypeDesc) (hb : b < w.heap.size) (hL : L b) (hc : World.rangeAt w b o cs)
 (hu : P.underlying ty = some d) (hd : TypeDesc.isRow d = true) (hi : (P.info? ty).map (·.size) = some cs.length) (h : qeE L P ops Q kds F rest (a.put op.dst (.agg cs.toArray)) w) : qeE L P ops Q kds F (i :: rest) a w := by
 refine gC ho hk (fun K hK => ?_)
 rw [if_pos hw]
 refine ⟨.agg cs.toArray, ?_, hK _ h⟩
 rintro w' ⟨g, rfl⟩
 have hc' : World.rangeAt g.1 b o cs := fun j v hv => by rw [Kin.cell g b (o + j) ⟨hb, hL⟩]; exact hc j v hv
 unfold execOp
 simp only [hop, hx, Instr.loadAt, Instr.sureAddr, Sem.run_bind, Sem.run_pure, Result.andThen_ok, run_loadVar_mid g.1 b o ty cs d hc' hu hd hi]
 exact ⟨rfl, rfl⟩
theorem qiJ {w : World} {b : Nat} {cs : Array Value} {T : TypeId} {fr : Nat × Nat} (h : w.heap[b]? = some (.cells cs T fr)) (o n : Nat) : World.rangeAt w b o ((cs.toList.drop o).take n) := fun j v hv => by
 rw [List.getElem?_take] at hv
 split at hv
 · rw [List.getElem?_drop] at hv
   simp only [World.cell?, h]
   simpa using hv
 · simp at hv
end Go.Proofs.YticcpnekjddanaaGreatDoor
namespace Go.Proofs.YticcpnekjddanaaGreatDoor
open Go.RowKit Go.Sort
theorem qjW {P : Program} {w : World} {ops : Array Oper} {rest : List Oper} {o : Oper} {a : Act} {Q : Exit → Act → World → Prop} (hgd : o.guard = none) (s x : Operand) (t : TypeId)
 (ho : o.op = .call { callee := .builtin .append, args := #[s, x], argTypes := #[t, t] })
 (base : Nat) (e : TypeId) (i : TypeInfo) (z : Value) (size bytes : Nat) (ht : P.underlying t = some (.slice e)) (hi : P.info? e = some i) (hz : i.zero = some z)
 (hsize : i.size = size) (hby : i.bytes = bytes) (hzs : z.cells.size = size) (hsz : 0 < size) (hb : bytes ≤ 1000)
 (v : Value) (n : Nat) (xs : List Value) (hs : a.eval s = v) (hown : w.ownsRow base e size v n xs)
 (ad : Addr) (m c : Nat) (news : List Value) (hx : a.eval x = .slice (some ad) m c) (hl : news.length = m * size) (hnews : ∀ j u, news[j]? = some u → w.cell? (ad.add j) = some u) (h1 : ∀ u ∈ news, u.oneCell' = true) (h63 : n + m ≤ 1000000000) (hbase : base ≤ w.heap.size)
 (h : ∀ a' cap' w', w'.ownsRow base e size (.slice a' (n + m) cap') (n + m) (xs ++ news) → qaK (fun _ => False) w w' v (.slice a' (n + m) cap') → wpList P ops Q rest (a.put o.dst (.slice a' (n + m) cap')) w') :
 wpList P ops Q (o :: rest) a w :=
 wpList_plain hgd fun K hK => by
  obtain ⟨v', w', hr, h2, h3, h4, h5⟩ := run_append_own_at (P := P) (w := w) base t o.type e i z size bytes ht hi hz hsize hby hzs hsz v n xs hown ad m c news hl hnews h1 (by unfold maxLen; omega)
   (Nat.le_trans (Nat.mul_le_mul h63 hb) (by omega)) hbase
  obtain ⟨a', cap', rfl⟩ : ∃ a' cap', v' = .slice a' (n + m) cap' := by
   rcases h2.2 with ⟨rfl, hz⟩ | ⟨g, cap, cur, rfl, _⟩
   · exact ⟨none, 0, by rw [hz]⟩
   · exact ⟨_, _, rfl⟩
  unfold Oper.wp execOp
  simp only [ho, resolve, invoke, builtin, Sem.run_bind, Sem.run_pure, Result.andThen_ok, List.map_toArray, List.map_cons, List.map_nil, hs, hx, hr]
  refine hK _ _ (h a' cap' w' h2 ⟨(Fr.refl _ _).grown h3 (fun k hk _ => .inl hk), fun k hk => ?_⟩)
  rcases h5 with h5 | h5
  · exact .inl (by rw [← h5]; exact hk)
  · rw [h5] at hk
    exact .inr (Nat.le_of_eq (Option.some.inj hk))
theorem qn8 {w w' : World} {v' : Value} (h : qaK (fun _ => False) w w' (.slice none 0 0) v') : qad w w' := h.1.mono (fun k _ hk => by rcases hk with hk | hk; simp [Value.ownBlock] at hk; exact hk)
theorem qjX {P : Program} {w : World} {ops : Array Oper} {rest : List Oper} {o : Oper} {a : Act} {Q : Exit → Act → World → Prop} (hgd : o.guard = none) (s x : Operand) (t : TypeId)
 (ho : o.op = .call { callee := .builtin .append, args := #[s, x], argTypes := #[t, t] })
 (base : Nat) (e : TypeId) (i : TypeInfo) (z : Value) (bytes : Nat) (ht : P.underlying t = some (.slice e)) (hi : P.info? e = some i) (hz : i.zero = some z)
 (hsize : i.size = 1) (hby : i.bytes = bytes) (hzs : z.cells.size = 1) (hb : bytes ≤ 1000)
 (v : Value) (n : Nat) (xs : List Value) (hs : a.eval s = v) (hown : w.ownsRow base e 1 v n xs)
 (ga : Option Addr) (m c : Nat) (news : List Value) (hx : a.eval x = .slice ga m c) (hR : qan w (.slice ga m c) m news) (h1 : ∀ u ∈ news, u.oneCell' = true) (h63 : n + m ≤ 1000000000) (hbase : base ≤ w.heap.size)
 (h : ∀ a' cap' w', w'.ownsRow base e 1 (.slice a' (n + m) cap') (n + m) (xs ++ news) → qaK (fun _ => False) w w' v (.slice a' (n + m) cap') → wpList P ops Q rest (a.put o.dst (.slice a' (n + m) cap')) w') :
 wpList P ops Q (o :: rest) a w := by
 cases ga with
 | some ad =>
  refine qjW hgd s x t ho base e i z 1 bytes ht hi hz hsize hby hzs (by decide) hb v n xs hs hown ad m c news hx (by rw [hR.1, Nat.mul_one]) (fun j u hu => ?_) h1 h63 hbase h
  have hj : j < m := by
   have := (List.getElem?_eq_some_iff.1 hu).1
   rw [hR.1] at this; exact this
  obtain ⟨b, off, e', _, hc⟩ := hR.cell (by omega)
  cases e'
  rw [Addr.add_lit]
  exact hc j u hu
 | none =>
  have hm : m = 0 := by
   rcases Nat.eq_zero_or_pos m with h0 | h0
   · exact h0
   · obtain ⟨b, off, e', _⟩ := hR.cell h0
     cases e'
  subst hm
  have hc : c = 0 := by
   obtain ⟨_, a', cap', e', _, _, h3, _⟩ := hR
   cases e'
   exact h3 rfl
  subst hc
  obtain rfl : news = [] := List.length_eq_zero_iff.1 hR.1
  obtain ⟨a', cap', rfl⟩ : ∃ a' cap', v = .slice a' n cap' := by
   rcases hown.2 with ⟨rfl, hz⟩ | ⟨g, cap, cur, rfl, _⟩
   · exact ⟨none, 0, by rw [hz]⟩
   · exact ⟨_, _, rfl⟩
  have hr := run_append_owned_none (P := P) (w := w) base t o.type e i 1 ht hi _ n xs hown
  refine wpList_plain hgd fun K hK => ?_
  unfold Oper.wp execOp
  simp only [ho, resolve, invoke, builtin, Sem.run_bind, Sem.run_pure, Result.andThen_ok, List.map_toArray, List.map_cons, List.map_nil, hs, hx, hr]
  exact hK _ _ (h a' cap' w (by rw [List.append_nil]; exact hown) (qaK.refl _ _ _))
end Go.Proofs.YticcpnekjddanaaGreatDoor
namespace Go.Proofs.YticcpnekjddanaaGreatDoor
open Go.RowKit
theorem qiM (A : Au) (s e : Int) (w : World) (hA : A.at w) (hz : A.small) : Calls Tryz.prog 83 #[A.v, .int .i64 s, .int .i64 e] w fun r w' => r = .returned (.int .i64 (qbm A.es s e)) ∧ qad w w' := by
 obtain ⟨al, n, mk, es, aA, cA, aM, cM, aE, cE⟩ := A
 obtain ⟨h1, h2, h3⟩ := hA
 obtain ⟨z1, z2, z3⟩ := hz
 unfold Au.v
 simp only at h1 h2 h3 z1 z2 z3 ⊢
 have ND := fun (k : Nat) (hk : k < es.length) W (hW : qad w W) => (h3.same hW).node hk
 have hat := fun (k : Nat) (hk : k < es.length) h h1 => qpA (es := es) (s := s) (e := e) (k := k) hk h h1
 have hnone := qlL (es := es) (s := s) (e := e)
 obtain ⟨R, hR⟩ : ∃ R, R = qbm es s e := ⟨_, rfl⟩
 simp only [← hR] at hat hnone ⊢
 obtain ⟨qE, hqE⟩ : ∃ q, q = es.length := ⟨_, rfl⟩
 rw [← hqE] at z3 ⊢
 have hL : es.length = qE := hqE.symm
 generalize al.length = qA at *
 generalize mk.length = qM at *
 clear h1 h2 h3 hqE z1 z2
 replace ND := gi ND; replace hR := gi hR; replace hat := gi hat; replace hnone := gi hnone; replace hL := gi hL
 go_enter Tryz.func83, Tryz.ntmps83
 go_upto_region 1 with fail
 have kb := gv w (.cells #[.slice aA qA cA, .int .i64 n, .slice aM qM cM, .slice aE qE cE] 39)
 have hs : qad w (w.alloc (.cells #[.slice aA qA cA, .int .i64 n, .slice aM qM cM, .slice aE qE cE] 39)) := fs2
 generalize w.alloc (.cells #[.slice aA qA cA, .int .i64 n, .slice aM qM cM, .slice aE qE cE] 39) = W0 at *
 generalize w.heap.size = ba at *
 replace kb := gi kb; replace hs := gi hs
 go_wp2_with fail
 go_loopw [7] (fun i wr => ∃ k : Nat, i = .int .i64 k ∧ k ≤ qE ∧ (∀ (j : Nat) (hj : j < es.length), j < k → ¬ (es[j].1 = s ∧ es[j].2.1 = e)) ∧ qad W0 wr) (fun i _ => qE - (intOf i).toNat)
 case atStart => exact ⟨0, rfl, by omega, fun _ _ h => by omega, Fr.refl _ _⟩
 case round =>
  obtain ⟨k, rfl, hk, hf, hs1⟩ := hrel
  have hs2 := hs.out.same hs1
  replace kb := gi (hs1.at kb.out id)
  have b3 := gn kb.out 3
  have bl := gu kb.out
  by_cases hlt : k < qE
  · have hkl : k < es.length := by rw [hL.out]; exact hlt
    obtain ⟨bb, off, rfl, hbl, z0, z1, z2⟩ := ND.out k hkl wr hs2
    have hat1 := hat.out k hkl hf
    have hf2 : ¬ (es[k].1 = s ∧ es[k].2.1 = e) → ∀ (j : Nat) (hj : j < es.length), j < k + 1 → ¬ (es[j].1 = s ∧ es[j].2.1 = e) := fun hn j hj hjk => by
     by_cases h : j < k
     · exact hf j hj h
     · have : j = k := by omega
       subst this; exact hn
    generalize es[k] = x at *
    obtain ⟨f, g, t⟩ := x
    simp only at z0 z1 z2 hat1 hf2
    by_cases c1 : f = s
    · by_cases c2 : g = e
      · have hRt := hat1 ⟨c1, c2⟩
        subst c1 c2
        replace hs1 := gi hs1; replace hs2 := gi hs2; replace hf := gi hf; replace hat1 := gi hat1; replace hf2 := gi hf2; replace hRt := gi hRt
        go_wp2_with fail
        go_ret
        exact ⟨by rw [hRt.out]; rfl, hs2.out.same fs2⟩
      · have c2' : (g == e) = false := by simpa using c2
        have hf3 := hf2 (fun h => c2 h.2)
        subst c1
        replace hs1 := gi hs1; replace hs2 := gi hs2; replace hf := gi hf; replace hat1 := gi hat1; replace hf2 := gi hf2; replace hf3 := gi hf3; replace c2 := gi c2
        go_wp2_with fail
        go_roundw
        case rel => exact ⟨k + 1, by go_num, by omega, hf3.out, hs1.out.same fs2⟩
        case measure => simp [intOf]; omega
    · have c1' : (f == s) = false := by simpa using c1
      have hf3 := hf2 (fun h => c1 h.1)
      replace hs1 := gi hs1; replace hs2 := gi hs2; replace hf := gi hf; replace hat1 := gi hat1; replace hf2 := gi hf2; replace hf3 := gi hf3; replace c1 := gi c1
      go_wp2_with fail
      go_roundw
      case rel => exact ⟨k + 1, by go_num, by omega, hf3.out, hs1.out.same fs2⟩
      case measure => simp [intOf]; omega
  · obtain rfl : k = qE := by omega
    have hRn := hnone.out (fun j hj => hf j hj (by rw [← hL.out]; exact hj))
    replace hs1 := gi hs1; replace hs2 := gi hs2; replace hf := gi hf; replace hRn := gi hRn
    go_wp2_with fail
    go_ret
    exact ⟨by rw [hRn.out]; rfl, hs2.out.same fs2⟩
theorem qlO (l : List Int) (x : Int) (a : Option Addr) (q cap : Nat) (w : World) (hq : l.length = q) (hl : qan w (.slice a q cap) q (gw l)) (hq9 : q ≤ 100000) :
 Calls Tryz.prog 84 #[.slice a q cap, .int .i64 x] w fun e w' => e = .returned (.int .i64 (qlN l x)) ∧ qad w w' := by
 have hat := fun (k : Nat) (hk : k < l.length) h h1 => idxI_at (l := l) (x := x) (k := k) hk h h1
 have hnone := qoc (l := l) (x := x)
 obtain ⟨R, hR⟩ : ∃ R, R = qlN l x := ⟨_, rfl⟩
 simp only [← hR] at hat hnone ⊢
 have hL : l.length = q := hq
 clear hq
 replace hl := gi hl; replace hL := gi hL; replace hR := gi hR; replace hat := gi hat; replace hnone := gi hnone
 go_enter Tryz.func84, Tryz.ntmps84
 go_wp2_with fail
 go_loopw [5] (fun i wr => ∃ k : Nat, i = .int .i64 k ∧ k ≤ q ∧ (∀ (j : Nat) (h : j < l.length), j < k → l[j] ≠ x) ∧ qad w wr) (fun i _ => q - (intOf i).toNat)
 case atStart => exact ⟨0, rfl, by omega, fun _ _ h => by omega, Fr.refl _ _⟩
 case round =>
  obtain ⟨k, rfl, hk, hf, hs⟩ := hrel
  by_cases hlt : k < q
  · have hkl : k < l.length := by rw [hL.out]; exact hlt
    obtain ⟨bb, off, rfl, hbl, z0⟩ := (hl.out.same hs).int (by rw [hL.out]) hlt
    by_cases he : l[k] = x
    · have hm := hat.out k hkl he hf
      rw [he] at z0
      replace hf := gi hf; replace hs := gi hs; replace he := gi he; replace hm := gi hm
      go_wp2_with fail
      go_ret
      exact ⟨by rw [hm.out]; rfl, hs.out.same fs2⟩
    · have hpe : (l[k] == x) = false := by simpa using he
      have hf2 : ∀ (j : Nat) (h : j < l.length), j < k + 1 → l[j] ≠ x := fun j h hj => by
       by_cases hjk : j < k
       · exact hf j h hjk
       · have : j = k := by omega
         subst this; exact he
      generalize l[k] = y at *
      replace hf := gi hf; replace hs := gi hs; replace hf2 := gi hf2; replace he := gi he
      go_wp2_with fail
      go_roundw
      case rel => exact ⟨k + 1, by go_num, by omega, hf2.out, hs.out.same fs2⟩
      case measure => simp [intOf]; omega
  · obtain rfl : k = q := by omega
    have hm := hnone.out (fun j hj => hf j hj (by rw [← hL.out]; exact hj))
    replace hf := gi hf; replace hs := gi hs; replace hm := gi hm
    go_wp2_with fail
    go_ret
    exact ⟨by rw [hm.out]; rfl, hs.out.same fs2⟩
def qci (s : Int) (k : Nat) : Bool := bits .and .u8 (s / 2 ^ k) 1 == 1
def evL (s : Int) : List Int := qaz (qez (qci s) 5)
theorem qod (s : Int) : (evL s).length ≤ 5 := by unfold evL; rw [qaG]; exact qdB _ _
theorem evL_err (s : Int) : qaw 32 (evL s) (evL s).length 0 = 0 := by
 unfold evL
 refine qhC _ 0 (by omega) (fun j hj => ?_) (fun j hj => ?_)
 · rw [qaG] at hj
   rw [qdD hj]
   have := (qho.1 (List.getElem_mem hj)).1
   omega
 · rw [qaG] at hj
   rw [qdD (by omega), qdD hj]
   have := List.pairwise_iff_getElem.1 (qiI (qci s) 5) j (j + 1) (by omega) hj (by omega)
   omega
theorem qlP (s : Int) (w : World) :
 Calls Tryz.prog 22 #[.int .u8 s] w fun e w' => ∃ a c, e = .returned (.slice a (evL s).length c) ∧ w'.ownsRow w.heap.size 3 1 (.slice a (evL s).length c) (evL s).length (gw (evL s)) ∧ qad w w' := by
 obtain ⟨i3, hi3, hi3z, hi3s, hi3b⟩ := info_parts qc0
 unfold evL
 go_enter Tryz.func22, Tryz.ntmps22
 go_wp2_with fail
 go_loopw [3, 4] (fun v i wr => ∃ (k m : Nat) (a : Option Addr) (c : Nat), i = .int .i64 k ∧ k ≤ 5 ∧ m = (qez (qci s) k).length ∧ v = .slice a m c ∧ wr.ownsRow w.heap.size 3 1 (.slice a m c) m (gw (qaz (qez (qci s) k))) ∧ qad w wr) (fun _ i _ => 5 - (intOf i).toNat)
 case atStart => exact ⟨0, 0, none, 0, rfl, by omega, rfl, rfl, World.ownsRow_nil _ _ _ _, Fr.refl _ _⟩
 case round =>
  obtain ⟨k, m, a, c, rfl, hk, hm, rfl, ho, hs⟩ := hrel
  have hws := hs.size
  have hmk := qdB (qci s) k
  rw [← hm] at hmk
  by_cases hkn : k < 5
  · have hmin : min k 8 = k := by omega
    have hk5 : (k : Int) < 5 := by omega
    obtain ⟨b, hb⟩ : ∃ b, b = qci s k := ⟨_, rfl⟩
    have hb2 := hb
    unfold qci at hb2
    cases b with
    | true =>
     have hst := qhn (p := qci s) hb.symm
     have hb3 : (bits .and .u8 (s / 2 ^ k) 1 == 1) = true := hb2.symm
     replace ho := gi ho; replace hs := gi hs; replace hst := gi hst; replace hm := gi hm; replace hb := gi hb; replace hb2 := gi hb2
     go_wp2_with (at_builtin; refine qai rfl (.tmp 14) (.tmp 16) 33 rfl w.heap.size 3 i3 (.int .i64 0) 1 8 Tryz.underlying33 hi3 hi3z hi3s hi3b rfl (by decide) (by decide) a m c (gw (qaz (qez (qci s) k))) rfl (qag ho.out fs2) (by omega) wr.heap.size [.int .i64 k] rfl rfl (gv _ _) (by simp [Value.oneCell']) (by simp; omega) ?_; intro a5 c5 w5 ho5 hG5)
     have hs5 : qad w w5 := qas (hs.out.same fs2) hG5 (fun k hk => (ho.out.lt k hk).1)
     have ho5' : w5.ownsRow w.heap.size 3 1 (.slice a5 (m + 1) c5) (m + 1) (gw (qaz (qez (qci s) (k + 1)))) := by
      rw [hst.out, qnq]; exact ho5
     clear ho5 hG5
     go_roundw
     case rel => exact ⟨k + 1, m + 1, a5, c5, by go_num, by omega, by rw [hst.out, List.length_append, ← hm.out]; rfl, rfl, ho5', hs5⟩
     case measure => simp [intOf]; omega
    | false =>
     have hst := qjE (p := qci s) hb.symm
     have hb3 : (bits .and .u8 (s / 2 ^ k) 1 == 1) = false := hb2.symm
     replace ho := gi ho; replace hs := gi hs; replace hst := gi hst; replace hm := gi hm; replace hb := gi hb; replace hb2 := gi hb2
     go_wp2_with fail
     go_roundw
     case rel => exact ⟨k + 1, m, a, c, by go_num, by omega, by rw [hst.out, ← hm.out], rfl, by rw [hst.out]; exact qag ho.out fs2, hs.out.same fs2⟩
     case measure => simp [intOf]; omega
  · obtain rfl : k = 5 := by omega
    replace ho := gi ho; replace hs := gi hs; replace hm := gi hm
    go_wp2_with fail
    go_ret
    exact ⟨a, c, by rw [qaG, ← hm.out]; rfl, by rw [qaG, ← hm.out]; exact qag ho.out fs2, hs.out.same fs2⟩
theorem int_one (l : List Int) : ∀ u ∈ gw l, u.oneCell' = true := fun u hu => by
 unfold gw at hu
 obtain ⟨x, _, rfl⟩ := List.mem_map.1 hu
 rfl
theorem qgV {w : World} {b : Nat} {x y z v u0 u1 u2 u3 : Value} {T : TypeId} (h : w.heap[b]? = some (.cells #[x, y, z, v] T (0, 0))) :
 let W := (((w.setCell ⟨b, 0, none⟩ u0).setCell ⟨b, 1, none⟩ u1).setCell ⟨b, 2, none⟩ u2).setCell ⟨b, 3, none⟩ u3
 W.heap[b]? = some (.cells #[u0, u1, u2, u3] T (0, 0)) ∧ Fr (fun k => k = b) w W := by
 have h1 := qaf h 0 u0
 have h2 := qaf h1 1 u1
 have h3 := qaf h2 2 u2
 have h4 := qaf h3 3 u3
 refine ⟨by simpa using h4, ?_⟩
 exact ((((Fr.refl (fun k => k = b) w).setCell ⟨b, 0, none⟩ u0 (fun _ => rfl)).setCell ⟨b, 1, none⟩ u1 (fun _ => rfl)).setCell ⟨b, 2, none⟩ u2 (fun _ => rfl)).setCell ⟨b, 3, none⟩ u3 (fun _ => rfl)
theorem qaC {w : World} {b : Nat} {x y z v : Value} {T : TypeId} (h : w.heap[b]? = some (.cells #[x, y, z, v] T (0, 0))) :
 w.cell? ⟨b, 0, none⟩ = some x ∧ w.cell? ⟨b, 1, none⟩ = some y ∧ w.cell? ⟨b, 2, none⟩ = some z ∧ w.cell? ⟨b, 3, none⟩ = some v ∧ w.frozen? ⟨b, 0, none⟩ = false ∧ w.frozen? ⟨b, 1, none⟩ = false ∧ w.frozen? ⟨b, 2, none⟩ = false ∧ w.frozen? ⟨b, 3, none⟩ = false ∧ b < w.heap.size :=
 ⟨gn h 0, gn h 1, gn h 2, gn h 3, qak h 0, qak h 1, qak h 2, qak h 3, gu h⟩
theorem qgW (al : List Int) (a : Option Addr) (q c : Nat) (w : World) (hq : al.length = q) (hl : qan w (.slice a q c) q (gw al)) (hq9 : q ≤ 1000) :
 Calls Tryz.prog 47 #[.slice a q c] w fun e w' => ∃ a' c', e = .returned (.agg #[.slice a' q c', .int .i64 0, .slice none 0 0, .slice none 0 0]) ∧ w'.ownsRow w.heap.size 3 1 (.slice a' q c') q (gw al) ∧ qad w w' := by
 obtain ⟨i3, hi3, hi3z, hi3s, hi3b⟩ := info_parts qc0
 have h1 := int_one al
 replace hl := gi hl; replace hq := gi hq; replace h1 := gi h1
 go_enter Tryz.func47, Tryz.ntmps47
 go_upto_region 1 with fail
 have kb := gv w (.cells #[.slice none 0 0, .int .i64 0, .slice none 0 0, .slice none 0 0] 39)
 have hs : qad w (w.alloc (.cells #[.slice none 0 0, .int .i64 0, .slice none 0 0, .slice none 0 0] 39)) := fs2
 generalize w.alloc (.cells #[.slice none 0 0, .int .i64 0, .slice none 0 0, .slice none 0 0] 39) = W0 at *
 have hz := hs.size
 have hzk := gu kb
 obtain ⟨ba, hba⟩ : ∃ ba, ba = w.heap.size := ⟨_, rfl⟩
 rw [← hba] at kb hz hzk ⊢
 replace kb := gi kb; replace hs := gi hs; replace hba := gi hba
 go_wp2_with (at_builtin; refine qjX rfl (.tmp 3) (.tmp 4) 33 rfl ba 3 i3 (.int .i64 0) 8 Tryz.underlying33 hi3 hi3z hi3s hi3b rfl (by decide) (.slice (some ⟨W0.heap.size, 0, none⟩) 0 0) 0 [] rfl (qaL (gv _ _) hz rfl rfl (by unfold maxLen; omega)) a q c (gw al) rfl (hl.out.same (hs.out.same fs2)) h1.out (by omega) (by simp; omega) ?_; intro a5 c5 w5 ho5 hG5; simp only [Nat.zero_add, List.nil_append] at ho5 hG5 ⊢; have hs5 : qad W0 w5 := qas (W := W0.alloc (.cells #[] 3)) fs2 hG5 (fun k hk => by simp only [Value.ownBlock, Option.some.injEq] at hk; omega); have k5 := hs5.at kb.out id; obtain ⟨y0, y1, y2, y3, f0, f1, f2, f3, yl⟩ := qaC k5; replace hs5 := gi hs5; replace ho5 := gi ho5; replace k5 := gi k5; clear hG5)
 obtain ⟨k6, f6⟩ := qgV (u0 := .slice a5 q c5) (u1 := .int .i64 0) (u2 := .slice none 0 0) (u3 := .slice none 0 0) k5.out
 have ho6 := qaN ho5.out f6 (fun k hk e => by
  obtain ⟨cur, e1⟩ := qaj ho5.out hk
  rw [show k = ba from e, k5.out] at e1
  simp at e1)
 have hs6 : qad w _ := (hs.out.same hs5.out).trans f6 (fun i hi e => by have : i = ba := e; have := hba.out; omega)
 clear y0 y1 y2 y3 f0 f1 f2 f3
 generalize (((w5.setCell ⟨ba, 0, none⟩ (.slice a5 q c5)).setCell ⟨ba, 1, none⟩ (.int .i64 0)).setCell ⟨ba, 2, none⟩ (.slice none 0 0)).setCell ⟨ba, 3, none⟩ (.slice none 0 0) = W6 at *
 obtain ⟨d0, d1, d2, d3, f0, f1, f2, f3, yl⟩ := qaC k6
 refine bodyPost_ret (v := .agg #[.slice a5 q c5, .int .i64 0, .slice none 0 0, .slice none 0 0]) (by simp [results, Tryz.results47, go_sem, d0, d1, d2, d3]) rfl ?_
 exact ⟨a5, c5, rfl, by rw [← hba.out]; exact ho6, hs6⟩
theorem qlQ (A : Au) (n : Nat) (hn : A.n = n) (hn64 : n ≤ 64) (w : World) (hA : A.at w) (hz : A.small) (he : qqv n A.es) :
 Calls Tryz.prog 81 #[A.v] w fun e w' => ∃ a c, e = .returned (.slice a (qce A.es A.al n).length c) ∧ w'.ownsRow w.heap.size 3 1 (.slice a (qce A.es A.al n).length c) (qce A.es A.al n).length (gw (qce A.es A.al n)) ∧ qad w w' := by
 obtain ⟨i3, hi3, hi3z, hi3s, hi3b⟩ := info_parts qc0
 have SP := fun (s e : Int) W (hW : qad w W) => qiM A s e W (hA.same hW) hz
 have hal := hA.al
 have z1 := hz.al
 clear hA hz
 obtain ⟨al, m, mk, es, aA, cA, aM, cM, aE, cE⟩ := A
 simp only at hn
 subst hn
 unfold Au.v at SP ⊢
 simp only at SP hal he z1 ⊢
 obtain ⟨F, hF⟩ : ∃ F, F = qce es al n := ⟨_, rfl⟩
 rw [← hF]
 obtain ⟨qA, hqA⟩ : ∃ q, q = al.length := ⟨_, rfl⟩
 rw [← hqA] at SP hal z1 ⊢
 generalize mk.length = qM at *
 generalize es.length = qE at *
 replace SP := gi SP; replace hal := gi hal; replace he := gi he; replace hF := gi hF; replace hqA := gi hqA
 go_enter Tryz.func81, Tryz.ntmps81
 go_upto_region 1 with fail
 have kb := gv w (.cells #[.slice aA qA cA, .int .i64 n, .slice aM qM cM, .slice aE qE cE] 39)
 have hs : qad w (w.alloc (.cells #[.slice aA qA cA, .int .i64 n, .slice aM qM cM, .slice aE qE cE] 39)) := fs2
 generalize w.alloc (.cells #[.slice aA qA cA, .int .i64 n, .slice aM qM cM, .slice aE qE cE] 39) = W0 at *
 have hz := hs.size
 have hzk := gu kb
 obtain ⟨ba, hba⟩ : ∃ ba, ba = w.heap.size := ⟨_, rfl⟩
 rw [← hba] at kb hz hzk ⊢
 replace kb := gi kb; replace hs := gi hs; replace hba := gi hba
 have b1 := gn kb.out 1
 by_cases hn0 : n = 0
 · subst hn0
   have hF0 : F = [] := hF.out
   replace hF0 := gi hF0
   go_wp2_with fail
   go_loopw [3, 4] (fun x i wr => x = .slice none 0 0 ∧ i = .int .i64 0 ∧ qad w wr) (fun _ _ _ => 0)
   case atStart => exact ⟨rfl, rfl, hs.out.same fs2⟩
   case round =>
    obtain ⟨rfl, rfl, hs1⟩ := hrel
    replace hs1 := gi hs1
    go_wp2_with fail
    go_ret
    exact ⟨none, 0, by rw [hF0.out]; rfl, by rw [hF0.out]; exact World.ownsRow_nil _ _ _ _, hs1.out.same fs2⟩
 · have hn1 : (0 : Int) < n := by omega
   have hF1 : qlM es al n 0 [0] = F := by rw [hF.out]; unfold qce; rw [if_pos (by omega)]
   replace hF1 := gi hF1
   go_wp2_with (at_builtin; refine qai rfl (.tmp 10) (.tmp 11) 33 rfl W0.heap.size 3 i3 (.int .i64 0) 1 8 Tryz.underlying33 hi3 hi3z hi3s hi3b rfl (by decide) (by decide) none 0 0 [] rfl (World.ownsRow_nil _ _ _ _) (by omega) W0.heap.size [.int .i64 0] rfl rfl (gv _ _) (by simp [Value.oneCell']) (by simp) ?_; intro a5 c5 w5 ho5 hG5; simp only [Nat.zero_add, List.nil_append] at ho5 hG5 ⊢; have hs5 : qad W0 w5 := (show qad W0 _ from fs2).same (qn8 hG5); replace hs5 := gi hs5; replace ho5 := gi ho5; clear hG5)
   go_loopw [3, 4] (fun x i wr => ∃ (j q : Nat) (out : List Int) (a : Option Addr) (c : Nat), i = .int .i64 j ∧ q = out.length ∧ x = .slice a q c ∧ wr.ownsRow W0.heap.size 3 1 (.slice a q c) q (gw out) ∧ qgc n out ∧ j ≤ q ∧ qlM es al (n - j) j out = F ∧ qad W0 wr) (fun _ i _ => n - (intOf i).toNat)
   case atStart => exact ⟨0, 1, [0], a5, c5, rfl, rfl, rfl, ho5.out, ⟨by simp, fun x hx => by simp at hx; omega⟩, by omega, hF1.out, hs5.out⟩
   case round =>
    clear hs5 ho5 hF1
    obtain ⟨j, q, out, a, c, rfl, hq, rfl, ho, hok, hj, hF1, hs1⟩ := hrel
    have hlen := hok.len
    rw [← hq] at hlen
    by_cases hjq : j < q
    · have hjl : j < out.length := by omega
      obtain ⟨f, hf⟩ : ∃ f, n - j = f + 1 := ⟨n - j - 1, by omega⟩
      rw [hf, qob hjl] at hF1
      obtain rfl : f = n - (j + 1) := by omega
      obtain ⟨s, hsd⟩ : ∃ s, s = out[j] := ⟨_, rfl⟩
      rw [← hsd, ← hqA.out] at hF1
      obtain ⟨wo, rfl⟩ : ∃ wo, wo = wr := ⟨_, rfl⟩
      have hjn : j < n := by omega
      clear hf b1
      replace ho := gi ho; replace hok := gi hok; replace hF1 := gi hF1; replace hs1 := gi hs1; replace hq := gi hq; replace hsd := gi hsd
      go_wp2_with fail
      go_loopw [3, 5] (fun x i wr => ∃ (k q : Nat) (o2 : List Int) (a : Option Addr) (c : Nat), i = .int .i64 k ∧ k ≤ qA ∧ o2 = qjZ es al s out k ∧ q = o2.length ∧ x = .slice a q c ∧ wr.ownsRow W0.heap.size 3 1 (.slice a q c) q (gw o2) ∧ qad W0 wr) (fun _ i _ => qA - (intOf i).toNat)
      case atStart => exact ⟨0, q, out, a, c, rfl, by omega, (qoa _ _ _ _).symm, hq.out, rfl, ho.out, hs1.out⟩
      case round =>
       clear ho hs1
       obtain ⟨k, q2, o2, a2, c2, rfl, hk, ho2, hq2, rfl, ho, hs1⟩ := hrel
       have hok2 : qgc n o2 := by rw [ho2]; exact qj0 he.out hok.out k (by rw [← hqA.out]; exact hk)
       have hlen2 := hok2.len
       rw [← hq2] at hlen2
       have hpre : out <+: o2 := by rw [ho2]; exact qhD k (by rw [← hqA.out]; exact hk)
       have hql : q ≤ q2 := by rw [hq.out, hq2]; exact hpre.length_le
       have hs2 := hs.out.same hs1
       replace kb := gi (hs1.at kb.out id)
       obtain ⟨b0, b1, b2, b3, bl⟩ := g4l kb.out
       have hw1 := hs1.size
       by_cases hkA : k < qA
       · have hsj : o2[j]'(by omega) = s := by
           rw [hsd.out]
           obtain ⟨t, rfl⟩ := hpre
           exact List.getElem_append_left _
         obtain ⟨bb, off, rfl, hbl, z0⟩ := ((qaa.of_owns ho).row).int (k := j) (by rw [hq2]) (by omega)
         rw [hsj] at z0
         obtain ⟨bc, off2, rfl, hcl, z1⟩ := (hal.out.same hs2).int (k := k) (by rw [hqA.out]) hkA
         have hrec := qex (es := es) (al := al) (s := s) (out := out) (k := k) (by rw [← hqA.out]; exact hkA)
         rw [← ho2] at hrec
         unfold qpB at hrec
         have SP1 := SP.out s (al[k]'(by rw [← hqA.out]; exact hkA))
         generalize al[k]'(by rw [← hqA.out]; exact hkA) = e at *
         generalize qbm es s e = t at *
         have RH := fun W (hW : qad wr W) => qkC o2 t _ q2 c2 W hq2.symm ((qaa.of_owns ho).row.same hW) (by omega)
         have hji : j < q2 := by omega
         clear hsj
         replace ho := gi ho; replace hok2 := gi hok2; replace hs1 := gi hs1; replace hs2 := gi hs2; replace hrec := gi hrec; replace SP1 := gi SP1; replace RH := gi RH; replace ho2 := gi ho2; replace hq2 := gi hq2
         go_upto_region 10 with fail
         refine qac (fun k => k = ba ∨ k = bb ∨ k = bc) [1, 0, 0, 0, 1, 0, 1, 0, 0, 1, 3, 0] [1, 2, 3, 5, 7, 0, 4, 6, 8, 9, 10, 11] (by kernel_rfl) (by kernel_rfl) ?_
         repeat ((first | refine gB rfl rfl fun _ k => ?_ | refine gC rfl rfl fun _ k => ?_); go_simp; (first | refine k _ ?_ | refine ⟨_, fun _ => rfl, k _ ?_⟩); clear k)
         refine gD rfl (by decide) (fun _ hK => ?_); go_simp
         refine (SP1.out _ (hs2.out.same fs2)).mono ?_
         rintro e6 w6 ⟨rfl, s6⟩
         have hs6 : qad wr w6 := (show qad wr _ from fs2).same s6
         refine hK _ _ ?_; clear hK; try simp only [Act.put, gj]
         repeat ((first | refine gB rfl rfl fun _ k => ?_ | refine gC rfl rfl fun _ k => ?_); go_simp; (first | refine k _ ?_ | refine ⟨_, fun _ => rfl, k _ ?_⟩); clear k)
         refine gO (NoPanic.normal ?_)
         have hs7 := hs1.out.same hs6
         clear s6 b0 b1 b2 b3 z0 z1
         replace hs6 := gi hs6; replace hs7 := gi hs7
         by_cases c1 : 0 ≤ t
         · obtain ⟨R, hR⟩ : ∃ R, R = decide (t ∈ o2) := ⟨_, rfl⟩
           have RH1 := RH.out
           rw [← hR] at RH1
           replace RH1 := gi RH1; replace hR := gi hR
           go_wp2_with fail
           refine (RH1.out _ hs6.out).mono ?_
           rintro e7 w7 ⟨rfl, s7⟩
           have hs8 := hs6.out.same s7
           have hs9 := hs7.out.same s7
           clear s7
           cases R with
           | true =>
            have hrec2 : qjZ es al s out (k + 1) = o2 := by rw [hrec.out, if_neg (fun h => h.2 (of_decide_eq_true hR.out.symm))]
            replace hs8 := gi hs8; replace hs9 := gi hs9; replace hrec2 := gi hrec2
            go_wp2_with fail
            go_roundw
            case rel => exact ⟨k + 1, q2, o2, _, c2, by go_num, by omega, hrec2.out.symm, hq2.out, rfl, qag ho.out (hs8.out.same fs2), hs9.out.same fs2⟩
            case measure => simp [intOf]; omega
           | false =>
            have hrec2 : qjZ es al s out (k + 1) = o2 ++ [t] := by rw [hrec.out, if_pos ⟨c1, fun h => by have := hR.out; rw [decide_eq_true h] at this; cases this⟩]
            have hz8 := hs8.size
            replace hs8 := gi hs8; replace hs9 := gi hs9; replace hrec2 := gi hrec2
            go_wp2_with (at_builtin; refine qai rfl (.tmp 45) (.tmp 47) 33 rfl W0.heap.size 3 i3 (.int .i64 0) 1 8 Tryz.underlying33 hi3 hi3z hi3s hi3b rfl (by decide) (by decide) _ q2 c2 (gw o2) rfl (qag ho.out (hs8.out.same fs2)) (by omega) w7.heap.size [.int .i64 t] rfl rfl (gv _ _) (by simp [Value.oneCell']) (by simp; omega) ?_; intro a9 c9 w9 ho9 hG9)
            have hs10 : qad W0 w9 := qas (hs9.out.same fs2) hG9 (fun k hk => (ho.out.lt k hk).1)
            have ho10 : w9.ownsRow W0.heap.size 3 1 (.slice a9 (q2 + 1) c9) (q2 + 1) (gw (o2 ++ [t])) := by
             have := ho9; simpa [gw] using this
            clear ho9 hG9
            go_roundw
            case rel => exact ⟨k + 1, q2 + 1, o2 ++ [t], a9, c9, by go_num, by omega, hrec2.out.symm, by rw [List.length_append, ← hq2.out]; rfl, rfl, ho10, hs10⟩
            case measure => simp [intOf]; omega
         · have hrec2 : qjZ es al s out (k + 1) = o2 := by rw [hrec.out, if_neg (fun h => c1 h.1)]
           have c1' : (0 ≤ t) = False := by simpa using c1
           replace hrec2 := gi hrec2; replace c1 := gi c1
           go_wp2_with fail
           go_roundw
           case rel => exact ⟨k + 1, q2, o2, _, c2, by go_num, by omega, hrec2.out.symm, hq2.out, rfl, qag ho.out (hs6.out.same fs2), hs7.out.same fs2⟩
           case measure => simp [intOf]; omega
       · obtain rfl : k = qA := by omega
         have hF1 := hF1.out
         rw [← ho2] at hF1
         replace ho := gi ho; replace hok2 := gi hok2; replace hF1 := gi hF1; replace hs1 := gi hs1; replace hs2 := gi hs2; replace hq2 := gi hq2
         go_wp2_with fail
         go_roundw
         case rel => exact ⟨j + 1, q2, o2, a2, c2, by go_num, hq2.out, rfl, ho.out, hok2.out, by omega, hF1.out, hs1.out⟩
         case measure => simp [intOf]; omega
    · obtain rfl : j = q := by omega
      rw [qhE (by omega)] at hF1
      subst hF1
      replace ho := gi ho; replace hok := gi hok; replace hs1 := gi hs1; replace hq := gi hq
      go_wp2_with fail
      go_ret
      exact ⟨a, c, by rw [← hq.out]; rfl, by rw [← hq.out]; exact qm7 (qag ho.out fs2) (by rw [← hba.out]; exact hz), (hs.out.same hs1.out).same fs2⟩
structure AuB (Wb : World) (b : Nat) (aA : Option Addr) (qA cA : Nat) (n : Int) (ma : List Int) (aM : Option Addr) (cM : Nat) (es : List Nd) (aE : Option Addr) (cE : Nat) (w : World) : Prop where
 box : w.heap[b]? = some (.cells #[.slice aA qA cA, .int .i64 n, .slice aM ma.length cM, .slice aE es.length cE] 39 (0, 0))
 ma : w.ownsRow Wb.heap.size 3 1 (.slice aM ma.length cM) ma.length (gw ma)
 es : w.ownsRow Wb.heap.size 57 3 (.slice aE es.length cE) es.length (qap es)
 fr : Fr (fun k => k = b) Wb w
theorem AuB.same {Wb : World} {b : Nat} {aA : Option Addr} {qA cA : Nat} {n : Int} {ma : List Int} {aM : Option Addr} {cM : Nat} {es : List Nd} {aE : Option Addr} {cE : Nat} {w w' : World} (h : AuB Wb b aA qA cA n ma aM cM es aE cE w) (hs : qad w w') :
 AuB Wb b aA qA cA n ma aM cM es aE cE w' := ⟨hs.at h.box id, qag h.ma hs, qag h.es hs, h.fr.same hs⟩
theorem AuB.nil {w Wb : World} {b : Nat} {aA : Option Addr} {qA cA : Nat} {n : Int} (h : w.heap[b]? = some (.cells #[.slice aA qA cA, .int .i64 n, .slice none 0 0, .slice none 0 0] 39 (0, 0))) (hf : Fr (fun k => k = b) Wb w) :
 AuB Wb b aA qA cA n [] none 0 [] none 0 w := ⟨h, World.ownsRow_nil _ _ _ _, World.ownsRow_nil _ _ _ _, hf⟩
theorem AuB.pushM {Wb : World} {b : Nat} {aA : Option Addr} {qA cA : Nat} {n : Int} {ma : List Int} {aM : Option Addr} {cM : Nat} {es : List Nd} {aE : Option Addr} {cE : Nat} {w W w' : World} {x : Int} {a' : Option Addr} {c' : Nat}
 (h : AuB Wb b aA qA cA n ma aM cM es aE cE w) (hs : qad w W) (ho : w'.ownsRow Wb.heap.size 3 1 (.slice a' (ma.length + 1) c') (ma.length + 1) (gw ma ++ [.int .i64 x])) (hG : qaK (fun _ => False) W w' (.slice aM ma.length cM) (.slice a' (ma.length + 1) c')) :
 w'.heap[b]? = some (.cells #[.slice aA qA cA, .int .i64 n, .slice aM ma.length cM, .slice aE es.length cE] 39 (0, 0)) ∧
 AuB Wb b aA qA cA n (ma ++ [x]) a' c' es aE cE (w'.setCell ⟨b, 2, none⟩ (.slice a' (ma.length + 1) c')) := by
 have h2 := h.same hs
 have hne : ∀ k, (Value.slice aM ma.length cM).ownBlock = some k → k ≠ b := fun k hk e => by
  obtain ⟨cur, e1⟩ := qaj h2.ma hk
  rw [e, h2.box] at e1
  simp at e1
 have hbx : w'.heap[b]? = some (.cells #[.slice aA qA cA, .int .i64 n, .slice aM ma.length cM, .slice aE es.length cE] 39 (0, 0)) := hG.1.at h2.box (fun e => by
  rcases e with e | e
  · exact hne b e rfl
  · exact e)
 have hF : Fr (fun k => k = b) w' (w'.setCell ⟨b, 2, none⟩ (.slice a' (ma.length + 1) c')) := (Fr.refl _ _).setCell _ _ (fun _ => rfl)
 refine ⟨hbx, ?_, ?_, ?_, ?_⟩
 · have := qaf hbx 2 (.slice a' (ma.length + 1) c')
   rw [this]; simp
 · have : gw (ma ++ [x]) = gw ma ++ [.int .i64 x] := by simp [gw]
   rw [this, show (ma ++ [x]).length = ma.length + 1 by simp]
   exact qaN ho hF (fun k hk e => by
    obtain ⟨cur, e1⟩ := qaj ho hk
    rw [show k = b from e, hbx] at e1
    simp at e1)
 · refine qaN (qaN h2.es hG.1 (fun k hk e => ?_)) hF (fun k hk e => ?_)
   · rcases e with e | e
     · obtain ⟨cur, e1⟩ := qaj h2.es hk
       obtain ⟨cur2, e2⟩ := qaj h2.ma e
       rw [e1] at e2
       simp at e2
     · exact e
   · obtain ⟨cur, e1⟩ := qaj h2.es hk
     rw [show k = b from e, h2.box] at e1
     simp at e1
 · refine (h2.fr.trans hG.1 (fun i hi e => ?_)).trans hF (fun i hi e => e)
   rcases e with e | e
   · have := (h2.ma.lt i e).1; omega
   · exact e.elim
theorem AuB.pushE {Wb : World} {b : Nat} {aA : Option Addr} {qA cA : Nat} {n : Int} {ma : List Int} {aM : Option Addr} {cM : Nat} {es : List Nd} {aE : Option Addr} {cE : Nat} {w W w' : World} {x : Nd} {a' : Option Addr} {c' : Nat}
 (h : AuB Wb b aA qA cA n ma aM cM es aE cE w) (hs : qad w W) (ho : w'.ownsRow Wb.heap.size 57 3 (.slice a' (es.length + 1) c') (es.length + 1) (qap es ++ [.int .i64 x.1, .int .i64 x.2.1, .int .i64 x.2.2])) (hG : qaK (fun _ => False) W w' (.slice aE es.length cE) (.slice a' (es.length + 1) c')) :
 w'.heap[b]? = some (.cells #[.slice aA qA cA, .int .i64 n, .slice aM ma.length cM, .slice aE es.length cE] 39 (0, 0)) ∧
 AuB Wb b aA qA cA n ma aM cM (es ++ [x]) a' c' (w'.setCell ⟨b, 3, none⟩ (.slice a' (es.length + 1) c')) := by
 have h2 := h.same hs
 have hne : ∀ k, (Value.slice aE es.length cE).ownBlock = some k → k ≠ b := fun k hk e => by
  obtain ⟨cur, e1⟩ := qaj h2.es hk
  rw [e, h2.box] at e1
  simp at e1
 have hbx : w'.heap[b]? = some (.cells #[.slice aA qA cA, .int .i64 n, .slice aM ma.length cM, .slice aE es.length cE] 39 (0, 0)) := hG.1.at h2.box (fun e => by
  rcases e with e | e
  · exact hne b e rfl
  · exact e)
 have hF : Fr (fun k => k = b) w' (w'.setCell ⟨b, 3, none⟩ (.slice a' (es.length + 1) c')) := (Fr.refl _ _).setCell _ _ (fun _ => rfl)
 refine ⟨hbx, ?_, ?_, ?_, ?_⟩
 · have := qaf hbx 3 (.slice a' (es.length + 1) c')
   rw [this]; simp
 · refine qaN (qaN h2.ma hG.1 (fun k hk e => ?_)) hF (fun k hk e => ?_)
   · rcases e with e | e
     · obtain ⟨cur, e1⟩ := qaj h2.ma hk
       obtain ⟨cur2, e2⟩ := qaj h2.es e
       rw [e1] at e2
       simp at e2
     · exact e
   · obtain ⟨cur, e1⟩ := qaj h2.ma hk
     rw [show k = b from e, h2.box] at e1
     simp at e1
 · have : qap (es ++ [x]) = qap es ++ [.int .i64 x.1, .int .i64 x.2.1, .int .i64 x.2.2] := by rw [qbu]; rfl
   rw [this, show (es ++ [x]).length = es.length + 1 by simp]
   exact qaN ho hF (fun k hk e => by
    obtain ⟨cur, e1⟩ := qaj ho hk
    rw [show k = b from e, hbx] at e1
    simp at e1)
 · refine (h2.fr.trans hG.1 (fun i hi e => ?_)).trans hF (fun i hi e => e)
   rcases e with e | e
   · have := (h2.es.lt i e).1; omega
   · exact e.elim
theorem qaa.bx {Wb w : World} {b : Nat} {T : TypeId} {sz : Nat} {v : Value} {q : Nat} {cells : List Value} {cs : Array Value} {fr : Nat × Nat} (h : qaa Wb T sz v q cells) (hb : Wb.heap[b]? = some (.cells cs 39 fr)) (hT : T ≠ 39) (hf : Fr (fun k => k = b) Wb w) : qaa w T sz v q cells :=
 h.fr hf (fun k cur hk e => by
  rw [show k = b from e, hb] at hk
  simp only [Option.some.injEq, Obj.cells.injEq] at hk
  exact hT hk.2.1.symm)
theorem infoE : (Tryz.prog.info? 57).map (fun i => (i.zero, i.size, i.bytes)) = some (some (.agg #[.int .i64 0, .int .i64 0, .int .i64 0]), 3, 24) := by kernel_rfl
theorem qpF {F ma : List Int} {i : Nat} (h : F.getD i 0 ∈ ma) : qiY F ma (i + 1) = qiY F ma i ++ [i] := qhn (by simpa using h)
theorem marC_no {F ma : List Int} {i : Nat} (h : ¬ F.getD i 0 ∈ ma) : qiY F ma (i + 1) = qiY F ma i := qjE (by simpa using h)
theorem qk2 (l : List Nat) (k : Nat) : qaz (l ++ [k]) = qaz l ++ [(k : Int)] := by simp [qaz]
structure Au.ty (A : Au) (w : World) : Prop where
 al : qaa w 3 1 (.slice A.aA A.al.length A.cA) A.al.length (gw A.al)
 ma : qaa w 3 1 (.slice A.aM A.ma.length A.cM) A.ma.length (gw A.ma)
 es : qaa w 57 3 (.slice A.aE A.es.length A.cE) A.es.length (qap A.es)
theorem Au.ty.at {A : Au} {w : World} (h : A.ty w) : A.at w := ⟨h.al.row, h.ma.row, h.es.nds⟩
theorem Au.ty.same {A : Au} {w w' : World} (h : A.ty w) (hs : qad w w') : A.ty w' := ⟨h.al.same hs, h.ma.same hs, h.es.same hs⟩
theorem Au.ty.bx {A : Au} {Wb w : World} {b : Nat} {cs : Array Value} {fr : Nat × Nat} (h : A.ty Wb) (hb : Wb.heap[b]? = some (.cells cs 39 fr)) (hf : Fr (fun k => k = b) Wb w) : A.ty w :=
 ⟨h.al.bx hb (by decide) hf, h.ma.bx hb (by decide) hf, h.es.bx hb (by decide) hf⟩
structure Au.newer (A : Au) (B : Nat) : Prop where
 al : ∀ k, (Value.slice A.aA A.al.length A.cA).ownBlock = some k → B ≤ k
 ma : ∀ k, (Value.slice A.aM A.ma.length A.cM).ownBlock = some k → B ≤ k
def CanR (al ma : List Int) (es : List Nd) (F : List Int) (w : World) (e : Ending) (w' : World) : Prop :=
 ∃ C : Au, e = .returned C.v ∧ C.ty w' ∧ C.al = al ∧ C.n = F.length ∧ C.ma = qaz (qiY F ma F.length) ∧ C.es = qhO es al F F.length ∧ (qad w w' ∧ C.newer w.heap.size)
theorem qlR (A : Au) (n : Nat) (hn : A.n = n) (hn8 : n ≤ 8) (w : World) (hA : A.at w) (hz : A.small) (hal8 : A.al.length ≤ 8) (he : qqv n A.es) :
 Calls Tryz.prog 48 #[A.v] w (CanR A.al A.ma A.es (qce A.es A.al n) w) := by
 obtain ⟨i3, hi3, hi3z, hi3s, hi3b⟩ := info_parts qc0
 obtain ⟨j3, hj3, hj3z, hj3s, hj3b⟩ := info_parts infoE
 have FD := fun W (hW : qad w W) => qlQ A n hn (by omega) W (hA.same hW) hz he
 have SP := fun (s e : Int) W (hW : qad w W) => qiM A s e W (hA.same hW) hz
 have EM := fun W (hW : qad w W) => qgW A.al A.aA A.al.length A.cA W rfl (hA.al.same hW) (by omega)
 have HM := fun (x : Int) W (hW : qad w W) => qkC A.ma x A.aM A.ma.length A.cM W rfl (hA.ma.same hW) (by have := hz.ma; omega)
 have hal := hA.al
 have hFok := (qgd (al := A.al) he).1
 have hFl := hFok.len
 have heL := qhF A.es A.al (qce A.es A.al n)
 clear hA hz he
 obtain ⟨al, m, mk, es, aA, cA, aM, cM, aE, cE⟩ := A
 simp only at hn
 subst hn
 unfold Au.v at SP FD ⊢
 simp only at SP FD EM HM hal hal8 hFok hFl heL ⊢
 obtain ⟨F, hF⟩ : ∃ F, F = qce es al n := ⟨_, rfl⟩
 rw [← hF] at FD hFok hFl heL ⊢
 obtain ⟨qF, hqF⟩ : ∃ q, q = F.length := ⟨_, rfl⟩
 obtain ⟨qA, hqA⟩ : ∃ q, q = al.length := ⟨_, rfl⟩
 rw [← hqF] at FD hFl
 rw [← hqA] at SP FD EM hal hal8 heL
 have hrl := fun i s k => qkY es al F i s k
 rw [← hqA] at hrl
 obtain ⟨qM, hqM⟩ : ∃ q, q = mk.length := ⟨_, rfl⟩
 obtain ⟨qE, hqE⟩ : ∃ q, q = es.length := ⟨_, rfl⟩
 rw [← hqM] at SP FD HM ⊢
 rw [← hqE] at SP FD ⊢
 rw [← hqA]
 replace SP := gi SP; replace FD := gi FD; replace EM := gi EM; replace HM := gi HM; replace hal := gi hal; replace hF := gi hF; replace hqF := gi hqF; replace hqA := gi hqA; replace hFok := gi hFok; replace heL := gi heL; replace hrl := gi hrl; replace hqM := gi hqM; replace hqE := gi hqE
 go_enter Tryz.func48, Tryz.ntmps48
 go_upto_region 1 with fail
 have ka := qab (gv w (.cells #[.slice aA qA cA, .int .i64 n, .slice aM qM cM, .slice aE qE cE] 39)) (.cells #[.slice none 0 0, .int .i64 0, .slice none 0 0, .slice none 0 0] 39)
 have kr := gv (w.alloc (.cells #[.slice aA qA cA, .int .i64 n, .slice aM qM cM, .slice aE qE cE] 39)) (.cells #[.slice none 0 0, .int .i64 0, .slice none 0 0, .slice none 0 0] 39)
 have hs : qad w ((w.alloc (.cells #[.slice aA qA cA, .int .i64 n, .slice aM qM cM, .slice aE qE cE] 39)).alloc (.cells #[.slice none 0 0, .int .i64 0, .slice none 0 0, .slice none 0 0] 39)) := fs2
 have hz1 : (w.alloc (.cells #[.slice aA qA cA, .int .i64 n, .slice aM qM cM, .slice aE qE cE] 39)).heap.size = w.heap.size + 1 := by simp
 rw [hz1] at kr
 generalize (w.alloc (.cells #[.slice aA qA cA, .int .i64 n, .slice aM qM cM, .slice aE qE cE] 39)).alloc (.cells #[.slice none 0 0, .int .i64 0, .slice none 0 0, .slice none 0 0] 39) = W0 at *
 clear hz1
 obtain ⟨ba, hba⟩ : ∃ ba, ba = w.heap.size := ⟨_, rfl⟩
 rw [← hba] at ka kr ⊢
 have hbr : ba + 1 < W0.heap.size := gu kr
 replace ka := gi ka; replace kr := gi kr; replace hs := gi hs; replace hba := gi hba
 obtain ⟨x0, x1, x2, x3, xl⟩ := g4l ka.out
 go_wp2_with fail
 refine (FD.out _ hs.out).mono ?_
 rintro e w1 ⟨aF, cF, rfl, hoF, s1⟩
 have hFR := (qaa.of_owns hoF).row
 have hz1 := s1.size
 replace hs := gi (hs.out.same s1); replace ka := gi (s1.at ka.out id); replace kr := gi (s1.at kr.out id)
 clear s1 hoF x0 x1 x2 x3 xl FD
 have x0 := gn ka.out 0
 have xl := gu ka.out
 replace hFR := gi hFR
 go_upto_region 2 with fail
 go_wp2_with fail
 refine (EM.out _ hs.out).mono ?_
 rintro e w3 ⟨a4, c4, rfl, ho4, s3⟩
 have hAR := qaa.of_owns ho4
 have hn4 : ∀ k, (Value.slice a4 qA c4).ownBlock = some k → w.heap.size ≤ k := fun k hk => Nat.le_trans hs.out.size (ho4.lt k hk).1
 have hn9 : w.heap.size ≤ w3.heap.size := Nat.le_trans hs.out.size s3.size
 have hz3 := s3.size
 replace hs := gi (hs.out.same s3); replace hFR := gi (hFR.out.same s3); replace ka := gi (s3.at ka.out id); replace kr := gi (s3.at kr.out id)
 clear s3 ho4 x0 xl EM
 replace hAR := gi hAR; replace hn4 := gi hn4; replace hn9 := gi hn9
 go_upto_region 3 with fail
 have k4 := gv w3 (.cells #[.slice a4 qA c4, .int .i64 0, .slice none 0 0, .slice none 0 0] 39)
 have s4 : qad w3 (w3.alloc (.cells #[.slice a4 qA c4, .int .i64 0, .slice none 0 0, .slice none 0 0] 39)) := fs2
 generalize w3.alloc (.cells #[.slice a4 qA c4, .int .i64 0, .slice none 0 0, .slice none 0 0] 39) = W4 at *
 obtain ⟨b4, hb4⟩ : ∃ b, b = w3.heap.size := ⟨_, rfl⟩
 rw [← hb4] at k4 ⊢
 obtain ⟨y0, y1, y2, y3, f0, f1, f2, f3, yl⟩ := qaC k4
 replace k4 := gi k4; replace s4 := gi s4; replace hb4 := gi hb4
 go_upto_region 4 with fail
 have h5 : AuB W4 b4 a4 qA c4 qF [] none 0 [] none 0 (W4.setCell ⟨b4, 1, none⟩ (.int .i64 qF)) := AuB.nil (by have := qaf k4.out 1 (.int .i64 qF); rw [this]; simp) ((Fr.refl _ _).setCell _ _ (fun _ => rfl))
 clear y0 y1 y2 y3 f0 f1 f2 f3 yl
 generalize W4.setCell ⟨b4, 1, none⟩ (.int .i64 qF) = W5 at *
 have hS4 : ∀ W, Fr (fun k => k = b4) W4 W → qad w3 W := fun W hf => s4.out.trans hf (fun i hi e => by have : i = b4 := e; have := hb4.out; omega)
 replace h5 := gi h5; replace hS4 := gi hS4
 go_wp2_with fail
 go_loopw [5] (fun i wr => ∃ (j : Nat) (aM : Option Addr) (cM : Nat) (aE : Option Addr) (cE : Nat), i = .int .i64 j ∧ j ≤ qF ∧ AuB W4 b4 a4 qA c4 qF (qaz (qiY F mk j)) aM cM (qhO es al F j) aE cE wr) (fun i _ => qF - (intOf i).toNat)
 case atStart => exact ⟨0, none, 0, none, 0, rfl, by omega, h5.out⟩
 case round =>
  clear h5
  obtain ⟨j, gM, dM, gE, dE, rfl, hj, hB⟩ := hrel
  have hs3 := hS4.out _ hB.fr
  by_cases hjq : j < qF
  · obtain ⟨bb, off, rfl, hbl, z0⟩ := hFR.out.int (k := j) hqF.out.symm hjq
    have hjl : j < F.length := by rw [← hqF.out]; exact hjq
    have hFg : F.getD j 0 = F[j] := by simp [List.getD, hjl]
    have hmy := qpF (F := F) (ma := mk) (i := j)
    have hmn := marC_no (F := F) (ma := mk) (i := j)
    have hes := qiK es al F j
    rw [← hqA.out] at hes
    rw [hFg] at hmy hmn hes
    generalize F[j] = s at z0 hFg hmy hmn hes
    have hFc : ∀ W, qad w3 W → bb < W.heap.size ∧ W.cell? ⟨bb, off + j, none⟩ = some (.int .i64 s) := fun W hW => ⟨Nat.lt_of_lt_of_le hbl hW.size, by rw [← z0]; exact World.cell?_of_block (a := ⟨bb, off + j, none⟩) (hW.block bb hbl id)⟩
    have hw := hs.out.same hs3
    have kaW := hs3.at ka.out id
    have HM1 := HM.out s
    obtain ⟨R, hR⟩ : ∃ R, R = decide (s ∈ mk) := ⟨_, rfl⟩
    rw [← hR] at HM1
    have hjc : (j : Int) < qF := by omega
    obtain ⟨MA, hMA⟩ : ∃ M, M = qaz (qiY F mk j) := ⟨_, rfl⟩
    have hMl : MA.length ≤ 8 := by rw [hMA, qaG]; exact Nat.le_trans (qdB _ _) (by omega)
    rw [← hMA] at hB
    obtain ⟨EE, hEE⟩ : ∃ E, E = qhO es al F j := ⟨_, rfl⟩
    have hEl : EE.length ≤ 64 := by
     rw [hEE]
     refine Nat.le_trans (heL.out j) (Nat.le_trans (Nat.mul_le_mul (show j ≤ 8 by omega) hal8) (by decide))
    rw [← hEE] at hB hes
    clear z0 hbl
    replace hFg := gi hFg; replace hmy := gi hmy; replace hmn := gi hmn; replace hes := gi hes; replace hFc := gi hFc; replace hw := gi hw; replace kaW := gi kaW; replace HM1 := gi HM1; replace hR := gi hR; replace hMA := gi hMA; replace hEE := gi hEE; replace hB := gi hB; replace hs3 := gi hs3
    have x2 := gn kaW.out 2
    have xl := gu kaW.out
    obtain ⟨zl, z0⟩ := hFc.out _ hs3.out
    go_upto_region 7 with fail
    refine qac (fun k => k = ba ∨ k = bb) [0, 1, 0, 0, 0, 1, 3] [0, 2, 3, 4, 1, 5, 6] (by kernel_rfl) (by kernel_rfl) ?_
    repeat ((first | refine gB rfl rfl fun _ k => ?_ | refine gC rfl rfl fun _ k => ?_); go_simp; (first | refine k _ ?_ | refine ⟨_, fun _ => rfl, k _ ?_⟩); clear k)
    refine gD rfl (by decide) (fun _ hK => ?_); go_simp
    refine (HM1.out _ (hw.out.same fs2)).mono ?_
    rintro e6 w6 ⟨rfl, s6⟩
    have s6 := (show qad wr _ from fs2).same s6
    have hz6 := s6.size
    replace hB := gi (hB.out.same s6)
    replace hs3 := gi (hs3.out.same s6)
    replace kaW := gi (s6.at kaW.out id)
    clear s6 x2 xl zl z0
    refine hK _ _ ?_; clear hK; try simp only [Act.put, gj]
    refine gO (NoPanic.normal ?_)
    cases R
    case' true =>
     have hm1 : qaz (qiY F mk (j + 1)) = MA ++ [(j : Int)] := by rw [hmy.out (of_decide_eq_true hR.out.symm), qk2, hMA.out]
     have y2 := gn hB.out.box 2
     have f2 := qak hB.out.box 2
     have yl := gu hB.out.box
     have hzb := hB.out.fr.size
     replace hm1 := gi hm1
     go_upto_region 9 with (at_builtin; refine qai rfl (.tmp 30) (.tmp 32) 33 rfl W4.heap.size 3 i3 (.int .i64 0) 1 8 Tryz.underlying33 hi3 hi3z hi3s hi3b rfl (by decide) (by decide) gM MA.length dM (gw MA) rfl (qag hB.out.ma fs2) (by omega) w6.heap.size [.int .i64 j] rfl rfl (gv _ _) (by simp [Value.oneCell']) (by simp; omega) ?_; intro a9 c9 w9 ho9 hG9; have P := hB.out.pushM fs2 ho9 hG9; have q2 := gn P.1 2; have p2 := qak P.1 2; have ql := gu P.1; have P2 := P.2; replace P2 := gi P2; clear ho9 hG9 P)
     generalize w9.setCell ⟨b4, 2, none⟩ (.slice a9 (MA.length + 1) c9) = W9 at *
     have hB9 := P2.out
     rw [← hm1.out] at hB9
     clear P2 q2 p2 ql y2 f2 yl hB hzb
     replace hB9 := gi hB9
    case' false =>
     have hm1 : qaz (qiY F mk (j + 1)) = MA := by rw [hmn.out (of_decide_eq_false hR.out.symm), hMA.out]
     have hB9 := hB.out
     rw [← hm1] at hB9
     replace hm1 := gi hm1; replace hB9 := gi hB9
     go_upto_region 9 with fail
     obtain ⟨W9, rfl⟩ : ∃ W, W = w6 := ⟨_, rfl⟩
     obtain ⟨a9, rfl⟩ : ∃ a, a = gM := ⟨_, rfl⟩
     obtain ⟨c9, rfl⟩ : ∃ c, c = dM := ⟨_, rfl⟩
     clear hB
    all_goals
     clear hs3 kaW hm1 hMA hmy hmn hR HM1
     obtain ⟨MB, hMB⟩ : ∃ M, M = qaz (qiY F mk (j + 1)) := ⟨_, rfl⟩
     rw [← hMB] at hB9
     replace hMB := gi hMB
     go_wp2_with fail
     go_loopw [6] (fun i wr => ∃ (k : Nat) (ee : List Nd) (aE : Option Addr) (cE : Nat), i = .int .i64 k ∧ k ≤ qA ∧ ee = EE ++ qhN es al F j s k ∧ AuB W4 b4 a4 qA c4 qF MB a9 c9 ee aE cE wr) (fun i _ => qA - (intOf i).toNat)
     case atStart => exact ⟨0, EE, gE, dE, rfl, by omega, by rw [rowC_0, List.append_nil], hB9.out⟩
     case round =>
      clear hB9
      obtain ⟨k, ee, hE, dF, rfl, hk, hee, hB⟩ := hrel
      have hs3 := hS4.out _ hB.fr
      have hw2 := hs.out.same hs3
      have kaW := hs3.at ka.out id
      have hel : ee.length ≤ 72 := by
       rw [hee, List.length_append]
       have := hrl.out j s k
       omega
      replace kaW := gi kaW; replace hs3 := gi hs3; replace hB := gi hB; replace hw2 := gi hw2; replace hee := gi hee
      obtain ⟨x0, x1, x2, x3, xl⟩ := g4l kaW.out
      by_cases hkA : k < qA
      · obtain ⟨zl, z0⟩ := hFc.out _ hs3.out
        obtain ⟨bc, off2, rfl, hcl, z1⟩ := (hal.out.same hw2.out).int (k := k) hqA.out.symm hkA
        have hyes := qpD (es := es) (al := al) (F := F) (i := j) (s := s) (k := k) (by rw [← hqA.out]; exact hkA)
        have hno := rowC_no (es := es) (al := al) (F := F) (i := j) (s := s) (k := k) (by rw [← hqA.out]; exact hkA)
        have SP1 := SP.out s (al[k]'(by rw [← hqA.out]; exact hkA))
        generalize al[k]'(by rw [← hqA.out]; exact hkA) = e at *
        generalize qbm es s e = t at *
        have hki : (k : Int) < qA := by omega
        replace SP1 := gi SP1; replace hyes := gi hyes; replace hno := gi hno
        go_upto_region 12 with fail
        refine qac (fun k => k = ba ∨ k = bb ∨ k = bc) [1, 0, 0, 0, 1, 0, 1, 0, 0, 1, 3, 0] [1, 2, 3, 5, 7, 0, 4, 6, 8, 9, 10, 11] (by kernel_rfl) (by kernel_rfl) ?_
        repeat ((first | refine gB rfl rfl fun _ k => ?_ | refine gC rfl rfl fun _ k => ?_); go_simp; (first | refine k _ ?_ | refine ⟨_, fun _ => rfl, k _ ?_⟩); clear k)
        refine gD rfl (by decide) (fun _ hK => ?_); go_simp
        refine (SP1.out _ (hw2.out.same fs2)).mono ?_
        rintro e8 w8 ⟨rfl, s8⟩
        have s8 := (show qad wr _ from fs2).same s8
        have hz8 := s8.size
        have zl8 : bc < w8.heap.size := by omega
        have z18 : w8.cell? ⟨bc, off2 + k, none⟩ = some (.int .i64 e) := by rw [← z1]; exact World.cell?_of_block (a := ⟨bc, off2 + k, none⟩) (s8.block bc hcl id)
        replace hB := gi (hB.out.same s8)
        replace hs3 := gi (hs3.out.same s8)
        replace kaW := gi (s8.at kaW.out id)
        clear s8 x0 x1 x2 x3 xl zl z0 z1 hcl
        refine hK _ _ ?_; clear hK; try simp only [Act.put, gj]
        repeat ((first | refine gB rfl rfl fun _ k => ?_ | refine gC rfl rfl fun _ k => ?_); go_simp; (first | refine k _ ?_ | refine ⟨_, fun _ => rfl, k _ ?_⟩); clear k)
        refine gO (NoPanic.normal ?_)
        by_cases c1 : 0 ≤ t
        · have hst := hyes.out c1
          have IX := fun W (hW : qad w3 W) => qlO F t _ qF cF W hqF.out.symm (hFR.out.same hW) (by omega)
          obtain ⟨u, hu⟩ : ∃ u, u = qlN F t := ⟨_, rfl⟩
          rw [← hu] at hst IX
          have x0 := gn kaW.out 0
          have xl := gu kaW.out
          have y3 := gn hB.out.box 3
          have yl := gu hB.out.box
          have hzb := hB.out.fr.size
          replace hst := gi hst; replace IX := gi IX; replace hu := gi hu
          go_upto_region 14 with fail
          refine qac (fun k => k = b4 ∨ k = ba ∨ k = bc) [0, 1, 0, 0, 1, 0, 0, 1, 0, 0, 2, 0, 2, 3, 0, 3] [0, 2, 3, 5, 8, 9, 1, 4, 6, 7, 10, 11, 12, 13, 14, 15] (by kernel_rfl) (by kernel_rfl) ?_
          repeat ((first | refine gB rfl rfl fun _ k => ?_ | refine gC rfl rfl fun _ k => ?_); go_simp; (first | refine k _ ?_ | refine ⟨_, fun _ => rfl, k _ ?_⟩); clear k)
          refine gF rfl rfl (fun _ hK => ?_)
          go_simp
          refine (IX.out _ (hs3.out.same fs2)).mono ?_
          rintro e10 w10 ⟨rfl, s10⟩
          have s11 := (show qad w8 _ from fs2).same s10
          refine hK _ _ (Kp.of_same s10) ?_
          clear hK
          (try simp only [Act.put, gj])
          have hz10 := s11.size
          replace hB := gi (hB.out.same s11)
          clear s10 s11
          repeat ((first | refine gB rfl rfl fun _ k => ?_ | refine gC rfl rfl fun _ k => ?_); go_simp; (first | refine k _ ?_ | refine ⟨_, fun _ => rfl, k _ ?_⟩); clear k)
          refine gF rfl rfl (fun _ hK => ?_); go_simp; refine hK _ _ (Kp.of_same fs2) ?_; clear hK
          refine gD rfl (by decide) (fun _ hK => ?_)
          refine qbe rfl (.tmp 56) (.tmp 67) 37 rfl W4.heap.size 57 j3 (.agg #[.int .i64 0, .int .i64 0, .int .i64 0]) 3 24 Tryz.underlying37 hj3 hj3z hj3s hj3b rfl (by decide) (by decide) hE ee.length dF (qap ee) (by go_simp) (qag hB.out.es fs2) (by omega) w10.heap.size [.int .i64 j, .int .i64 e, .int .i64 u] (by go_simp) rfl (qae (by simp) _) (by simp [Value.oneCell']) (by simp; omega) ?_
          intro a12 c12 w12 ho12 hG12
          have P := hB.out.pushE (x := ((j : Int), e, u)) fs2 ho12 hG12
          have q3 := gn P.1 3
          have p3 := qak P.1 3
          have ql := gu P.1
          have P2 := P.2
          have hee2 : ee ++ [((j : Int), e, u)] = EE ++ qhN es al F j s (k + 1) := by rw [hst.out, ← List.append_assoc, ← hee.out]
          clear ho12 hG12 P
          replace P2 := gi P2; replace hee2 := gi hee2
          refine hK _ _ ?_; clear hK; try simp only [Act.put, gj]
          repeat ((first | refine gB rfl rfl fun _ k => ?_ | refine gC rfl rfl fun _ k => ?_); go_simp; (first | refine k _ ?_ | refine ⟨_, fun _ => rfl, k _ ?_⟩); clear k)
          refine gD rfl (by decide) (fun _ hK => ?_); go_simp
          refine hK _ _ ?_; clear hK; try simp only [Act.put, gj]
          refine gO (NoPanic.normal ?_)
          go_wp2_with fail
          go_roundw
          case rel => exact ⟨k + 1, _, a12, c12, by go_num, by omega, hee2.out, P2.out.same fs2⟩
          case measure => simp [intOf]; omega
        · have hst := hno.out c1
          have c1' : (0 ≤ t) = False := by simpa using c1
          replace hst := gi hst; replace c1 := gi c1
          go_wp2_with fail
          go_roundw
          case rel => exact ⟨k + 1, ee, hE, dF, by go_num, by omega, by rw [hst.out]; exact hee.out, hB.out.same fs2⟩
          case measure => simp [intOf]; omega
      · obtain rfl : k = qA := by omega
        have hee2 := hee.out
        rw [← hes.out] at hee2
        subst hee2
        replace hkA := gi hkA
        go_wp2_with fail
        go_roundw
        case rel => exact ⟨j + 1, a9, c9, hE, dF, by go_num, by omega, by rw [← hMB.out]; exact hB.out.same fs2⟩
        case measure => simp [intOf]; omega
  · obtain rfl : j = qF := by omega
    have hbx := hB.box
    have hkr := hs3.at kr.out id
    have hsw := hs.out.same hs3
    obtain ⟨x0, x1, x2, x3, xl⟩ := g4l hbx
    obtain ⟨y0, y1, y2, y3, f0, f1, f2, f3, yl⟩ := qaC hkr
    replace hbx := gi hbx; replace hkr := gi hkr; replace hsw := gi hsw; replace hs3 := gi hs3; replace hB := gi hB
    go_wp2_with fail
    obtain ⟨k6, f6⟩ := qgV (u0 := .slice a4 qA c4) (u1 := .int .i64 j) (u2 := .slice gM (qaz (qiY F mk j)).length dM) (u3 := .slice gE (qhO es al F j).length dE) hkr.out
    clear y0 y1 y2 y3 f0 f1 f2 f3 yl
    have r1 := qaa.bx (hAR.out.same hs3.out) hkr.out (by decide) f6
    have r2 := qaa.bx (qaa.of_owns hB.out.ma) hkr.out (by decide) f6
    have r3 := qaa.bx (qaa.of_owns hB.out.es) hkr.out (by decide) f6
    have r4 : ∀ k, (Value.slice gM (qaz (qiY F mk j)).length dM).ownBlock = some k → w.heap.size ≤ k := fun k hk => by
     have h1 := (hB.out.ma.lt k hk).1
     have h2 := s4.out.size
     have h3 := hn9.out
     omega
    have hs6 := hsw.out.trans f6 (fun i hi e => by have : i = ba + 1 := e; have := hba.out; omega)
    generalize (((wr.setCell ⟨ba + 1, 0, none⟩ (.slice a4 qA c4)).setCell ⟨ba + 1, 1, none⟩ (.int .i64 j)).setCell ⟨ba + 1, 2, none⟩ (.slice gM (qaz (qiY F mk j)).length dM)).setCell ⟨ba + 1, 3, none⟩ (.slice gE (qhO es al F j).length dE) = W6 at *
    obtain ⟨d0, d1, d2, d3, f0, f1, f2, f3, yl⟩ := qaC k6
    refine bodyPost_ret (v := .agg #[.slice a4 qA c4, .int .i64 j, .slice gM (qaz (qiY F mk j)).length dM, .slice gE (qhO es al F j).length dE]) (by simp [results, Tryz.results48, go_sem, d0, d1, d2, d3]) rfl ?_
    refine ⟨⟨al, j, qaz (qiY F mk j), qhO es al F j, a4, c4, gM, dM, gE, dE⟩, ?_, ⟨?_, r2, r3⟩, rfl, ?_, ?_, ?_, hs6, ⟨?_, ?_⟩⟩
    · unfold Au.v; rw [hqA.out]
    · simp only; rw [← hqA.out]; exact r1
    · simp only; rw [hqF.out]
    · simp only; rw [hqF.out]
    · simp only; rw [hqF.out]
    · simp only; rw [← hqA.out]; exact hn4.out
    · exact r4
def gS (g : List Nat) : Nat := g.getD 0 0
def gM (g : List Nat) : Nat := g.getD 1 0
def gT (g : List Nat) (i k : Nat) : Nat := g.getD (2 + i * 5 + k) 0
def mkN (g : List Nat) : Nat := 1 + gS g % 5
def mkMa (g : List Nat) (i : Nat) : List Int := qaz (qez (qci (gM g : Nat)) i)
def mkEs (al : List Int) (g : List Nat) : List Nd := qiZ al (mkN g) (gT g) (mkN g)
def mkF (al : List Int) (g : List Nat) : List Int := qce (mkEs al g) al (mkN g)
structure qlS (al : List Int) (g : List Nat) (C : Au) : Prop where
 hal : C.al = al
 hn : C.n = if 250 ≤ gS g then 0 else ((mkF al g).length : Int)
 hma : C.ma = if 250 ≤ gS g then [] else qaz (qiY (mkF al g) (mkMa g (mkN g)) (mkF al g).length)
 hes : C.es = if 250 ≤ gS g then [] else qhO (mkEs al g) al (mkF al g) (mkF al g).length
theorem qqw (g : List Nat) : 1 ≤ mkN g ∧ mkN g ≤ 5 := by unfold mkN; omega
theorem qj3 (al : List Int) (g : List Nat) : (mkF al g).length ≤ 5 := by
 have := (qgd (al := al) (qj2 al (mkN g) (gT g) (mkN g))).1.len
 have := qqw g
 unfold mkF mkEs
 omega
theorem qpG (X n u : Nat) (hX : X < 256) (hn : n ≤ 5) (hu : u = X % (n + 2)) :
 ((X : Nat) : Int).tmod ((n : Int) + 2) = (u : Int) ∧ wrap64 (X : Int) = (X : Int) ∧ IntKind.i64.wrap ((n : Int) + 2) = (n : Int) + 2 ∧ IntKind.i64.wrap (u : Int) = (u : Int) ∧ IntKind.i64.wrap (X : Int) = (X : Int) ∧ wrap64 ((n : Int) + 2) = (n : Int) + 2 ∧ wrap64 (u : Int) = (u : Int) ∧ ((n : Int) + 2 == 0) = false ∧ ((n : Int) + 2 = 0) = False ∧ u < n + 2 := by
 have hlt := Nat.mod_lt X (show n + 2 > 0 by omega)
 have h1 : ((X : Nat) : Int).tmod ((n : Int) + 2) = (u : Int) := by
  rw [Int.tmod_eq_emod_of_nonneg (by omega), hu, Int.natCast_emod]
  simp
 rw [← hu] at hlt
 clear hu
 refine ⟨h1, by unfold wrap64; omega, IntWalk.i64_in _ (by omega), IntWalk.i64_in _ (by omega), IntWalk.i64_in _ (by omega), by unfold wrap64; omega, by unfold wrap64; omega, ?_, ?_, by omega⟩
 · simp; omega
 · simp; omega
theorem qpH (al : List Int) (aA : Option Addr) (qA cA : Nat) (g : List Nat) (w : World) (hq : al.length = qA) (hal : qan w (.slice aA qA cA) qA (gw al)) (hq5 : qA ≤ 5) (h27 : g.length = 27) (hg : ∀ y ∈ g, y < 256) :
 Calls Tryz.prog 21 #[.slice aA qA cA, .agg (qdS g).toArray] w fun e w' => ∃ C : Au, e = .returned C.v ∧ C.ty w' ∧ qlS al g C ∧ (qad w w' ∧ C.newer w.heap.size) := by
 obtain ⟨i3, hi3, hi3z, hi3s, hi3b⟩ := info_parts qc0
 obtain ⟨j3, hj3, hj3z, hj3s, hj3b⟩ := info_parts infoE
 have hcs : ∀ j (h : j < 27), (qdS g)[j]? = some (.int .u8 (g.getD j 0 : Nat)) := fun j h => by simp [qdS, List.getD, h27, h]
 have hbd : ∀ j, g.getD j 0 < 256 := fun j => by
  rcases Nat.lt_or_ge j g.length with h | h
  · have e : g.getD j 0 = g[j] := by simp [List.getD, h]
    rw [e]; exact hg _ (List.getElem_mem h)
  · have e : g.getD j 0 = 0 := by simp [List.getD, h]
    omega
 have EM := fun W (hW : qad w W) => qgW al aA qA cA W hq (hal.same hW) (by omega)
 obtain ⟨n, hn⟩ : ∃ n, n = mkN g := ⟨_, rfl⟩
 obtain ⟨tg, htg⟩ : ∃ t, t = gT g := ⟨_, rfl⟩
 have htc : ∀ i k, tg i k = g.getD (2 + i * 5 + k) 0 := fun i k => by rw [htg]; rfl
 have hn5 := qqw g
 rw [← hn] at hn5
 have CN := fun (A : Au) W (hA : A.at W) (hz : A.small) (h8 : A.al.length ≤ 8) (hAn : A.n = n) (he : qqv n A.es) => qlR A n hAn (by omega) W hA hz h8 he
 obtain ⟨S, hS⟩ : ∃ S, S = g.getD 0 0 := ⟨_, rfl⟩
 obtain ⟨M, hM⟩ : ∃ M, M = g.getD 1 0 := ⟨_, rfl⟩
 have hS6 : S < 256 := by rw [hS]; exact hbd 0
 have hM6 : M < 256 := by rw [hM]; exact hbd 1
 have hnS : n = 1 + S % 5 := by rw [hn, hS]; rfl
 have MA1 : 250 ≤ S → ∀ C : Au, C.al = al → C.n = 0 → C.ma = [] → C.es = [] → qlS al g C := fun h C h1 h2 h3 h4 => by
  have h' : 250 ≤ gS g := by unfold gS; rw [← hS]; exact h
  exact ⟨h1, by rw [if_pos h', h2], by rw [if_pos h', h3], by rw [if_pos h', h4]⟩
 have MA2 : ¬ 250 ≤ S → ∀ (w e w'), CanR al (qaz (qez (qci (M : Nat)) n)) (qiZ al n tg n) (qce (qiZ al n tg n) al n) w e w' → ∃ C : Au, e = .returned C.v ∧ C.ty w' ∧ qlS al g C ∧ (qad w w' ∧ C.newer w.heap.size) := fun h w e w' hC => by
  have h' : ¬ 250 ≤ gS g := by unfold gS; rw [← hS]; exact h
  obtain ⟨C, h1, h2, h3, h4, h5, h6, h7⟩ := hC
  have e1 : qiZ al n tg n = mkEs al g := by unfold mkEs; rw [hn, htg]
  have e2 : qaz (qez (qci (M : Nat)) n) = mkMa g (mkN g) := by unfold mkMa gM; rw [hn, hM]
  have e3 : qce (qiZ al n tg n) al n = mkF al g := by unfold mkF; rw [e1, hn]
  rw [e3] at h4 h5 h6
  rw [e1] at h6
  rw [e2] at h5
  exact ⟨C, h1, h2, ⟨h3, by rw [if_neg h', h4], by rw [if_neg h', h5], by rw [if_neg h', h6]⟩, h7⟩
 have hgl := fun i => qk1 al n tg i
 have hrl := fun i k => qk0 al n tg i k
 have hgi := qj2 al n tg n
 rw [hq] at hgl
 obtain ⟨l27, hl27⟩ : ∃ v : List Value, v = qdS g := ⟨_, rfl⟩
 have hlz : l27.length = 27 := by rw [hl27]; simp [qdS, h27]
 rw [← hl27] at hcs ⊢
 match l27, hlz with
 | [v0, v1, v2, v3, v4, v5, v6, v7, v8, v9, v10, v11, v12, v13, v14, v15, v16, v17, v18, v19, v20, v21, v22, v23, v24, v25, v26], _ =>
 clear hg hl27 hlz h27 htg
 have q0 := hcs 0 (by omega)
 have q1 := hcs 1 (by omega)
 simp only [List.getElem?_cons_zero, List.getElem?_cons_succ, Option.some.injEq] at q0 q1
 rw [← hS] at q0
 rw [← hM] at q1
 clear hn hS hM
 have e1 : ((S : Nat) : Int).tmod 5 = ((S % 5 : Nat) : Int) := by rw [Int.tmod_eq_emod_of_nonneg (by omega)]; omega
 obtain ⟨r, hr⟩ : ∃ r, r = S % 5 := ⟨_, rfl⟩
 rw [← hr] at e1 hnS
 have hr5 : r < 5 := by omega
 replace e1 := gi e1
 replace q0 := gi q0; replace q1 := gi q1
 have e2 : IntKind.u8.wrap (r : Int) = (r : Int) := by unfold IntKind.wrap; simp [IntKind.signed, IntKind.bits]; omega
 replace e2 := gi e2
 have e3 : wrap64 (r : Int) = (r : Int) := by unfold wrap64; omega
 replace e3 := gi e3
 have e4 : IntKind.i64.wrap (1 + (r : Int)) = (n : Int) := by rw [IntWalk.i64_in _ (by omega)]; omega
 replace e4 := gi e4
 have e5 : wrap64 (1 + (r : Int)) = (n : Int) := by unfold wrap64; omega
 replace e5 := gi e5
 have e6 : IntKind.i64.wrap (r : Int) = (r : Int) := IntWalk.i64_in _ (by omega)
 replace e6 := gi e6
 clear hr
 replace hcs := gi hcs; replace hbd := gi hbd; replace EM := gi EM; replace CN := gi CN; replace hal := gi hal; replace hq := gi hq; replace htc := gi htc; replace MA1 := gi MA1; replace MA2 := gi MA2; replace hgl := gi hgl; replace hrl := gi hrl; replace hgi := gi hgi; replace hnS := gi hnS
 go_enter Tryz.func21, Tryz.ntmps21
 go_upto_region 1 with fail
 have kg := qab (gv w (.cells #[v0, v1, v2, v3, v4, v5, v6, v7, v8, v9, v10, v11, v12, v13, v14, v15, v16, v17, v18, v19, v20, v21, v22, v23, v24, v25, v26] 27)) (.cells #[.slice none 0 0, .int .i64 0, .slice none 0 0, .slice none 0 0] 39)
 have kr := gv (w.alloc (.cells #[v0, v1, v2, v3, v4, v5, v6, v7, v8, v9, v10, v11, v12, v13, v14, v15, v16, v17, v18, v19, v20, v21, v22, v23, v24, v25, v26] 27)) (.cells #[.slice none 0 0, .int .i64 0, .slice none 0 0, .slice none 0 0] 39)
 have hs : qad w ((w.alloc (.cells #[v0, v1, v2, v3, v4, v5, v6, v7, v8, v9, v10, v11, v12, v13, v14, v15, v16, v17, v18, v19, v20, v21, v22, v23, v24, v25, v26] 27)).alloc (.cells #[.slice none 0 0, .int .i64 0, .slice none 0 0, .slice none 0 0] 39)) := fs2
 have hz1 : (w.alloc (.cells #[v0, v1, v2, v3, v4, v5, v6, v7, v8, v9, v10, v11, v12, v13, v14, v15, v16, v17, v18, v19, v20, v21, v22, v23, v24, v25, v26] 27)).heap.size = w.heap.size + 1 := by simp
 rw [hz1] at kr
 generalize (w.alloc (.cells #[v0, v1, v2, v3, v4, v5, v6, v7, v8, v9, v10, v11, v12, v13, v14, v15, v16, v17, v18, v19, v20, v21, v22, v23, v24, v25, v26] 27)).alloc (.cells #[.slice none 0 0, .int .i64 0, .slice none 0 0, .slice none 0 0] 39) = W0 at *
 clear hz1
 obtain ⟨bg, hbg⟩ : ∃ b, b = w.heap.size := ⟨_, rfl⟩
 rw [← hbg] at kg kr ⊢
 have hbr : bg + 1 < W0.heap.size := gu kr
 have hgc : ∀ W, qad W0 W → ∀ j, j < 27 → bg < W.heap.size ∧ W.cell? ⟨bg, j, none⟩ = some (.int .u8 (g.getD j 0 : Nat)) := fun W hW j hj => by
  have kW := hW.at kg id
  refine ⟨gu kW, ?_⟩
  rw [gn kW j]
  have := hcs.out j hj
  simpa using this
 replace kg := gi kg; replace kr := gi kr; replace hs := gi hs; replace hbg := gi hbg; replace hgc := gi hgc
 have xl : bg < W0.heap.size := by omega
 have x0 : W0.cell? ⟨bg, 0, none⟩ = some (.int .u8 (S : Nat)) := by rw [gn kg.out 0]; simp [q0.out]
 by_cases c0 : 250 ≤ S
 · have c0' : (250 : Int) ≤ S := by omega
   replace c0 := gi c0
   go_wp2_with fail
   refine (EM.out _ hs.out).mono ?_
   rintro e w3 ⟨a4, c4, rfl, ho4, s3⟩
   have hAR := qaa.of_owns ho4
   have hn4 : ∀ k, (Value.slice a4 qA c4).ownBlock = some k → w.heap.size ≤ k := fun k hk => Nat.le_trans hs.out.size (ho4.lt k hk).1
   replace hs := gi (hs.out.same s3); replace kr := gi (s3.at kr.out id)
   clear s3 ho4 x0 xl EM
   obtain ⟨y0, y1, y2, y3, f0, f1, f2, f3, yl⟩ := qaC kr.out
   replace hAR := gi hAR
   go_wp2_with fail
   obtain ⟨k6, f6⟩ := qgV (u0 := .slice a4 qA c4) (u1 := .int .i64 0) (u2 := .slice none 0 0) (u3 := .slice none 0 0) kr.out
   clear y0 y1 y2 y3 f0 f1 f2 f3 yl
   have r1 := qaa.bx hAR.out kr.out (by decide) f6
   have hs6 := hs.out.trans f6 (fun i hi e => by have : i = bg + 1 := e; have := hbg.out; omega)
   generalize (((w3.setCell ⟨bg + 1, 0, none⟩ (.slice a4 qA c4)).setCell ⟨bg + 1, 1, none⟩ (.int .i64 0)).setCell ⟨bg + 1, 2, none⟩ (.slice none 0 0)).setCell ⟨bg + 1, 3, none⟩ (.slice none 0 0) = W6 at *
   obtain ⟨d0, d1, d2, d3, f0, f1, f2, f3, yl⟩ := qaC k6
   refine bodyPost_ret (v := .agg #[.slice a4 qA c4, .int .i64 0, .slice none 0 0, .slice none 0 0]) (by simp [results, Tryz.results21, go_sem, d0, d1, d2, d3]) rfl ?_
   refine ⟨⟨al, 0, [], [], a4, c4, none, 0, none, 0⟩, ?_, ⟨?_, qaa.nil _ _ _, qaa.nil _ _ _⟩, MA1.out c0.out _ rfl rfl rfl rfl, hs6, ⟨?_, fun k hk => by simp [Value.ownBlock] at hk⟩⟩
   · unfold Au.v; simp only; rw [hq.out]; rfl
   · simp only; rw [hq.out]; exact r1
   · simp only; rw [hq.out]; exact hn4
 · have c0' : ((250 : Int) ≤ S) = False := by simp; omega
   replace c0 := gi c0
   go_upto_region 3 with fail
   go_wp2_with fail
   refine (EM.out _ hs.out).mono ?_
   rintro e w3 ⟨a4, c4, rfl, ho4, s3⟩
   have hAR := qaa.of_owns ho4
   have hz3 := s3.size
   have hgc3 : ∀ W, qad w3 W → ∀ j, j < 27 → bg < W.heap.size ∧ W.cell? ⟨bg, j, none⟩ = some (.int .u8 (g.getD j 0 : Nat)) := fun W hW => hgc.out W (s3.same hW)
   replace hs := gi (hs.out.same s3); replace kr := gi (s3.at kr.out id)
   clear s3 ho4 x0 xl EM
   replace hAR := gi hAR; replace hgc3 := gi hgc3
   go_upto_region 4 with fail
   have k4 := gv w3 (.cells #[.slice a4 qA c4, .int .i64 0, .slice none 0 0, .slice none 0 0] 39)
   have s4 : qad w3 (w3.alloc (.cells #[.slice a4 qA c4, .int .i64 0, .slice none 0 0, .slice none 0 0] 39)) := fs2
   generalize w3.alloc (.cells #[.slice a4 qA c4, .int .i64 0, .slice none 0 0, .slice none 0 0] 39) = W4 at *
   obtain ⟨b4, hb4⟩ : ∃ b, b = w3.heap.size := ⟨_, rfl⟩
   rw [← hb4] at k4 ⊢
   obtain ⟨y0, y1, y2, y3, f0, f1, f2, f3, yl⟩ := qaC k4
   obtain ⟨xl, x0⟩ := hgc3.out W4 s4 0 (by omega)
   have hg0 : g.getD 0 0 = S := by
    have := hcs.out 0 (by omega)
    simp only [List.getElem?_cons_zero, Option.some.injEq] at this
    rw [q0.out] at this
    simp only [Value.int.injEq, true_and] at this
    omega
   have hg1 : g.getD 1 0 = M := by
    have := hcs.out 1 (by omega)
    simp only [List.getElem?_cons_zero, List.getElem?_cons_succ, Option.some.injEq] at this
    rw [q1.out] at this
    simp only [Value.int.injEq, true_and] at this
    omega
   rw [hg0] at x0
   replace k4 := gi k4; replace s4 := gi s4; replace hb4 := gi hb4; replace hg0 := gi hg0; replace hg1 := gi hg1
   replace e1 := e1.out
   replace e2 := e2.out
   replace e3 := e3.out
   replace e4 := e4.out
   replace e5 := e5.out
   replace e6 := e6.out
   go_upto_region 5 with fail
   clear e1 e2 e3 e4 e5 e6
   have h5 : AuB W4 b4 a4 qA c4 n [] none 0 [] none 0 (W4.setCell ⟨b4, 1, none⟩ (.int .i64 n)) := AuB.nil (by have := qaf k4.out 1 (.int .i64 n); rw [this]; simp) ((Fr.refl _ _).setCell _ _ (fun _ => rfl))
   clear y0 y1 y2 y3 f0 f1 f2 f3 yl xl x0
   generalize W4.setCell ⟨b4, 1, none⟩ (.int .i64 n) = W5 at *
   have hS4 : ∀ W, Fr (fun k => k = b4) W4 W → qad w3 W := fun W hf => s4.out.trans hf (fun i hi e => by have : i = b4 := e; have := hb4.out; omega)
   replace h5 := gi h5; replace hS4 := gi hS4
   go_wp2_with fail
   go_loopw [6] (fun i wr => ∃ (j : Nat) (aM : Option Addr) (cM : Nat) (aE : Option Addr) (cE : Nat), i = .int .i64 j ∧ j ≤ n ∧ AuB W4 b4 a4 qA c4 n (qaz (qez (qci (M : Nat)) j)) aM cM (qiZ al n tg j) aE cE wr) (fun i _ => n - (intOf i).toNat)
   case atStart => exact ⟨0, none, 0, none, 0, rfl, by omega, h5.out⟩
   case round =>
    clear h5
    obtain ⟨j, gM', dM, gE, dE, rfl, hj, hB⟩ := hrel
    have hs3 := hS4.out _ hB.fr
    by_cases hjq : j < n
    · obtain ⟨xl, x1⟩ := hgc3.out _ hs3 1 (by omega)
      rw [hg1.out] at x1
      have y1 := gn hB.box 1
      have yl := gu hB.box
      have hmin : min j 8 = j := by omega
      obtain ⟨R, hR⟩ : ∃ R, R = qci (M : Nat) j := ⟨_, rfl⟩
      have hR2 := hR
      unfold qci at hR2
      have hmy := qhn (p := qci (M : Nat)) (k := j)
      have hmn := qjE (p := qci (M : Nat)) (k := j)
      obtain ⟨MA, hMA⟩ : ∃ M', M' = qaz (qez (qci (M : Nat)) j) := ⟨_, rfl⟩
      have hMl : MA.length ≤ 8 := by rw [hMA, qaG]; exact Nat.le_trans (qdB _ _) (by omega)
      rw [← hMA] at hB
      have hes := qiL al n tg j
      rw [hq.out] at hes
      obtain ⟨EE, hEE⟩ : ∃ E, E = qiZ al n tg j := ⟨_, rfl⟩
      have hEl : EE.length ≤ 64 := by
       rw [hEE]
       refine Nat.le_trans (hgl.out j) (Nat.le_trans (Nat.mul_le_mul (show j ≤ 8 by omega) (show qA ≤ 8 by omega)) (by decide))
      rw [← hEE] at hB hes
      have hzb := hB.fr.size
      replace hR := gi hR; replace hR2 := gi hR2; replace hmy := gi hmy; replace hmn := gi hmn; replace hMA := gi hMA; replace hes := gi hes; replace hEE := gi hEE; replace hB := gi hB; replace hs3 := gi hs3
      cases R
      case' true =>
       have hR3 : (bits .and .u8 ((M : Int) / 2 ^ j) 1 == 1) = true := hR2.out.symm
       have hm1 : qaz (qez (qci (M : Nat)) (j + 1)) = MA ++ [(j : Int)] := by rw [hmy.out hR.out.symm, qk2, hMA.out]
       have y2 := gn hB.out.box 2
       have f2 := qak hB.out.box 2
       replace hm1 := gi hm1
       go_upto_region 10 with (at_builtin; refine qai rfl (.tmp 35) (.tmp 37) 33 rfl W4.heap.size 3 i3 (.int .i64 0) 1 8 Tryz.underlying33 hi3 hi3z hi3s hi3b rfl (by decide) (by decide) gM' MA.length dM (gw MA) rfl (qag hB.out.ma fs2) (by omega) wr.heap.size [.int .i64 j] rfl rfl (gv _ _) (by simp [Value.oneCell']) (by simp; omega) ?_; intro a9 c9 w9 ho9 hG9; have P := hB.out.pushM fs2 ho9 hG9; have q2 := gn P.1 2; have p2 := qak P.1 2; have ql := gu P.1; have P2 := P.2; replace P2 := gi P2; clear ho9 hG9 P)
       generalize w9.setCell ⟨b4, 2, none⟩ (.slice a9 (MA.length + 1) c9) = W9 at *
       have hB9 := P2.out
       rw [← hm1.out] at hB9
       clear P2 q2 p2 ql y2 f2 hB y1 yl hR3 xl x1
       replace hB9 := gi hB9
      case' false =>
       have hR3 : (bits .and .u8 ((M : Int) / 2 ^ j) 1 == 1) = false := hR2.out.symm
       have hm1 : qaz (qez (qci (M : Nat)) (j + 1)) = MA := by rw [hmn.out hR.out.symm, hMA.out]
       have hB9 := hB.out
       rw [← hm1] at hB9
       replace hm1 := gi hm1; replace hB9 := gi hB9
       go_upto_region 10 with fail
       obtain ⟨W9, rfl⟩ : ∃ W, W = wr := ⟨_, rfl⟩
       obtain ⟨a9, rfl⟩ : ∃ a, a = gM' := ⟨_, rfl⟩
       obtain ⟨c9, rfl⟩ : ∃ c, c = dM := ⟨_, rfl⟩
       clear hB y1 yl hR3 xl x1
      all_goals
       clear hs3 hm1 hMA hmy hmn hR hR2 hzb hmin
       obtain ⟨MB, hMB⟩ : ∃ M', M' = qaz (qez (qci (M : Nat)) (j + 1)) := ⟨_, rfl⟩
       rw [← hMB] at hB9
       replace hMB := gi hMB
       go_wp2_with fail
       go_loopw [7] (fun i wr => ∃ (k : Nat) (ee : List Nd) (aE : Option Addr) (cE : Nat), i = .int .i64 k ∧ k ≤ qA ∧ ee = EE ++ qj1 al n tg j k ∧ AuB W4 b4 a4 qA c4 n MB a9 c9 ee aE cE wr) (fun i _ => qA - (intOf i).toNat)
       case atStart => exact ⟨0, EE, gE, dE, rfl, by omega, by rw [rowG_0, List.append_nil], hB9.out⟩
       case round =>
        clear hB9
        obtain ⟨k, ee, hE, dF, rfl, hk, hee, hB⟩ := hrel
        have hs3 := hS4.out _ hB.fr
        have hw2 := hs.out.same hs3
        have hel : ee.length ≤ 72 := by
         rw [hee, List.length_append]
         have := hrl.out j k
         omega
        by_cases hkA : k < qA
        · have hk5 : (k : Int) < 5 := by omega
          obtain ⟨xl, x1⟩ := hgc3.out _ hs3 (2 + j * 5 + k) (by omega)
          rw [← htc.out] at x1
          have hT6 : tg j k < 256 := by rw [htc.out]; exact hbd.out _
          have y1 := gn hB.box 1
          have yl := gu hB.box
          have hyes := qpE (al := al) (n := n) (tg := tg) (i := j) (k := k)
          have hno := rowG_no (al := al) (n := n) (tg := tg) (i := j) (k := k)
          obtain ⟨bc, off2, rfl, hcl, z1⟩ := (hal.out.same hw2).int (k := k) hq.out hkA
          have hkl : k < al.length := by rw [hq.out]; exact hkA
          have hgk : al.getD k 0 = al[k] := by simp [List.getD, hkl]
          rw [hgk] at hyes
          generalize al[k] = e at z1 hgk hyes
          generalize tg j k = X at x1 hT6 hyes hno
          obtain ⟨u, hu⟩ : ∃ u, u = X % (n + 2) := ⟨_, rfl⟩
          have RR := qpG X n u hT6 (by omega) hu
          rw [← hu] at hyes hno
          clear hu
          have hlt := RR.2.2.2.2.2.2.2.2.2
          replace RR := gi RR
          have hj5 : (j : Int) < 5 := by omega
          have hk5n : k < 5 := by omega
          have hj5n : j < 5 := by omega
          replace hs3 := gi hs3; replace hB := gi hB; replace hw2 := gi hw2; replace hee := gi hee; replace hyes := gi hyes; replace hno := gi hno; replace hgk := gi hgk
          obtain ⟨r1, r2, r3, r4, r5, r6, r7, r8, r9, _⟩ := RR.out
          go_upto_region 13 with fail
          refine qac (fun k => k = bg ∨ k = b4) [0, 0, 0, 0, 0, 1, 0, 0, 1, 0, 0, 0] [0, 1, 2, 3, 4, 7, 5, 6, 8, 9, 10, 11] (by kernel_rfl) (by kernel_rfl) ?_
          repeat ((first | refine gB rfl rfl fun _ k => ?_ | refine gC rfl rfl fun _ k => ?_); go_simp; (first | refine k _ ?_ | refine ⟨_, fun _ => rfl, k _ ?_⟩); clear k)
          refine gO (NoPanic.normal ?_)
          clear r1 r2 r3 r4 r5 r6 r7 r8 r9 xl x1
          by_cases c1 : u < n
          · have hst := hyes.out c1
            have y3 := gn hB.out.box 3
            have hzb := hB.out.fr.size
            have hst2 : ee ++ [((j : Int), e, (u : Int))] = EE ++ qj1 al n tg j (k + 1) := by rw [hst, ← List.append_assoc, ← hee.out]
            replace hst := gi hst; replace hst2 := gi hst2
            go_upto_region 15 with fail
            refine qac (fun k => k = b4 ∨ k = bc) [0, 1, 0, 0, 0, 0, 1, 0, 0, 2, 3, 0, 3] [0, 2, 3, 4, 5, 7, 1, 6, 8, 9, 10, 11, 12] (by kernel_rfl) (by kernel_rfl) ?_
            repeat ((first | refine gB rfl rfl fun _ k => ?_ | refine gC rfl rfl fun _ k => ?_); go_simp; (first | refine k _ ?_ | refine ⟨_, fun _ => rfl, k _ ?_⟩); clear k)
            refine gF rfl rfl (fun _ hK => ?_); go_simp; refine hK _ _ (Kp.of_same fs2) ?_; clear hK
            refine gD rfl (by decide) (fun _ hK => ?_)
            refine qbe rfl (.tmp 66) (.tmp 74) 37 rfl W4.heap.size 57 j3 (.agg #[.int .i64 0, .int .i64 0, .int .i64 0]) 3 24 Tryz.underlying37 hj3 hj3z hj3s hj3b rfl (by decide) (by decide) hE ee.length dF (qap ee) (by go_simp) (qag hB.out.es fs2) (by omega) wr.heap.size [.int .i64 j, .int .i64 e, .int .i64 u] (by go_simp) rfl (qae (by simp) _) (by simp [Value.oneCell']) (by simp; omega) ?_
            intro a12 c12 w12 ho12 hG12
            have P := hB.out.pushE (x := ((j : Int), e, (u : Int))) fs2 ho12 hG12
            have q3 := gn P.1 3
            have p3 := qak P.1 3
            have ql := gu P.1
            have P2 := P.2
            clear ho12 hG12 P
            replace P2 := gi P2
            refine hK _ _ ?_; clear hK; try simp only [Act.put, gj]
            repeat ((first | refine gB rfl rfl fun _ k => ?_ | refine gC rfl rfl fun _ k => ?_); go_simp; (first | refine k _ ?_ | refine ⟨_, fun _ => rfl, k _ ?_⟩); clear k)
            refine gD rfl (by decide) (fun _ hK => ?_); go_simp
            refine hK _ _ ?_; clear hK; try simp only [Act.put, gj]
            refine gO (NoPanic.normal ?_)
            go_wp2_with fail
            go_roundw
            case rel => exact ⟨k + 1, _, a12, c12, by go_num, by omega, hst2.out, P2.out.same fs2⟩
            case measure => simp [intOf]; omega
          · have hst := hno.out c1
            replace hst := gi hst
            go_wp2_with fail
            go_roundw
            case rel => exact ⟨k + 1, ee, hE, dF, by go_num, by omega, by rw [hst.out]; exact hee.out, hB.out.same fs2⟩
            case measure => simp [intOf]; omega
        · obtain rfl : k = qA := by omega
          have hee2 := hee
          rw [← hes.out] at hee2
          clear hee
          subst hee2
          replace hkA := gi hkA; replace hB := gi hB; replace hs3 := gi hs3; replace hw2 := gi hw2
          go_wp2_with fail
          go_roundw
          case rel => exact ⟨j + 1, a9, c9, hE, dF, by go_num, by omega, by rw [← hMB.out]; exact hB.out.same fs2⟩
          case measure => simp [intOf]; omega
    · obtain rfl : j = n := by omega
      have hbx := hB.box
      have hkr := hs3.at kr.out id
      have hsw := hs.out.same hs3
      obtain ⟨x0, x1, x2, x3, xl⟩ := g4l hbx
      have hel := hgl.out j
      have hjj : j * qA ≤ 25 := Nat.mul_le_mul (show j ≤ 5 by omega) hq5
      have CN1 := CN.out ⟨al, j, qaz (qez (qci (M : Nat)) j), qiZ al j tg j, a4, c4, gM', dM, gE, dE⟩ wr ⟨by simp only; rw [hq.out]; exact (hAR.out.same hs3).row, (qaa.of_owns hB.ma).row, (qaa.of_owns hB.es).nds⟩ ⟨by simp only; rw [hq.out]; omega, by simp only; rw [qaG]; exact Nat.le_trans (qdB _ _) (by omega), by simp only; omega⟩ (by simp only; rw [hq.out]; omega) rfl hgi.out
      unfold Au.v at CN1
      simp only at CN1
      rw [hq.out] at CN1
      clear hel hjj
      replace hbx := gi hbx; replace hkr := gi hkr; replace hsw := gi hsw; replace hs3 := gi hs3; replace hB := gi hB; replace CN1 := gi CN1
      go_wp2_with fail
      refine CN1.out.mono ?_
      intro e8 w8 hM8
      obtain ⟨C, rfl, hC, hMk, s8, hNw⟩ := MA2.out c0.out _ _ _ hM8
      have hNw2 : C.newer w.heap.size := ⟨fun k hk => Nat.le_trans hsw.out.size (hNw.al k hk), fun k hk => Nat.le_trans hsw.out.size (hNw.ma k hk)⟩
      clear hNw
      replace hkr := gi (s8.at hkr.out id)
      replace hsw := gi (hsw.out.same s8)
      clear s8 hM8 x0 x1 x2 x3 xl
      obtain ⟨y0, y1, y2, y3, f0, f1, f2, f3, yl⟩ := qaC hkr.out
      unfold Au.v
      replace hC := gi hC; replace hMk := gi hMk; replace hNw2 := gi hNw2
      go_wp2_with fail
      obtain ⟨k6, f6⟩ := qgV (u0 := .slice C.aA C.al.length C.cA) (u1 := .int .i64 C.n) (u2 := .slice C.aM C.ma.length C.cM) (u3 := .slice C.aE C.es.length C.cE) hkr.out
      clear y0 y1 y2 y3 f0 f1 f2 f3 yl
      have hC6 := hC.out.bx hkr.out f6
      have hs6 := hsw.out.trans f6 (fun i hi e => by have : i = bg + 1 := e; have := hbg.out; omega)
      generalize (((w8.setCell ⟨bg + 1, 0, none⟩ (.slice C.aA C.al.length C.cA)).setCell ⟨bg + 1, 1, none⟩ (.int .i64 C.n)).setCell ⟨bg + 1, 2, none⟩ (.slice C.aM C.ma.length C.cM)).setCell ⟨bg + 1, 3, none⟩ (.slice C.aE C.es.length C.cE) = W6 at *
      obtain ⟨d0, d1, d2, d3, f0, f1, f2, f3, yl⟩ := qaC k6
      refine bodyPost_ret (v := .agg #[.slice C.aA C.al.length C.cA, .int .i64 C.n, .slice C.aM C.ma.length C.cM, .slice C.aE C.es.length C.cE]) (by simp [results, Tryz.results21, go_sem, d0, d1, d2, d3]) rfl ?_
      exact ⟨C, rfl, hC6, hMk.out, hs6, hNw2.out⟩
end Go.Proofs.YticcpnekjddanaaGreatDoor
