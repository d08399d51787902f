/-  -/
import Derived.Test.YtcipnkemnepbaaaGreatCMkP
import Derived.Deep.MidRow
set_option linter.unusedVariables false
set_option linter.unusedSimpArgs false
namespace Go.Proofs.YtcipnkemnepbaaaGreat
open Go.RowKit
theorem sched_load {P : Program} {ops : Array Oper} {Q : Exit → Act → World → Prop} {L : Nat → Prop} {kds : List Nat} {F : Act → World → Prop} {i : Nat} {rest : List Nat} {op : Oper} {a : Act} {w : World} (ho : ops[i]? = some op) (hk : kds.getD i 3 = 1)
 (hw : Region.wanted op (yielded ops a.tmps) = true) (ty : TypeId) (x : Operand) (hop : op.op = .load ty x) (b o : Nat) (hx : a.eval x = .pointer (some ⟨b, o, none⟩)) (cs : List Value) (d : TypeDesc) (hb : b < w.heap.size) (hL : L b) (hc : World.rangeAt w b o cs)
 (hu : P.underlying ty = some d) (hd : TypeDesc.isRow d = true) (hi : (P.info? ty).map (·.size) = some cs.length) (h : wpTo L P ops Q kds F rest (a.put op.dst (.agg cs.toArray)) w) : wpTo L P ops Q kds F (i :: rest) a w := by
 refine gC ho hk (fun K hK => ?_)
 rw [if_pos hw]
 refine ⟨.agg cs.toArray, ?_, hK _ h⟩
 rintro w' ⟨g, rfl⟩
 have hc' : World.rangeAt g.1 b o cs := fun j v hv => by rw [Kin.cell g b (o + j) ⟨hb, hL⟩]; exact hc j v hv
 unfold execOp
 simp only [hop, hx, Instr.loadAt, Instr.sureAddr, Sem.run_bind, Sem.run_pure, Result.andThen_ok, run_loadVar_mid g.1 b o ty cs d hc' hu hd hi]
 exact ⟨rfl, rfl⟩
theorem range_row {w : World} {b : Nat} {cs : Array Value} {T : TypeId} {fr : Nat × Nat} (h : w.heap[b]? = some (.cells cs T fr)) (o n : Nat) : World.rangeAt w b o ((cs.toList.drop o).take n) := fun j v hv => by
 rw [List.getElem?_take] at hv
 split at hv
 · rw [List.getElem?_drop] at hv
   simp only [World.cell?, h]
   simpa using hv
 · simp at hv
end Go.Proofs.YtcipnkemnepbaaaGreat
namespace Go.Proofs.YtcipnkemnepbaaaGreat
open Go.RowKit Go.Sort
theorem wpList_appN {P : Program} {w : World} {ops : Array Oper} {rest : List Oper} {o : Oper} {a : Act} {Q : Exit → Act → World → Prop} (hgd : o.guard = none) (s x : Operand) (t : TypeId)
 (ho : o.op = .call { callee := .builtin .append, args := #[s, x], argTypes := #[t, t] })
 (base : Nat) (e : TypeId) (i : TypeInfo) (z : Value) (size bytes : Nat) (ht : P.underlying t = some (.slice e)) (hi : P.info? e = some i) (hz : i.zero = some z)
 (hsize : i.size = size) (hby : i.bytes = bytes) (hzs : z.cells.size = size) (hsz : 0 < size) (hb : bytes ≤ 1000)
 (v : Value) (n : Nat) (xs : List Value) (hs : a.eval s = v) (hown : w.ownsRow base e size v n xs)
 (ad : Addr) (m c : Nat) (news : List Value) (hx : a.eval x = .slice (some ad) m c) (hl : news.length = m * size) (hnews : ∀ j u, news[j]? = some u → w.cell? (ad.add j) = some u) (h1 : ∀ u ∈ news, u.oneCell' = true) (h63 : n + m ≤ 1000000000) (hbase : base ≤ w.heap.size)
 (h : ∀ a' cap' w', w'.ownsRow base e size (.slice a' (n + m) cap') (n + m) (xs ++ news) → Grew (fun _ => False) w w' v (.slice a' (n + m) cap') → wpList P ops Q rest (a.put o.dst (.slice a' (n + m) cap')) w') :
 wpList P ops Q (o :: rest) a w :=
 wpList_plain hgd fun K hK => by
  obtain ⟨v', w', hr, h2, h3, h4, h5⟩ := run_append_own_at (P := P) (w := w) base t o.type e i z size bytes ht hi hz hsize hby hzs hsz v n xs hown ad m c news hl hnews h1 (by unfold maxLen; omega)
   (Nat.le_trans (Nat.mul_le_mul h63 hb) (by omega)) hbase
  obtain ⟨a', cap', rfl⟩ : ∃ a' cap', v' = .slice a' (n + m) cap' := by
   rcases h2.2 with ⟨rfl, hz⟩ | ⟨g, cap, cur, rfl, _⟩
   · exact ⟨none, 0, by rw [hz]⟩
   · exact ⟨_, _, rfl⟩
  unfold Oper.wp execOp
  simp only [ho, resolve, invoke, builtin, Sem.run_bind, Sem.run_pure, Result.andThen_ok, List.map_toArray, List.map_cons, List.map_nil, hs, hx, hr]
  refine hK _ _ (h a' cap' w' h2 ⟨(Fr.refl _ _).grown h3 (fun k hk _ => .inl hk), fun k hk => ?_⟩)
  rcases h5 with h5 | h5
  · exact .inl (by rw [← h5]; exact hk)
  · rw [h5] at hk
    exact .inr (Nat.le_of_eq (Option.some.inj hk))
theorem grew_nilA {w w' : World} {v' : Value} (h : Grew (fun _ => False) w w' (.slice none 0 0) v') : Same w w' := h.1.mono (fun k _ hk => by rcases hk with hk | hk; simp [Value.ownBlock] at hk; exact hk)
theorem wpList_appR {P : Program} {w : World} {ops : Array Oper} {rest : List Oper} {o : Oper} {a : Act} {Q : Exit → Act → World → Prop} (hgd : o.guard = none) (s x : Operand) (t : TypeId)
 (ho : o.op = .call { callee := .builtin .append, args := #[s, x], argTypes := #[t, t] })
 (base : Nat) (e : TypeId) (i : TypeInfo) (z : Value) (bytes : Nat) (ht : P.underlying t = some (.slice e)) (hi : P.info? e = some i) (hz : i.zero = some z)
 (hsize : i.size = 1) (hby : i.bytes = bytes) (hzs : z.cells.size = 1) (hb : bytes ≤ 1000)
 (v : Value) (n : Nat) (xs : List Value) (hs : a.eval s = v) (hown : w.ownsRow base e 1 v n xs)
 (ga : Option Addr) (m c : Nat) (news : List Value) (hx : a.eval x = .slice ga m c) (hR : RowAt w (.slice ga m c) m news) (h1 : ∀ u ∈ news, u.oneCell' = true) (h63 : n + m ≤ 1000000000) (hbase : base ≤ w.heap.size)
 (h : ∀ a' cap' w', w'.ownsRow base e 1 (.slice a' (n + m) cap') (n + m) (xs ++ news) → Grew (fun _ => False) w w' v (.slice a' (n + m) cap') → wpList P ops Q rest (a.put o.dst (.slice a' (n + m) cap')) w') :
 wpList P ops Q (o :: rest) a w := by
 cases ga with
 | some ad =>
  refine wpList_appN hgd s x t ho base e i z 1 bytes ht hi hz hsize hby hzs (by decide) hb v n xs hs hown ad m c news hx (by rw [hR.1, Nat.mul_one]) (fun j u hu => ?_) h1 h63 hbase h
  have hj : j < m := by
   have := (List.getElem?_eq_some_iff.1 hu).1
   rw [hR.1] at this; exact this
  obtain ⟨b, off, e', _, hc⟩ := hR.cell (by omega)
  cases e'
  rw [Addr.add_lit]
  exact hc j u hu
 | none =>
  have hm : m = 0 := by
   rcases Nat.eq_zero_or_pos m with h0 | h0
   · exact h0
   · obtain ⟨b, off, e', _⟩ := hR.cell h0
     cases e'
  subst hm
  have hc : c = 0 := by
   obtain ⟨_, a', cap', e', _, _, h3, _⟩ := hR
   cases e'
   exact h3 rfl
  subst hc
  obtain rfl : news = [] := List.length_eq_zero_iff.1 hR.1
  obtain ⟨a', cap', rfl⟩ : ∃ a' cap', v = .slice a' n cap' := by
   rcases hown.2 with ⟨rfl, hz⟩ | ⟨g, cap, cur, rfl, _⟩
   · exact ⟨none, 0, by rw [hz]⟩
   · exact ⟨_, _, rfl⟩
  have hr := run_append_owned_none (P := P) (w := w) base t o.type e i 1 ht hi _ n xs hown
  refine wpList_plain hgd fun K hK => ?_
  unfold Oper.wp execOp
  simp only [ho, resolve, invoke, builtin, Sem.run_bind, Sem.run_pure, Result.andThen_ok, List.map_toArray, List.map_cons, List.map_nil, hs, hx, hr]
  exact hK _ _ (h a' cap' w (by rw [List.append_nil]; exact hown) (Grew.refl _ _ _))
end Go.Proofs.YtcipnkemnepbaaaGreat
