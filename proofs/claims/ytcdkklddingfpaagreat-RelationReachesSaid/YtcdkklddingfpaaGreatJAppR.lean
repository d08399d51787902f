/- appends of rows that are only read. -/
import Derived.Test.YtcdkklddingfpaaGreatJRlN
namespace Go.Proofs.YtcdkklddingfpaaGreat
open Go.RowKit Go.Sort
set_option linter.unusedVariables false
set_option linter.unusedSimpArgs false

/-- append of the m elements that lie at an address, to a row of the call's own; m may be 0. -/
theorem wpList_appN {P : Program} {w : World} {ops : Array Oper} {rest : List Oper} {o : Oper} {a : Act} {Q : Exit → Act → World → Prop} (hgd : o.guard = none) (s x : Operand) (t : TypeId)
    (ho : o.op = .call { callee := .builtin .append, args := #[s, x], argTypes := #[t, t] })
    (base : Nat) (e : TypeId) (i : TypeInfo) (z : Value) (size bytes : Nat) (ht : P.underlying t = some (.slice e)) (hi : P.info? e = some i) (hz : i.zero = some z)
    (hsize : i.size = size) (hby : i.bytes = bytes) (hzs : z.cells.size = size) (hsz : 0 < size) (hb : bytes ≤ 1000)
    (v : Value) (n : Nat) (xs : List Value) (hs : a.eval s = v) (hown : w.ownsRow base e size v n xs)
    (ad : Addr) (m c : Nat) (news : List Value) (hx : a.eval x = .slice (some ad) m c) (hl : news.length = m * size) (hnews : ∀ j u, news[j]? = some u → w.cell? (ad.add j) = some u) (h1 : ∀ u ∈ news, u.oneCell' = true) (h63 : n + m ≤ 1000000000) (hbase : base ≤ w.heap.size)
    (h : ∀ a' cap' w', w'.ownsRow base e size (.slice a' (n + m) cap') (n + m) (xs ++ news) → Grew (fun _ => False) w w' v (.slice a' (n + m) cap') → wpList P ops Q rest (a.put o.dst (.slice a' (n + m) cap')) w') :
    wpList P ops Q (o :: rest) a w :=
  wpList_plain hgd fun K hK => by
    obtain ⟨v', w', hr, h2, h3, h4, h5⟩ := run_append_own_at (P := P) (w := w) base t o.type e i z size bytes ht hi hz hsize hby hzs hsz v n xs hown ad m c news hl hnews h1 (by unfold maxLen; omega)
      (Nat.le_trans (Nat.mul_le_mul h63 hb) (by omega)) hbase
    obtain ⟨a', cap', rfl⟩ : ∃ a' cap', v' = .slice a' (n + m) cap' := by
      rcases h2.2 with ⟨rfl, hz⟩ | ⟨g, cap, cur, rfl, _⟩
      · exact ⟨none, 0, by rw [hz]⟩
      · exact ⟨_, _, rfl⟩
    unfold Oper.wp execOp
    simp only [ho, resolve, invoke, builtin, Sem.run_bind, Sem.run_pure, Result.andThen_ok, List.map_toArray, List.map_cons, List.map_nil, hs, hx, hr]
    refine hK _ _ (h a' cap' w' h2 ⟨(Fr.refl _ _).grown h3 (fun k hk _ => .inl hk), fun k hk => ?_⟩)
    rcases h5 with h5 | h5
    · exact .inl (by rw [← h5]; exact hk)
    · rw [h5] at hk
      exact .inr (Nat.le_of_eq (Option.some.inj hk))

theorem grew_nilA {w w' : World} {v' : Value} (h : Grew (fun _ => False) w w' (.slice none 0 0) v') : Same w w' := h.1.mono (fun k _ hk => by rcases hk with hk | hk; simp [Value.ownBlock] at hk; exact hk)

/-- append of a row that is only read, wherever it lies. -/
theorem wpList_appR {P : Program} {w : World} {ops : Array Oper} {rest : List Oper} {o : Oper} {a : Act} {Q : Exit → Act → World → Prop} (hgd : o.guard = none) (s x : Operand) (t : TypeId)
    (ho : o.op = .call { callee := .builtin .append, args := #[s, x], argTypes := #[t, t] })
    (base : Nat) (e : TypeId) (i : TypeInfo) (z : Value) (bytes : Nat) (ht : P.underlying t = some (.slice e)) (hi : P.info? e = some i) (hz : i.zero = some z)
    (hsize : i.size = 1) (hby : i.bytes = bytes) (hzs : z.cells.size = 1) (hb : bytes ≤ 1000)
    (v : Value) (n : Nat) (xs : List Value) (hs : a.eval s = v) (hown : w.ownsRow base e 1 v n xs)
    (ga : Option Addr) (m c : Nat) (news : List Value) (hx : a.eval x = .slice ga m c) (hR : RowAt w (.slice ga m c) m news) (h1 : ∀ u ∈ news, u.oneCell' = true) (h63 : n + m ≤ 1000000000) (hbase : base ≤ w.heap.size)
    (h : ∀ a' cap' w', w'.ownsRow base e 1 (.slice a' (n + m) cap') (n + m) (xs ++ news) → Grew (fun _ => False) w w' v (.slice a' (n + m) cap') → wpList P ops Q rest (a.put o.dst (.slice a' (n + m) cap')) w') :
    wpList P ops Q (o :: rest) a w := by
  cases ga with
  | some ad =>
    refine wpList_appN hgd s x t ho base e i z 1 bytes ht hi hz hsize hby hzs (by decide) hb v n xs hs hown ad m c news hx (by rw [hR.1, Nat.mul_one]) (fun j u hu => ?_) h1 h63 hbase h
    have hj : j < m := by
      have := (List.getElem?_eq_some_iff.1 hu).1
      rw [hR.1] at this; exact this
    obtain ⟨b, off, e', _, hc⟩ := hR.cell (by omega)
    cases e'
    rw [Addr.add_lit]
    exact hc j u hu
  | none =>
    have hm : m = 0 := by
      rcases Nat.eq_zero_or_pos m with h0 | h0
      · exact h0
      · obtain ⟨b, off, e', _⟩ := hR.cell h0
        cases e'
    subst hm
    have hc : c = 0 := by
      obtain ⟨_, a', cap', e', _, _, h3, _⟩ := hR
      cases e'
      exact h3 rfl
    subst hc
    obtain rfl : news = [] := List.length_eq_zero_iff.1 hR.1
    obtain ⟨a', cap', rfl⟩ : ∃ a' cap', v = .slice a' n cap' := by
      rcases hown.2 with ⟨rfl, hz⟩ | ⟨g, cap, cur, rfl, _⟩
      · exact ⟨none, 0, by rw [hz]⟩
      · exact ⟨_, _, rfl⟩
    have hr := run_append_owned_none (P := P) (w := w) base t o.type e i 1 ht hi _ n xs hown
    refine wpList_plain hgd fun K hK => ?_
    unfold Oper.wp execOp
    simp only [ho, resolve, invoke, builtin, Sem.run_bind, Sem.run_pure, Result.andThen_ok, List.map_toArray, List.map_cons, List.map_nil, hs, hx, hr]
    exact hK _ _ (h a' cap' w (by rw [List.append_nil]; exact hown) (Grew.refl _ _ _))

end Go.Proofs.YtcdkklddingfpaaGreat
