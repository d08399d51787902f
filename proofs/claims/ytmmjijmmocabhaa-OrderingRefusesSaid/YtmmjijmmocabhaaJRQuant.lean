/- The reference's With and Quantify. Rows of bools that a call owns, in an outer block; plain: what BddCombines collects. -/
import Derived.Test.YtmmjijmmocabhaaJMade
import Derived.Test.YtmmjijmmocabhaaJChgP
import Derived.Test.YtmmjijmmocabhaaJLex
import Derived.Test.YtmmjijmmocabhaaJOpsR
import Derived.Test.YtmmjijmmocabhaaJSearch
namespace Go.Proofs.Ytmmjijmmocabhaa
open Go.RowKit
set_option linter.unusedVariables false
set_option linter.unusedSimpArgs false

/-- Each value of R is a slice of its own row, which holds its list. -/
def Rws (B : Nat) (w : World) (R : List (Value × List Bool)) : Prop :=
  (∀ p ∈ R, ∃ a c, p.1 = .slice a p.2.length c ∧ w.ownsRow B 4 1 p.1 p.2.length (boolCells p.2)) ∧ R.Pairwise (fun p q => ∀ k, p.1.ownBlock = some k → q.1.ownBlock ≠ some k)

theorem Rws.fr {S : Nat → Prop} {B : Nat} {w W : World} {R : List (Value × List Bool)} (h : Rws B w R) (hf : Fr S w W) (hS : ∀ k, S k → k < B) : Rws B W R := by
  refine ⟨fun p hp => ?_, h.2⟩
  obtain ⟨a, c, he, ho⟩ := h.1 p hp
  exact ⟨a, c, he, owns_fr ho hf (fun k hk hs => by have := (ho.lt k hk).1; have := hS k hs; omega)⟩

theorem Rws.same {B : Nat} {w W : World} {R : List (Value × List Bool)} (h : Rws B w R) (hf : Same w W) : Rws B W R := h.fr hf (fun _ h => h.elim)

theorem Rws.own {B : Nat} {w : World} {R1 R2 : List (Value × List Bool)} {a : Option Addr} {n c : Nat} {l : List Bool} (h : Rws B w (R1 ++ (.slice a n c, l) :: R2)) : n = l.length ∧ w.ownsRow B 4 1 (.slice a n c) n (boolCells l) := by
  obtain ⟨a', c', he, ho⟩ := h.1 (.slice a n c, l) (by simp)
  simp only [Value.slice.injEq] at he
  obtain ⟨rfl, rfl, rfl⟩ := he
  exact ⟨rfl, ho⟩

theorem Rws.append {B : Nat} {w W W' : World} {R1 R2 : List (Value × List Bool)} {a a' : Option Addr} {n c c' : Nat} {l : List Bool} {b : Bool} (h : Rws B w (R1 ++ (.slice a n c, l) :: R2)) (hs : Same w W) (hB : B ≤ w.heap.size)
    (hO : W'.ownsRow B 4 1 (.slice a' (n + 1) c') (n + 1) (boolCells l ++ [.bool b])) (hG : Grew (fun _ => False) W W' (.slice a n c) (.slice a' (n + 1) c')) :
    Rws B W' (R1 ++ (.slice a' (n + 1) c', l ++ [b]) :: R2) ∧ (∀ k o, w.heap[k]? = some o → k < B → W'.heap[k]? = some o) ∧ (∀ w0, w0.heap.size ≤ B → Same w0 w → Same w0 W') := by
  obtain ⟨hn, hown⟩ := h.own
  have h1 := (h.same hs)
  obtain ⟨_, hown1⟩ := h1.own
  have fr := hG.1
  have oth : ∀ p : Value × List Bool, (∃ a c, p.1 = .slice a p.2.length c ∧ W.ownsRow B 4 1 p.1 p.2.length (boolCells p.2)) → (∀ k, p.1.ownBlock = some k → (Value.slice a n c).ownBlock ≠ some k) → ∃ a c, p.1 = .slice a p.2.length c ∧ W'.ownsRow B 4 1 p.1 p.2.length (boolCells p.2) := by
    rintro p ⟨a2, c2, he, ho⟩ hne
    refine ⟨a2, c2, he, owns_fr ho fr (fun k hk hs => ?_)⟩
    rcases hs with hs | hs
    · exact hne k hk hs
    · exact hs
  have low : ∀ p : Value × List Bool, (∃ a c, p.1 = .slice a p.2.length c ∧ W.ownsRow B 4 1 p.1 p.2.length (boolCells p.2)) → ∀ k, p.1.ownBlock = some k → (∀ k, p.1.ownBlock = some k → (Value.slice a n c).ownBlock ≠ some k) → (Value.slice a' (n + 1) c').ownBlock ≠ some k := by
    rintro p ⟨a2, c2, he, ho⟩ k hk hne hk'
    rcases hG.2 k hk' with h' | h'
    · exact hne k hk h'
    · have := (ho.lt k hk).2
      omega
  obtain ⟨p1, p2, p3⟩ := List.pairwise_append.1 h1.2
  obtain ⟨p4, p5⟩ := List.pairwise_cons.1 p2
  have e1 : ∀ p ∈ R1, ∀ k, p.1.ownBlock = some k → (Value.slice a n c).ownBlock ≠ some k := fun p hp => p3 p hp (.slice a n c, l) (by simp)
  have e2 : ∀ p ∈ R2, ∀ k, p.1.ownBlock = some k → (Value.slice a n c).ownBlock ≠ some k := fun p hp k hk hk' => p4 p hp k hk' hk
  refine ⟨⟨fun p hp => ?_, ?_⟩, ?_, ?_⟩
  · rcases List.mem_append.1 hp with hp | hp
    · exact oth p (h1.1 p (by simp [hp])) (e1 p hp)
    · rcases List.mem_cons.1 hp with rfl | hp
      · refine ⟨a', c', by simp [← hn], ?_⟩
        simpa [← hn, boolCells] using hO
      · exact oth p (h1.1 p (by simp [hp])) (e2 p hp)
  · refine List.pairwise_append.2 ⟨p1, List.pairwise_cons.2 ⟨fun q hq k hk hk' => ?_, p5⟩, fun p hp q hq k hk => ?_⟩
    · exact low q (h1.1 q (by simp [hq])) k hk' (e2 q hq) hk
    · rcases List.mem_cons.1 hq with rfl | hq
      · exact low p (h1.1 p (by simp [hp])) k hk (e1 p hp)
      · exact p3 p hp q (by simp [hq]) k hk
  · intro k o hk hlt
    refine fr.at (hs.at hk id) ?_
    rintro (h' | h')
    · have := (hown1.lt k h').1; omega
    · exact h'
  · intro w0 hw0 hsame
    refine (hsame.same hs).trans fr (fun i hi hh => ?_)
    rcases hh with hh | hh
    · have := (hown1.lt i hh).1; omega
    · exact hh

theorem Rws.nil (B : Nat) (w : World) (n : Nat) : Rws B w (List.replicate n (.slice none 0 0, [])) := by
  refine ⟨fun p hp => ?_, ?_⟩
  · rw [List.eq_of_mem_replicate hp]
    exact ⟨none, 0, rfl, World.ownsRow_nil _ _ _ _⟩
  · exact List.pairwise_replicate.2 (.inr (fun k hk => by simp [Value.ownBlock] at hk))

theorem Rws.push {B : Nat} {w W : World} {R : List (Value × List Bool)} {b : Bool} (h : Rws B w R) (hB : B ≤ w.heap.size) (hw : W.heap[w.heap.size]? = some (.cells #[.bool b] 4 (0, 0)) ∧ Same w W) : Rws B W (R ++ [(.slice (some ⟨w.heap.size, 0, Option.none⟩) 1 1, [b])]) := by
  have h1 := h.same hw.2
  refine ⟨fun p hp => ?_, List.pairwise_append.2 ⟨h1.2, by simp, fun p hp q hq k hk hk' => ?_⟩⟩
  · rcases List.mem_append.1 hp with hp | hp
    · exact h1.1 p hp
    · rw [List.mem_singleton.1 hp]
      exact ⟨_, 1, rfl, own_of_block (xs := [.bool b]) hw.1 hB rfl rfl (by unfold maxLen; omega)⟩
  · rw [List.mem_singleton.1 hq] at hk'
    obtain ⟨a, c, he, ho⟩ := h.1 p hp
    have := (ho.lt k hk).2
    simp [Value.ownBlock] at hk'
    omega

/-- Rows in the making: block bo still holds O. -/
structure Mid (W0 : World) (bo : Nat) (O : Array Value) (R : List (Value × List Bool)) (W : World) : Prop where
  outer : W.heap[bo]? = some (.cells O 39 (0, 0))
  rows : Rws (bo + 1) W R
  same : Same W0 W

theorem Mid.moved {W0 W W1 : World} {bo : Nat} {O : Array Value} {R : List (Value × List Bool)} (h : Mid W0 bo O R W) (hs : Same W W1) : Mid W0 bo O R W1 := ⟨hs.at h.outer id, h.rows.same hs, h.same.same hs⟩

theorem Mid.push {W0 W W1 : World} {bo : Nat} {O : Array Value} {R : List (Value × List Bool)} {b : Bool} (h : Mid W0 bo O R W) (hw : W1.heap[W.heap.size]? = some (.cells #[.bool b] 4 (0, 0)) ∧ Same W W1) : Mid W0 bo O (R ++ [(.slice (some ⟨W.heap.size, 0, Option.none⟩) 1 1, [b])]) W1 :=
  ⟨hw.2.at h.outer id, h.rows.push (by have := lt_of_heap h.outer; omega) hw, h.same.same hw.2⟩

theorem Mid.app {W0 W W' : World} {bo : Nat} {O : Array Value} {R1 R2 : List (Value × List Bool)} {a a' : Option Addr} {n c c' : Nat} {l : List Bool} {b : Bool} (h : Mid W0 bo O (R1 ++ (.slice a n c, l) :: R2) W) (hbo : W0.heap.size ≤ bo)
    (hO : W'.ownsRow (bo + 1) 4 1 (.slice a' (n + 1) c') (n + 1) (boolCells l ++ [.bool b])) (hG : Grew (fun _ => False) W W' (.slice a n c) (.slice a' (n + 1) c')) : Mid W0 bo O (R1 ++ (.slice a' (n + 1) c', l ++ [b]) :: R2) W' := by
  have hl := lt_of_heap h.outer
  obtain ⟨r1, r2, r3⟩ := h.rows.append (Fr.refl _ _) (by omega) hO hG
  exact ⟨r2 _ _ h.outer (by omega), r1, r3 W0 (by omega) h.same⟩

theorem Mid.pend {W0 W : World} {bo : Nat} {O : Array Value} {R : List (Value × List Bool)} {k : Nat} {b : Bool} (h : Mid W0 bo O R W) (hm : (Value.slice (some ⟨k, 0, Option.none⟩) 1 1, [b]) ∈ R) : W.heap[k]? = some (.cells #[.bool b] 4 (0, 0)) := by
  obtain ⟨a, c, he, ho⟩ := h.rows.1 _ hm
  rcases ho.2 with ⟨h0, _⟩ | ⟨g, cap, cur, h0, _, hg, _, _, h3, h4⟩
  · cases h0
  · simp only [Value.slice.injEq, Option.some.injEq, Addr.mk.injEq, and_true] at h0
    obtain ⟨rfl, -, rfl⟩ := h0
    rw [hg]
    have e : cur = #[.bool b] := by
      rw [← Array.toList_inj]
      have h5 : cur.toList.length = 1 := by simpa using h3
      rw [List.take_of_length_le (by simp [h5])] at h4
      simpa [boolCells] using h4
    rw [e]

/-- Append leaves the blocks that are no rows. -/
theorem Mid.kp {W0 W W' : World} {bo : Nat} {O : Array Value} {R1 R2 : List (Value × List Bool)} {a a' : Option Addr} {n c c' : Nat} {l : List Bool} {L : Nat → Prop} (h : Mid W0 bo O (R1 ++ (.slice a n c, l) :: R2) W)
    (hG : Grew (fun _ => False) W W' (.slice a n c) (.slice a' (n + 1) c')) (hL : ∀ k, L k → k ≤ bo) : Kp L W W' := by
  refine Kp.of_fr hG.1 (fun k hk hl hh => ?_)
  rcases hh with hh | hh
  · have := (h.rows.own.2.lt k hh).1
    have := hL k hk
    omega
  · exact hh

theorem bld_abs {b : Bool} {W : World} {C : World → Prop} (h : ∀ W1, (W1.heap[W.heap.size]? = some (.cells #[.bool b] 4 (0, 0)) ∧ Same W W1) → C W1) : C (W.alloc (.cells #[.bool b] 4)) := h _ ⟨heap_new _ _, (Fr.refl _ _).alloc _⟩
theorem bld_abs2 {b : Bool} {W : World} {C : World → Prop} (h : ∀ W1 b', b' = b → (W1.heap[W.heap.size]? = some (.cells #[.bool b'] 4 (0, 0)) ∧ Same W W1) → C W1) : C (W.alloc (.cells #[.bool b] 4)) := h _ b rfl ⟨heap_new _ _, (Fr.refl _ _).alloc _⟩
theorem drew_abs {W : World} {C : World → Prop} (h : ∀ W1, Same W W1 → C W1) : C W.drew := h _ (Fr.refl _ _).drew

def L3 (b c d : Nat) : Nat → Prop := fun k => k = b ∨ k = c ∨ k = d
@[go_sem, simp] theorem L3_1 (b c d : Nat) : L3 b c d b = True := by simp [L3]
@[go_sem, simp] theorem L3_2 (b c d : Nat) : L3 b c d c = True := by simp [L3]
@[go_sem, simp] theorem L3_3 (b c d : Nat) : L3 b c d d = True := by simp [L3]

def L4 (b c d e : Nat) : Nat → Prop := fun k => k = b ∨ k = c ∨ k = d ∨ k = e
@[go_sem, simp] theorem L4_1 (b c d e : Nat) : L4 b c d e b = True := by simp [L4]
@[go_sem, simp] theorem L4_2 (b c d e : Nat) : L4 b c d e c = True := by simp [L4]
@[go_sem, simp] theorem L4_3 (b c d e : Nat) : L4 b c d e d = True := by simp [L4]
@[go_sem, simp] theorem L4_4 (b c d e : Nat) : L4 b c d e e = True := by simp [L4]

/-- What BddCombines collects ahead of assignment j. -/
def colF (f : Nat → Bool) (j : Nat) : List Bool := (List.range j).map f
theorem colF_length (f : Nat → Bool) (j : Nat) : (colF f j).length = j := by simp [colF]
theorem colF_succ (f : Nat → Bool) (j : Nat) : colF f (j + 1) = colF f j ++ [f j] := by simp [colF, List.range_succ]

theorem ite3_col : ∀ (x y z : List Bool), x.length = y.length → y.length = z.length → ite3 x y z = colF (fun i => if x.getD i false then y.getD i false else z.getD i false) x.length
  | [], [], [], _, _ => rfl
  | a :: x, b :: y, c :: z, h1, h2 => by
    rw [ite3, ite3_col x y z (by simpa using h1) (by simpa using h2)]
    simp [colF, List.range_succ_eq_map, Function.comp_def]

theorem ite3_length : ∀ (x y z : List Bool), x.length = y.length → y.length = z.length → (ite3 x y z).length = x.length := by
  intro x y z h1 h2
  rw [ite3_col x y z h1 h2, colF_length]

theorem colF_congr {f g : Nat → Bool} {j : Nat} (h : ∀ i, i < j → f i = g i) : colF f j = colF g j := by
  unfold colF
  exact List.map_congr_left (fun i hi => h i (List.mem_range.1 hi))

theorem fls_length (n : Nat) : (fls n).length = 2 ^ n := by simp [fls]
theorem tru_length (n : Nat) : (tru n).length = 2 ^ n := by simp [tru]
theorem fls_get (n i : Nat) : (fls n).getD i false = false := by
  by_cases h : i < 2 ^ n <;> simp [fls, List.getD, h]
theorem tru_get (n i : Nat) (h : i < 2 ^ n) : (tru n).getD i false = true := by simp [tru, List.getD, h]

theorem col_not (x : List Bool) (n : Nat) (h : x.length = 2 ^ n) : ite3 x (fls n) (tru n) = colF (fun i => !x.getD i false) x.length := by
  rw [ite3_col _ _ _ (by rw [h, fls_length]) (by rw [fls_length, tru_length])]
  refine colF_congr (fun i hi => ?_)
  try simp only
  rw [fls_get, tru_get n i (by omega)]
  cases x.getD i false <;> rfl
theorem col_and (x y : List Bool) (n : Nat) (h : x.length = 2 ^ n) (h' : y.length = 2 ^ n) : ite3 x y (fls n) = colF (fun i => x.getD i false && y.getD i false) x.length := by
  rw [ite3_col _ _ _ (by rw [h, h']) (by rw [fls_length, h'])]
  refine colF_congr (fun i hi => ?_)
  try simp only
  rw [fls_get]
  cases x.getD i false <;> rfl
theorem col_or (x y : List Bool) (n : Nat) (h : x.length = 2 ^ n) (h' : y.length = 2 ^ n) : ite3 x (tru n) y = colF (fun i => x.getD i false || y.getD i false) x.length := by
  rw [ite3_col _ _ _ (by rw [h, tru_length]) (by rw [tru_length, h'])]
  refine colF_congr (fun i hi => ?_)
  try simp only
  rw [tru_get n i (by omega)]
  cases x.getD i false <;> rfl
theorem col_xor (x y : List Bool) (n : Nat) (h : x.length = 2 ^ n) (h' : y.length = 2 ^ n) : ite3 x (ite3 y (fls n) (tru n)) y = colF (fun i => x.getD i false != y.getD i false) x.length := by
  have hl : (ite3 y (fls n) (tru n)).length = y.length := ite3_length _ _ _ (by rw [h', fls_length]) (by rw [fls_length, tru_length])
  rw [ite3_col _ _ _ (by rw [hl, h, h']) (by rw [hl])]
  refine colF_congr (fun i hi => ?_)
  try simp only
  rw [col_not y n h']
  have hi' : i < y.length := by omega
  have : (colF (fun i => !y.getD i false) y.length).getD i false = !y.getD i false := by simp [colF, List.getD, hi']
  rw [this]
  cases x.getD i false <;> cases y.getD i false <;> rfl
theorem col_ite (x y z : List Bool) (h : x.length = y.length) (h' : y.length = z.length) : ite3 x y z = colF (fun i => x.getD i false && y.getD i false || !x.getD i false && z.getD i false) x.length := by
  rw [ite3_col _ _ _ h h']
  refine colF_congr (fun i hi => ?_)
  try simp only
  cases x.getD i false <;> simp
end Go.Proofs.Ytmmjijmmocabhaa
namespace Go.Proofs.Ytmmjijmmocabhaa
open Go.RowKit
set_option linter.unusedVariables false
set_option linter.unusedSimpArgs false
/-- append of many elements at a plain region's list. -/
theorem wpList_appendm {P : Program} {w : World} {ops : Array Oper} {rest : List Oper} {o : Oper} {a : Act} {Q : Exit → Act → World → Prop} (hgd : o.guard = none) (s x : Operand) (t : TypeId)
    (ho : o.op = .call { callee := .builtin .append, args := #[s, x], argTypes := #[t, t] })
    (base : Nat) (e : TypeId) (i : TypeInfo) (z : Value) (size bytes : Nat) (ht : P.underlying t = some (.slice e)) (hi : P.info? e = some i) (hz : i.zero = some z)
    (hsize : i.size = size) (hby : i.bytes = bytes) (hzs : z.cells.size = size) (hsz : 0 < size) (hb : bytes ≤ 1000)
    (v : Value) (n : Nat) (xs : List Value) (hs : a.eval s = v) (hown : w.ownsRow base e size v n xs)
    (ad : Addr) (m c : Nat) (news : List Value) (hx : a.eval x = .slice (some ad) m c) (hl : news.length = m * size) (hnews : ∀ j u, news[j]? = some u → w.cell? (ad.add j) = some u) (h1 : ∀ u ∈ news, u.oneCell' = true) (hm : 0 < m) (h63 : n + m ≤ 1000000000) (hbase : base ≤ w.heap.size)
    (h : ∀ g cap' w', w'.ownsRow base e size (.slice (some ⟨g, 0, none⟩) (n + m) cap') (n + m) (xs ++ news) → Grew (fun _ => False) w w' v (.slice (some ⟨g, 0, none⟩) (n + m) cap') → wpList P ops Q rest (a.put o.dst (.slice (some ⟨g, 0, none⟩) (n + m) cap')) w') :
    wpList P ops Q (o :: rest) a w :=
  wpList_plain hgd fun K hK => by
    obtain ⟨g, cap, w', hr, h2, h3, h4, _⟩ := run_append_lies (P := P) (w := w) t o.type base e i z size bytes ht hi hz hsize hby hzs hsz v n xs hown ad m c news hl hnews h1 hm (by unfold maxLen; omega)
      (Nat.le_trans (Nat.mul_le_mul h63 hb) (by omega)) hbase _ rfl
    unfold Oper.wp execOp
    simp only [ho, resolve, invoke, builtin, Sem.run_bind, Sem.run_pure, Result.andThen_ok, List.map_toArray, List.map_cons, List.map_nil, hs, hx, hr]
    refine hK _ _ (h g cap w' h2 ⟨(Fr.refl _ _).grown h3 (fun k hk _ => .inl hk), fun k hk => ?_⟩)
    simp only [Value.ownBlock, Option.some.injEq] at hk
    subst hk
    rcases h4 with h4 | h4
    · exact .inl h4
    · exact .inr (Nat.le_of_eq h4.symm)

theorem grew_fresh {w W w1 : World} {v v' : Value} (hs : Same w W) (hG : Grew (fun _ => False) W w1 v v') (hv : ∀ k, v.ownBlock = some k → w.heap.size ≤ k) : Same w w1 :=
  hs.trans hG.1 (fun i hi h => by
    rcases h with h | h
    · have := hv i h; omega
    · exact h)

def qOp (all : Bool) : Bool → Bool → Bool := fun x y => x && y || (!all && (x || y))

theorem qOp_false : qOp false = fun x y => x || y := by funext x y; cases x <;> cases y <;> rfl
theorem qOp_true : qOp true = fun x y => x && y := by funext x y; cases x <;> cases y <;> rfl

end Go.Proofs.Ytmmjijmmocabhaa
