/- Relations, plain: the bits of numbers, tables of codes. No program in sight. The table of a function in an order of its variables. Plain. BddLaws: the laws on tables; the operations' contracts by canonical tables; a box with a diagram. bdd.quantify, Exists, Forall. The reference's With and Quantify. Rows of bools that a call owns, in an outer block; plain: what BddCombines collects. -/
import Derived.Test.YtknlkcfnfjchdaaGreatJMade
import Derived.Test.YtknlkcfnfjchdaaGreatJChgP
import Derived.Test.YtknlkcfnfjchdaaGreatJLex
import Derived.Test.YtknlkcfnfjchdaaGreatJOpsR
import Derived.Test.YtknlkcfnfjchdaaGreatJRestr
import Derived.Test.YtknlkcfnfjchdaaGreatJOrdO
namespace Go.Proofs.YtknlkcfnfjchdaaGreat
open Go.RowKit
set_option linter.unusedVariables false
set_option linter.unusedSimpArgs false

/-- Each value of R is a slice of its own row, which holds its list. -/
def Rws (B : Nat) (w : World) (R : List (Value × List Bool)) : Prop :=
  (∀ p ∈ R, ∃ a c, p.1 = .slice a p.2.length c ∧ w.ownsRow B 4 1 p.1 p.2.length (boolCells p.2)) ∧ R.Pairwise (fun p q => ∀ k, p.1.ownBlock = some k → q.1.ownBlock ≠ some k)

theorem Rws.fr {S : Nat → Prop} {B : Nat} {w W : World} {R : List (Value × List Bool)} (h : Rws B w R) (hf : Fr S w W) (hS : ∀ k, S k → k < B) : Rws B W R := by
  refine ⟨fun p hp => ?_, h.2⟩
  obtain ⟨a, c, he, ho⟩ := h.1 p hp
  exact ⟨a, c, he, owns_fr ho hf (fun k hk hs => by have := (ho.lt k hk).1; have := hS k hs; omega)⟩

theorem Rws.same {B : Nat} {w W : World} {R : List (Value × List Bool)} (h : Rws B w R) (hf : Same w W) : Rws B W R := h.fr hf (fun _ h => h.elim)

theorem Rws.own {B : Nat} {w : World} {R1 R2 : List (Value × List Bool)} {a : Option Addr} {n c : Nat} {l : List Bool} (h : Rws B w (R1 ++ (.slice a n c, l) :: R2)) : n = l.length ∧ w.ownsRow B 4 1 (.slice a n c) n (boolCells l) := by
  obtain ⟨a', c', he, ho⟩ := h.1 (.slice a n c, l) (by simp)
  simp only [Value.slice.injEq] at he
  obtain ⟨rfl, rfl, rfl⟩ := he
  exact ⟨rfl, ho⟩

theorem Rws.append {B : Nat} {w W W' : World} {R1 R2 : List (Value × List Bool)} {a a' : Option Addr} {n c c' : Nat} {l : List Bool} {b : Bool} (h : Rws B w (R1 ++ (.slice a n c, l) :: R2)) (hs : Same w W) (hB : B ≤ w.heap.size)
    (hO : W'.ownsRow B 4 1 (.slice a' (n + 1) c') (n + 1) (boolCells l ++ [.bool b])) (hG : Grew (fun _ => False) W W' (.slice a n c) (.slice a' (n + 1) c')) :
    Rws B W' (R1 ++ (.slice a' (n + 1) c', l ++ [b]) :: R2) ∧ (∀ k o, w.heap[k]? = some o → k < B → W'.heap[k]? = some o) ∧ (∀ w0, w0.heap.size ≤ B → Same w0 w → Same w0 W') := by
  obtain ⟨hn, hown⟩ := h.own
  have h1 := (h.same hs)
  obtain ⟨_, hown1⟩ := h1.own
  have fr := hG.1
  have oth : ∀ p : Value × List Bool, (∃ a c, p.1 = .slice a p.2.length c ∧ W.ownsRow B 4 1 p.1 p.2.length (boolCells p.2)) → (∀ k, p.1.ownBlock = some k → (Value.slice a n c).ownBlock ≠ some k) → ∃ a c, p.1 = .slice a p.2.length c ∧ W'.ownsRow B 4 1 p.1 p.2.length (boolCells p.2) := by
    rintro p ⟨a2, c2, he, ho⟩ hne
    refine ⟨a2, c2, he, owns_fr ho fr (fun k hk hs => ?_)⟩
    rcases hs with hs | hs
    · exact hne k hk hs
    · exact hs
  have low : ∀ p : Value × List Bool, (∃ a c, p.1 = .slice a p.2.length c ∧ W.ownsRow B 4 1 p.1 p.2.length (boolCells p.2)) → ∀ k, p.1.ownBlock = some k → (∀ k, p.1.ownBlock = some k → (Value.slice a n c).ownBlock ≠ some k) → (Value.slice a' (n + 1) c').ownBlock ≠ some k := by
    rintro p ⟨a2, c2, he, ho⟩ k hk hne hk'
    rcases hG.2 k hk' with h' | h'
    · exact hne k hk h'
    · have := (ho.lt k hk).2
      omega
  obtain ⟨p1, p2, p3⟩ := List.pairwise_append.1 h1.2
  obtain ⟨p4, p5⟩ := List.pairwise_cons.1 p2
  have e1 : ∀ p ∈ R1, ∀ k, p.1.ownBlock = some k → (Value.slice a n c).ownBlock ≠ some k := fun p hp => p3 p hp (.slice a n c, l) (by simp)
  have e2 : ∀ p ∈ R2, ∀ k, p.1.ownBlock = some k → (Value.slice a n c).ownBlock ≠ some k := fun p hp k hk hk' => p4 p hp k hk' hk
  refine ⟨⟨fun p hp => ?_, ?_⟩, ?_, ?_⟩
  · rcases List.mem_append.1 hp with hp | hp
    · exact oth p (h1.1 p (by simp [hp])) (e1 p hp)
    · rcases List.mem_cons.1 hp with rfl | hp
      · refine ⟨a', c', by simp [← hn], ?_⟩
        simpa [← hn, boolCells] using hO
      · exact oth p (h1.1 p (by simp [hp])) (e2 p hp)
  · refine List.pairwise_append.2 ⟨p1, List.pairwise_cons.2 ⟨fun q hq k hk hk' => ?_, p5⟩, fun p hp q hq k hk => ?_⟩
    · exact low q (h1.1 q (by simp [hq])) k hk' (e2 q hq) hk
    · rcases List.mem_cons.1 hq with rfl | hq
      · exact low p (h1.1 p (by simp [hp])) k hk (e1 p hp)
      · exact p3 p hp q (by simp [hq]) k hk
  · intro k o hk hlt
    refine fr.at (hs.at hk id) ?_
    rintro (h' | h')
    · have := (hown1.lt k h').1; omega
    · exact h'
  · intro w0 hw0 hsame
    refine (hsame.same hs).trans fr (fun i hi hh => ?_)
    rcases hh with hh | hh
    · have := (hown1.lt i hh).1; omega
    · exact hh

theorem Rws.nil (B : Nat) (w : World) (n : Nat) : Rws B w (List.replicate n (.slice none 0 0, [])) := by
  refine ⟨fun p hp => ?_, ?_⟩
  · rw [List.eq_of_mem_replicate hp]
    exact ⟨none, 0, rfl, World.ownsRow_nil _ _ _ _⟩
  · exact List.pairwise_replicate.2 (.inr (fun k hk => by simp [Value.ownBlock] at hk))

theorem Rws.push {B : Nat} {w W : World} {R : List (Value × List Bool)} {b : Bool} (h : Rws B w R) (hB : B ≤ w.heap.size) (hw : W.heap[w.heap.size]? = some (.cells #[.bool b] 4 (0, 0)) ∧ Same w W) : Rws B W (R ++ [(.slice (some ⟨w.heap.size, 0, Option.none⟩) 1 1, [b])]) := by
  have h1 := h.same hw.2
  refine ⟨fun p hp => ?_, List.pairwise_append.2 ⟨h1.2, by simp, fun p hp q hq k hk hk' => ?_⟩⟩
  · rcases List.mem_append.1 hp with hp | hp
    · exact h1.1 p hp
    · rw [List.mem_singleton.1 hp]
      exact ⟨_, 1, rfl, own_of_block (xs := [.bool b]) hw.1 hB rfl rfl (by unfold maxLen; omega)⟩
  · rw [List.mem_singleton.1 hq] at hk'
    obtain ⟨a, c, he, ho⟩ := h.1 p hp
    have := (ho.lt k hk).2
    simp [Value.ownBlock] at hk'
    omega

/-- Rows in the making: block bo still holds O. -/
structure Mid (W0 : World) (bo : Nat) (O : Array Value) (R : List (Value × List Bool)) (W : World) : Prop where
  outer : W.heap[bo]? = some (.cells O 65 (0, 0))
  rows : Rws (bo + 1) W R
  same : Same W0 W

theorem Mid.moved {W0 W W1 : World} {bo : Nat} {O : Array Value} {R : List (Value × List Bool)} (h : Mid W0 bo O R W) (hs : Same W W1) : Mid W0 bo O R W1 := ⟨hs.at h.outer id, h.rows.same hs, h.same.same hs⟩

theorem Mid.push {W0 W W1 : World} {bo : Nat} {O : Array Value} {R : List (Value × List Bool)} {b : Bool} (h : Mid W0 bo O R W) (hw : W1.heap[W.heap.size]? = some (.cells #[.bool b] 4 (0, 0)) ∧ Same W W1) : Mid W0 bo O (R ++ [(.slice (some ⟨W.heap.size, 0, Option.none⟩) 1 1, [b])]) W1 :=
  ⟨hw.2.at h.outer id, h.rows.push (by have := lt_of_heap h.outer; omega) hw, h.same.same hw.2⟩

theorem Mid.app {W0 W W' : World} {bo : Nat} {O : Array Value} {R1 R2 : List (Value × List Bool)} {a a' : Option Addr} {n c c' : Nat} {l : List Bool} {b : Bool} (h : Mid W0 bo O (R1 ++ (.slice a n c, l) :: R2) W) (hbo : W0.heap.size ≤ bo)
    (hO : W'.ownsRow (bo + 1) 4 1 (.slice a' (n + 1) c') (n + 1) (boolCells l ++ [.bool b])) (hG : Grew (fun _ => False) W W' (.slice a n c) (.slice a' (n + 1) c')) : Mid W0 bo O (R1 ++ (.slice a' (n + 1) c', l ++ [b]) :: R2) W' := by
  have hl := lt_of_heap h.outer
  obtain ⟨r1, r2, r3⟩ := h.rows.append (Fr.refl _ _) (by omega) hO hG
  exact ⟨r2 _ _ h.outer (by omega), r1, r3 W0 (by omega) h.same⟩

theorem Mid.pend {W0 W : World} {bo : Nat} {O : Array Value} {R : List (Value × List Bool)} {k : Nat} {b : Bool} (h : Mid W0 bo O R W) (hm : (Value.slice (some ⟨k, 0, Option.none⟩) 1 1, [b]) ∈ R) : W.heap[k]? = some (.cells #[.bool b] 4 (0, 0)) := by
  obtain ⟨a, c, he, ho⟩ := h.rows.1 _ hm
  rcases ho.2 with ⟨h0, _⟩ | ⟨g, cap, cur, h0, _, hg, _, _, h3, h4⟩
  · cases h0
  · simp only [Value.slice.injEq, Option.some.injEq, Addr.mk.injEq, and_true] at h0
    obtain ⟨rfl, -, rfl⟩ := h0
    rw [hg]
    have e : cur = #[.bool b] := by
      rw [← Array.toList_inj]
      have h5 : cur.toList.length = 1 := by simpa using h3
      rw [List.take_of_length_le (by simp [h5])] at h4
      simpa [boolCells] using h4
    rw [e]

/-- Append leaves the blocks that are no rows. -/
theorem Mid.kp {W0 W W' : World} {bo : Nat} {O : Array Value} {R1 R2 : List (Value × List Bool)} {a a' : Option Addr} {n c c' : Nat} {l : List Bool} {L : Nat → Prop} (h : Mid W0 bo O (R1 ++ (.slice a n c, l) :: R2) W)
    (hG : Grew (fun _ => False) W W' (.slice a n c) (.slice a' (n + 1) c')) (hL : ∀ k, L k → k ≤ bo) : Kp L W W' := by
  refine Kp.of_fr hG.1 (fun k hk hl hh => ?_)
  rcases hh with hh | hh
  · have := (h.rows.own.2.lt k hh).1
    have := hL k hk
    omega
  · exact hh

theorem bld_abs {b : Bool} {W : World} {C : World → Prop} (h : ∀ W1, (W1.heap[W.heap.size]? = some (.cells #[.bool b] 4 (0, 0)) ∧ Same W W1) → C W1) : C (W.alloc (.cells #[.bool b] 4)) := h _ ⟨heap_new _ _, (Fr.refl _ _).alloc _⟩
theorem bld_abs2 {b : Bool} {W : World} {C : World → Prop} (h : ∀ W1 b', b' = b → (W1.heap[W.heap.size]? = some (.cells #[.bool b'] 4 (0, 0)) ∧ Same W W1) → C W1) : C (W.alloc (.cells #[.bool b] 4)) := h _ b rfl ⟨heap_new _ _, (Fr.refl _ _).alloc _⟩
theorem drew_abs {W : World} {C : World → Prop} (h : ∀ W1, Same W W1 → C W1) : C W.drew := h _ (Fr.refl _ _).drew

def L3 (b c d : Nat) : Nat → Prop := fun k => k = b ∨ k = c ∨ k = d
@[go_sem, simp] theorem L3_1 (b c d : Nat) : L3 b c d b = True := by simp [L3]
@[go_sem, simp] theorem L3_2 (b c d : Nat) : L3 b c d c = True := by simp [L3]
@[go_sem, simp] theorem L3_3 (b c d : Nat) : L3 b c d d = True := by simp [L3]

def L4 (b c d e : Nat) : Nat → Prop := fun k => k = b ∨ k = c ∨ k = d ∨ k = e
@[go_sem, simp] theorem L4_1 (b c d e : Nat) : L4 b c d e b = True := by simp [L4]
@[go_sem, simp] theorem L4_2 (b c d e : Nat) : L4 b c d e c = True := by simp [L4]
@[go_sem, simp] theorem L4_3 (b c d e : Nat) : L4 b c d e d = True := by simp [L4]
@[go_sem, simp] theorem L4_4 (b c d e : Nat) : L4 b c d e e = True := by simp [L4]

/-- What BddCombines collects ahead of assignment j. -/
def colF (f : Nat → Bool) (j : Nat) : List Bool := (List.range j).map f
theorem colF_length (f : Nat → Bool) (j : Nat) : (colF f j).length = j := by simp [colF]
theorem colF_succ (f : Nat → Bool) (j : Nat) : colF f (j + 1) = colF f j ++ [f j] := by simp [colF, List.range_succ]

theorem ite3_col : ∀ (x y z : List Bool), x.length = y.length → y.length = z.length → ite3 x y z = colF (fun i => if x.getD i false then y.getD i false else z.getD i false) x.length
  | [], [], [], _, _ => rfl
  | a :: x, b :: y, c :: z, h1, h2 => by
    rw [ite3, ite3_col x y z (by simpa using h1) (by simpa using h2)]
    simp [colF, List.range_succ_eq_map, Function.comp_def]

theorem ite3_length : ∀ (x y z : List Bool), x.length = y.length → y.length = z.length → (ite3 x y z).length = x.length := by
  intro x y z h1 h2
  rw [ite3_col x y z h1 h2, colF_length]

theorem colF_congr {f g : Nat → Bool} {j : Nat} (h : ∀ i, i < j → f i = g i) : colF f j = colF g j := by
  unfold colF
  exact List.map_congr_left (fun i hi => h i (List.mem_range.1 hi))

theorem fls_length (n : Nat) : (fls n).length = 2 ^ n := by simp [fls]
theorem tru_length (n : Nat) : (tru n).length = 2 ^ n := by simp [tru]
theorem fls_get (n i : Nat) : (fls n).getD i false = false := by
  by_cases h : i < 2 ^ n <;> simp [fls, List.getD, h]
theorem tru_get (n i : Nat) (h : i < 2 ^ n) : (tru n).getD i false = true := by simp [tru, List.getD, h]

theorem col_not (x : List Bool) (n : Nat) (h : x.length = 2 ^ n) : ite3 x (fls n) (tru n) = colF (fun i => !x.getD i false) x.length := by
  rw [ite3_col _ _ _ (by rw [h, fls_length]) (by rw [fls_length, tru_length])]
  refine colF_congr (fun i hi => ?_)
  try simp only
  rw [fls_get, tru_get n i (by omega)]
  cases x.getD i false <;> rfl
theorem col_and (x y : List Bool) (n : Nat) (h : x.length = 2 ^ n) (h' : y.length = 2 ^ n) : ite3 x y (fls n) = colF (fun i => x.getD i false && y.getD i false) x.length := by
  rw [ite3_col _ _ _ (by rw [h, h']) (by rw [fls_length, h'])]
  refine colF_congr (fun i hi => ?_)
  try simp only
  rw [fls_get]
  cases x.getD i false <;> rfl
theorem col_or (x y : List Bool) (n : Nat) (h : x.length = 2 ^ n) (h' : y.length = 2 ^ n) : ite3 x (tru n) y = colF (fun i => x.getD i false || y.getD i false) x.length := by
  rw [ite3_col _ _ _ (by rw [h, tru_length]) (by rw [tru_length, h'])]
  refine colF_congr (fun i hi => ?_)
  try simp only
  rw [tru_get n i (by omega)]
  cases x.getD i false <;> rfl
theorem col_xor (x y : List Bool) (n : Nat) (h : x.length = 2 ^ n) (h' : y.length = 2 ^ n) : ite3 x (ite3 y (fls n) (tru n)) y = colF (fun i => x.getD i false != y.getD i false) x.length := by
  have hl : (ite3 y (fls n) (tru n)).length = y.length := ite3_length _ _ _ (by rw [h', fls_length]) (by rw [fls_length, tru_length])
  rw [ite3_col _ _ _ (by rw [hl, h, h']) (by rw [hl])]
  refine colF_congr (fun i hi => ?_)
  try simp only
  rw [col_not y n h']
  have hi' : i < y.length := by omega
  have : (colF (fun i => !y.getD i false) y.length).getD i false = !y.getD i false := by simp [colF, List.getD, hi']
  rw [this]
  cases x.getD i false <;> cases y.getD i false <;> rfl
theorem col_ite (x y z : List Bool) (h : x.length = y.length) (h' : y.length = z.length) : ite3 x y z = colF (fun i => x.getD i false && y.getD i false || !x.getD i false && z.getD i false) x.length := by
  rw [ite3_col _ _ _ h h']
  refine colF_congr (fun i hi => ?_)
  try simp only
  cases x.getD i false <;> simp
end Go.Proofs.YtknlkcfnfjchdaaGreat
namespace Go.Proofs.YtknlkcfnfjchdaaGreat
open Go.RowKit
set_option linter.unusedVariables false
set_option linter.unusedSimpArgs false
/-- append of many elements at a plain region's list. -/
theorem wpList_appendm {P : Program} {w : World} {ops : Array Oper} {rest : List Oper} {o : Oper} {a : Act} {Q : Exit → Act → World → Prop} (hgd : o.guard = none) (s x : Operand) (t : TypeId)
    (ho : o.op = .call { callee := .builtin .append, args := #[s, x], argTypes := #[t, t] })
    (base : Nat) (e : TypeId) (i : TypeInfo) (z : Value) (size bytes : Nat) (ht : P.underlying t = some (.slice e)) (hi : P.info? e = some i) (hz : i.zero = some z)
    (hsize : i.size = size) (hby : i.bytes = bytes) (hzs : z.cells.size = size) (hsz : 0 < size) (hb : bytes ≤ 1000)
    (v : Value) (n : Nat) (xs : List Value) (hs : a.eval s = v) (hown : w.ownsRow base e size v n xs)
    (ad : Addr) (m c : Nat) (news : List Value) (hx : a.eval x = .slice (some ad) m c) (hl : news.length = m * size) (hnews : ∀ j u, news[j]? = some u → w.cell? (ad.add j) = some u) (h1 : ∀ u ∈ news, u.oneCell' = true) (hm : 0 < m) (h63 : n + m ≤ 1000000000) (hbase : base ≤ w.heap.size)
    (h : ∀ g cap' w', w'.ownsRow base e size (.slice (some ⟨g, 0, none⟩) (n + m) cap') (n + m) (xs ++ news) → Grew (fun _ => False) w w' v (.slice (some ⟨g, 0, none⟩) (n + m) cap') → wpList P ops Q rest (a.put o.dst (.slice (some ⟨g, 0, none⟩) (n + m) cap')) w') :
    wpList P ops Q (o :: rest) a w :=
  wpList_plain hgd fun K hK => by
    obtain ⟨g, cap, w', hr, h2, h3, h4, _⟩ := run_append_lies (P := P) (w := w) t o.type base e i z size bytes ht hi hz hsize hby hzs hsz v n xs hown ad m c news hl hnews h1 hm (by unfold maxLen; omega)
      (Nat.le_trans (Nat.mul_le_mul h63 hb) (by omega)) hbase _ rfl
    unfold Oper.wp execOp
    simp only [ho, resolve, invoke, builtin, Sem.run_bind, Sem.run_pure, Result.andThen_ok, List.map_toArray, List.map_cons, List.map_nil, hs, hx, hr]
    refine hK _ _ (h g cap w' h2 ⟨(Fr.refl _ _).grown h3 (fun k hk _ => .inl hk), fun k hk => ?_⟩)
    simp only [Value.ownBlock, Option.some.injEq] at hk
    subst hk
    rcases h4 with h4 | h4
    · exact .inl h4
    · exact .inr (Nat.le_of_eq h4.symm)

theorem grew_fresh {w W w1 : World} {v v' : Value} (hs : Same w W) (hG : Grew (fun _ => False) W w1 v v') (hv : ∀ k, v.ownBlock = some k → w.heap.size ≤ k) : Same w w1 :=
  hs.trans hG.1 (fun i hi h => by
    rcases h with h | h
    · have := hv i h; omega
    · exact h)

def qOp (all : Bool) : Bool → Bool → Bool := fun x y => x && y || (!all && (x || y))

theorem qOp_false : qOp false = fun x y => x || y := by funext x y; cases x <;> cases y <;> rfl
theorem qOp_true : qOp true = fun x y => x && y := by funext x y; cases x <;> cases y <;> rfl

end Go.Proofs.YtknlkcfnfjchdaaGreat
namespace Go.Proofs.YtknlkcfnfjchdaaGreat
open Go.RowKit
set_option linter.unusedVariables false
set_option linter.unusedSimpArgs false

theorem renErr_sorted {m : Int} {qs : List Int} (h : renErr m qs qs.length 0 = 0) : ∀ i j, i ≤ j → j < qs.length → toF qs i ≤ toF qs j := by
  have H := renErr_up qs.length 0 h
  intro i j hij hj
  induction j with
  | zero => have : i = 0 := by omega
            subst this; omega
  | succ j ih =>
    rcases Nat.lt_or_eq_of_le hij with hlt | rfl
    · have h1 := (H (j + 1) (by omega) (by omega)).2.2 (by omega)
      rw [Nat.add_sub_cancel] at h1
      have := ih (by omega) (by omega)
      omega
    · omega

theorem three_abs {w2 : World} {A B C : Obj} {P : World → Prop} (h : ∀ W3, (W3.heap[w2.heap.size]? = some A ∧ W3.heap[w2.heap.size + 1]? = some B ∧ W3.heap[w2.heap.size + 1 + 1]? = some C ∧ Same w2 W3) → P W3) : P (((w2.alloc A).alloc B).alloc C) :=
  h _ ⟨heap_old (heap_old (heap_new _ _) _) _, heap_old (heap_new_at (by simp) _) _, heap_new_at (by simp) _, ((((Fr.refl _ _).alloc _).alloc _).alloc _)⟩

set_option maxRecDepth 100000 in
set_option maxHeartbeats 8000000 in
theorem quant_ok {F : FuncId} {dof : Is → Int → Int → Option (Is × Int)} {o : Bool → Bool → Bool} (eF : ∀ (args : Array Value) (W : World), (callFunc F args).run Tryz.prog W = .ok (.enter F args) W) (hC : DoC F dof) (hV : DoVal dof) (hid : Idem o)
    (d : Dg) (n : Nat) (t : List Bool) (hdo : DoOk n o dof) (qs : List Int) (aQ : Option Addr) (capQ : Nat) (w : World) (hn : n ≤ 12) (hat : d.at w) (T : d.tab n t) (hl7 : qs.length ≤ 1000) (hQ : RowAt w (.slice aQ qs.length capQ) qs.length (intCells qs)) (hr0 : renErr n qs qs.length 0 = 0) :
    Calls Tryz.prog 185 #[d.v, .slice aQ qs.length capQ, .func (.func F) #[] #[]] w (DRet w n (tableF n [] 0 (chT (fun x => decide (x ∈ qs)) o n 0 t)).1 (tableF n [] 0 (chT (fun x => decide (x ∈ qs)) o n 0 t)).2) := by
  have C := fun W (hW : Same w W) => check_tab d n t W (SliceAt.same hat hW) T
  obtain ⟨hL, hr, ht⟩ := T.2.ord
  obtain ⟨c1, c2, s', q, c3, c4, c5, c6, c7⟩ := chg_there hn T.2 (wn := fun x => decide (x ∈ qs)) hid hdo
  have FIN := fin_tab hn c4 c5 c6 c7
  have hsm := T.2.small
  have hp10 : 2 ^ n ≤ 2 ^ 12 := Nat.pow_le_pow_right (by omega) hn
  have e := T.1
  rw [Dg.v, e] at C ⊢
  unfold Dg.at at hat
  clear T
  generalize d.L = L at *
  generalize d.r = r at *
  generalize d.a = a at *
  generalize d.cap = cap at *
  obtain ⟨O, hO⟩ : ∃ O, O = tableF n [] 0 (chT (fun x => decide (x ∈ qs)) o n 0 t) := ⟨_, rfl⟩
  rw [← hO] at FIN ⊢
  have hlow : 0 < L.length → ∀ k, (Value.slice a L.length cap).ownBlock = some k → k < w.heap.size := lit_own_below hat
  have ADD := fun B p m a' cap' W (hB : BuilderAt W B p m a' cap' []) (hw : Same w W) (hwB : w.heap.size ≤ B) => add_any B p m a' cap' [] n r a cap L W hB (hat.same hw) (fun h0 i hi => Nat.lt_of_lt_of_le (hlow h0 i hi) hwB) hL.val.laid hr.1 hr.2 (by simp; omega)
  obtain ⟨N, hN⟩ : ∃ N, N = (addF L ([], [0, 1])).1 := ⟨_, rfl⟩
  obtain ⟨k, hk⟩ : ∃ k, k = (addF L ([], [0, 1])).2.getD r.toNat 0 := ⟨_, rfl⟩
  rw [← hN, ← hk] at ADD c3 c2
  rw [← hN] at c1
  have hsrt := renErr_sorted hr0
  have CS := fun W (hW : Same w W) => checkSet_any n qs aQ capQ W hl7 (hQ.same hW)
  rw [hr0] at CS
  have hQlow : 0 < qs.length → ∀ k, (Value.slice aQ qs.length capQ).ownBlock = some k → k < w.heap.size := fun h => hQ.below h
  have hmm := @run_makeMap Tryz.prog
  replace C := Lib.hid C; replace FIN := Lib.hid FIN; replace ADD := Lib.hid ADD; replace c1 := Lib.hid c1; replace c2 := Lib.hid c2; replace c3 := Lib.hid c3; replace c4 := Lib.hid c4; replace c5 := Lib.hid c5; replace c6 := Lib.hid c6; replace c7 := Lib.hid c7; replace hat := Lib.hid hat; replace hL := Lib.hid hL; replace hr := Lib.hid hr; replace ht := Lib.hid ht; replace e := Lib.hid e; replace hlow := Lib.hid hlow; replace hN := Lib.hid hN; replace hk := Lib.hid hk; replace hO := Lib.hid hO; replace hsrt := Lib.hid hsrt; replace CS := Lib.hid CS; replace hQlow := Lib.hid hQlow; replace hQ := Lib.hid hQ; replace hr0 := Lib.hid hr0; replace hC := Lib.hid hC; replace hV := Lib.hid hV; replace hid := Lib.hid hid; replace hdo := Lib.hid hdo
  go_enter Tryz.func185, Tryz.ntmps185
  go_wp2_with fail
  refine (C.out _ (by repeat (first | exact Fr.refl _ _ | apply Fr.alloc | apply Fr.drewN | apply Fr.drew | apply Fr.undrew | apply Fr.undrewN))).mono ?_
  rintro e w1 ⟨rfl, hs1⟩
  have kb : w1.heap[w.heap.size]? = some (.cells #[.int .i64 n, .slice a L.length cap, .int .i64 r] 54 (0, 0)) := hs1.at (heap_old (heap_old (heap_old (heap_new _ _) _) _) _) id
  have kv : w1.heap[w.heap.size + 1]? = some (.cells #[.slice aQ qs.length capQ] 31 (0, 0)) := hs1.at (heap_old (heap_old (heap_new_at (by simp) _) _) _) id
  have kx : w1.heap[w.heap.size + 1 + 1]? = some (.cells #[.func (.func F) #[] #[]] 213 (0, 0)) := hs1.at (heap_old (heap_new_at (by simp) _) _) id
  have kt : w1.heap[w.heap.size + 1 + 1 + 1]? = some (.cells #[.int .i64 0, .slice none 0 0, .int .i64 0] 54 (0, 0)) := hs1.at (heap_new_at (by simp) _) id
  have hs : Same w w1 := (show Same w _ from (by repeat (first | exact Fr.refl _ _ | apply Fr.alloc | apply Fr.drewN | apply Fr.drew | apply Fr.undrew | apply Fr.undrewN))).same hs1
  have x0 := cell_at kb 0; have x1 := cell_at kb 1; have x2 := cell_at kb 2
  have y0 := cell_at kv 0
  have tb := lt_of_heap kt
  replace kb := Lib.hid kb; replace kv := Lib.hid kv; replace kx := Lib.hid kx; replace kt := Lib.hid kt; replace hs := Lib.hid hs; replace hs1 := Lib.hid hs1
  go_wp2_with fail
  refine (CS.out _ hs.out).mono ?_
  rintro e w2 ⟨rfl, rfl⟩
  go_wp2_with fail
  refine (begin_any _).mono ?_
  rintro e w2 ⟨p, m, rfl, hB, hs2⟩
  have kb2 := hs2.at kb.out id
  have kv2 := hs2.at kv.out id
  have kx2 := hs2.at kx.out id
  have kt2 := hs2.at kt.out id
  have hw2 := hs.out.same hs2
  have hsz := hs.out.size
  have hsz2 := hs2.size
  clear x0 x1 x2 y0
  have x0 := cell_at kb2 0; have x1 := cell_at kb2 1; have x2 := cell_at kb2 2
  have xb := lt_of_heap kb2
  replace kb2 := Lib.hid kb2; replace kv2 := Lib.hid kv2; replace kx2 := Lib.hid kx2; replace kt2 := Lib.hid kt2; replace hw2 := Lib.hid hw2; replace hB := Lib.hid hB; replace hs2 := Lib.hid hs2
  go_wp2_with fail
  refine three_abs (fun W3 h3 => ?_)
  obtain ⟨h30, h31, h32, hs3⟩ := h3
  have hM3 : MapAt ndv (Value.int .i64) W3 w2.heap.size ([] : List (Nd × Int)) := (mapAt_made_at (w := w2) rfl).of_block (by rw [h30]; exact (heap_new _ _).symm)
  have kb3 := hs3.at kb2.out id
  have kv3 := hs3.at kv2.out id
  have kx3 := hs3.at kx2.out id
  have kt3 := hs3.at kt2.out id
  have hB3 := hB.out.same hs3
  have hw3 := hw2.out.same hs3
  have hsz3 := lt_of_heap h32
  have hmp : m < w2.heap.size ∧ p < w2.heap.size := ⟨hB.out.map.lt, lt_of_heap hB.out.blk⟩
  have hpB := hB.out.pb
  have z0 := cell_at h31 0
  have zb := lt_of_heap h31
  clear x0 x1 x2 xb
  have x0 := cell_at kb3 0; have x1 := cell_at kb3 1; have x2 := cell_at kb3 2
  have xb := lt_of_heap kb3
  have hkB0 : w.heap.size < w1.heap.size := by omega
  have hkB3 : w.heap.size + 1 + 1 + 1 < w1.heap.size := by omega
  have hB2w : w1.heap.size ≤ w2.heap.size := by omega
  replace h30 := Lib.hid h30; replace h31 := Lib.hid h31; replace h32 := Lib.hid h32; replace hs3 := Lib.hid hs3; replace hM3 := Lib.hid hM3; replace kb3 := Lib.hid kb3; replace kv3 := Lib.hid kv3; replace kx3 := Lib.hid kx3; replace kt3 := Lib.hid kt3; replace hB3 := Lib.hid hB3; replace hw3 := Lib.hid hw3; replace hmp := Lib.hid hmp
  refine wp_region_plan (L2 (w2.heap.size + 1) w.heap.size) [1, 1, 1, 2, 0, 0, 2, 3, 0] (.fork [4, 5, 0, 1, 2] 3 (.run [6, 7, 8]) 6 (.run [3, 7, 8])) (by kernel_rfl) (by kernel_rfl) ?_
  refine plan_fork ?_
  repeat (first | (refine sched_w rfl rfl (fun _ hK => ?_); go_simp; refine hK _ ?_; clear hK) | (refine sched_s rfl rfl (fun _ hK => ?_); go_simp; first | (refine hK _ ?_; clear hK) | (refine ⟨_, fun _ => rfl, hK _ ?_⟩; clear hK)))
  refine sched_nil ⟨?_, ?_⟩
  · refine fork_g rfl rfl (fun _ hK => ?_)
    go_simp
    have hB3d : BuilderAt W3.drew w1.heap.size p m none 0 [] := hB3.out.same (by repeat (first | exact Fr.refl _ _ | apply Fr.undrew | apply Fr.undrewN | apply Fr.drew | apply Fr.drewN | apply Fr.alloc))
    refine (ADD.out w1.heap.size p m none 0 _ hB3d (hw3.out.same (by repeat (first | exact Fr.refl _ _ | apply Fr.undrew | apply Fr.undrewN | apply Fr.drew | apply Fr.drewN | apply Fr.alloc))) hsz).mono ?_
    rintro e w4 hr4
    obtain ⟨rfl, a1, cap1, hB4, hG4⟩ := hr4.of
    have hG4' : Grew (fun i => BB p m i ∨ False) W3.drew w4 (.slice none ([] : List Nd).length 0) (.slice a1 N.length cap1) := by simpa [or_false] using hG4
    have hs4 : Same w w4 := Grew.same_base (w0 := w) hB3d hG4' (hw3.out.same (by repeat (first | exact Fr.refl _ _ | apply Fr.undrew | apply Fr.undrewN | apply Fr.drew | apply Fr.drewN | apply Fr.alloc))) hsz
    have low4 : ∀ j o, j < w1.heap.size → W3.heap[j]? = some o → w4.heap[j]? = some o := fun j o hj h => by rw [hG4.below hB3d hj]; exact h
    have kp4 := number_keeps hB3d hG4' (show W3.drew.heap[w2.heap.size + 1]? = _ from h31.out) (by decide) (by decide)
    have km4 := number_keeps hB3d hG4' (show W3.drew.heap[w2.heap.size + 1 + 1]? = _ from h32.out) (by decide) (by decide)
    have kb4 := low4 _ _ (by omega) kb3.out
    have kv4 := low4 _ _ (by omega) kv3.out
    have kx4 := low4 _ _ (by omega) kx3.out
    have kt4 := low4 _ _ (by omega) kt3.out
    have hM4 := number_keeps_map hB3d hG4' (hM3.out.of_block rfl) (by have := hmp.out.1; omega)
    have hKp : Kp (L2 (w2.heap.size + 1) w.heap.size) W3.drew w4 := ⟨hG4.1.size, fun j hj _ => by
      rcases hj with rfl | rfl
      · rw [kp4]; exact h31.out.symm
      · rw [kb4]; exact kb3.out.symm⟩
    have hsz4 : w2.heap.size + 1 + 1 < w4.heap.size := lt_of_heap km4
    have hBmc : w1.heap.size ≤ w4.heap.size := by omega
    have hSB : ∀ i, i = w2.heap.size → w1.heap.size ≤ i := fun i h => by omega
    have hB5 : BuilderAt (w4.alloc (.map #[] 0)) w1.heap.size p m a1 cap1 N := hB4.same (by repeat (first | exact Fr.refl _ _ | apply Fr.alloc | apply Fr.drewN | apply Fr.drew | apply Fr.undrew | apply Fr.undrewN))
    have hs5 : Same w (w4.alloc (.map #[] 0)) := hs4.same (by repeat (first | exact Fr.refl _ _ | apply Fr.alloc | apply Fr.drewN | apply Fr.drew | apply Fr.undrew | apply Fr.undrewN))
    have kb5 := heap_old (o := .map #[] 0) kb4
    have kt5 := heap_old (o := .map #[] 0) kt4
    have CH := change_any (quant_env (F := F) eF hC.out hV.out (B := w1.heap.size) (p := p) (m := m) (mc := w4.heap.size) (mm := w2.heap.size) (ks := w.heap.size + 1) (kd := w.heap.size + 1 + 1) (kb := w2.heap.size + 1) (km := w2.heap.size + 1 + 1) (qs := qs) (aQ := aQ) (capQ := capQ) (by have := hmp.out; omega) (by have := hmp.out; omega) hBmc (by omega) (by omega) (by omega) hl7 hsrt.out (fun h k hk => Nat.lt_of_lt_of_le (hQlow.out h k hk) hsz) hB2w)
      (n + 1) a1 cap1 ((N, []), []) k s' q (w4.alloc (.map #[] 0)) hB5 ⟨heap_old kv4 _, heap_old kx4 _, heap_old kp4 _, heap_old km4 _, hM4.of_block (Below.heap_alloc _ _ _ hM4.lt), hQ.out.same hs5⟩ (mapAt_made_at rfl) c1.out (VM.nil _) (VM.nil _) c2.out c3.out c7.out
    replace hB5 := Lib.hid hB5; replace hs5 := Lib.hid hs5; replace kb5 := Lib.hid kb5; replace kt5 := Lib.hid kt5; replace CH := Lib.hid CH; replace hSB := Lib.hid hSB
    clear low4 hr4 hG4 hG4' hB3d hB4 hs4 kp4 km4 kb4 kv4 kx4 kt4 hM4
    refine hK _ _ hKp ?_
    clear hK hKp
    try simp only [Act.put, List.setIfInBounds_toArray, List.set_cons_zero, List.set_cons_succ]
    refine plan_run ?_
    refine sched_g rfl rfl (fun _ hK => ?_); go_simp; refine hK _ _ (Kp.of_same (by repeat (first | exact Fr.refl _ _ | apply Fr.undrew | apply Fr.undrewN | apply Fr.drew | apply Fr.drewN | apply Fr.alloc))) ?_; clear hK
    refine sched_l rfl (by decide) (fun _ hK => ?_); go_simp; refine CH.out.mono ?_; rintro e w6 ⟨rfl, a6, cap6, hB6, hP6, hC6, hG6⟩; have hs6 : Same w w6 := chg_same hB5.out hBmc hSB.out hG6 hs5.out hsz; have kb6 := (chg_low hB5.out hBmc hSB.out hG6 (lt_of_heap kb5.out) hkB0).trans kb5.out; have kt6 := (chg_low hB5.out hBmc hSB.out hG6 (lt_of_heap kt5.out) hkB3).trans kt5.out; have kp6 := hP6.bld; refine hK _ _ ?_; clear hK x0 x1 x2 xb z0 zb; (try simp only [Act.put, List.setIfInBounds_toArray, List.set_cons_zero, List.set_cons_succ]); have x0 := cell_at kb6 0; have x1 := cell_at kb6 1; have x2 := cell_at kb6 2; have xb := lt_of_heap kb6; have z0 := cell_at kp6 0; have zb := lt_of_heap kp6; replace hs6 := Lib.hid hs6; replace kb6 := Lib.hid kb6; replace kt6 := Lib.hid kt6; replace hB6 := Lib.hid hB6; replace kp6 := Lib.hid kp6; clear hG6 hP6 hC6 CH; (repeat (first | (refine sched_w rfl rfl (fun _ hK => ?_); go_simp; refine hK _ ?_; clear hK) | (refine sched_s rfl rfl (fun _ hK => ?_); go_simp; first | (refine hK _ ?_; clear hK) | (refine ⟨_, fun _ => rfl, hK _ ?_⟩; clear hK)))); refine sched_nil (NoPanic.normal ?_); go_wp2_with fail; refine (FIN.out w1.heap.size p m a6 cap6 w6 hB6.out).mono ?_; rintro e w7 ⟨ao, co, rfl, hO7, hs7⟩; have kt := hs7.at kt6.out id; have hs := hs6.out.same hs7; replace hO7 := Lib.hid hO7; obtain ⟨⟨t0, t1, t2, f0, f1, f2, tb⟩, d0, d1, d2, hF, hK, hSl⟩ := res3 (a := .int .i64 n) (c := .slice ao O.1.length co) (d := .int .i64 O.2) kt hs (by omega); replace hF := Lib.hid hF; replace hK := Lib.hid hK; replace hSl := Lib.hid hSl; replace kt := Lib.hid kt; replace hs := Lib.hid hs; have hOF := hSl.out _ _ _ _ _ hO7.out (by decide); replace hOF := Lib.hid hOF; clear x0 x1 x2 xb z0 zb; go_wp2_with fail; refine bodyPost_ret (v := .tuple #[.agg #[.int .i64 n, .slice ao O.1.length co, .int .i64 O.2], .int .i64 0]) (by simp [results, Tryz.results185, go_sem, d0, d1, d2]) rfl ?_; exact ⟨ao, co, rfl, hOF.out, hF.out⟩
  · refine fork_g rfl rfl (fun _ hK => ?_)
    go_simp
    refine hK _ _ (Kp.of_same (by repeat (first | exact Fr.refl _ _ | apply Fr.undrew | apply Fr.undrewN | apply Fr.drew | apply Fr.drewN | apply Fr.alloc))) ?_
    clear hK
    try simp only [Act.put, List.setIfInBounds_toArray, List.set_cons_zero, List.set_cons_succ]
    refine plan_run ?_
    refine sched_g rfl rfl (fun _ hK => ?_)
    go_simp
    have hB3d : BuilderAt ((W3.alloc (.map #[] 0)).drew) w1.heap.size p m none 0 [] := hB3.out.same (by repeat (first | exact Fr.refl _ _ | apply Fr.undrew | apply Fr.undrewN | apply Fr.drew | apply Fr.drewN | apply Fr.alloc))
    have hs34 : Same W3 (W3.alloc (.map #[] 0)).drew := (by repeat (first | exact Fr.refl _ _ | apply Fr.undrew | apply Fr.undrewN | apply Fr.drew | apply Fr.drewN | apply Fr.alloc))
    have h31d : ((W3.alloc (.map #[] 0)).drew).heap[w2.heap.size + 1]? = _ := heap_old h31.out _
    have h32d : ((W3.alloc (.map #[] 0)).drew).heap[w2.heap.size + 1 + 1]? = _ := heap_old h32.out _
    have hmcd : mI ((W3.alloc (.map #[] 0)).drew) W3.heap.size [] := (mapAt_made_at (w := W3) rfl).of_block rfl
    refine (ADD.out w1.heap.size p m none 0 _ hB3d (hw3.out.same hs34) hsz).mono ?_
    rintro e w4 hr4
    obtain ⟨rfl, a1, cap1, hB4, hG4⟩ := hr4.of
    have hG4' : Grew (fun i => BB p m i ∨ False) (W3.alloc (.map #[] 0)).drew w4 (.slice none ([] : List Nd).length 0) (.slice a1 N.length cap1) := by simpa [or_false] using hG4
    have hs4 : Same w w4 := Grew.same_base (w0 := w) hB3d hG4' (hw3.out.same hs34) hsz
    have low4 : ∀ j o, j < w1.heap.size → W3.heap[j]? = some o → w4.heap[j]? = some o := fun j o hj h => by rw [hG4.below hB3d hj]; exact hs34.at h id
    have kp4 := number_keeps hB3d hG4' h31d (by decide) (by decide)
    have km4 := number_keeps hB3d hG4' h32d (by decide) (by decide)
    have kb4 := low4 _ _ (by omega) kb3.out
    have kv4 := low4 _ _ (by omega) kv3.out
    have kx4 := low4 _ _ (by omega) kx3.out
    have kt4 := low4 _ _ (by omega) kt3.out
    have hM4 := number_keeps_map hB3d hG4' (hM3.out.of_block (hs34.block _ hM3.out.lt id)) (by have := hmp.out.1; omega)
    have hC4 := number_keeps_map hB3d hG4' hmcd (by have := hmp.out.1; have := hsz3; omega)
    have hKp : Kp (L2 (w2.heap.size + 1) w.heap.size) (W3.alloc (.map #[] 0)).drew w4 := ⟨hG4.1.size, fun j hj _ => by
      rcases hj with rfl | rfl
      · rw [kp4]; exact h31d.symm
      · rw [kb4]; exact (hs34.at kb3.out id).symm⟩
    have hBmc : w1.heap.size ≤ W3.heap.size := by omega
    have hSB : ∀ i, i = w2.heap.size → w1.heap.size ≤ i := fun i h => by omega
    have hB5 : BuilderAt w4 w1.heap.size p m a1 cap1 N := hB4
    have hs5 : Same w w4 := hs4
    have kb5 := kb4
    have kt5 := kt4
    have CH := change_any (quant_env (F := F) eF hC.out hV.out (B := w1.heap.size) (p := p) (m := m) (mc := W3.heap.size) (mm := w2.heap.size) (ks := w.heap.size + 1) (kd := w.heap.size + 1 + 1) (kb := w2.heap.size + 1) (km := w2.heap.size + 1 + 1) (qs := qs) (aQ := aQ) (capQ := capQ) (by have := hmp.out; omega) (by have := hmp.out; omega) hBmc (by omega) (by omega) (by omega) hl7 hsrt.out (fun h k hk => Nat.lt_of_lt_of_le (hQlow.out h k hk) hsz) hB2w)
      (n + 1) a1 cap1 ((N, []), []) k s' q w4 hB5 ⟨kv4, kx4, kp4, km4, hM4, hQ.out.same hs5⟩ hC4 c1.out (VM.nil _) (VM.nil _) c2.out c3.out c7.out
    replace hB5 := Lib.hid hB5; replace hs5 := Lib.hid hs5; replace kb5 := Lib.hid kb5; replace kt5 := Lib.hid kt5; replace CH := Lib.hid CH; replace hSB := Lib.hid hSB
    clear low4 hr4 hG4 hG4' hB3d hB4 hs4 kp4 km4 kb4 kv4 kx4 kt4 hM4 hC4 hs34 h31d h32d hmcd
    refine hK _ _ hKp ?_
    clear hK hKp
    try simp only [Act.put, List.setIfInBounds_toArray, List.set_cons_zero, List.set_cons_succ]
    refine sched_l rfl (by decide) (fun _ hK => ?_); go_simp; refine CH.out.mono ?_; rintro e w6 ⟨rfl, a6, cap6, hB6, hP6, hC6, hG6⟩; have hs6 : Same w w6 := chg_same hB5.out hBmc hSB.out hG6 hs5.out hsz; have kb6 := (chg_low hB5.out hBmc hSB.out hG6 (lt_of_heap kb5.out) hkB0).trans kb5.out; have kt6 := (chg_low hB5.out hBmc hSB.out hG6 (lt_of_heap kt5.out) hkB3).trans kt5.out; have kp6 := hP6.bld; refine hK _ _ ?_; clear hK x0 x1 x2 xb z0 zb; (try simp only [Act.put, List.setIfInBounds_toArray, List.set_cons_zero, List.set_cons_succ]); have x0 := cell_at kb6 0; have x1 := cell_at kb6 1; have x2 := cell_at kb6 2; have xb := lt_of_heap kb6; have z0 := cell_at kp6 0; have zb := lt_of_heap kp6; replace hs6 := Lib.hid hs6; replace kb6 := Lib.hid kb6; replace kt6 := Lib.hid kt6; replace hB6 := Lib.hid hB6; replace kp6 := Lib.hid kp6; clear hG6 hP6 hC6 CH; (repeat (first | (refine sched_w rfl rfl (fun _ hK => ?_); go_simp; refine hK _ ?_; clear hK) | (refine sched_s rfl rfl (fun _ hK => ?_); go_simp; first | (refine hK _ ?_; clear hK) | (refine ⟨_, fun _ => rfl, hK _ ?_⟩; clear hK)))); refine sched_nil (NoPanic.normal ?_); go_wp2_with fail; refine (FIN.out w1.heap.size p m a6 cap6 w6 hB6.out).mono ?_; rintro e w7 ⟨ao, co, rfl, hO7, hs7⟩; have kt := hs7.at kt6.out id; have hs := hs6.out.same hs7; replace hO7 := Lib.hid hO7; obtain ⟨⟨t0, t1, t2, f0, f1, f2, tb⟩, d0, d1, d2, hF, hK, hSl⟩ := res3 (a := .int .i64 n) (c := .slice ao O.1.length co) (d := .int .i64 O.2) kt hs (by omega); replace hF := Lib.hid hF; replace hK := Lib.hid hK; replace hSl := Lib.hid hSl; replace kt := Lib.hid kt; replace hs := Lib.hid hs; have hOF := hSl.out _ _ _ _ _ hO7.out (by decide); replace hOF := Lib.hid hOF; clear x0 x1 x2 xb z0 zb; go_wp2_with fail; refine bodyPost_ret (v := .tuple #[.agg #[.int .i64 n, .slice ao O.1.length co, .int .i64 O.2], .int .i64 0]) (by simp [results, Tryz.results185, go_sem, d0, d1, d2]) rfl ?_; exact ⟨ao, co, rfl, hOF.out, hF.out⟩

/-- A call returns a diagram or, with an error, the zero one. -/
def QAny (E m : Int) (O : List Nd × Int) (w : World) (e : Ending) (w' : World) : Prop :=
  ∃ gm ga gL gc gr, e = .returned (.tuple #[.agg #[.int .i64 gm, .slice ga (gL : List Nd).length gc, .int .i64 gr], .int .i64 E]) ∧ SliceAt w' 135 3 (.slice ga gL.length gc) gL.length (ndCells gL) ∧ Same w w' ∧
    (E ≠ 0 → gm = 0 ∧ gL = [] ∧ gr = 0) ∧ (E = 0 → gm = m ∧ gL = O.1 ∧ gr = O.2)

theorem DErr.any {E m : Int} {O : List Nd × Int} {w w' : World} {e : Ending} (h0 : E ≠ 0) (h : DErr w E e w') : QAny E m O w e w' := by
  obtain ⟨rfl, hs⟩ := h
  exact ⟨0, none, [], 0, 0, rfl, SliceAt.nil _ _ _, hs, fun _ => ⟨rfl, rfl, rfl⟩, fun h => absurd h h0⟩

theorem DRet.any {m : Int} {O : List Nd × Int} {w w' : World} {e : Ending} (h : DRet w m O.1 O.2 e w') : QAny 0 m O w e w' := by
  obtain ⟨a, c, rfl, hO, hs⟩ := h
  exact ⟨m, a, O.1, c, O.2, rfl, hO, hs, fun h => absurd rfl h, fun _ => ⟨rfl, rfl, rfl⟩⟩

theorem quant_table {o : Bool → Bool → Bool} (ho : Idem o) (hi : Inter o) {n : Nat} {t : List Bool} (ht : t.length = 2 ^ n) {qs : List Int} (h : renErr n qs qs.length 0 = 0) : quantT o n (qs.map Int.toNat) t = chT (fun x => decide (x ∈ qs)) o n 0 t := by
  have H := renErr_up qs.length 0 h
  have hmem : ∀ x ∈ qs, 0 ≤ x ∧ x < n := by
    intro x hx
    obtain ⟨i, hi, rfl⟩ := (toF_mem qs x).1 hx
    have := H i (by omega) (by omega)
    exact ⟨this.1, this.2.1⟩
  have hstrict : ∀ i j, i < j → j < qs.length → toF qs i < toF qs j := by
    intro i j hij hj
    have h1 := renErr_sorted h i (j - 1) (by omega) (by omega)
    have h2 := (H j (by omega) (by omega)).2.2 (by omega)
    omega
  rw [quant_chT ho hi n t ht _ (qs.map Int.toNat) rfl ?_ ?_]
  · congr 1
    funext x
    simp only [inV, oneV, List.any_map]
    by_cases hx : x ∈ qs
    · rw [decide_eq_true hx]
      refine List.any_eq_true.2 ⟨x, hx, ?_⟩
      have := hmem x hx
      simp only [Function.comp, decide_eq_true_eq]; omega
    · rw [decide_eq_false hx]
      refine List.any_eq_false.2 (fun y hy => ?_)
      have := hmem y hy
      simp only [Function.comp, decide_eq_true_eq]
      intro e
      have : x = y := by omega
      exact hx (this ▸ hy)
  · rw [List.Nodup, List.pairwise_map, List.pairwise_iff_getElem]
    intro i j hi hj hij e
    have := hstrict i j hij hj
    have g1 := hmem _ (List.getElem_mem hi)
    have g2 := hmem _ (List.getElem_mem hj)
    simp only [toF, List.getD_eq_getElem?_getD, List.getElem?_eq_getElem hi, List.getElem?_eq_getElem hj, Option.getD_some] at this
    omega
  · intro u hu
    obtain ⟨x, hx, rfl⟩ := List.mem_map.1 hu
    have := hmem x hx
    omega

set_option maxRecDepth 100000 in
set_option maxHeartbeats 2000000 in
theorem quant_bad (F : FuncId) (d : Dg) (n : Nat) (t : List Bool) (qs : List Int) (aQ : Option Addr) (capQ : Nat) (w : World) (hat : d.at w) (T : d.tab n t) (hl7 : qs.length ≤ 1000) (hQ : RowAt w (.slice aQ qs.length capQ) qs.length (intCells qs)) (hr0 : renErr n qs qs.length 0 ≠ 0) :
    Calls Tryz.prog 185 #[d.v, .slice aQ qs.length capQ, .func (.func F) #[] #[]] w (DErr w (renErr n qs qs.length 0)) := by
  have C := fun W (hW : Same w W) => check_tab d n t W (SliceAt.same hat hW) T
  have e := T.1
  rw [Dg.v, e] at C ⊢
  unfold Dg.at at hat
  clear T
  generalize d.L = L at *
  generalize d.r = r at *
  generalize d.a = a at *
  generalize d.cap = cap at *
  have CS := fun W (hW : Same w W) => checkSet_any n qs aQ capQ W hl7 (hQ.same hW)
  obtain ⟨E, hE⟩ : ∃ E, E = renErr n qs qs.length 0 := ⟨_, rfl⟩
  rw [← hE] at CS hr0 ⊢
  have hE1 : (E != 0) = true := by simpa using hr0
  replace C := Lib.hid C; replace CS := Lib.hid CS; replace hat := Lib.hid hat; replace e := Lib.hid e; replace hQ := Lib.hid hQ; replace hE := Lib.hid hE; replace hr0 := Lib.hid hr0
  go_enter Tryz.func185, Tryz.ntmps185
  go_wp2_with fail
  refine (C.out _ (by repeat (first | exact Fr.refl _ _ | apply Fr.alloc | apply Fr.drewN | apply Fr.drew | apply Fr.undrew | apply Fr.undrewN))).mono ?_
  rintro e w1 ⟨rfl, hs1⟩
  have kb : w1.heap[w.heap.size]? = some (.cells #[.int .i64 n, .slice a L.length cap, .int .i64 r] 54 (0, 0)) := hs1.at (heap_old (heap_old (heap_old (heap_new _ _) _) _) _) id
  have kv : w1.heap[w.heap.size + 1]? = some (.cells #[.slice aQ qs.length capQ] 31 (0, 0)) := hs1.at (heap_old (heap_old (heap_new_at (by simp) _) _) _) id
  have kt : w1.heap[w.heap.size + 1 + 1 + 1]? = some (.cells #[.int .i64 0, .slice none 0 0, .int .i64 0] 54 (0, 0)) := hs1.at (heap_new_at (by simp) _) id
  have hs : Same w w1 := (show Same w _ from (by repeat (first | exact Fr.refl _ _ | apply Fr.alloc | apply Fr.drewN | apply Fr.drew | apply Fr.undrew | apply Fr.undrewN))).same hs1
  have x0 := cell_at kb 0; have x1 := cell_at kb 1; have x2 := cell_at kb 2
  have y0 := cell_at kv 0
  have hs' := hs
  obtain ⟨⟨t0, t1, t2, f0, f1, f2, tb⟩, d0, d1, d2, hF, hK, hSl⟩ := res3 (a := .int .i64 0) (c := .slice none 0 0) (d := .int .i64 0) kt hs (by omega); replace hF := Lib.hid hF; replace hK := Lib.hid hK; replace hSl := Lib.hid hSl; replace kt := Lib.hid kt; replace hs := Lib.hid hs
  replace kb := Lib.hid kb; replace kv := Lib.hid kv; replace hs1 := Lib.hid hs1; replace hs' := Lib.hid hs'
  go_wp2_with fail
  refine (CS.out _ hs'.out).mono ?_
  rintro e w2 ⟨rfl, rfl⟩
  go_wp2_with fail
  refine bodyPost_ret (v := .tuple #[.agg #[.int .i64 0, .slice none 0 0, .int .i64 0], .int .i64 E]) (by simp [results, Tryz.results185, go_sem, d0, d1, d2]) rfl ?_
  exact ⟨rfl, hF.out⟩

theorem quant_any (all : Bool) (F : FuncId) {dof : Is → Int → Int → Option (Is × Int)} (eF : ∀ (args : Array Value) (W : World), (callFunc F args).run Tryz.prog W = .ok (.enter F args) W) (hC : DoC F dof) (hV : DoVal dof)
    (d : Dg) (n : Nat) (t : List Bool) (hdo : DoOk n (qOp all) dof) (qs : List Int) (aQ : Option Addr) (capQ : Nat) (w : World) (hn : n ≤ 12) (hat : d.at w) (T : d.tab n t) (hl7 : qs.length ≤ 1000) (hQ : RowAt w (.slice aQ qs.length capQ) qs.length (intCells qs)) :
    Calls Tryz.prog 185 #[d.v, .slice aQ qs.length capQ, .func (.func F) #[] #[]] w (QAny (renErr n qs qs.length 0) n (tableF n [] 0 (quantT (qOp all) n (qs.map Int.toNat) t)) w) := by
  have ho : Idem (qOp all) := by
    cases all
    · rw [qOp_false]; exact or_idem
    · rw [qOp_true]; exact and_idem
  have hi : Inter (qOp all) := by
    cases all
    · rw [qOp_false]; exact or_inter
    · rw [qOp_true]; exact and_inter
  by_cases h : renErr n qs qs.length 0 = 0
  · rw [quant_table ho hi T.2.len h, h]
    exact (quant_ok eF hC hV ho d n t hdo qs aQ capQ w hn hat T hl7 hQ h).mono (fun e w' hd => DRet.any hd)
  · exact (quant_bad F d n t qs aQ capQ w hat T hl7 hQ h).mono (fun e w' hd => DErr.any h hd)

theorem exQ (d : Dg) (n : Nat) (t : List Bool) (qs : List Int) (aQ : Option Addr) (capQ : Nat) (w : World) (hn : n ≤ 12) (hat : d.at w) (T : d.tab n t) (hl7 : qs.length ≤ 1000) (hQ : RowAt w (.slice aQ qs.length capQ) qs.length (intCells qs)) :
    Calls Tryz.prog 185 #[d.v, .slice aQ qs.length capQ, .func (.func 186) #[] #[]] w (QAny (renErr n qs qs.length 0) n (tableF n [] 0 (quantT (qOp false) n (qs.map Int.toNat) t)) w) :=
  quant_any false _ enter_E (doE_c (n + 1)) (doE_val (n + 1)) d n t (by rw [qOp_false]; exact doE_ok n (by omega)) qs aQ capQ w hn hat T hl7 hQ
set_option maxRecDepth 100000 in
set_option maxHeartbeats 2000000 in
theorem exists_any (d : Dg) (n : Nat) (t : List Bool) (qs : List Int) (aQ : Option Addr) (capQ : Nat) (w : World) (hn : n ≤ 12) (hat : d.at w) (T : d.tab n t) (hl7 : qs.length ≤ 1000) (hQ : RowAt w (.slice aQ qs.length capQ) qs.length (intCells qs)) :
    Calls Tryz.prog 158 #[d.v, .slice aQ qs.length capQ] w (QAny (renErr n qs qs.length 0) n (tableF n [] 0 (quantT (qOp false) n (qs.map Int.toNat) t)) w) := by
  have Q := fun W (hW : Same w W) => exQ d n t qs aQ capQ W hn (SliceAt.same hat hW) T hl7 (hQ.same hW)
  obtain ⟨O, hO⟩ : ∃ O, O = tableF n [] 0 (quantT (qOp false) n (qs.map Int.toNat) t) := ⟨_, rfl⟩
  obtain ⟨E, hE⟩ : ∃ E, E = renErr n qs qs.length 0 := ⟨_, rfl⟩
  rw [← hO, ← hE] at Q ⊢
  have e := T.1
  rw [Dg.v, e] at Q ⊢
  replace Q := Lib.hid Q; replace hO := Lib.hid hO; replace hE := Lib.hid hE; replace hat := Lib.hid hat; replace hQ := Lib.hid hQ; replace T := Lib.hid T; replace e := Lib.hid e
  go_enter Tryz.func158, Tryz.ntmps158
  go_wp2_with fail
  refine (Q.out _ (by repeat (first | exact Fr.refl _ _ | apply Fr.alloc | apply Fr.drewN | apply Fr.drew | apply Fr.undrew | apply Fr.undrewN))).mono ?_
  rintro e w1 ⟨gm, ga, gL, gc, gr, rfl, hG, hs1, hb, hg⟩
  have kt : w1.heap[w.heap.size + 1]? = some (.cells #[.int .i64 0, .slice none 0 0, .int .i64 0] 54 (0, 0)) := hs1.at (heap_new_at (by simp) _) id
  have hs : Same w w1 := (show Same w _ from (by repeat (first | exact Fr.refl _ _ | apply Fr.alloc | apply Fr.drewN | apply Fr.drew | apply Fr.undrew | apply Fr.undrewN))).same hs1
  obtain ⟨⟨t0, t1, t2, f0, f1, f2, tb⟩, d0, d1, d2, hF, hK, hSl⟩ := res3 (a := .int .i64 gm) (c := .slice ga gL.length gc) (d := .int .i64 gr) kt hs (by omega); replace hF := Lib.hid hF; replace hK := Lib.hid hK; replace hSl := Lib.hid hSl; replace kt := Lib.hid kt; replace hs := Lib.hid hs
  have hOF := hSl.out _ _ _ _ _ hG (by decide)
  replace hOF := Lib.hid hOF; replace hG := Lib.hid hG; replace hs1 := Lib.hid hs1; replace hb := Lib.hid hb; replace hg := Lib.hid hg
  go_wp2_with fail
  refine bodyPost_ret (v := .tuple #[.agg #[.int .i64 gm, .slice ga gL.length gc, .int .i64 gr], .int .i64 E]) (by simp [results, Tryz.results158, go_sem, d0, d1, d2]) rfl ?_
  exact ⟨gm, ga, gL, gc, gr, rfl, hOF.out, hF.out, hb.out, hg.out⟩

end Go.Proofs.YtknlkcfnfjchdaaGreat
namespace Go.Proofs.YtknlkcfnfjchdaaGreat
open Go.RowKit
set_option linter.unusedVariables false
set_option linter.unusedSimpArgs false

theorem ext_getD {a b : List Bool} {m : Nat} (ha : a.length = m) (hb : b.length = m) (h : ∀ i, i < m → a.getD i false = b.getD i false) : a = b := by
  refine List.ext_getElem (by omega) (fun i h1 h2 => ?_)
  have := h i (by omega)
  simpa only [List.getD_eq_getElem?_getD, List.getElem?_eq_getElem h1, List.getElem?_eq_getElem h2, Option.getD_some] using this

theorem colF_get (f : Nat → Bool) (m i : Nat) (h : i < m) : (colF f m).getD i false = f i := by simp [colF, List.getD, h]

theorem ite3_get {x y z : List Bool} {m : Nat} (hx : x.length = m) (hy : y.length = m) (hz : z.length = m) {i : Nat} (hi : i < m) : (ite3 x y z).getD i false = if x.getD i false then y.getD i false else z.getD i false := by
  rw [ite3_col x y z (by omega) (by omega), colF_get _ _ _ (by omega)]

theorem ite3_len {x y z : List Bool} {m : Nat} (hx : x.length = m) (hy : y.length = m) (hz : z.length = m) : (ite3 x y z).length = m := by rw [ite3_length x y z (by omega) (by omega), hx]
theorem fls_len (n : Nat) : (fls n).length = 2 ^ n := by simp [fls]
theorem tru_len (n : Nat) : (tru n).length = 2 ^ n := by simp [tru]
theorem flsG (n i : Nat) : (fls n).getD i false = false := by
  simp only [fls, List.getD_eq_getElem?_getD, List.getElem?_replicate]; split <;> rfl
theorem truG {n i : Nat} (h : i < 2 ^ n) : (tru n).getD i false = true := by simp [tru, List.getD, h]
theorem one_get (o : Bool → Bool → Bool) (n u : Nat) (t : List Bool) {i : Nat} (h : i < 2 ^ n) : (oneT o n u t).getD i false = o (t.getD (withF n i u false) false) (t.getD (withF n i u true) false) := by simp [oneT, List.getD, h]
theorem var_get (n v : Nat) {i : Nat} (h : i < 2 ^ n) : (varT n v).getD i false = bitF n i v := by simp [varT, List.getD, h]

section
variable {n : Nat} {x y : List Bool} (hx : x.length = 2 ^ n) (hy : y.length = 2 ^ n)
include hx

theorem law_not : (ite3 x (fls n) (tru n)).length = 2 ^ n := ite3_len hx (fls_len n) (tru_len n)
theorem law_not_get {i : Nat} (h : i < 2 ^ n) : (ite3 x (fls n) (tru n)).getD i false = !x.getD i false := by
  rw [ite3_get hx (fls_len n) (tru_len n) h, flsG, truG h]
  cases x.getD i false <;> rfl
theorem law3 : ite3 (ite3 x (fls n) (tru n)) (fls n) (tru n) = x := by
  have h1 := law_not hx
  refine ext_getD (law_not h1) hx (fun i hi => ?_)
  rw [law_not_get h1 hi, law_not_get hx hi]
  simp

include hy
theorem law_and : (ite3 x y (fls n)).length = 2 ^ n := ite3_len hx hy (fls_len n)
theorem law1 : ite3 (ite3 x (fls n) (tru n)) (tru n) (ite3 y (fls n) (tru n)) = ite3 (ite3 x y (fls n)) (fls n) (tru n) := by
  have h1 := law_not hx
  have h2 := law_not hy
  have h3 := law_and hx hy
  refine ext_getD (ite3_len h1 (tru_len n) h2) (law_not h3) (fun i hi => ?_)
  rw [law_not_get h3 hi, ite3_get h1 (tru_len n) h2 hi, ite3_get hx hy (fls_len n) hi, law_not_get hx hi, law_not_get hy hi, truG hi, flsG]
  cases x.getD i false <;> cases y.getD i false <;> rfl
theorem law2 : ite3 x (tru n) (ite3 x y (fls n)) = x := by
  have h3 := law_and hx hy
  refine ext_getD (ite3_len hx (tru_len n) h3) hx (fun i hi => ?_)
  rw [ite3_get hx (tru_len n) h3 hi, ite3_get hx hy (fls_len n) hi, truG hi, flsG]
  cases x.getD i false <;> cases y.getD i false <;> rfl
end

theorem law4 {n v : Nat} {x : List Bool} (hx : x.length = 2 ^ n) : ite3 (varT n v) (oneT (pickB true) n v x) (oneT (pickB false) n v x) = x := by
  refine ext_getD (ite3_len (varT_length n v) (oneT_length _ _ _ _) (oneT_length _ _ _ _)) hx (fun i hi => ?_)
  rw [ite3_get (varT_length n v) (oneT_length _ _ _ _) (oneT_length _ _ _ _) hi, var_get n v hi, one_get _ _ _ _ hi, one_get _ _ _ _ hi]
  cases h : bitF n i v
  · simp only [pickB, Bool.false_eq_true, if_false]
    rw [withF, if_pos h]
  · simp only [pickB, if_true]
    rw [withF, if_pos h]

theorem law5 {n v : Nat} {x : List Bool} (hx : x.length = 2 ^ n) : ite3 (oneT (pickB false) n v x) (tru n) (oneT (pickB true) n v x) = oneT (qOp false) n v x := by
  refine ext_getD (ite3_len (oneT_length _ _ _ _) (tru_len n) (oneT_length _ _ _ _)) (oneT_length _ _ _ _) (fun i hi => ?_)
  rw [ite3_get (oneT_length _ _ _ _) (tru_len n) (oneT_length _ _ _ _) hi, one_get _ _ _ _ hi, one_get _ _ _ _ hi, one_get _ _ _ _ hi, truG hi]
  simp only [pickB, qOp]
  cases x.getD (withF n i v false) false <;> cases x.getD (withF n i v true) false <;> rfl

theorem law6 {n v : Nat} {x : List Bool} (hx : x.length = 2 ^ n) (hv : v < n) : ite3 (oneT (qOp true) n v (ite3 x (fls n) (tru n))) (fls n) (tru n) = oneT (qOp false) n v x := by
  refine ext_getD (law_not (oneT_length _ _ _ _)) (oneT_length _ _ _ _) (fun i hi => ?_)
  rw [law_not_get (oneT_length _ _ _ _) hi, one_get _ _ _ _ hi, one_get _ _ _ _ hi, law_not_get hx (with_lt n i v false hi hv), law_not_get hx (with_lt n i v true hi hv)]
  simp only [qOp]
  cases x.getD (withF n i v false) false <;> cases x.getD (withF n i v true) false <;> rfl

/-! ### the contracts by canonical tables -/
theorem not_is {n : Nat} (hn : n ≤ 12) {t t' : List Bool} {O O' : List Nd} {r r' : Int} (T : IsTab n t O r) (h : ite3 t (fls n) (tru n) = t') (T' : IsTab n t' O' r') {a : Option Addr} {c : Nat} {W : World} (hat : SliceAt W 135 3 (.slice a O.length c) O.length (ndCells O)) :
    Calls Tryz.prog 99 #[.agg #[.int .i64 n, .slice a O.length c, .int .i64 r]] W (DRet W n O' r') := by
  have := not_right n ⟨n, a, c, O, r⟩ t W hn hat ⟨rfl, T⟩
  rw [h, T'.eq] at this
  exact this

theorem and_is {n : Nat} (hn : n ≤ 12) {t u t' : List Bool} {O P O' : List Nd} {r s r' : Int} (T : IsTab n t O r) (U : IsTab n u P s) (h : ite3 t u (fls n) = t') (T' : IsTab n t' O' r') {a b : Option Addr} {c d : Nat} {W : World}
    (hat : SliceAt W 135 3 (.slice a O.length c) O.length (ndCells O)) (hbt : SliceAt W 135 3 (.slice b P.length d) P.length (ndCells P)) :
    Calls Tryz.prog 100 #[.agg #[.int .i64 n, .slice a O.length c, .int .i64 r], .agg #[.int .i64 n, .slice b P.length d, .int .i64 s]] W (DRet W n O' r') := by
  have := and_right n ⟨n, a, c, O, r⟩ ⟨n, b, d, P, s⟩ t u W hn hat hbt ⟨rfl, T⟩ ⟨rfl, U⟩
  rw [h, T'.eq] at this
  exact this

theorem or_is {n : Nat} (hn : n ≤ 12) {t u t' : List Bool} {O P O' : List Nd} {r s r' : Int} (T : IsTab n t O r) (U : IsTab n u P s) (h : ite3 t (tru n) u = t') (T' : IsTab n t' O' r') {a b : Option Addr} {c d : Nat} {W : World}
    (hat : SliceAt W 135 3 (.slice a O.length c) O.length (ndCells O)) (hbt : SliceAt W 135 3 (.slice b P.length d) P.length (ndCells P)) :
    Calls Tryz.prog 37 #[.agg #[.int .i64 n, .slice a O.length c, .int .i64 r], .agg #[.int .i64 n, .slice b P.length d, .int .i64 s]] W (DRet W n O' r') := by
  have := or_right n ⟨n, a, c, O, r⟩ ⟨n, b, d, P, s⟩ t u W hn hat hbt ⟨rfl, T⟩ ⟨rfl, U⟩
  rw [h, T'.eq] at this
  exact this

theorem from_is {n : Nat} (hn : n ≤ 10) {t : List Bool} {O : List Nd} {r : Int} (T : IsTab n t O r) {b : Nat} {W : World} (hb : BoolsAt W b t) (hl : t.length ≤ 1000) :
    Calls Tryz.prog 58 #[.int .i64 n, .slice (some ⟨b, 0, none⟩) t.length t.length] W (DRet W n O r) := by
  have := fromTable_row n t (some ⟨b, 0, none⟩) t.length W hn T.len (hb.slice (by omega)).row
  rw [T.eq] at this
  exact this

theorem var_is {n : Nat} (hn : n ≤ 12) (u : Nat) (hu : u < n) (W : World) : Calls Tryz.prog 171 #[.int .i64 n, .int .i64 u] W (DRet W n [((u : Int), 0, 1)] 2) := variable_ok n u W (by omega) (by omega)
theorem var_tab {n u : Nat} (hn : n ≤ 12) (hu : u < n) : IsTab n (varT n u) [((u : Int), 0, 1)] 2 := ⟨by omega, varT_length n u, table_var (by omega) hu, by simp⟩

theorem QAny.ret {m : Int} {O : List Nd × Int} {w w' : World} {e : Ending} (h : QAny 0 m O w e w') : DRet w m O.1 O.2 e w' := by
  obtain ⟨gm, ga, gL, gc, gr, rfl, h1, h2, _, h4⟩ := h
  obtain ⟨rfl, rfl, rfl⟩ := h4 rfl
  exact ⟨ga, gc, rfl, h1, h2⟩

theorem err_one {n u : Nat} (hu : u < n) : renErr n [(u : Int)] [(u : Int)].length 0 = 0 := by
  simp only [List.length_singleton, renErr]
  have : toF [(u : Int)] 0 = u := rfl
  rw [this, if_neg (by omega), if_neg (by omega)]

theorem ex_is {n : Nat} (hn : n ≤ 12) {t t' : List Bool} {O O' : List Nd} {r r' : Int} (T : IsTab n t O r) (u : Nat) (hu : u < n) (h : oneT (qOp false) n u t = t') (T' : IsTab n t' O' r') {a : Option Addr} {c : Nat} {W : World} {b : Nat} (hat : SliceAt W 135 3 (.slice a O.length c) O.length (ndCells O))
    (hb : W.heap[b]? = some (.cells #[.int .i64 u] 3 (0, 0))) :
    Calls Tryz.prog 158 #[.agg #[.int .i64 n, .slice a O.length c, .int .i64 r], .slice (some ⟨b, 0, none⟩) 1 1] W (DRet W n O' r') := by
  have R : RowAt W (.slice (some ⟨b, 0, none⟩) 1 1) 1 (intCells [(u : Int)]) := (SliceAt.of_owns (own_of_block (base := 0) (T := 3) (xs := intCells [(u : Int)]) hb (Nat.zero_le _) rfl rfl (by unfold maxLen; omega))).row
  have := exists_any ⟨n, a, c, O, r⟩ n t [(u : Int)] (some ⟨b, 0, none⟩) 1 W hn hat ⟨rfl, T⟩ (by simp) R
  rw [err_one hu] at this
  refine this.mono (fun e w' h' => ?_)
  have h2 := h'.ret
  have h3 : quantT (qOp false) n ([(u : Int)].map Int.toNat) t = t' := h
  rw [h3, T'.eq] at h2
  exact h2

theorem eq_is {n r : Int} {O : List Nd} {a b : Option Addr} {c d : Nat} {W : World} (hl : O.length ≤ 1000000) (hat : SliceAt W 135 3 (.slice a O.length c) O.length (ndCells O)) (hbt : SliceAt W 135 3 (.slice b O.length d) O.length (ndCells O)) :
    Calls Tryz.prog 39 #[.agg #[.int .i64 n, .slice a O.length c, .int .i64 r], .agg #[.int .i64 n, .slice b O.length d, .int .i64 r]] W fun e w' => e = .returned (.bool true) ∧ Same W w' := by
  have := equal_any n n r r a b c d O O W hat hbt hl hl
  simpa using this

theorem chk_is {n : Nat} {t : List Bool} {O : List Nd} {r : Int} (T : IsTab n t O r) {a : Option Addr} {c : Nat} {W : World} (hat : SliceAt W 135 3 (.slice a O.length c) O.length (ndCells O)) :
    Calls Tryz.prog 23 #[.agg #[.int .i64 n, .slice a O.length c, .int .i64 r]] W fun e w' => e = .returned (.int .i64 0) ∧ Same W w' := check_tab ⟨n, a, c, O, r⟩ n t W hat ⟨rfl, T⟩

/-- A box with a diagram. -/
def BoxAt (W : World) (k : Nat) (n : Int) (a : Option Addr) (O : List Nd) (c : Nat) (r : Int) : Prop :=
  W.heap[k]? = some (.cells #[.int .i64 n, .slice a O.length c, .int .i64 r] 54 (0, 0)) ∧ SliceAt W 135 3 (.slice a O.length c) O.length (ndCells O)

theorem BoxAt.same {W W' : World} {k : Nat} {n : Int} {a : Option Addr} {O : List Nd} {c : Nat} {r : Int} (h : BoxAt W k n a O c r) (hs : Same W W') : BoxAt W' k n a O c r := ⟨hs.at h.1 id, h.2.same hs⟩
end Go.Proofs.YtknlkcfnfjchdaaGreat
namespace Go.Proofs.YtknlkcfnfjchdaaGreat
set_option linter.unusedVariables false
set_option linter.unusedSimpArgs false

/-- The place that an order's place y speaks of: variable v has the bit of its position. -/
def permI (o : List Int) (n y : Nat) : Nat := placeF (fun v => bitF n y (atF o v)) n 0
def permT (o : List Int) (n : Nat) (t : List Bool) : List Bool := colF (fun y => t.getD (permI o n y) false) (2 ^ n)
theorem permI_lt (o : List Int) (n y : Nat) : permI o n y < 2 ^ n := placeF_lt _ _ _
theorem permT_length (o : List Int) (n : Nat) (t : List Bool) : (permT o n t).length = 2 ^ n := colF_length _ _
theorem permT_get (o : List Int) (n : Nat) (t : List Bool) {y : Nat} (h : y < 2 ^ n) : (permT o n t).getD y false = t.getD (permI o n y) false := colF_get _ _ _ h

theorem bit_of_place (ρ : Nat → Bool) {n v : Nat} (hv : v < n) : bitF n (placeF ρ n 0) v = ρ v := by
  have key : ∀ (d u : Nat), u + d = n → ∀ v, u ≤ v → v < n → decide (placeF ρ d u / 2 ^ (n - 1 - v) % 2 = 1) = ρ v := by
    intro d
    induction d with
    | zero => intro u hu v h1 h2; omega
    | succ d ih =>
      intro u hu v h1 h2
      have hlt := placeF_lt ρ d (u + 1)
      rw [placeF]
      by_cases e : v = u
      · subst e
        have e1 : n - 1 - v = d := by omega
        rw [e1]
        have hd : 0 < 2 ^ d := Nat.two_pow_pos d
        cases ρ v
        · simp only [Bool.false_eq_true, if_false, Nat.zero_add]
          rw [Nat.div_eq_of_lt hlt]; rfl
        · simp only [if_true]
          rw [Nat.add_div_left _ hd, Nat.div_eq_of_lt hlt]; rfl
      · rw [← ih (u + 1) (by omega) v (by omega) h2]
        congr 2
        have hk : d = (n - 1 - v) + 1 + (d - (n - 1 - v) - 1) := by omega
        cases ρ u
        · simp
        · simp only [if_true]
          generalize hj : n - 1 - v = j at *
          generalize d - j - 1 = m at hk
          have : 2 ^ d = 2 ^ j * (2 * 2 ^ m) := by rw [hk, Nat.pow_add, Nat.pow_succ]; ac_rfl
          rw [this, Nat.mul_add_div (Nat.two_pow_pos j)]
          omega
  exact key n 0 (by omega) v (by omega) hv

theorem perm_bit {o : List Int} {n y v : Nat} (hv : v < n) : bitF n (permI o n y) v = bitF n y (atF o v) := bit_of_place _ hv

theorem perm_const (o : List Int) (n : Nat) (b : Bool) : permT o n (List.replicate (2 ^ n) b) = List.replicate (2 ^ n) b := by
  refine ext_getD (permT_length _ _ _) (by simp) (fun i hi => ?_)
  rw [permT_get _ _ _ hi]
  have := permI_lt o n i
  simp [List.getD, hi, this]
theorem perm_var {o : List Int} {n v : Nat} (hv : v < n) : permT o n (varT n v) = varT n (atF o v) := by
  refine ext_getD (permT_length _ _ _) (varT_length _ _) (fun i hi => ?_)
  rw [permT_get _ _ _ hi, var_get _ _ (permI_lt _ _ _), var_get _ _ hi, perm_bit hv]
theorem perm_ite (o : List Int) {n : Nat} {x y z : List Bool} (hx : x.length = 2 ^ n) (hy : y.length = 2 ^ n) (hz : z.length = 2 ^ n) : permT o n (ite3 x y z) = ite3 (permT o n x) (permT o n y) (permT o n z) := by
  refine ext_getD (permT_length _ _ _) (ite3_len (permT_length _ _ _) (permT_length _ _ _) (permT_length _ _ _)) (fun i hi => ?_)
  rw [permT_get _ _ _ hi, ite3_get hx hy hz (permI_lt _ _ _), ite3_get (permT_length _ _ _) (permT_length _ _ _) (permT_length _ _ _) hi, permT_get _ _ _ hi, permT_get _ _ _ hi, permT_get _ _ _ hi]

/-- The table of a node, by those of its two numbers. -/
theorem tab_node {L : List Nd} {n : Nat} (h : Ord L n) {k : Int} (h2 : 2 ≤ k) (hk : VNum L k) :
    tab L n 0 k = ite3 (varT n (nodeF L k).1.toNat) (tab L n 0 (nodeF L k).2.2) (tab L n 0 (nodeF L k).2.1) := by
  have hv := nodeF_valid h.val h2 hk.2
  refine ext_getD (tab_length _ _ _ _) (ite3_len (varT_length _ _) (tab_length _ _ _ _) (tab_length _ _ _ _)) (fun i hi => ?_)
  rw [ite3_get (varT_length _ _) (tab_length _ _ _ _) (tab_length _ _ _ _) hi, var_get _ _ hi, tab_bit h hk hi, tab_bit h hv.2.2.2.1 hi, tab_bit h hv.2.2.1 hi, ev_node h.val hk h2]

theorem perm_node {o : List Int} {L : List Nd} {n : Nat} (h : Ord L n) {k : Int} (h2 : 2 ≤ k) (hk : VNum L k) :
    permT o n (tab L n 0 k) = ite3 (varT n (atF o (nodeF L k).1.toNat)) (permT o n (tab L n 0 (nodeF L k).2.2)) (permT o n (tab L n 0 (nodeF L k).2.1)) := by
  have hv := nodeF_valid h.val h2 hk.2
  have ht := h.top_lt h2 hk
  rw [topF_node h2] at ht
  rw [tab_node h h2 hk, perm_ite _ (varT_length _ _) (tab_length _ _ _ _) (tab_length _ _ _ _), perm_var (by omega)]

/-! ### the law's way -/
/-- x | 1 << .. for each k. -/
def xF (o : List Int) (n y : Nat) : Nat → Nat
  | 0 => 0
  | k + 1 => if bitF n y k then withF n (xF o n y k) (o.getD k 0).toNat true else xF o n y k
theorem xF_place {n : Nat} {o : List Int} (h : IsOrd n o) (y : Nat) : ∀ k, k ≤ n → xF o n y k = placeF (fun v => decide (atF o v < k) && bitF n y (atF o v)) n 0
  | 0, _ => by
    simp only [xF, Nat.not_lt_zero, decide_false, Bool.false_and]
    have : ∀ d v, placeF (fun _ => false) d v = 0 := by
      intro d; induction d with
      | zero => intro v; rfl
      | succ d ih => intro v; rw [placeF, ih]; rfl
    rw [this]
  | k + 1, hk => by
    have ih := xF_place h y k (by omega)
    have hkl : k < o.length := by rw [h.len]; omega
    have hr := h.range _ (List.getElem_mem hkl)
    have hg : o.getD k 0 = o[k] := by simp [List.getD, hkl]
    obtain ⟨x, hx⟩ : ∃ x : Nat, o[k] = x := ⟨o[k].toNat, by omega⟩
    have hxn : x < n := by omega
    have hax : atF o x = k := by unfold atF; rw [← hx]; exact h.nodup.idxOf_getElem k hkl
    have hlt : xF o n y k < 2 ^ n := by rw [ih]; exact placeF_lt _ _ _
    have other : ∀ u, u < n → u ≠ x → atF o u ≠ k := by
      intro u hu hne e
      have h1 := atF_get h hu
      rw [e, List.getElem?_eq_getElem hkl, hx] at h1
      simp at h1; omega
    rw [xF]
    split
    · rename_i hb
      rw [hg, hx, Int.toNat_natCast, with_place n _ x true hlt hxn]
      refine placeF_congr (fun u hu => ?_)
      unfold updF
      by_cases e : u = x
      · subst e; rw [if_pos rfl, hax, hb]; simp
      · rw [if_neg e, ih, bit_of_place _ (by omega)]
        have := other u (by omega) e
        congr 1
        simp only [decide_eq_decide]; omega
    · rename_i hb
      rw [ih]
      refine placeF_congr (fun u hu => ?_)
      by_cases e : u = x
      · subst e; rw [hax]; simp [hb]
      · have := other u (by omega) e
        congr 1
        simp only [decide_eq_decide]; omega
theorem xF_end {n : Nat} {o : List Int} (h : IsOrd n o) (y : Nat) : xF o n y n = permI o n y := by
  rw [xF_place h y n (Nat.le_refl _)]
  unfold permI
  exact placeF_congr (fun u hu => by simp [atF_lt h (show u < n by omega)])
theorem xF_lt {n : Nat} {o : List Int} (h : IsOrd n o) (y k : Nat) (hk : k ≤ n) : xF o n y k < 2 ^ n := by rw [xF_place h y k hk]; exact placeF_lt _ _ _
/-- The bit is not set yet. -/
theorem xF_free {n : Nat} {o : List Int} (h : IsOrd n o) (y k x : Nat) (hk : k < n) (hx : o[k]? = some (x : Int)) : bitF n (xF o n y k) x = false ∧ x < n := by
  have hkl : k < o.length := by rw [h.len]; omega
  rw [List.getElem?_eq_getElem hkl] at hx
  have hx' : o[k] = x := by simpa using hx
  have hr := h.range _ (List.getElem_mem hkl)
  have hxn : x < n := by omega
  refine ⟨?_, hxn⟩
  have hax : atF o x = k := by unfold atF; rw [← hx']; exact h.nodup.idxOf_getElem k hkl
  rw [xF_place h y k (by omega), bit_of_place _ hxn, hax]
  simp
end Go.Proofs.YtknlkcfnfjchdaaGreat
namespace Go.Proofs.YtknlkcfnfjchdaaGreat
set_option linter.unusedVariables false
set_option linter.unusedSimpArgs false

/-! ### the bits of n states -/
structure IsBits (n b : Nat) : Prop where
  le : n ≤ 2 ^ b
  least : ∀ j, j < b → 2 ^ j < n
theorem IsBits.unique {n b c : Nat} (h : IsBits n b) (h' : IsBits n c) : b = c := by
  rcases Nat.lt_trichotomy b c with hl | he | hg
  · have := h'.least b hl; have := h.le; omega
  · exact he
  · have := h.least c hg; have := h'.le; omega
theorem IsBits.bd {n b m : Nat} (h : IsBits n b) (hm : n ≤ 2 ^ m) : b ≤ m := by
  rcases Nat.lt_or_ge m b with hl | hl
  · have := h.least m hl; omega
  · exact hl
def bitsG : Nat → Nat → Nat → Nat
  | 0, b, _ => b
  | f + 1, b, n => if 2 ^ b < n then bitsG f (b + 1) n else b
def bitsF (n : Nat) : Nat := bitsG 13 0 n
theorem bitsG_is {n : Nat} : ∀ (f b : Nat), n ≤ 2 ^ (f + b) → (∀ j, j < b → 2 ^ j < n) → IsBits n (bitsG f b n)
  | 0, b, h, hl => ⟨by simpa [bitsG] using h, by simpa [bitsG] using hl⟩
  | f + 1, b, h, hl => by
    rw [bitsG]
    split
    · rename_i hlt
      exact bitsG_is f (b + 1) (by rw [show f + (b + 1) = f + 1 + b by omega]; exact h) (fun j hj => by
        by_cases e : j = b
        · subst e; exact hlt
        · exact hl j (by omega))
    · rename_i hlt
      exact ⟨by omega, hl⟩
theorem bitsF_is {n : Nat} (h : n ≤ 4096) : IsBits n (bitsF n) := bitsG_is 13 0 (by have : (2 : Nat) ^ (13 + 0) = 8192 := by decide
                                                                                    omega) (fun j hj => by omega)
theorem bitsF_12 {n : Nat} (h : n ≤ 4096) : bitsF n ≤ 12 := (bitsF_is h).bd (by have : (2 : Nat) ^ 12 = 4096 := by decide
                                                                                omega)

/-! ### tables of codes -/
/-- Which of the 2 ^ d numbers from base on a list has. -/
def tabS (d base : Nat) (l : List Nat) : List Bool := (List.range (2 ^ d)).map fun (i : Nat) => decide (base + i ∈ l)
theorem tabS_len (d base : Nat) (l : List Nat) : (tabS d base l).length = 2 ^ d := by simp [tabS]
theorem tabS_get (d base : Nat) (l : List Nat) {i : Nat} (h : i < 2 ^ d) : (tabS d base l).getD i false = decide (base + i ∈ l) := by simp [tabS, List.getD, h]
theorem tabS_nil (d base : Nat) : tabS d base [] = List.replicate (2 ^ d) false := by
  refine ext_getD (tabS_len _ _ _) (by simp) (fun i hi => ?_)
  rw [tabS_get _ _ _ hi]
  simp [List.getD, hi]
theorem tableF_false : ∀ (d : Nat) (N : List Nd) (v : Int), tableF d N v (List.replicate (2 ^ d) false) = (N, 0)
  | 0, N, v => by simp [tableF]
  | d + 1, N, v => by
    have e : (List.replicate (2 ^ (d + 1)) false).length / 2 = 2 ^ d := by simp [Nat.pow_succ]
    have e1 : (List.replicate (2 ^ (d + 1)) false).take (2 ^ d) = List.replicate (2 ^ d) false := by rw [List.take_replicate, Nat.pow_succ]; congr 1; omega
    have e2 : (List.replicate (2 ^ (d + 1)) false).drop (2 ^ d) = List.replicate (2 ^ d) false := by rw [List.drop_replicate, Nat.pow_succ]; congr 1; omega
    simp only [tableF, e, e1, e2, tableF_false d]
    simp [numF]
/-- Sorted codes, parted at the middle. -/
theorem tabS_take {d k base : Nat} {l : List Nat} (hhi : ∀ j (h : j < l.length), k ≤ j → base + 2 ^ d ≤ l[j]) :
    (tabS (d + 1) base l).take (2 ^ d) = tabS d base (l.take k) := by
  have hp : (2 : Nat) ^ (d + 1) = 2 ^ d + 2 ^ d := by rw [Nat.pow_succ]; omega
  have h0 : 0 < 2 ^ d := Nat.two_pow_pos d
  refine ext_getD (m := 2 ^ d) (by rw [List.length_take, tabS_len, hp]; omega) (tabS_len _ _ _) (fun i hi => ?_)
  rw [tabS_get _ _ _ hi]
  have e : ((tabS (d + 1) base l).take (2 ^ d)).getD i false = (tabS (d + 1) base l).getD i false := by simp [List.getD, List.getElem?_take, hi]
  rw [e, tabS_get _ _ _ (by rw [hp]; omega)]
  congr 1
  apply propext
  constructor
  · intro hm
    obtain ⟨j, hj, e⟩ := List.mem_iff_getElem.1 hm
    have hjk : j < k := by
      rcases Nat.lt_or_ge j k with h | h
      · exact h
      · have := hhi j hj h
        omega
    rw [List.mem_take_iff_getElem]
    exact ⟨j, by omega, e⟩
  · intro hm
    exact List.mem_of_mem_take hm
theorem tabS_drop {d k base : Nat} {l : List Nat} (hlo : ∀ j (h : j < l.length), j < k → l[j] < base + 2 ^ d) :
    (tabS (d + 1) base l).drop (2 ^ d) = tabS d (base + 2 ^ d) (l.drop k) := by
  have hp : (2 : Nat) ^ (d + 1) = 2 ^ d + 2 ^ d := by rw [Nat.pow_succ]; omega
  have h0 : 0 < 2 ^ d := Nat.two_pow_pos d
  refine ext_getD (m := 2 ^ d) (by rw [List.length_drop, tabS_len, hp]; omega) (tabS_len _ _ _) (fun i hi => ?_)
  rw [tabS_get _ _ _ hi]
  have e : ((tabS (d + 1) base l).drop (2 ^ d)).getD i false = (tabS (d + 1) base l).getD (2 ^ d + i) false := by simp [List.getD, List.getElem?_drop]
  rw [e, tabS_get _ _ _ (by rw [hp]; omega)]
  congr 1
  apply propext
  have e2 : base + (2 ^ d + i) = base + 2 ^ d + i := by omega
  rw [e2]
  constructor
  · intro hm
    obtain ⟨j, hj, e⟩ := List.mem_iff_getElem.1 hm
    have hjk : k ≤ j := by
      rcases Nat.lt_or_ge j k with h | h
      · have := hlo j hj h
        omega
      · exact h
    rw [List.mem_iff_getElem]
    exact ⟨j - k, by rw [List.length_drop]; omega, by rw [List.getElem_drop]; simp only [show k + (j - k) = j by omega]; exact e⟩
  · intro hm
    exact List.mem_of_mem_drop hm
theorem tabS_mem {d base : Nat} {l l' : List Nat} (h : ∀ x, x ∈ l ↔ x ∈ l') : tabS d base l = tabS d base l' := by
  unfold tabS
  congr 1
  funext i
  congr 1
  exact propext (h _)
theorem tableF_split (d : Nat) (N : List Nd) (v : Int) {t : List Bool} (ht : t.length = 2 ^ (d + 1)) : tableF (d + 1) N v t = numF (tableF d (tableF d N (v + 1) (t.take (2 ^ d))).1 (v + 1) (t.drop (2 ^ d))).1 (v, (tableF d N (v + 1) (t.take (2 ^ d))).2, (tableF d (tableF d N (v + 1) (t.take (2 ^ d))).1 (v + 1) (t.drop (2 ^ d))).2) := by
  have e : t.length / 2 = 2 ^ d := by rw [ht, Nat.pow_succ]; omega
  simp only [tableF, e]
/-- The bit of the middle. -/
theorem mid_bit {d base x : Nat} (hb : 2 ^ (d + 1) ∣ base) (h1 : base ≤ x) (h2 : x < base + 2 ^ (d + 1)) : decide (x / 2 ^ d % 2 = 1) = decide (base + 2 ^ d ≤ x) := by
  obtain ⟨c, rfl⟩ := hb
  have hp : (2 : Nat) ^ (d + 1) = 2 * 2 ^ d := by rw [Nat.pow_succ]; omega
  have h0 : 0 < 2 ^ d := Nat.two_pow_pos d
  obtain ⟨y, rfl⟩ : ∃ y, x = 2 ^ (d + 1) * c + y := ⟨x - 2 ^ (d + 1) * c, by omega⟩
  rw [hp] at h2 ⊢
  have e : (2 * 2 ^ d * c + y) / 2 ^ d = 2 * c + y / 2 ^ d := by
    rw [show 2 * 2 ^ d * c = 2 ^ d * (2 * c) by ac_rfl, Nat.mul_add_div h0]
  rw [e]
  congr 1
  apply propext
  rcases Nat.lt_or_ge y (2 ^ d) with hy | hy
  · rw [Nat.div_eq_of_lt hy]
    omega
  · have : y / 2 ^ d = 1 := by
      refine Nat.div_eq_of_lt_le ?_ ?_ <;> omega
    rw [this]
    omega
end Go.Proofs.YtknlkcfnfjchdaaGreat
