/-  -/
import Derived.Test.YtcipnkemnepbaaaGreatCAny
import Derived.Test.YtcipnkemnepbaaaGreatCChgP
import Derived.Test.YtcipnkemnepbaaaGreatCLex
import Derived.Test.YtcipnkemnepbaaaGreatCOpsR
import Derived.Test.YtcipnkemnepbaaaGreatCRestr
import Derived.Test.YtcipnkemnepbaaaGreatCOrdO
set_option linter.unusedVariables false
set_option linter.unusedSimpArgs false
namespace Go.Proofs.YtcipnkemnepbaaaGreat
open Go.RowKit
theorem drew_abs {W : World} {C : World → Prop} (h : ∀ W1, Same W W1 → C W1) : C W.drew := h _ (Fr.refl _ _).drew
def L3 (b c d : Nat) : Nat → Prop := fun k => k = b ∨ k = c ∨ k = d
@[go_sem, simp] theorem L3_1 (b c d : Nat) : L3 b c d b = True := by simp [L3]
@[go_sem, simp] theorem L3_2 (b c d : Nat) : L3 b c d c = True := by simp [L3]
@[go_sem, simp] theorem L3_3 (b c d : Nat) : L3 b c d d = True := by simp [L3]
def L4 (b c d e : Nat) : Nat → Prop := fun k => k = b ∨ k = c ∨ k = d ∨ k = e
@[go_sem, simp] theorem L4_1 (b c d e : Nat) : L4 b c d e b = True := by simp [L4]
@[go_sem, simp] theorem L4_2 (b c d e : Nat) : L4 b c d e c = True := by simp [L4]
@[go_sem, simp] theorem L4_3 (b c d e : Nat) : L4 b c d e d = True := by simp [L4]
@[go_sem, simp] theorem L4_4 (b c d e : Nat) : L4 b c d e e = True := by simp [L4]
def colF (f : Nat → Bool) (j : Nat) : List Bool := (List.range j).map f
theorem colF_length (f : Nat → Bool) (j : Nat) : (colF f j).length = j := by simp [colF]
theorem colF_succ (f : Nat → Bool) (j : Nat) : colF f (j + 1) = colF f j ++ [f j] := by simp [colF, List.range_succ]
theorem ite3_col : ∀ (x y z : List Bool), x.length = y.length → y.length = z.length → ite3 x y z = colF (fun i => if x.getD i false then y.getD i false else z.getD i false) x.length
 | [], [], [], _, _ => rfl
 | a :: x, b :: y, c :: z, h1, h2 => by
  rw [ite3, ite3_col x y z (by simpa using h1) (by simpa using h2)]
  simp [colF, List.range_succ_eq_map, Function.comp_def]
theorem ite3_length : ∀ (x y z : List Bool), x.length = y.length → y.length = z.length → (ite3 x y z).length = x.length := by
 intro x y z h1 h2
 rw [ite3_col x y z h1 h2, colF_length]
theorem colF_congr {f g : Nat → Bool} {j : Nat} (h : ∀ i, i < j → f i = g i) : colF f j = colF g j := by
 unfold colF
 exact List.map_congr_left (fun i hi => h i (List.mem_range.1 hi))
theorem wpList_appendm {P : Program} {w : World} {ops : Array Oper} {rest : List Oper} {o : Oper} {a : Act} {Q : Exit → Act → World → Prop} (hgd : o.guard = none) (s x : Operand) (t : TypeId)
 (ho : o.op = .call { callee := .builtin .append, args := #[s, x], argTypes := #[t, t] })
 (base : Nat) (e : TypeId) (i : TypeInfo) (z : Value) (size bytes : Nat) (ht : P.underlying t = some (.slice e)) (hi : P.info? e = some i) (hz : i.zero = some z)
 (hsize : i.size = size) (hby : i.bytes = bytes) (hzs : z.cells.size = size) (hsz : 0 < size) (hb : bytes ≤ 1000)
 (v : Value) (n : Nat) (xs : List Value) (hs : a.eval s = v) (hown : w.ownsRow base e size v n xs)
 (ad : Addr) (m c : Nat) (news : List Value) (hx : a.eval x = .slice (some ad) m c) (hl : news.length = m * size) (hnews : ∀ j u, news[j]? = some u → w.cell? (ad.add j) = some u) (h1 : ∀ u ∈ news, u.oneCell' = true) (hm : 0 < m) (h63 : n + m ≤ 1000000000) (hbase : base ≤ w.heap.size)
 (h : ∀ g cap' w', w'.ownsRow base e size (.slice (some ⟨g, 0, none⟩) (n + m) cap') (n + m) (xs ++ news) → Grew (fun _ => False) w w' v (.slice (some ⟨g, 0, none⟩) (n + m) cap') → wpList P ops Q rest (a.put o.dst (.slice (some ⟨g, 0, none⟩) (n + m) cap')) w') :
 wpList P ops Q (o :: rest) a w :=
 wpList_plain hgd fun K hK => by
  obtain ⟨g, cap, w', hr, h2, h3, h4, _⟩ := run_append_lies (P := P) (w := w) t o.type base e i z size bytes ht hi hz hsize hby hzs hsz v n xs hown ad m c news hl hnews h1 hm (by unfold maxLen; omega)
   (Nat.le_trans (Nat.mul_le_mul h63 hb) (by omega)) hbase _ rfl
  unfold Oper.wp execOp
  simp only [ho, resolve, invoke, builtin, Sem.run_bind, Sem.run_pure, Result.andThen_ok, List.map_toArray, List.map_cons, List.map_nil, hs, hx, hr]
  refine hK _ _ (h g cap w' h2 ⟨(Fr.refl _ _).grown h3 (fun k hk _ => .inl hk), fun k hk => ?_⟩)
  simp only [Value.ownBlock, Option.some.injEq] at hk
  subst hk
  rcases h4 with h4 | h4
  · exact .inl h4
  · exact .inr (Nat.le_of_eq h4.symm)
theorem grew_fresh {w W w1 : World} {v v' : Value} (hs : Same w W) (hG : Grew (fun _ => False) W w1 v v') (hv : ∀ k, v.ownBlock = some k → w.heap.size ≤ k) : Same w w1 :=
 hs.trans hG.1 (fun i hi h => by
  rcases h with h | h
  · have := hv i h; omega
  · exact h)
def qOp (all : Bool) : Bool → Bool → Bool := fun x y => x && y || (!all && (x || y))
theorem qOp_false : qOp false = fun x y => x || y := by funext x y; cases x <;> cases y <;> rfl
theorem renErr_sorted {m : Int} {qs : List Int} (h : renErr m qs qs.length 0 = 0) : ∀ i j, i ≤ j → j < qs.length → toF qs i ≤ toF qs j := by
 have H := renErr_up qs.length 0 h
 intro i j hij hj
 induction j with
 | zero => have : i = 0 := by omega
           subst this; omega
 | succ j ih =>
  rcases Nat.lt_or_eq_of_le hij with hlt | rfl
  · have h1 := (H (j + 1) (by omega) (by omega)).2.2 (by omega)
    rw [Nat.add_sub_cancel] at h1
    have := ih (by omega) (by omega)
    omega
  · omega
theorem three_abs {w2 : World} {A B C : Obj} {P : World → Prop} (h : ∀ W3, (W3.heap[w2.heap.size]? = some A ∧ W3.heap[w2.heap.size + 1]? = some B ∧ W3.heap[w2.heap.size + 1 + 1]? = some C ∧ Same w2 W3) → P W3) : P (((w2.alloc A).alloc B).alloc C) :=
 h _ ⟨heap_old (heap_old (gv _ _) _) _, heap_old (heap_new_at (by simp) _) _, heap_new_at (by simp) _, ((((Fr.refl _ _).alloc _).alloc _).alloc _)⟩
def QAny (E m : Int) (O : List Nd × Int) (w : World) (e : Ending) (w' : World) : Prop :=
 ∃ gm ga gL gc gr, e = .returned (.tuple #[.agg #[.int .i64 gm, .slice ga (gL : List Nd).length gc, .int .i64 gr], .int .i64 E]) ∧ SliceAt w' 142 3 (.slice ga gL.length gc) gL.length (ndCells gL) ∧ Same w w' ∧
  (E ≠ 0 → gm = 0 ∧ gL = [] ∧ gr = 0) ∧ (E = 0 → gm = m ∧ gL = O.1 ∧ gr = O.2)
theorem DErr.any {E m : Int} {O : List Nd × Int} {w w' : World} {e : Ending} (h0 : E ≠ 0) (h : DErr w E e w') : QAny E m O w e w' := by
 obtain ⟨rfl, hs⟩ := h
 exact ⟨0, none, [], 0, 0, rfl, SliceAt.nil _ _ _, hs, fun _ => ⟨rfl, rfl, rfl⟩, fun h => absurd h h0⟩
theorem DRet.any {m : Int} {O : List Nd × Int} {w w' : World} {e : Ending} (h : DRet w m O.1 O.2 e w') : QAny 0 m O w e w' := by
 obtain ⟨a, c, rfl, hO, hs⟩ := h
 exact ⟨m, a, O.1, c, O.2, rfl, hO, hs, fun h => absurd rfl h, fun _ => ⟨rfl, rfl, rfl⟩⟩
theorem quant_table {o : Bool → Bool → Bool} (ho : Idem o) (hi : Inter o) {n : Nat} {t : List Bool} (ht : t.length = 2 ^ n) {qs : List Int} (h : renErr n qs qs.length 0 = 0) : quantT o n (qs.map Int.toNat) t = chT (fun x => decide (x ∈ qs)) o n 0 t := by
 have H := renErr_up qs.length 0 h
 have hmem : ∀ x ∈ qs, 0 ≤ x ∧ x < n := by
  intro x hx
  obtain ⟨i, hi, rfl⟩ := (toF_mem qs x).1 hx
  have := H i (by omega) (by omega)
  exact ⟨this.1, this.2.1⟩
 have hstrict : ∀ i j, i < j → j < qs.length → toF qs i < toF qs j := by
  intro i j hij hj
  have h1 := renErr_sorted h i (j - 1) (by omega) (by omega)
  have h2 := (H j (by omega) (by omega)).2.2 (by omega)
  omega
 rw [quant_chT ho hi n t ht _ (qs.map Int.toNat) rfl ?_ ?_]
 · congr 1
   funext x
   simp only [inV, oneV, List.any_map]
   by_cases hx : x ∈ qs
   · rw [decide_eq_true hx]
     refine List.any_eq_true.2 ⟨x, hx, ?_⟩
     have := hmem x hx
     simp only [Function.comp, decide_eq_true_eq]; omega
   · rw [decide_eq_false hx]
     refine List.any_eq_false.2 (fun y hy => ?_)
     have := hmem y hy
     simp only [Function.comp, decide_eq_true_eq]
     intro e
     have : x = y := by omega
     exact hx (this ▸ hy)
 · rw [List.Nodup, List.pairwise_map, List.pairwise_iff_getElem]
   intro i j hi hj hij e
   have := hstrict i j hij hj
   have g1 := hmem _ (List.getElem_mem hi)
   have g2 := hmem _ (List.getElem_mem hj)
   simp only [toF, List.getD_eq_getElem?_getD, List.getElem?_eq_getElem hi, List.getElem?_eq_getElem hj, Option.getD_some] at this
   omega
 · intro u hu
   obtain ⟨x, hx, rfl⟩ := List.mem_map.1 hu
   have := hmem x hx
   omega
end Go.Proofs.YtcipnkemnepbaaaGreat
namespace Go.Proofs.YtcipnkemnepbaaaGreat
open Go.RowKit
theorem ext_getD {a b : List Bool} {m : Nat} (ha : a.length = m) (hb : b.length = m) (h : ∀ i, i < m → a.getD i false = b.getD i false) : a = b := by
 refine List.ext_getElem (by omega) (fun i h1 h2 => ?_)
 have := h i (by omega)
 simpa only [List.getD_eq_getElem?_getD, List.getElem?_eq_getElem h1, List.getElem?_eq_getElem h2, Option.getD_some] using this
theorem colF_get (f : Nat → Bool) (m i : Nat) (h : i < m) : (colF f m).getD i false = f i := by simp [colF, List.getD, h]
theorem ite3_get {x y z : List Bool} {m : Nat} (hx : x.length = m) (hy : y.length = m) (hz : z.length = m) {i : Nat} (hi : i < m) : (ite3 x y z).getD i false = if x.getD i false then y.getD i false else z.getD i false := by
 rw [ite3_col x y z (by omega) (by omega), colF_get _ _ _ (by omega)]
theorem ite3_len {x y z : List Bool} {m : Nat} (hx : x.length = m) (hy : y.length = m) (hz : z.length = m) : (ite3 x y z).length = m := by rw [ite3_length x y z (by omega) (by omega), hx]
theorem fls_len (n : Nat) : (fls n).length = 2 ^ n := by simp [fls]
theorem tru_len (n : Nat) : (tru n).length = 2 ^ n := by simp [tru]
theorem flsG (n i : Nat) : (fls n).getD i false = false := by
 simp only [fls, List.getD_eq_getElem?_getD, List.getElem?_replicate]; split <;> rfl
theorem truG {n i : Nat} (h : i < 2 ^ n) : (tru n).getD i false = true := by simp [tru, List.getD, h]
theorem one_get (o : Bool → Bool → Bool) (n u : Nat) (t : List Bool) {i : Nat} (h : i < 2 ^ n) : (oneT o n u t).getD i false = o (t.getD (withF n i u false) false) (t.getD (withF n i u true) false) := by simp [oneT, List.getD, h]
section
variable {n : Nat} {x y : List Bool} (hx : x.length = 2 ^ n) (hy : y.length = 2 ^ n)
include hx
end
theorem QAny.ret {m : Int} {O : List Nd × Int} {w w' : World} {e : Ending} (h : QAny 0 m O w e w') : DRet w m O.1 O.2 e w' := by
 obtain ⟨gm, ga, gL, gc, gr, rfl, h1, h2, _, h4⟩ := h
 obtain ⟨rfl, rfl, rfl⟩ := h4 rfl
 exact ⟨ga, gc, rfl, h1, h2⟩
end Go.Proofs.YtcipnkemnepbaaaGreat
namespace Go.Proofs.YtcipnkemnepbaaaGreat
structure IsBits (n b : Nat) : Prop where
 le : n ≤ 2 ^ b
 least : ∀ j, j < b → 2 ^ j < n
theorem IsBits.bd {n b m : Nat} (h : IsBits n b) (hm : n ≤ 2 ^ m) : b ≤ m := by
 rcases Nat.lt_or_ge m b with hl | hl
 · have := h.least m hl; omega
 · exact hl
def bitsG : Nat → Nat → Nat → Nat
 | 0, b, _ => b
 | f + 1, b, n => if 2 ^ b < n then bitsG f (b + 1) n else b
def bitsF (n : Nat) : Nat := bitsG 13 0 n
theorem bitsG_is {n : Nat} : ∀ (f b : Nat), n ≤ 2 ^ (f + b) → (∀ j, j < b → 2 ^ j < n) → IsBits n (bitsG f b n)
 | 0, b, h, hl => ⟨by simpa [bitsG] using h, by simpa [bitsG] using hl⟩
 | f + 1, b, h, hl => by
  rw [bitsG]
  split
  · rename_i hlt
    exact bitsG_is f (b + 1) (by rw [show f + (b + 1) = f + 1 + b by omega]; exact h) (fun j hj => by
     by_cases e : j = b
     · subst e; exact hlt
     · exact hl j (by omega))
  · rename_i hlt
    exact ⟨by omega, hl⟩
theorem bitsF_is {n : Nat} (h : n ≤ 4096) : IsBits n (bitsF n) := bitsG_is 13 0 (by have : (2 : Nat) ^ (13 + 0) = 8192 := by decide
                                                                                    omega) (fun j hj => by omega)
theorem bitsF_12 {n : Nat} (h : n ≤ 4096) : bitsF n ≤ 12 := (bitsF_is h).bd (by have : (2 : Nat) ^ 12 = 4096 := by decide
                                                                                omega)
def tabS (d base : Nat) (l : List Nat) : List Bool := (List.range (2 ^ d)).map fun (i : Nat) => decide (base + i ∈ l)
theorem tabS_len (d base : Nat) (l : List Nat) : (tabS d base l).length = 2 ^ d := by simp [tabS]
theorem tabS_get (d base : Nat) (l : List Nat) {i : Nat} (h : i < 2 ^ d) : (tabS d base l).getD i false = decide (base + i ∈ l) := by simp [tabS, List.getD, h]
theorem tabS_nil (d base : Nat) : tabS d base [] = List.replicate (2 ^ d) false := by
 refine ext_getD (tabS_len _ _ _) (by simp) (fun i hi => ?_)
 rw [tabS_get _ _ _ hi]
 simp [List.getD, hi]
theorem tableF_false : ∀ (d : Nat) (N : List Nd) (v : Int), tableF d N v (List.replicate (2 ^ d) false) = (N, 0)
 | 0, N, v => by simp [tableF]
 | d + 1, N, v => by
  have e : (List.replicate (2 ^ (d + 1)) false).length / 2 = 2 ^ d := by simp [Nat.pow_succ]
  have e1 : (List.replicate (2 ^ (d + 1)) false).take (2 ^ d) = List.replicate (2 ^ d) false := by rw [List.take_replicate, Nat.pow_succ]; congr 1; omega
  have e2 : (List.replicate (2 ^ (d + 1)) false).drop (2 ^ d) = List.replicate (2 ^ d) false := by rw [List.drop_replicate, Nat.pow_succ]; congr 1; omega
  simp only [tableF, e, e1, e2, tableF_false d]
  simp [numF]
theorem tabS_take {d k base : Nat} {l : List Nat} (hhi : ∀ j (h : j < l.length), k ≤ j → base + 2 ^ d ≤ l[j]) :
 (tabS (d + 1) base l).take (2 ^ d) = tabS d base (l.take k) := by
 have hp : (2 : Nat) ^ (d + 1) = 2 ^ d + 2 ^ d := by rw [Nat.pow_succ]; omega
 have h0 : 0 < 2 ^ d := Nat.two_pow_pos d
 refine ext_getD (m := 2 ^ d) (by rw [List.length_take, tabS_len, hp]; omega) (tabS_len _ _ _) (fun i hi => ?_)
 rw [tabS_get _ _ _ hi]
 have e : ((tabS (d + 1) base l).take (2 ^ d)).getD i false = (tabS (d + 1) base l).getD i false := by simp [List.getD, List.getElem?_take, hi]
 rw [e, tabS_get _ _ _ (by rw [hp]; omega)]
 congr 1
 apply propext
 constructor
 · intro hm
   obtain ⟨j, hj, e⟩ := List.mem_iff_getElem.1 hm
   have hjk : j < k := by
    rcases Nat.lt_or_ge j k with h | h
    · exact h
    · have := hhi j hj h
      omega
   rw [List.mem_take_iff_getElem]
   exact ⟨j, by omega, e⟩
 · intro hm
   exact List.mem_of_mem_take hm
theorem tabS_drop {d k base : Nat} {l : List Nat} (hlo : ∀ j (h : j < l.length), j < k → l[j] < base + 2 ^ d) :
 (tabS (d + 1) base l).drop (2 ^ d) = tabS d (base + 2 ^ d) (l.drop k) := by
 have hp : (2 : Nat) ^ (d + 1) = 2 ^ d + 2 ^ d := by rw [Nat.pow_succ]; omega
 have h0 : 0 < 2 ^ d := Nat.two_pow_pos d
 refine ext_getD (m := 2 ^ d) (by rw [List.length_drop, tabS_len, hp]; omega) (tabS_len _ _ _) (fun i hi => ?_)
 rw [tabS_get _ _ _ hi]
 have e : ((tabS (d + 1) base l).drop (2 ^ d)).getD i false = (tabS (d + 1) base l).getD (2 ^ d + i) false := by simp [List.getD, List.getElem?_drop]
 rw [e, tabS_get _ _ _ (by rw [hp]; omega)]
 congr 1
 apply propext
 have e2 : base + (2 ^ d + i) = base + 2 ^ d + i := by omega
 rw [e2]
 constructor
 · intro hm
   obtain ⟨j, hj, e⟩ := List.mem_iff_getElem.1 hm
   have hjk : k ≤ j := by
    rcases Nat.lt_or_ge j k with h | h
    · have := hlo j hj h
      omega
    · exact h
   rw [List.mem_iff_getElem]
   exact ⟨j - k, by rw [List.length_drop]; omega, by rw [List.getElem_drop]; simp only [show k + (j - k) = j by omega]; exact e⟩
 · intro hm
   exact List.mem_of_mem_drop hm
theorem tabS_mem {d base : Nat} {l l' : List Nat} (h : ∀ x, x ∈ l ↔ x ∈ l') : tabS d base l = tabS d base l' := by
 unfold tabS
 congr 1
 funext i
 congr 1
 exact propext (h _)
theorem tableF_split (d : Nat) (N : List Nd) (v : Int) {t : List Bool} (ht : t.length = 2 ^ (d + 1)) : tableF (d + 1) N v t = numF (tableF d (tableF d N (v + 1) (t.take (2 ^ d))).1 (v + 1) (t.drop (2 ^ d))).1 (v, (tableF d N (v + 1) (t.take (2 ^ d))).2, (tableF d (tableF d N (v + 1) (t.take (2 ^ d))).1 (v + 1) (t.drop (2 ^ d))).2) := by
 have e : t.length / 2 = 2 ^ d := by rw [ht, Nat.pow_succ]; omega
 simp only [tableF, e]
theorem mid_bit {d base x : Nat} (hb : 2 ^ (d + 1) ∣ base) (h1 : base ≤ x) (h2 : x < base + 2 ^ (d + 1)) : decide (x / 2 ^ d % 2 = 1) = decide (base + 2 ^ d ≤ x) := by
 obtain ⟨c, rfl⟩ := hb
 have hp : (2 : Nat) ^ (d + 1) = 2 * 2 ^ d := by rw [Nat.pow_succ]; omega
 have h0 : 0 < 2 ^ d := Nat.two_pow_pos d
 obtain ⟨y, rfl⟩ : ∃ y, x = 2 ^ (d + 1) * c + y := ⟨x - 2 ^ (d + 1) * c, by omega⟩
 rw [hp] at h2 ⊢
 have e : (2 * 2 ^ d * c + y) / 2 ^ d = 2 * c + y / 2 ^ d := by
  rw [show 2 * 2 ^ d * c = 2 ^ d * (2 * c) by ac_rfl, Nat.mul_add_div h0]
 rw [e]
 congr 1
 apply propext
 rcases Nat.lt_or_ge y (2 ^ d) with hy | hy
 · rw [Nat.div_eq_of_lt hy]
   omega
 · have : y / 2 ^ d = 1 := by
     refine Nat.div_eq_of_lt_le ?_ ?_ <;> omega
   rw [this]
   omega
end Go.Proofs.YtcipnkemnepbaaaGreat
