/-  -/
import Derived.Test.YticcpnekjddanaaGreatDoorZValue
import Derived.Test.YticcpnekjddanaaGreatDoorZChgP
import Derived.Test.YticcpnekjddanaaGreatDoorZLex
import Derived.Test.YticcpnekjddanaaGreatDoorZOpsR
import Derived.Test.YticcpnekjddanaaGreatDoorZRestr
import Derived.Test.YticcpnekjddanaaGreatDoorZTable
set_option linter.unusedVariables false
set_option linter.unusedSimpArgs false
namespace Go.Proofs.YticcpnekjddanaaGreatDoor
open Go.RowKit
def L3 (b c d : Nat) : Nat → Prop := fun k => k = b ∨ k = c ∨ k = d
@[go_sem, simp] theorem L3_1 (b c d : Nat) : L3 b c d b = True := by simp [L3]
@[go_sem, simp] theorem L3_2 (b c d : Nat) : L3 b c d c = True := by simp [L3]
@[go_sem, simp] theorem L3_3 (b c d : Nat) : L3 b c d d = True := by simp [L3]
def L4 (b c d e : Nat) : Nat → Prop := fun k => k = b ∨ k = c ∨ k = d ∨ k = e
@[go_sem, simp] theorem L4_1 (b c d e : Nat) : L4 b c d e b = True := by simp [L4]
@[go_sem, simp] theorem L4_2 (b c d e : Nat) : L4 b c d e c = True := by simp [L4]
@[go_sem, simp] theorem L4_3 (b c d e : Nat) : L4 b c d e d = True := by simp [L4]
@[go_sem, simp] theorem L4_4 (b c d e : Nat) : L4 b c d e e = True := by simp [L4]
def qck (f : Nat → Bool) (j : Nat) : List Bool := (List.range j).map f
theorem qbq (f : Nat → Bool) (j : Nat) : (qck f j).length = j := by simp [qck]
theorem qcp (f : Nat → Bool) (j : Nat) : qck f (j + 1) = qck f j ++ [f j] := by simp [qck, List.range_succ]
theorem qhf : ∀ (x y z : List Bool), x.length = y.length → y.length = z.length → qbE x y z = qck (fun i => if x.getD i false then y.getD i false else z.getD i false) x.length
 | [], [], [], _, _ => rfl
 | a :: x, b :: y, c :: z, h1, h2 => by
  rw [qbE, qhf x y z (by simpa using h1) (by simpa using h2)]
  simp [qck, List.range_succ_eq_map, Function.comp_def]
theorem qjr : ∀ (x y z : List Bool), x.length = y.length → y.length = z.length → (qbE x y z).length = x.length := by
 intro x y z h1 h2
 rw [qhf x y z h1 h2, qbq]
theorem qdy {f g : Nat → Bool} {j : Nat} (h : ∀ i, i < j → f i = g i) : qck f j = qck g j := by
 unfold qck
 exact List.map_congr_left (fun i hi => h i (List.mem_range.1 hi))
theorem qas {w W w1 : World} {v v' : Value} (hs : qad w W) (hG : qaK (fun _ => False) W w1 v v') (hv : ∀ k, v.ownBlock = some k → w.heap.size ≤ k) : qad w w1 :=
 hs.trans hG.1 (fun i hi h => by
  rcases h with h | h
  · have := hv i h; omega
  · exact h)
def qOp (all : Bool) : Bool → Bool → Bool := fun x y => x && y || (!all && (x || y))
theorem qfP : qOp false = fun x y => x || y := by funext x y; cases x <;> cases y <;> rfl
theorem qbU {m : Int} {qs : List Int} (h : qaw m qs qs.length 0 = 0) : ∀ i j, i ≤ j → j < qs.length → toF qs i ≤ toF qs j := by
 have H := qbT qs.length 0 h
 intro i j hij hj
 induction j with
 | zero => have : i = 0 := by omega
           subst this; omega
 | succ j ih =>
  rcases Nat.lt_or_eq_of_le hij with hlt | rfl
  · have h1 := (H (j + 1) (by omega) (by omega)).2.2 (by omega)
    rw [Nat.add_sub_cancel] at h1
    have := ih (by omega) (by omega)
    omega
  · omega
theorem qmR {w2 : World} {A B C : Obj} {P : World → Prop} (h : ∀ W3, (W3.heap[w2.heap.size]? = some A ∧ W3.heap[w2.heap.size + 1]? = some B ∧ W3.heap[w2.heap.size + 1 + 1]? = some C ∧ qad w2 W3) → P W3) : P (((w2.alloc A).alloc B).alloc C) :=
 h _ ⟨qab (qab (gv _ _) _) _, qab (qae (by simp) _) _, qae (by simp) _, ((((Fr.refl _ _).alloc _).alloc _).alloc _)⟩
def QAny (E m : Int) (O : List Nd × Int) (w : World) (e : Ending) (w' : World) : Prop :=
 ∃ gm ga gL gc gr, e = .returned (.tuple #[.agg #[.int .i64 gm, .slice ga (gL : List Nd).length gc, .int .i64 gr], .int .i64 E]) ∧ qaa w' 132 3 (.slice ga gL.length gc) gL.length (qap gL) ∧ qad w w' ∧
  (E ≠ 0 → gm = 0 ∧ gL = [] ∧ gr = 0) ∧ (E = 0 → gm = m ∧ gL = O.1 ∧ gr = O.2)
theorem DErr.any {E m : Int} {O : List Nd × Int} {w w' : World} {e : Ending} (h0 : E ≠ 0) (h : DErr w E e w') : QAny E m O w e w' := by
 obtain ⟨rfl, hs⟩ := h
 exact ⟨0, none, [], 0, 0, rfl, qaa.nil _ _ _, hs, fun _ => ⟨rfl, rfl, rfl⟩, fun h => absurd h h0⟩
theorem qe0.any {m : Int} {O : List Nd × Int} {w w' : World} {e : Ending} (h : qe0 w m O.1 O.2 e w') : QAny 0 m O w e w' := by
 obtain ⟨a, c, rfl, hO, hs⟩ := h
 exact ⟨m, a, O.1, c, O.2, rfl, hO, hs, fun h => absurd rfl h, fun _ => ⟨rfl, rfl, rfl⟩⟩
theorem qjs {o : Bool → Bool → Bool} (ho : qmn o) (hi : qjh o) {n : Nat} {t : List Bool} (ht : t.length = 2 ^ n) {qs : List Int} (h : qaw n qs qs.length 0 = 0) : qcw o n (qs.map Int.toNat) t = chT (fun x => decide (x ∈ qs)) o n 0 t := by
 have H := qbT qs.length 0 h
 have hmem : ∀ x ∈ qs, 0 ≤ x ∧ x < n := by
  intro x hx
  obtain ⟨i, hi, rfl⟩ := (qhd qs x).1 hx
  have := H i (by omega) (by omega)
  exact ⟨this.1, this.2.1⟩
 have hstrict : ∀ i j, i < j → j < qs.length → toF qs i < toF qs j := by
  intro i j hij hj
  have h1 := qbU h i (j - 1) (by omega) (by omega)
  have h2 := (H j (by omega) (by omega)).2.2 (by omega)
  omega
 rw [qmr ho hi n t ht _ (qs.map Int.toNat) rfl ?_ ?_]
 · congr 1
   funext x
   simp only [inV, qh8, List.any_map]
   by_cases hx : x ∈ qs
   · rw [decide_eq_true hx]
     refine List.any_eq_true.2 ⟨x, hx, ?_⟩
     have := hmem x hx
     simp only [Function.comp, decide_eq_true_eq]; omega
   · rw [decide_eq_false hx]
     refine List.any_eq_false.2 (fun y hy => ?_)
     have := hmem y hy
     simp only [Function.comp, decide_eq_true_eq]
     intro e
     have : x = y := by omega
     exact hx (this ▸ hy)
 · rw [List.Nodup, List.pairwise_map, List.pairwise_iff_getElem]
   intro i j hi hj hij e
   have := hstrict i j hij hj
   have g1 := hmem _ (List.getElem_mem hi)
   have g2 := hmem _ (List.getElem_mem hj)
   simp only [toF, List.getD_eq_getElem?_getD, List.getElem?_eq_getElem hi, List.getElem?_eq_getElem hj, Option.getD_some] at this
   omega
 · intro u hu
   obtain ⟨x, hx, rfl⟩ := List.mem_map.1 hu
   have := hmem x hx
   omega
end Go.Proofs.YticcpnekjddanaaGreatDoor
namespace Go.Proofs.YticcpnekjddanaaGreatDoor
open Go.RowKit
theorem qb6 {a b : List Bool} {m : Nat} (ha : a.length = m) (hb : b.length = m) (h : ∀ i, i < m → a.getD i false = b.getD i false) : a = b := by
 refine List.ext_getElem (by omega) (fun i h1 h2 => ?_)
 have := h i (by omega)
 simpa only [List.getD_eq_getElem?_getD, List.getElem?_eq_getElem h1, List.getElem?_eq_getElem h2, Option.getD_some] using this
theorem qoT (f : Nat → Bool) (m i : Nat) (h : i < m) : (qck f m).getD i false = f i := by simp [qck, List.getD, h]
theorem qee {x y z : List Bool} {m : Nat} (hx : x.length = m) (hy : y.length = m) (hz : z.length = m) {i : Nat} (hi : i < m) : (qbE x y z).getD i false = if x.getD i false then y.getD i false else z.getD i false := by
 rw [qhf x y z (by omega) (by omega), qoT _ _ _ (by omega)]
theorem qbG {x y z : List Bool} {m : Nat} (hx : x.length = m) (hy : y.length = m) (hz : z.length = m) : (qbE x y z).length = m := by rw [qjr x y z (by omega) (by omega), hx]
theorem qbZ (n : Nat) : (fls n).length = 2 ^ n := by simp [fls]
theorem qcq (n : Nat) : (tru n).length = 2 ^ n := by simp [tru]
theorem flsG (n i : Nat) : (fls n).getD i false = false := by
 simp only [fls, List.getD_eq_getElem?_getD, List.getElem?_replicate]; split <;> rfl
theorem truG {n i : Nat} (h : i < 2 ^ n) : (tru n).getD i false = true := by simp [tru, List.getD, h]
theorem one_get (o : Bool → Bool → Bool) (n u : Nat) (t : List Bool) {i : Nat} (h : i < 2 ^ n) : (qli o n u t).getD i false = o (t.getD (qlh n i u false) false) (t.getD (qlh n i u true) false) := by simp [qli, List.getD, h]
section
variable {n : Nat} {x y : List Bool} (hx : x.length = 2 ^ n) (hy : y.length = 2 ^ n)
include hx
end
theorem QAny.ret {m : Int} {O : List Nd × Int} {w w' : World} {e : Ending} (h : QAny 0 m O w e w') : qe0 w m O.1 O.2 e w' := by
 obtain ⟨gm, ga, gL, gc, gr, rfl, h1, h2, _, h4⟩ := h
 obtain ⟨rfl, rfl, rfl⟩ := h4 rfl
 exact ⟨ga, gc, rfl, h1, h2⟩
end Go.Proofs.YticcpnekjddanaaGreatDoor
namespace Go.Proofs.YticcpnekjddanaaGreatDoor
structure qkm (n b : Nat) : Prop where
 le : n ≤ 2 ^ b
 least : ∀ j, j < b → 2 ^ j < n
theorem qkm.bd {n b m : Nat} (h : qkm n b) (hm : n ≤ 2 ^ m) : b ≤ m := by
 rcases Nat.lt_or_ge m b with hl | hl
 · have := h.least m hl; omega
 · exact hl
def qln : Nat → Nat → Nat → Nat
 | 0, b, _ => b
 | f + 1, b, n => if 2 ^ b < n then qln f (b + 1) n else b
def qa1 (n : Nat) : Nat := qln 13 0 n
theorem qkn {n : Nat} : ∀ (f b : Nat), n ≤ 2 ^ (f + b) → (∀ j, j < b → 2 ^ j < n) → qkm n (qln f b n)
 | 0, b, h, hl => ⟨by simpa [qln] using h, by simpa [qln] using hl⟩
 | f + 1, b, h, hl => by
  rw [qln]
  split
  · rename_i hlt
    exact qkn f (b + 1) (by rw [show f + (b + 1) = f + 1 + b by omega]; exact h) (fun j hj => by
     by_cases e : j = b
     · subst e; exact hlt
     · exact hl j (by omega))
  · rename_i hlt
    exact ⟨by omega, hl⟩
theorem qcz {n : Nat} (h : n ≤ 4096) : qkm n (qa1 n) := qkn 13 0 (by have h9 : (2 : Nat) ^ (13 + 0) = 8192 := (by decide); omega) (fun j hj => by omega)
theorem qcQ {n : Nat} (h : n ≤ 4096) : qa1 n ≤ 12 := (qcz h).bd (by have h9 : (2 : Nat) ^ 12 = 4096 := (by decide); omega)
def qcH (d base : Nat) (l : List Nat) : List Bool := (List.range (2 ^ d)).map fun (i : Nat) => decide (base + i ∈ l)
theorem qcR (d base : Nat) (l : List Nat) : (qcH d base l).length = 2 ^ d := by simp [qcH]
theorem qcS (d base : Nat) (l : List Nat) {i : Nat} (h : i < 2 ^ d) : (qcH d base l).getD i false = decide (base + i ∈ l) := by simp [qcH, List.getD, h]
theorem qhg (d base : Nat) : qcH d base [] = List.replicate (2 ^ d) false := by
 refine qb6 (qcR _ _ _) (by simp) (fun i hi => ?_)
 rw [qcS _ _ _ hi]
 simp [List.getD, hi]
theorem qb8 : ∀ (d : Nat) (N : List Nd) (v : Int), qal d N v (List.replicate (2 ^ d) false) = (N, 0)
 | 0, N, v => by simp [qal]
 | d + 1, N, v => by
  have e : (List.replicate (2 ^ (d + 1)) false).length / 2 = 2 ^ d := by simp [Nat.pow_succ]
  have e1 : (List.replicate (2 ^ (d + 1)) false).take (2 ^ d) = List.replicate (2 ^ d) false := by rw [List.take_replicate, Nat.pow_succ]; congr 1; omega
  have e2 : (List.replicate (2 ^ (d + 1)) false).drop (2 ^ d) = List.replicate (2 ^ d) false := by rw [List.drop_replicate, Nat.pow_succ]; congr 1; omega
  simp only [qal, e, e1, e2, qb8 d]
  simp [qa2]
theorem qmS {d k base : Nat} {l : List Nat} (hhi : ∀ j (h : j < l.length), k ≤ j → base + 2 ^ d ≤ l[j]) :
 (qcH (d + 1) base l).take (2 ^ d) = qcH d base (l.take k) := by
 have hp : (2 : Nat) ^ (d + 1) = 2 ^ d + 2 ^ d := by rw [Nat.pow_succ]; omega
 have h0 : 0 < 2 ^ d := Nat.two_pow_pos d
 refine qb6 (m := 2 ^ d) (by rw [List.length_take, qcR, hp]; omega) (qcR _ _ _) (fun i hi => ?_)
 rw [qcS _ _ _ hi]
 have e : ((qcH (d + 1) base l).take (2 ^ d)).getD i false = (qcH (d + 1) base l).getD i false := by simp [List.getD, List.getElem?_take, hi]
 rw [e, qcS _ _ _ (by rw [hp]; omega)]
 congr 1
 apply propext
 constructor
 · intro hm
   obtain ⟨j, hj, e⟩ := List.mem_iff_getElem.1 hm
   have hjk : j < k := by
    rcases Nat.lt_or_ge j k with h | h
    · exact h
    · have := hhi j hj h
      omega
   rw [List.mem_take_iff_getElem]
   exact ⟨j, by omega, e⟩
 · intro hm
   exact List.mem_of_mem_take hm
theorem qmT {d k base : Nat} {l : List Nat} (hlo : ∀ j (h : j < l.length), j < k → l[j] < base + 2 ^ d) :
 (qcH (d + 1) base l).drop (2 ^ d) = qcH d (base + 2 ^ d) (l.drop k) := by
 have hp : (2 : Nat) ^ (d + 1) = 2 ^ d + 2 ^ d := by rw [Nat.pow_succ]; omega
 have h0 : 0 < 2 ^ d := Nat.two_pow_pos d
 refine qb6 (m := 2 ^ d) (by rw [List.length_drop, qcR, hp]; omega) (qcR _ _ _) (fun i hi => ?_)
 rw [qcS _ _ _ hi]
 have e : ((qcH (d + 1) base l).drop (2 ^ d)).getD i false = (qcH (d + 1) base l).getD (2 ^ d + i) false := by simp [List.getD, List.getElem?_drop]
 rw [e, qcS _ _ _ (by rw [hp]; omega)]
 congr 1
 apply propext
 have e2 : base + (2 ^ d + i) = base + 2 ^ d + i := by omega
 rw [e2]
 constructor
 · intro hm
   obtain ⟨j, hj, e⟩ := List.mem_iff_getElem.1 hm
   have hjk : k ≤ j := by
    rcases Nat.lt_or_ge j k with h | h
    · have := hlo j hj h
      omega
    · exact h
   rw [List.mem_iff_getElem]
   exact ⟨j - k, by rw [List.length_drop]; omega, by rw [List.getElem_drop]; simp only [show k + (j - k) = j by omega]; exact e⟩
 · intro hm
   exact List.mem_of_mem_drop hm
theorem qoU {d base : Nat} {l l' : List Nat} (h : ∀ x, x ∈ l ↔ x ∈ l') : qcH d base l = qcH d base l' := by
 unfold qcH
 congr 1
 funext i
 congr 1
 exact propext (h _)
theorem qe2 (d : Nat) (N : List Nd) (v : Int) {t : List Bool} (ht : t.length = 2 ^ (d + 1)) : qal (d + 1) N v t = qa2 (qal d (qal d N (v + 1) (t.take (2 ^ d))).1 (v + 1) (t.drop (2 ^ d))).1 (v, (qal d N (v + 1) (t.take (2 ^ d))).2, (qal d (qal d N (v + 1) (t.take (2 ^ d))).1 (v + 1) (t.drop (2 ^ d))).2) := by
 have e : t.length / 2 = 2 ^ d := by rw [ht, Nat.pow_succ]; omega
 simp only [qal, e]
theorem mid_bit {d base x : Nat} (hb : 2 ^ (d + 1) ∣ base) (h1 : base ≤ x) (h2 : x < base + 2 ^ (d + 1)) : decide (x / 2 ^ d % 2 = 1) = decide (base + 2 ^ d ≤ x) := by
 obtain ⟨c, rfl⟩ := hb
 have hp : (2 : Nat) ^ (d + 1) = 2 * 2 ^ d := by rw [Nat.pow_succ]; omega
 have h0 : 0 < 2 ^ d := Nat.two_pow_pos d
 obtain ⟨y, rfl⟩ : ∃ y, x = 2 ^ (d + 1) * c + y := ⟨x - 2 ^ (d + 1) * c, by omega⟩
 rw [hp] at h2 ⊢
 have e : (2 * 2 ^ d * c + y) / 2 ^ d = 2 * c + y / 2 ^ d := by
  rw [show 2 * 2 ^ d * c = 2 ^ d * (2 * c) by ac_rfl, Nat.mul_add_div h0]
 rw [e]
 congr 1
 apply propext
 rcases Nat.lt_or_ge y (2 ^ d) with hy | hy
 · rw [Nat.div_eq_of_lt hy]
   omega
 · have : y / 2 ^ d = 1 := by
     refine Nat.div_eq_of_lt_le ?_ ?_ <;> omega
   rw [this]
   omega
end Go.Proofs.YticcpnekjddanaaGreatDoor
