/- orders walked: the iterator of all orders. The orders, one after another: the recursive closure of orders. -/
import Derived.Test.YtmmjijmmocabhaaJRangeF
import Derived.Test.YtmmjijmmocabhaaJGrpV
import Derived.Deep.RegionLaw
import Derived.RangeFuncNested
import Derived.Shelf.Abstract
import Derived.Shelf.RegionOpen
import Derived.OwnWalkIn
import Derived.TacticsInMore
import Derived.LoopIn
namespace Go.Proofs.Ytmmjijmmocabhaa
open Go.RowKit
set_option linter.unusedVariables false
set_option linter.unusedSimpArgs false

/-- All ways to go on behind p, d more. -/
def complF (n : Nat) : Nat → List Int → List (List Int)
  | 0, p => [p]
  | d + 1, p => (List.range n).flatMap fun (v : Nat) => if (v : Int) ∈ p then [] else complF n d (p ++ [(v : Int)])
def partO (n d : Nat) (p : List Int) (i : Nat) : List (List Int) := (List.range i).flatMap fun (v : Nat) => if (v : Int) ∈ p then [] else complF n d (p ++ [(v : Int)])
theorem partO_succ (n d : Nat) (p : List Int) (i : Nat) : partO n d p (i + 1) = partO n d p i ++ if (i : Int) ∈ p then [] else complF n d (p ++ [(i : Int)]) := by
  unfold partO
  rw [List.range_succ, List.flatMap_append]
  simp
theorem partO_le (n d : Nat) (p : List Int) {i j : Nat} (h : i ≤ j) : partO n d p i <+: partO n d p j := by
  induction j with
  | zero => obtain rfl : i = 0 := by omega
            exact List.prefix_refl _
  | succ j ih =>
    by_cases e : i = j + 1
    · subst e; exact List.prefix_refl _
    · rw [partO_succ]
      exact (ih (by omega)).trans (List.prefix_append _ _)
theorem complF_succ (n d : Nat) (p : List Int) : complF n (d + 1) p = partO n d p n := rfl

def usedF (p : List Int) : List Bool := (List.range 6).map fun (v : Nat) => decide ((v : Int) ∈ p)
theorem usedF_get (p : List Int) {v : Nat} (h : v < 6) : (usedF p)[v]? = some (decide ((v : Int) ∈ p)) := by simp [usedF, h]
theorem usedF_set (p : List Int) {v : Nat} (h : v < 6) : (usedF p).set v true = usedF (p ++ [(v : Int)]) := by
  apply List.ext_getElem?
  intro j
  rw [List.getElem?_set]
  have hl : (usedF p).length = 6 := by simp [usedF]
  by_cases hj : j < 6
  · rw [usedF_get _ hj, usedF_get _ hj, hl]
    by_cases e : v = j
    · subst e; simp [h]
    · have : ¬ (j : Int) = (v : Int) := by omega
      simp [e, this]
  · have h2 : ∀ q, (usedF q)[j]? = none := fun q => List.getElem?_eq_none (by simp [usedF]; omega)
    rw [h2, h2]
    split
    · rename_i e; rw [hl, if_neg (by omega)]
    · rfl
theorem usedF_clear (p : List Int) {v : Nat} (h : v < 6) (hn : (v : Int) ∉ p) : (usedF (p ++ [(v : Int)])).set v false = usedF p := by
  rw [← usedF_set p h, List.set_set]
  apply List.ext_getElem?
  intro j
  rw [List.getElem?_set]
  have hl : (usedF p).length = 6 := by simp [usedF]
  by_cases e : v = j
  · subst e; rw [if_pos rfl, hl, if_pos h, usedF_get _ h]; simp [hn]
  · rw [if_neg e]

/-- What the orders' closure stands on. -/
structure NSt (n l b hs : Nat) (p : List Int) (W : World) : Prop where
  kb : W.heap[b]? = some (.cells #[.int .i64 n] 3 (0, 0))
  ky : W.heap[hs]? = some (.cells #[.func (.yield l) #[] #[]] 131 (0, 0))
  ku : ArrAt W (hs + 1) 132 (boolCells (usedF p))
  kr : ∃ cur : Array Value, W.heap[hs + 2]? = some (.cells cur 3 (0, 0)) ∧ cur.size = n ∧ cur.toList.take p.length = intCells p
  kl : W.heap[hs + 3]? = some (.cells #[.slice (some ⟨hs + 2, 0, none⟩) p.length n] 23 (0, 0))
  kx : W.heap[hs + 4]? = some (.cells #[.func (.func 83) #[] #[.pointer (some ⟨hs + 3, 0, none⟩), .pointer (some ⟨b, 0, none⟩), .pointer (some ⟨hs, 0, none⟩), .pointer (some ⟨hs + 1, 0, none⟩), .pointer (some ⟨hs + 4, 0, none⟩)]] 24 (0, 0))
def RoundS (b hs : Nat) : Nat → Prop := fun k => k ≠ b ∧ ¬ (hs ≤ k ∧ k < hs + 5)
def IterS (hs : Nat) : Nat → Prop := fun k => hs ≤ k ∧ k < hs + 5
theorem NSt.round {n l b hs : Nat} {p : List Int} {W W' : World} (h : NSt n l b hs p W) (hf : Fr (RoundS b hs) W W') : NSt n l b hs p W' := by
  obtain ⟨cur, h1, h2⟩ := h.kr
  exact ⟨hf.at h.kb (by simp [RoundS]), hf.at h.ky (by simp [RoundS]), h.ku.fr hf (by simp [RoundS]), ⟨cur, hf.at h1 (by simp [RoundS]), h2⟩, hf.at h.kl (by simp [RoundS]), hf.at h.kx (by simp [RoundS])⟩
theorem NSt.row {n l b hs : Nat} {p : List Int} {W : World} (h : NSt n l b hs p W) (hp : p.length = n) (h6 : n ≤ 6) : RowAt W (.slice (some ⟨hs + 2, 0, none⟩) n n) n (intCells p) := by
  obtain ⟨cur, h1, h2, h3⟩ := h.kr
  have : OwnI W 0 (hs + 2) n p := ⟨Nat.zero_le _, cur, h1, by omega, by unfold maxLen; omega, h2, h3⟩
  exact this.row hp

def Nodup6 (n : Nat) (p : List Int) : Prop := p.Nodup ∧ ∀ x ∈ p, 0 ≤ x ∧ x < n

theorem enter_next (args : Array Value) (W : World) : (callFunc 83 args).run Try.prog W = .ok (.enter 83 args) W := by kernel_rfl

theorem take_set_next {cur : Array Value} {k : Nat} {u : Value} (h : k < cur.size) : ((cur.setIfInBounds k u).toList).take (k + 1) = cur.toList.take k ++ [u] := by
  apply List.ext_getElem?
  intro j
  simp only [Array.toList_setIfInBounds]
  by_cases e : j < k
  · rw [List.getElem?_take_of_lt (by omega), List.getElem?_set_ne (by omega), List.getElem?_append_left (by simp; omega), List.getElem?_take_of_lt e]
  · by_cases e2 : j = k
    · subst e2
      rw [List.getElem?_take_of_lt (by omega), List.getElem?_set_self (by simpa using h), List.getElem?_append_right (by simp; omega)]
      have : (cur.toList.take j).length = j := by simp; omega
      rw [this]; simp
    · rw [List.getElem?_eq_none (by simp; omega), List.getElem?_eq_none (by simp; omega)]
theorem NSt.push {n l b hs q v : Nat} {p : List Int} {W : World} (h : NSt n l b hs p W) (hb : b < hs) (hq : p.length = q) (hqn : q < n) (hv : v < 6) (ob : Obj) :
    NSt n l b hs (p ++ [(v : Int)]) ((((W.setCell ⟨hs + 1, v, none⟩ (.bool true)).setCell ⟨hs + 2, q, none⟩ (.int .i64 v)).setCell ⟨hs + 3, 0, none⟩ (.slice (some ⟨hs + 2, 0, none⟩) (q + 1) n)).alloc ob) := by
  subst hq
  obtain ⟨cur, r1, r2, r3⟩ := h.kr
  refine ⟨heap_old ?_ _, heap_old ?_ _, ?_, ⟨cur.setIfInBounds p.length (.int .i64 v), heap_old ?_ _, by simpa using r2, ?_⟩, heap_old ?_ _, heap_old ?_ _⟩
  · rw [heap_setCell_other (by simp; omega), heap_setCell_other (by simp; omega), heap_setCell_other (by simp; omega)]; exact h.kb
  · rw [heap_setCell_other (by simp), heap_setCell_other (by simp), heap_setCell_other (by simp)]; exact h.ky
  · refine heap_old ?_ _
    rw [heap_setCell_other (by simp), heap_setCell_other (by simp)]
    have := h.ku.set v (.bool true)
    rw [bools_set, usedF_set p hv] at this
    exact this
  · rw [heap_setCell_other (by simp)]
    refine heap_setCell_same ?_ _ _
    rw [heap_setCell_other (by simp)]
    exact r1
  · rw [List.length_append, List.length_singleton, take_set_next (by omega), r3]
    simp [intCells]
  · have h3 : ((W.setCell ⟨hs + 1, v, none⟩ (.bool true)).setCell ⟨hs + 2, p.length, none⟩ (.int .i64 v)).heap[hs + 3]? = some (.cells #[.slice (some ⟨hs + 2, 0, none⟩) p.length n] 23 (0, 0)) := by
      rw [heap_setCell_other (by simp), heap_setCell_other (by simp)]; exact h.kl
    have := heap_setCell_same h3 0 (.slice (some ⟨hs + 2, 0, none⟩) (p.length + 1) n)
    simpa using this
  · rw [heap_setCell_other (by simp), heap_setCell_other (by simp), heap_setCell_other (by simp)]; exact h.kx
theorem push_fr {n hs q v : Nat} (W : World) (ob : Obj) : Fr (IterS hs) W ((((W.setCell ⟨hs + 1, v, none⟩ (.bool true)).setCell ⟨hs + 2, q, none⟩ (.int .i64 v)).setCell ⟨hs + 3, 0, none⟩ (.slice (some ⟨hs + 2, 0, none⟩) (q + 1) n)).alloc ob) :=
  ((((Fr.refl _ _).setCell ⟨hs + 1, v, none⟩ _ (fun _ => by simp [IterS])).setCell ⟨hs + 2, q, none⟩ _ (fun _ => by simp [IterS])).setCell ⟨hs + 3, 0, none⟩ _ (fun _ => by simp [IterS])).alloc ob
theorem NSt.pop {n l b hs q v : Nat} {p : List Int} {W : World} (h : NSt n l b hs (p ++ [(v : Int)]) W) (hb : b < hs) (hq : p.length = q) (hv : v < 6) (hn : (v : Int) ∉ p) :
    NSt n l b hs p ((W.setCell ⟨hs + 3, 0, none⟩ (.slice (some ⟨hs + 2, 0, none⟩) q n)).setCell ⟨hs + 1, v, none⟩ (.bool false)) := by
  subst hq
  obtain ⟨cur, r1, r2, r3⟩ := h.kr
  refine ⟨?_, ?_, ?_, ⟨cur, ?_, r2, ?_⟩, ?_, ?_⟩
  · rw [heap_setCell_other (by simp; omega), heap_setCell_other (by simp; omega)]; exact h.kb
  · rw [heap_setCell_other (by simp), heap_setCell_other (by simp)]; exact h.ky
  · have h1 : ArrAt (W.setCell ⟨hs + 3, 0, none⟩ (.slice (some ⟨hs + 2, 0, none⟩) p.length n)) (hs + 1) 132 (boolCells (usedF (p ++ [(v : Int)]))) := by
      unfold ArrAt; rw [heap_setCell_other (by simp)]; exact h.ku
    have := h1.set v (.bool false)
    rw [bools_set, usedF_clear p hv hn] at this
    exact this
  · rw [heap_setCell_other (by simp), heap_setCell_other (by simp)]; exact r1
  · have := congrArg (List.take p.length) r3
    rw [List.take_take, Nat.min_eq_left (by simp)] at this
    rw [this]
    simp only [intCells, List.map_append]
    rw [List.take_append_of_le_length (by simp), List.take_of_length_le (by simp)]
  · rw [heap_setCell_other (by simp)]
    have := heap_setCell_same h.kl 0 (.slice (some ⟨hs + 2, 0, none⟩) p.length n)
    simpa using this
  · rw [heap_setCell_other (by simp), heap_setCell_other (by simp)]; exact h.kx
theorem pop_fr {n hs q v : Nat} (W : World) : Fr (IterS hs) W ((W.setCell ⟨hs + 3, 0, none⟩ (.slice (some ⟨hs + 2, 0, none⟩) q n)).setCell ⟨hs + 1, v, none⟩ (.bool false)) :=
  ((Fr.refl _ _).setCell ⟨hs + 3, 0, none⟩ _ (fun _ => by simp [IterS])).setCell ⟨hs + 1, v, none⟩ _ (fun _ => by simp [IterS])

/-- append of one, where there is room: in place. -/
theorem wpList_append_room {P : Program} {ops : Array Oper} {rest : List Oper} {o : Oper} {a : Act} {w : World} {Q : Exit → Act → World → Prop}
    (hg : o.guard = none) (s x : Operand) (t : TypeId) (hop : o.op = Op.call { callee := Callee.builtin Builtin.append, args := #[s, x], argTypes := #[t, t] })
    (e : TypeId) (i : TypeInfo) (h1 : P.underlying t = some (.slice e)) (h2 : P.info? e = some i) (h4 : i.size = 1)
    (b n cap : Nat) (hs : a.eval s = .slice (some ⟨b, 0, none⟩) n cap) (bx c : Nat) (v : Value) (hx : a.eval x = .slice (some ⟨bx, 0, none⟩) 1 c) (hc : w.cell? ⟨bx, 0, none⟩ = some v) (h1c : v.oneCell' = true)
    (hroom : n + 1 ≤ cap) (u : Value) (hsp : w.cell? ⟨b, n, none⟩ = some u) (hfz : w.frozen? ⟨b, n, none⟩ = false)
    (hK : wpList P ops Q rest (a.put o.dst (.slice (some ⟨b, 0, none⟩) (n + 1) cap)) (w.setCell ⟨b, n, none⟩ v)) : wpList P ops Q (o :: rest) a w :=
  wpList_plain hg fun K hk => by
    have := Go.step_append_room (P := P) (ops := ops) (o := o) (a := a) (w := w) (K := K) (Q := Q) (E := False) hg s x t hop e i 1 h1 h2 h4 b 0 n cap hs ⟨bx, 0, none⟩ 1 c [v] hx rfl
      (fun j u hu => by match j, hu with
        | 0, hu => simp at hu; subst hu; exact hc) (by simpa using h1c) hroom (fun j hj => by
        simp at hj; subst hj
        simp only [Nat.zero_add, Nat.mul_one, Nat.add_zero]
        exact ⟨by rw [hsp]; rfl, hfz⟩) (by
        refine hk _ _ ?_
        simpa [World.setCells] using hK)
    rwa [if_pos (by simp [Region.wanted, hg])] at this

set_option maxRecDepth 100000 in
set_option maxHeartbeats 4000000 in
theorem next_any {n l b hs : Nat} (hb : b < hs) (h6 : n ≤ 6) (all : List (List Int)) (J : List (List Int) → World → Prop) (hJ : ∀ pre W W', J pre W → Fr (IterS hs) W W' → J pre W')
    (hY : ∀ pre x W, J pre W → (pre ++ [x]) <+: all → hs + 5 ≤ W.heap.size → RowAt W (.slice (some ⟨hs + 2, 0, none⟩) n n) n (intCells x) →
      YieldAt Fence.wide 1 Try.prog l #[.slice (some ⟨hs + 2, 0, none⟩) n n] W fun e W' => e = .returned (.bool true) ∧ J (pre ++ [x]) W' ∧ Fr (RoundS b hs) W W') :
    ∀ (d : Nat) (p : List Int) (pre : List (List Int)) (W : World), p.length + d = n → Nodup6 n p → (pre ++ complF n d p) <+: all → J pre W → NSt n l b hs p W →
      Calls Try.prog 83 #[.pointer (some ⟨hs + 3, 0, none⟩), .pointer (some ⟨b, 0, none⟩), .pointer (some ⟨hs, 0, none⟩), .pointer (some ⟨hs + 1, 0, none⟩), .pointer (some ⟨hs + 4, 0, none⟩)] W fun e W' =>
        e = .returned (.bool true) ∧ J (pre ++ complF n d p) W' ∧ NSt n l b hs p W' := by
  intro d
  induction d with
  | zero =>
    intro p pre W hp hnd hall hj hst
    have hpn : p.length = n := by omega
    have b0 := cell_at hst.kb 0
    have b1 := lt_of_heap hst.kb
    have y0 := cell_at hst.ky 0
    have y1 := lt_of_heap hst.ky
    have l0 := cell_at hst.kl 0
    have l1 := lt_of_heap hst.kl
    have hy := hY pre p W hj hall (lt_of_heap hst.kx) (hst.row hpn h6)
    rw [hpn] at l0
    have eb : ((n : Int) == (n : Int)) = true := by simp
    replace hst := Lib.hid hst; replace hj := Lib.hid hj; replace hy := Lib.hid hy; replace hpn := Lib.hid hpn; replace hnd := Lib.hid hnd; replace hall := Lib.hid hall; replace hJ := Lib.hid hJ; replace hY := Lib.hid hY
    go_enter Try.func83, Try.ntmps83
    go_upto_region 2 with fail
    obtain ⟨fn, tmps, assign, body, hyr, hR⟩ := hy.out
    refine (wpIn_wide (n := 2)).1 ?_
    gi_wp2
    refine hR.mono ?_
    rintro e W1 ⟨rfl, hJ1, hf1⟩
    have hst1 := hst.out.round hf1
    replace hJ1 := Lib.hid hJ1; replace hf1 := Lib.hid hf1; replace hst1 := Lib.hid hst1
    gi_wp2
    go_wp2_with fail
    go_ret
    exact ⟨rfl, hJ1.out, hst1.out⟩
  | succ d ih =>
    intro p pre W hp hnd hall hj hst
    have b0 := cell_at hst.kb 0
    have b1 := lt_of_heap hst.kb
    have l0 := cell_at hst.kl 0
    have l1 := lt_of_heap hst.kl
    have hpn : p.length < n := by omega
    obtain ⟨q, hq⟩ : ∃ q, p.length = q := ⟨_, rfl⟩
    rw [hq] at l0 hpn hp
    have eb : ((q : Int) == (n : Int)) = false := by simp; omega
    have hcl := complF_succ n d p
    replace hst := Lib.hid hst; replace hj := Lib.hid hj; replace hnd := Lib.hid hnd; replace hall := Lib.hid hall; replace hJ := Lib.hid hJ; replace hY := Lib.hid hY; replace ih := Lib.hid ih; replace hq := Lib.hid hq; replace hcl := Lib.hid hcl
    go_enter Try.func83, Try.ntmps83
    go_wp2_with fail
    clear b0 b1 l0 l1
    go_loopw [15] (fun i wr => ∃ v : Nat, i = .int .i64 v ∧ v ≤ n ∧ J (pre ++ partO n d p v) wr ∧ NSt n l b hs p wr) (fun i _ => n - (intOf i).toNat)
    case atStart => exact ⟨0, rfl, by omega, by simpa [partO] using hj.out, hst.out⟩
    case round =>
      obtain ⟨v, rfl, hv, hj', hst'⟩ := hrel
      by_cases hlt : v < n
      · have hv6 : v < 6 := by omega
        have u0 := hst'.ku.cell (bools_at _ _ _ (usedF_get p hv6))
        have ul := hst'.ku.lt
        have hv6' : (v : Int) < 6 := by omega
        have hps := partO_succ n d p v
        by_cases hm : (v : Int) ∈ p
        · rw [decide_eq_true hm] at u0
          rw [if_pos hm, List.append_nil] at hps
          replace hj' := Lib.hid hj'; replace hst' := Lib.hid hst'; replace hm := Lib.hid hm; replace hps := Lib.hid hps
          go_wp2_with fail
          go_roundw
          case rel => exact ⟨v + 1, by go_num, by omega, by rw [hps.out]; exact hj'.out, hst'.out⟩
          case measure => simp [intOf]; omega
        · rw [decide_eq_false hm] at u0
          rw [if_neg hm] at hps
          have uf := hst'.ku.free v
          obtain ⟨cur, r1, r2, r3⟩ := id hst'.kr
          have r0 : wr.cell? ⟨hs + 2, q, none⟩ = some (cur[q]'(by omega)) := by rw [cell_at r1]; exact Array.getElem?_eq_getElem (by omega)
          have rf := free_at r1 q
          have rl := lt_of_heap r1
          have l0 := cell_at hst'.kl 0
          have lf := free_at hst'.kl 0
          have ll := lt_of_heap hst'.kl
          have x0 := cell_at hst'.kx 0
          have xl := lt_of_heap hst'.kx
          have k8 : (wr.setCell ⟨hs + 1, v, none⟩ (.bool true)).heap[hs + 2]? = some (.cells cur 3 (0, 0)) := by rw [heap_setCell_other (by simp)]; exact r1
          rw [hq.out] at l0
          have hwq : IntKind.i64.wrap ((q : Int) + 1) = ((q + 1 : Nat) : Int) := by rw [IntWalk.i64_in _ (by omega)]; omega
          obtain ⟨i3, hi3, hi3z, hi3s, hi3b⟩ := info_parts info3
          replace hj' := Lib.hid hj'; replace hst' := Lib.hid hst'; replace hm := Lib.hid hm; replace hps := Lib.hid hps; replace r1 := Lib.hid r1; replace r2 := Lib.hid r2; replace r3 := Lib.hid r3; replace k8 := Lib.hid k8
          go_upto_region 8 with fail
          refine wp_region_lit ?_
          refine wpList_step (fun K hK => ?_); go_simp; refine hK _ _ ?_; clear hK
          (try simp only [Act.put, List.setIfInBounds_toArray, List.set_cons_zero, List.set_cons_succ])
          refine wpList_step (fun K hK => ?_); go_simp; refine hK _ _ ?_; clear hK
          (try simp only [Act.put, List.setIfInBounds_toArray, List.set_cons_zero, List.set_cons_succ])
          refine wpList_step (fun K hK => ?_); go_simp; refine hK _ _ ?_; clear hK
          (try simp only [Act.put, List.setIfInBounds_toArray, List.set_cons_zero, List.set_cons_succ])
          refine wpList_append_room rfl (.tmp 23) (.tmp 25) 23 rfl 3 i3 Try.underlying23 hi3 hi3s (hs + 2) q n rfl wr.heap.size 1 (.int .i64 v) rfl (cell_at (heap_new_at (by simp [World.setCell]) _) 0) rfl (by omega) (cur[q]'(by omega)) ((cell_at (heap_old k8.out _) q).trans (Array.getElem?_eq_getElem _)) (free_at (heap_old k8.out _) q) ?_
          (try simp only [Act.put, List.setIfInBounds_toArray, List.set_cons_zero, List.set_cons_succ])
          go_wp2_with fail
          have hst3 := hst'.out.push hb hq.out hpn hv6 (.cells #[.int .i64 v] 3)
          have hJ3 := hJ.out _ _ _ hj'.out (push_fr (n := n) (q := q) (v := v) wr (.cells #[.int .i64 v] 3))
          have hnd3 : Nodup6 n (p ++ [(v : Int)]) := ⟨by rw [List.nodup_append]; exact ⟨hnd.out.1, by simp, fun x hx y hy e => by simp at hy; subst hy; exact hm.out (e ▸ hx)⟩, fun x hx => by
            rcases List.mem_append.1 hx with h | h
            · exact hnd.out.2 x h
            · simp at h; subst h; omega⟩
          have hall3 : (pre ++ partO n d p v ++ complF n d (p ++ [(v : Int)])) <+: all := by
            have h1 := partO_le n d p (show v + 1 ≤ n by omega)
            rw [hps.out] at h1
            have h2 : (pre ++ (partO n d p v ++ complF n d (p ++ [(v : Int)]))) <+: (pre ++ partO n d p n) := by
              obtain ⟨t, ht⟩ := h1
              exact ⟨t, by rw [List.append_assoc, ht]⟩
            rw [← List.append_assoc, ← hcl.out] at h2
            exact h2.trans hall.out
          have hl3 : (p ++ [(v : Int)]).length + d = n := by simp; have := hq.out; omega
          have IH := ih.out (p ++ [(v : Int)]) (pre ++ partO n d p v) _ hl3 hnd3 hall3 hJ3 hst3
          clear hst3 hJ3
          refine IH.mono ?_
          clear IH
          rintro e W5 ⟨rfl, hJ5, hst5⟩
          have hst6 := hst5.pop hb hq.out hv6 hm.out
          have hJ6 := hJ.out _ _ _ hJ5 (pop_fr (n := n) (q := q) (v := v) W5)
          rw [List.append_assoc, ← hps.out] at hJ6
          clear u0 ul uf r0 rf rl l0 lf ll x0 xl
          have l0 := cell_at hst5.kl 0
          have lf := free_at hst5.kl 0
          have ll := lt_of_heap hst5.kl
          have u0 := hst5.ku.cell (bools_at _ _ _ (usedF_get _ hv6))
          have uf := hst5.ku.free v
          have ul := hst5.ku.lt
          have hl4 : (p ++ [(v : Int)]).length = q + 1 := by simp; exact hq.out
          rw [hl4] at l0
          have hw1 : IntKind.i64.wrap ((q : Int) + 1 - 1) = (q : Int) := by rw [IntWalk.i64_in _ (by omega)]; omega
          have hqn' : (q : Int) ≤ n := by omega
          clear hl4
          replace hJ5 := Lib.hid hJ5; replace hst5 := Lib.hid hst5; replace hst6 := Lib.hid hst6; replace hJ6 := Lib.hid hJ6; replace hnd3 := Lib.hid hnd3; replace hall3 := Lib.hid hall3; replace hl3 := Lib.hid hl3
          go_wp2_with fail
          go_roundw
          case rel => exact ⟨v + 1, by go_num, by omega, hJ6.out, hst6.out⟩
          case measure => simp [intOf]; omega
      · obtain rfl : v = n := by omega
        rw [← hcl.out] at hj'
        replace hj' := Lib.hid hj'; replace hst' := Lib.hid hst'
        go_wp2_with fail
        go_ret
        exact ⟨rfl, hj'.out, hst'.out⟩
end Go.Proofs.Ytmmjijmmocabhaa
namespace Go.Proofs.Ytmmjijmmocabhaa
open Go.RowKit
set_option linter.unusedVariables false
set_option linter.unusedSimpArgs false

/-- All orders of n variables, in lexicographic order. -/
def ordsF (n : Nat) : List (List Int) := complF n n []

theorem wpList_mkI0 {P : Program} (w : World) {ops : Array Oper} {rest : List Oper} {o : Oper} {a : Act} {Q : Exit → Act → World → Prop}
    (hg : o.guard = none) (l c : Operand) (t : TypeId) (hop : o.op = Op.makeSlice t l c)
    (e : TypeId) (i : TypeInfo) (h1 : P.underlying t = some (.slice e)) (h2 : P.info? e = some i) (h3 : i.zero = some (.int .i64 0)) (h4 : i.size = 1) (h5 : i.bytes = 8)
    (k n : Nat) (hl : a.eval l = .int .i64 k) (hc : a.eval c = .int .i64 n) (hk : k ≤ n) (b3 : n ≤ 1000000000)
    (hK : wpList P ops Q rest (a.put o.dst (.slice (some ⟨w.heap.size, 0, none⟩) k n)) (w.alloc (.cells (intCells (List.replicate n 0)).toArray e))) :
    wpList P ops Q (o :: rest) a w := by
  refine wpList_plain hg fun K hK' => ?_
  have hrun := run_make (P := P) w t e i (.int .i64 0) h1 h2 h3 .i64 .i64 k n (by omega) (by omega) (by rw [h5]; omega) (by omega)
  have hm : madeCells (Value.int .i64 0).cells ((n : Int).toNat * i.size) = (intCells (List.replicate n 0)).toArray := by
    rw [h4, ← Array.toList_inj]
    have := toList_madeCells_one (Value.int .i64 0) n
    simp only [Int.toNat_natCast, Nat.mul_one]
    rw [show (Value.int .i64 0).cells = #[Value.int .i64 0] from rfl, this]
    simp [intCells]
  rw [hm] at hrun
  unfold Oper.wp
  simp [execOp, hop, hl, hc, hrun, Result.andThen]
  exact hK' _ _ (by simpa using hK)

set_option maxRecDepth 100000 in
set_option maxHeartbeats 4000000 in
theorem orders1_any {n l b : Nat} (h6 : n ≤ 6) (w : World) (kb : w.heap[b]? = some (.cells #[.int .i64 n] 3 (0, 0))) (J : List (List Int) → World → Prop) (hJ : ∀ pre W W', J pre W → Fr (IterS w.heap.size) W W' → J pre W')
    (hY : ∀ pre x W, J pre W → (pre ++ [x]) <+: ordsF n → w.heap.size + 5 ≤ W.heap.size → RowAt W (.slice (some ⟨w.heap.size + 2, 0, none⟩) n n) n (intCells x) →
      YieldAt Fence.wide 1 Try.prog l #[.slice (some ⟨w.heap.size + 2, 0, none⟩) n n] W fun e W' => e = .returned (.bool true) ∧ J (pre ++ [x]) W' ∧ Fr (RoundS b w.heap.size) W W')
    (h0 : J [] w) :
    Calls Try.prog 82 #[.func (.yield l) #[] #[], .pointer (some ⟨b, 0, none⟩)] w fun e W' => (∃ v, e = .returned v) ∧ J (ordsF n) W' := by
  obtain ⟨i3, hi3, hi3z, hi3s, hi3b⟩ := info_parts info3
  have b0 := cell_at kb 0
  have bl := lt_of_heap kb
  have NX := next_any (l := l) bl h6 (ordsF n) J hJ hY n [] []
  have hnb : n ≤ 1000000000 := by omega
  replace kb := Lib.hid kb; replace hJ := Lib.hid hJ; replace hY := Lib.hid hY; replace h0 := Lib.hid h0; replace NX := Lib.hid NX
  go_enter Try.func82, Try.ntmps82
  go_wp2_with (at_make; refine wpList_mkI0 _ rfl (.const (.int .i64 0)) (.tmp 6) 23 rfl 3 i3 Try.underlying23 hi3 hi3z hi3s hi3b 0 n rfl rfl (by omega) hnb ?_)
  have e3 : w.heap.size + 1 + 1 + 1 = w.heap.size + 3 := by omega
  have e4 : w.heap.size + 1 + 1 + 1 + 1 = w.heap.size + 4 := by omega
  have e2 : w.heap.size + 1 + 1 = w.heap.size + 2 := by omega
  obtain ⟨W5, hW5⟩ : ∃ W5, W5 = (((((w.alloc (.cells #[.func (.yield l) #[] #[]] 131)).alloc (.cells (boolCells (usedF [])).toArray 132)).alloc (.cells (intCells (List.replicate n 0)).toArray 3)).alloc (.cells #[.slice (some ⟨w.heap.size + 1 + 1, 0, none⟩) 0 n] 23)).alloc (.cells #[.func (.func 83) #[] #[.pointer (some ⟨w.heap.size + 1 + 1 + 1, 0, none⟩), .pointer (some ⟨b, 0, none⟩), .pointer (some ⟨w.heap.size, 0, none⟩), .pointer (some ⟨w.heap.size + 1, 0, none⟩), .pointer (some ⟨w.heap.size + 1 + 1 + 1 + 1, 0, none⟩)]] 24)) := ⟨_, rfl⟩
  have hst : NSt n l b w.heap.size [] W5 := by
    rw [hW5]
    refine ⟨?_, ?_, ?_, ⟨(intCells (List.replicate n 0)).toArray, ?_, by simp [intCells], by simp [intCells]⟩, ?_, ?_⟩
    · exact heap_old (heap_old (heap_old (heap_old (heap_old kb.out _) _) _) _) _
    · exact heap_old (heap_old (heap_old (heap_old (heap_new _ _) _) _) _) _
    · exact heap_old (heap_old (heap_old (heap_new_at (by simp) _) _) _) _
    · exact heap_old (heap_old (heap_new_at (by simp) _) _) _
    · exact heap_old (heap_new_at (by simp) _) _
    · rw [e3, e4]; exact heap_new_at (by simp) _
  have hj5 : J [] W5 := hJ.out _ _ _ h0.out (by rw [hW5]; exact (by repeat (first | exact Fr.refl _ _ | apply Fr.undrew | apply Fr.undrewN | apply Fr.drew | apply Fr.drewN | apply Fr.alloc)))
  have NX5 := NX.out W5 (by simp) ⟨by simp, by simp⟩ (List.prefix_refl _) hj5 hst
  rw [hW5, ← e3, ← e4] at NX5
  clear hst hj5 hW5 W5
  refine NX5.mono ?_
  rintro e W6 ⟨rfl, hJ6, _⟩
  replace hJ6 := Lib.hid hJ6
  go_wp2_with fail
  go_end0
  exact ⟨⟨_, rfl⟩, hJ6.out⟩
end Go.Proofs.Ytmmjijmmocabhaa
