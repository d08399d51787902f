/- Orders of variables: Check, inverse, Inverse walked. -/
import Derived.Test.YtmmjijmmocabhaaJOrdO
import Derived.Test.YtmmjijmmocabhaaJRowAt
import Derived.Test.YtmmjijmmocabhaaJMade
import Derived.Laws.Rows
namespace Go.Proofs.Ytmmjijmmocabhaa
open Go.RowKit
set_option linter.unusedVariables false
set_option linter.unusedSimpArgs false

/-- A block that is an array. -/
def ArrAt (w : World) (b : Nat) (T : TypeId) (cs : List Value) : Prop := w.heap[b]? = some (.cells cs.toArray T (0, 0))
theorem ArrAt.cell {w : World} {b : Nat} {T : TypeId} {cs : List Value} (h : ArrAt w b T cs) {k : Nat} {v : Value} (hk : cs[k]? = some v) : w.cell? ⟨b, k, none⟩ = some v := by
  rw [cell_at h k]; simpa using hk
theorem ArrAt.free {w : World} {b : Nat} {T : TypeId} {cs : List Value} (h : ArrAt w b T cs) (k : Nat) : w.frozen? ⟨b, k, none⟩ = false := free_at h k
theorem ArrAt.lt {w : World} {b : Nat} {T : TypeId} {cs : List Value} (h : ArrAt w b T cs) : b < w.heap.size := lt_of_heap h
theorem ArrAt.set {w : World} {b : Nat} {T : TypeId} {cs : List Value} (h : ArrAt w b T cs) (k : Nat) (v : Value) : ArrAt (w.setCell ⟨b, k, none⟩ v) b T (cs.set k v) := by
  have := heap_setCell_same h k v
  unfold ArrAt
  rw [this]
  simp
theorem ArrAt.fr {S : Nat → Prop} {w w' : World} {b : Nat} {T : TypeId} {cs : List Value} (h : ArrAt w b T cs) (hf : Fr S w w') (hS : ¬ S b) : ArrAt w' b T cs := hf.at h hS
theorem ArrAt.same {w w' : World} {b : Nat} {T : TypeId} {cs : List Value} (h : ArrAt w b T cs) (hf : Same w w') : ArrAt w' b T cs := hf.at h id
theorem ArrAt.new {w : World} {b : Nat} {T : TypeId} {cs : List Value} (hb : b = w.heap.size) : ArrAt (w.alloc (.cells cs.toArray T)) b T cs := heap_new_at hb _

theorem bools_set (l : List Bool) (k : Nat) (b : Bool) : (boolCells l).set k (.bool b) = boolCells (l.set k b) := by simp [boolCells, List.map_set]
theorem ints_set (l : List Int) (k : Nat) (b : Int) : (intCells l).set k (.int .i64 b) = intCells (l.set k b) := by simp [intCells, List.map_set]
theorem bools_at (l : List Bool) (k : Nat) (b : Bool) (h : l[k]? = some b) : (boolCells l)[k]? = some (.bool b) := by simp [boolCells, h]
theorem ints_at (l : List Int) (k : Nat) (b : Int) (h : l[k]? = some b) : (intCells l)[k]? = some (.int .i64 b) := by simp [intCells, h]

theorem int_cell {w : World} {a : Option Addr} {cap n : Nat} {l : List Int} (h : RowAt w (.slice a n cap) n (intCells l)) {k : Nat} (hk : k < l.length) (hn : l.length = n) :
    ∃ b off, a = some ⟨b, off, none⟩ ∧ b < w.heap.size ∧ w.cell? ⟨b, off + k, none⟩ = some (.int .i64 l[k]) := by
  obtain ⟨b, off, ha, hb, hc⟩ := h.cell (by omega)
  exact ⟨b, off, ha, hb, hc k _ (ints_at l k _ (List.getElem?_eq_getElem hk))⟩

theorem ArrAt.row {w : World} {b : Nat} {T : TypeId} {cs ds : List Value} (h : ArrAt w b T cs) : ArrAt (w.setRow b ds.toArray) b T ds := by
  unfold ArrAt at h ⊢
  simp only [World.setRow, Array.getElem?_modify, if_pos, h, Option.map_some]
theorem Fr.setRow {S : Nat → Prop} {a w : World} (h : Fr S a w) (b : Nat) (ds : Array Value) (hp : b < a.heap.size → S b) : Fr S a (w.setRow b ds) :=
  h.trans (T := fun k => k = b) ⟨rfl, rfl, rfl, by simp [World.setRow], fun k _ hne => by simp [World.setRow, Array.getElem?_modify, Ne.symm hne]⟩ (fun i hi e => by subst e; exact hp hi)
theorem intCells_one (l : List Int) : (intCells l).toArray.all (·.oneCell') = true := by simp [intCells, Value.oneCell']
theorem boolCells_one (l : List Bool) : (boolCells l).toArray.all (·.oneCell') = true := by simp [boolCells, Value.oneCell']

set_option maxRecDepth 100000 in
set_option maxHeartbeats 2000000 in
theorem ocheck_any (o : List Int) (n : Int) (a : Option Addr) (cap q : Nat) (w : World) (hq : o.length = q) (hO : RowAt w (.slice a q cap) q (intCells o)) (hl : q ≤ 1000000) :
    Calls Try.prog 30 #[.slice a q cap, .int .i64 n] w fun e w' => e = .returned (.int .i64 (ordErr n o)) ∧ Same w w' := by
  obtain ⟨R, hR⟩ : ∃ R, R = ordErr n o := ⟨_, rfl⟩
  rw [← hR]
  unfold ordErr at hR
  by_cases h1 : n < 0 ∨ 40 < n
  · rw [if_pos h1] at hR
    subst hR
    replace hO := Lib.hid hO; replace hq := Lib.hid hq
    rcases h1 with h1 | h1
    · go_enter Try.func30, Try.ntmps30
      go_wp2_with fail
      go_ret
      exact ⟨rfl, (by repeat (first | exact Fr.refl _ _ | apply Fr.alloc | apply Fr.drewN | apply Fr.drew | apply Fr.undrew | apply Fr.undrewN))⟩
    · have h2 : ¬ n < 0 := by omega
      go_enter Try.func30, Try.ntmps30
      go_wp2_with fail
      go_ret
      exact ⟨rfl, (by repeat (first | exact Fr.refl _ _ | apply Fr.alloc | apply Fr.drewN | apply Fr.drew | apply Fr.undrew | apply Fr.undrewN))⟩
  · rw [if_neg h1] at hR
    have n0 : ¬ n < 0 := by omega
    have n1 : ¬ 40 < n := by omega
    clear h1
    by_cases h2 : (o.length : Int) ≠ n
    · rw [if_pos h2] at hR
      subst hR
      have hb : ((q : Int) != n) = true := by rw [← hq]; simpa using h2
      replace hO := Lib.hid hO; replace hq := Lib.hid hq; replace h2 := Lib.hid h2
      go_enter Try.func30, Try.ntmps30
      go_wp2_with fail
      go_ret
      exact ⟨rfl, (by repeat (first | exact Fr.refl _ _ | apply Fr.alloc | apply Fr.drewN | apply Fr.drew | apply Fr.undrew | apply Fr.undrewN))⟩
    · rw [if_neg h2] at hR
      obtain rfl : n = (q : Int) := by omega
      clear h2 n0
      have hb : ((q : Int) != (q : Int)) = false := by simp
      have hq40 : q ≤ 40 := by omega
      replace hO := Lib.hid hO; replace hq := Lib.hid hq; replace hR := Lib.hid hR
      go_enter Try.func30, Try.ntmps30
      go_wp2_with fail
      go_loopw [20] (fun i wr => ∃ k : Nat, i = .int .i64 k ∧ k ≤ q ∧ R = dupF q (o.drop k) (o.take k) ∧ ArrAt wr w.heap.size 97 (boolCells (seenB o k)) ∧ Same w wr) (fun i _ => q - (intOf i).toNat)
      case atStart => exact ⟨0, rfl, by omega, hR.out, by rw [seenB_zero]; exact ArrAt.new rfl, (by repeat (first | exact Fr.refl _ _ | apply Fr.alloc | apply Fr.drewN | apply Fr.drew | apply Fr.undrew | apply Fr.undrewN))⟩
      case round =>
        obtain ⟨k, rfl, hk, hRk, hA, hs⟩ := hrel
        by_cases hlt : k < q
        · obtain ⟨b, off, rfl, hb', c0⟩ := int_cell (hO.out.same hs) (k := k) (by rw [hq.out]; exact hlt) hq.out
          rw [dupF_step (by rw [hq.out]; exact hlt)] at hRk
          generalize hv : o[k]'(by rw [hq.out]; exact hlt) = v at c0 hRk
          by_cases hr : v < 0 ∨ (q : Int) ≤ v
          · rw [if_pos hr] at hRk
            replace hRk := Lib.hid hRk; replace hA := Lib.hid hA; replace hs := Lib.hid hs; replace hv := Lib.hid hv
            rcases hr with hr | hr
            · go_wp2_with fail
              go_ret
              exact ⟨by rw [hRk.out]; rfl, hs.out⟩
            · have hr2 : ¬ v < 0 := by omega
              go_wp2_with fail
              go_ret
              exact ⟨by rw [hRk.out]; rfl, hs.out⟩
          · rw [if_neg hr] at hRk
            obtain ⟨x, rfl⟩ : ∃ x : Nat, v = x := ⟨v.toNat, by omega⟩
            have hx : x < q := by omega
            have ax := hA.cell (bools_at _ _ _ (seenB_get o k x (by omega)))
            have af := hA.free x
            have ab := hA.lt
            clear hr
            by_cases hm : (x : Int) ∈ o.take k
            · rw [if_pos hm] at hRk
              rw [decide_eq_true hm] at ax
              replace hRk := Lib.hid hRk; replace hA := Lib.hid hA; replace hs := Lib.hid hs; replace hv := Lib.hid hv; replace hm := Lib.hid hm
              go_wp2_with fail
              go_ret
              exact ⟨by rw [hRk.out]; rfl, hs.out⟩
            · rw [if_neg hm] at hRk
              rw [decide_eq_false hm] at ax
              have hA2 := hA.set x (.bool true)
              rw [bools_set, seenB_succ (by rw [hq.out]; exact hlt) hv] at hA2
              have hs2 := hs.setCell ⟨w.heap.size, x, none⟩ (.bool true) (by simp)
              replace hRk := Lib.hid hRk; replace hA := Lib.hid hA; replace hs := Lib.hid hs; replace hv := Lib.hid hv; replace hm := Lib.hid hm; replace hA2 := Lib.hid hA2; replace hs2 := Lib.hid hs2
              go_wp2_with fail
              go_roundw
              case rel => exact ⟨k + 1, by go_num, by omega, hRk.out, hA2.out, hs2.out⟩
              case measure => simp [intOf]; omega
        · have hkq : k = o.length := by have := hq.out; omega
          rw [hkq, List.drop_length, dupF] at hRk
          replace hRk := Lib.hid hRk; replace hA := Lib.hid hA; replace hs := Lib.hid hs; replace hkq := Lib.hid hkq
          go_wp2_with fail
          go_ret
          exact ⟨by rw [hRk.out]; rfl, hs.out⟩

theorem ocheck_ok {n : Nat} {o : List Int} (h : IsOrd n o) (a : Option Addr) (cap : Nat) (w : World) (hO : RowAt w (.slice a n cap) n (intCells o)) :
    Calls Try.prog 30 #[.slice a n cap, .int .i64 n] w fun e w' => e = .returned (.int .i64 0) ∧ Same w w' := by
  have := ocheck_any o n a cap n w h.len hO (by have := h.n40; omega)
  rwa [ordErr_zero.2 ⟨by rw [h.len], by rw [h.len]; exact h⟩] at this

theorem arr40 : Try.prog.underlying 98 = some (.array 40 3) := Try.underlying98
theorem size40 : (Try.prog.info? 98).map (·.size) = some 40 := by kernel_rfl
theorem intCells_length (l : List Int) : (intCells l).length = l.length := by simp [intCells]

set_option maxRecDepth 100000 in
set_option maxHeartbeats 4000000 in
theorem inverse_any {n : Nat} {o : List Int} (h : IsOrd n o) (a : Option Addr) (cap : Nat) (w : World) (hO : RowAt w (.slice a n cap) n (intCells o)) :
    Calls Try.prog 64 #[.slice a n cap] w fun e w' => e = .returned (.agg (intCells (invL o)).toArray) ∧ Same w w' := by
  have hq := h.len
  have h40 := h.n40
  replace hO := Lib.hid hO; replace hq := Lib.hid hq; replace h := Lib.hid h
  go_enter Try.func64, Try.ntmps64
  go_wp2_with fail
  go_loopw [8] (fun i wr => ∃ k : Nat, i = .int .i64 k ∧ k ≤ n ∧ ArrAt wr (w.heap.size + 1) 98 (intCells (invF o k)) ∧ (∃ cs : List Value, cs.length = 40 ∧ ArrAt wr w.heap.size 98 cs) ∧ Same w wr) (fun i _ => n - (intOf i).toNat)
  case atStart =>
    refine ⟨0, rfl, by omega, by rw [invF_zero]; exact ArrAt.new (by simp), ⟨intCells (List.replicate 40 0), rfl, ?_⟩, (by repeat (first | exact Fr.refl _ _ | apply Fr.alloc | apply Fr.drewN | apply Fr.drew | apply Fr.undrew | apply Fr.undrewN))⟩
    exact heap_old (heap_new_at (by simp) _) _
  case round =>
    obtain ⟨k, rfl, hk, hA, hB, hs⟩ := hrel
    by_cases hlt : k < n
    · have hkl : k < o.length := by rw [hq.out]; exact hlt
      obtain ⟨b, off, rfl, hb', c0⟩ := int_cell (hO.out.same hs) (k := k) hkl hq.out
      have hr := h.out.range _ (List.getElem_mem hkl)
      obtain ⟨x, hx⟩ : ∃ x : Nat, o[k] = x := ⟨o[k].toNat, by omega⟩
      rw [hx] at c0 hr
      have hxn : x < n := by omega
      have af := hA.free x
      have ax := hA.cell (ints_at _ _ _ (invF_get o k x (by omega)))
      have ab := hA.lt
      have hA2 := hA.set x (.int .i64 k)
      rw [ints_set, invF_succ h.out.nodup hkl hx] at hA2
      obtain ⟨cs, hcs, hB'⟩ := hB
      have hB2 : ArrAt (wr.setCell ⟨w.heap.size + 1, x, none⟩ (.int .i64 k)) w.heap.size 98 cs := hB'.fr (S := fun b => b = w.heap.size + 1) ((Fr.refl _ _).setCell _ _ (fun _ => rfl)) (by omega)
      have hs2 := hs.setCell ⟨w.heap.size + 1, x, none⟩ (.int .i64 k) (by intro h; simp at h; omega)
      clear hr
      replace hA := Lib.hid hA; replace hs := Lib.hid hs; replace hA2 := Lib.hid hA2; replace hs2 := Lib.hid hs2; replace hB2 := Lib.hid hB2; replace hB' := Lib.hid hB'; replace hx := Lib.hid hx; replace hcs := Lib.hid hcs
      go_wp2_with fail
      go_roundw
      case rel => exact ⟨k + 1, by go_num, by omega, hA2.out, ⟨cs, hcs.out, hB2.out⟩, hs2.out⟩
      case measure => simp [intOf]; omega
    · have hkn : k = o.length := by have := hq.out; omega
      obtain ⟨cs, hcs, hB'⟩ := hB
      have hlen : (intCells (invF o k)).length = 40 := by rw [intCells_length, invF_length]
      replace hA := Lib.hid hA; replace hs := Lib.hid hs; replace hB' := Lib.hid hB'; replace hcs := Lib.hid hcs; replace hkn := Lib.hid hkn; replace hlen := Lib.hid hlen
      go_upto_region 7 with fail
      have hres : ArrAt ((wr.setRow w.heap.size (intCells (invF o k)).toArray)) w.heap.size 98 (intCells (invF o k)) := hB'.out.row
      have hs3 : Same w (wr.setRow w.heap.size (intCells (invF o k)).toArray) := hs.out.setRow _ _ (by simp)
      replace hres := Lib.hid hres; replace hs3 := Lib.hid hs3
      refine wp_region_lit ?_
      refine wpList_load_row rfl 98 (.tmp 3) rfl (w.heap.size + 1) rfl 98 (intCells (invF o k)).toArray (0, 0) _ hA.out arr40 rfl (by rw [size40]; simp [hlen.out]) ?_
      simp only [Act.put]
      refine wpList_store_row rfl 98 (.tmp 2) (.tmp 17) rfl w.heap.size (intCells (invF o k)).toArray rfl rfl 98 cs.toArray hB'.out (by rw [size40]; simp [hlen.out]) (by simp [hcs.out, hlen.out]) (intCells_one _) ?_
      simp only [Act.put]
      go_wp2_with fail
      refine bodyPost_ret (v := .agg (intCells (invL o)).toArray) ?_ rfl ⟨rfl, hs3.out⟩
      rw [show invL o = invF o k by unfold invL; rw [hkn.out]]
      exact results_cell_row (fn := Try.f64) Try.results64 _ _ w.heap.size 98 _ (0, 0) _ rfl hres.out arr40 rfl (by rw [size40]; simp [hlen.out])
end Go.Proofs.Ytmmjijmmocabhaa
