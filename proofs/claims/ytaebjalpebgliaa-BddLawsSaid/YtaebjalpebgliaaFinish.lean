/- The builder: finish. -/
import Derived.Test.YtaebjalpebgliaaVisit
import Derived.Laws.EntriesVeiled
namespace Go.Proofs.Ytaebjalpebgliaa
open Go.RowKit
set_option linter.unusedVariables false
set_option linter.unusedSimpArgs false

/-- A call returns a diagram. -/
def DRet (w : World) (n : Int) (O : List Nd) (r : Int) (e : Ending) (w' : World) : Prop :=
  ∃ ao co, e = .returned (.tuple #[.agg #[.int .i64 n, .slice ao O.length co, .int .i64 r], .int .i64 0]) ∧ SliceAt w' 80 3 (.slice ao O.length co) O.length (ndCells O) ∧ Same w w'
/-- A call returns no diagram, and an error. -/
def DErr (w : World) (c : Int) (e : Ending) (w' : World) : Prop :=
  e = .returned (.tuple #[.agg #[.int .i64 0, .slice none 0 0, .int .i64 0], .int .i64 c]) ∧ Same w w'

/-- What finish returns. -/
def finishF (n : Int) (O : List Nd) (r : Int) (w : World) (e : Ending) (w' : World) : Prop :=
  if O.length ≤ 16384 then DRet w n O r e w' else DErr w 3 e w'

def start : Vs := ([], [(0, 0), (1, 1)])

theorem mapAt_made_at {K V : Type} {enc : K → Value} {venc : V → Value} {w : World} {m : Nat} (h : m = w.heap.size) : MapAt enc venc (w.alloc (.map #[] 0)) m ([] : List (K × V)) := by
  subst h; exact mapAt_made w

/-- The blocks that finish lays ahead of its closure's call. -/
theorem finish_start {w : World} {B p m : Nat} {a : Option Addr} {cap : Nat} {N : List Nd} {n : Int} {b t : Obj} {ob1 ob2 : Obj} {M : List (Int × Int)} (hB : BuilderAt w B p m a cap N)
    (hb : b = .cells #[.pointer (some ⟨p, 0, none⟩)] 85 (0, 0))
    (hM : mI (setObj (setObj ((((w.alloc b).alloc t).alloc (.cells #[.int .i64 n, .slice none 0 0, .int .i64 0] 31)).alloc (.map #[] 0)) (w.heap.size + 1 + 1 + 1) ob1) (w.heap.size + 1 + 1 + 1) ob2) (w.heap.size + 1 + 1 + 1) M) :
    VisAt (((setObj (setObj ((((w.alloc b).alloc t).alloc (.cells #[.int .i64 n, .slice none 0 0, .int .i64 0] 31)).alloc (.map #[] 0)) (w.heap.size + 1 + 1 + 1) ob1) (w.heap.size + 1 + 1 + 1) ob2).alloc (.cells #[.map (some (w.heap.size + 1 + 1 + 1))] 100)).alloc
        (.cells #[fnVisit (w.heap.size + 1 + 1 + 1 + 1) w.heap.size (w.heap.size + 1 + 1 + 1 + 1 + 1) (w.heap.size + 1 + 1)] 56))
      w.heap.size B p m a cap N (w.heap.size + 1 + 1 + 1 + 1) w.heap.size (w.heap.size + 1 + 1 + 1 + 1 + 1) (w.heap.size + 1 + 1) (w.heap.size + 1 + 1 + 1) n 0 none 0 [] M ∧
    Same w (((setObj (setObj ((((w.alloc b).alloc t).alloc (.cells #[.int .i64 n, .slice none 0 0, .int .i64 0] 31)).alloc (.map #[] 0)) (w.heap.size + 1 + 1 + 1) ob1) (w.heap.size + 1 + 1 + 1) ob2).alloc (.cells #[.map (some (w.heap.size + 1 + 1 + 1))] 100)).alloc
        (.cells #[fnVisit (w.heap.size + 1 + 1 + 1 + 1) w.heap.size (w.heap.size + 1 + 1 + 1 + 1 + 1) (w.heap.size + 1 + 1)] 56)) := by
  generalize hX : ((w.alloc b).alloc t).alloc (.cells #[.int .i64 n, .slice none 0 0, .int .i64 0] 31) = X at *
  have hXs : X.heap.size = w.heap.size + 3 := by rw [← hX]; simp
  have x0 : X.heap[w.heap.size]? = some b := by rw [← hX]; exact heap_old (heap_old (heap_new _ _) _) _
  have x2 : X.heap[w.heap.size + 1 + 1]? = some (.cells #[.int .i64 n, .slice none 0 0, .int .i64 0] 31 (0, 0)) := by rw [← hX]; exact heap_new_at (by simp) _
  have xs : Same w X := by rw [← hX]; exact (by repeat (first | exact Fr.refl _ _ | apply Fr.alloc | apply Fr.drewN | apply Fr.drew))
  generalize hY : setObj (setObj (X.alloc (.map #[] 0)) (w.heap.size + 1 + 1 + 1) ob1) (w.heap.size + 1 + 1 + 1) ob2 = Y at *
  have hf : Fr (fun k => k = w.heap.size + 1 + 1 + 1) X Y := by
    rw [← hY]
    exact (((Fr.refl (fun k => k = w.heap.size + 1 + 1 + 1) X).alloc _).setObj _ _ (fun _ => rfl)).setObj _ _ (fun _ => rfl)
  have hYs : Y.heap.size = w.heap.size + 1 + 1 + 1 + 1 := by rw [← hY]; simp [setObj, hXs]
  have y0 := hf.at x0 (by omega)
  have y2 := hf.at x2 (by omega)
  have ys : Same w Y := xs.trans hf (fun i hi e => by omega)
  have ws : Same w ((Y.alloc (.cells #[.map (some (w.heap.size + 1 + 1 + 1))] 100)).alloc (.cells #[fnVisit (w.heap.size + 1 + 1 + 1 + 1) w.heap.size (w.heap.size + 1 + 1 + 1 + 1 + 1) (w.heap.size + 1 + 1)] 56)) := (ys.alloc _).alloc _
  refine ⟨⟨hB.same ws, ⟨lt_of_heap hB.blk, hB.map.lt, fun k hk => ?_⟩, heap_old (heap_new_at (by omega) _) _, heap_old (heap_old (by rw [← hb]; exact y0) _) _, heap_new_at (by simp; omega) _, heap_old (heap_old y2 _) _, World.ownsRow_nil _ _ _ _, ?_, by omega, by omega⟩, ws⟩
  · obtain ⟨c, hc⟩ := own_block hB.own hk
    exact lt_of_heap hc
  · exact hM.of_block ((Below.heap_alloc _ _ _ (by simp; omega)).trans (Below.heap_alloc _ _ _ (by omega)))

theorem finish_res {w : World} {B p m : Nat} {a : Option Addr} {cap : Nat} {N : List Nd} {n : Int} {b o1 o2 : Obj} {cur : Array Value} {ob1 ob2 : Obj} {M : List (Int × Int)} (hB : BuilderAt w B p m a cap N)
    (hM : mI (setObj (setObj ((((w.alloc b).alloc (.cells cur 31)).alloc (.cells #[.int .i64 n, .slice none 0 0, .int .i64 0] 31)).alloc (.map #[] 0)) (w.heap.size + 1 + 1 + 1) ob1) (w.heap.size + 1 + 1 + 1) ob2) (w.heap.size + 1 + 1 + 1) M) :
    (((setObj (setObj ((((w.alloc b).alloc (.cells cur 31)).alloc (.cells #[.int .i64 n, .slice none 0 0, .int .i64 0] 31)).alloc (.map #[] 0)) (w.heap.size + 1 + 1 + 1) ob1) (w.heap.size + 1 + 1 + 1) ob2).alloc o1).alloc o2).heap[w.heap.size + 1]? = some (.cells cur 31 (0, 0)) := by
  refine heap_old (heap_old ?_ _) _
  rw [heap_setObj_other (by omega), heap_setObj_other (by omega)]
  exact heap_old (heap_old (heap_new_at (by simp) _) _) _

theorem finish_end {w w1 : World} {v1 v2 v3 v4 : Value} (h : Same w w1) :
    Same w ((((w1.setCell ⟨w.heap.size + 1 + 1, 2, none⟩ v1).setCell ⟨w.heap.size + 1, 0, none⟩ v2).setCell ⟨w.heap.size + 1, 1, none⟩ v3).setCell ⟨w.heap.size + 1, 2, none⟩ v4) := by
  refine (((h.setCell _ _ ?_).setCell _ _ ?_).setCell _ _ ?_).setCell _ _ ?_ <;> (intro h'; simp only at h'; omega)

theorem finish_slice {w1 : World} {H B p m : Nat} {a : Option Addr} {cap : Nat} {N : List Nd} {bn bb bv bo mm : Nat} {n r : Int} {ao : Option Addr} {co : Nat} {O : List Nd} {M : List (Int × Int)} {k : Nat} {v1 v2 v3 v4 : Value} {cur : Array Value}
    (h : VisAt w1 H B p m a cap N bn bb bv bo mm n r ao co O M) (hk : w1.heap[k]? = some (.cells cur 31 (0, 0))) :
    SliceAt ((((w1.setCell ⟨bo, 2, none⟩ v1).setCell ⟨k, 0, none⟩ v2).setCell ⟨k, 1, none⟩ v3).setCell ⟨k, 2, none⟩ v4) 80 3 (.slice ao O.length co) O.length (ndCells O) := by
  have hf : Fr (fun i => i = bo ∨ i = k) w1 ((((w1.setCell ⟨bo, 2, none⟩ v1).setCell ⟨k, 0, none⟩ v2).setCell ⟨k, 1, none⟩ v3).setCell ⟨k, 2, none⟩ v4) :=
    ((((Fr.refl (fun i => i = bo ∨ i = k) w1).setCell _ _ (fun _ => .inl rfl)).setCell _ _ (fun _ => .inr rfl)).setCell _ _ (fun _ => .inr rfl)).setCell _ _ (fun _ => .inr rfl)
  refine (SliceAt.of_owns h.row).fr hf (fun i c hc => ?_)
  rintro (rfl | rfl)
  · have := h.out; rw [hc] at this; simp at this
  · rw [hc] at hk; simp at hk

set_option maxRecDepth 100000 in
set_option maxHeartbeats 1000000 in
theorem finish_any (B p m : Nat) (a : Option Addr) (cap : Nat) (N : List Nd) (n k : Int) (fuel : Nat) (s' : Vs) (kn : Int) (w : World) (hB : BuilderAt w B p m a cap N) (hv : Laid N) (hN : N.length ≤ 100000) (hk0 : 0 ≤ k) (hk : k < N.length + 2)
    (hvis : visitF N fuel start k = some (s', kn)) (hlen : s'.1.length ≤ 100000) :
    Calls Try.prog 58 #[.pointer (some ⟨p, 0, none⟩), .int .i64 n, .int .i64 k] w (finishF n s'.1 kn w) := by
  have hmm := @run_makeMap Try.prog
  replace hB := Lib.hid hB
  replace hv := Lib.hid hv
  replace hvis := Lib.hid hvis
  go_enter Try.func58, Try.ntmps58
  go_upto_region 2 with fail
  refine wp_region_lit ?_
  refine wpList_step (fun K hK => ?_)
  go_simp
  refine hK _ _ ?_
  clear hK K
  refine wpList_minsert rfl (.tmp 13) (.const (.int .i64 0)) (.const (.int .i64 0)) rfl keyI mapI (w.heap.size + 1 + 1 + 1) [] rfl (mapAt_made_at (by simp)) 0 rfl 0 rfl ?_
  intro ob1 hob1
  refine wpList_minsert rfl (.tmp 13) (.const (.int .i64 1)) (.const (.int .i64 1)) rfl keyI mapI (w.heap.size + 1 + 1 + 1) _ rfl hob1 1 rfl 1 rfl ?_
  intro ob2 hob2
  replace hob2 := Lib.hid hob2
  clear hob1
  have hst := finish_start hB.out rfl hob2.out
  replace hst := Lib.hid hst
  simp only [Act.put]
  go_wp2_with fail
  obtain ⟨ht, hsame⟩ := hst.out
  refine (visit_any w.heap.size B p m a cap N _ _ _ _ _ n 0 hv.out hN fuel k none 0 [] _ s' kn _ ht hvis.out hk0 hk (by simp [mput, mget]) (by simp [mput, mget]) hlen).mono ?_
  rintro e w1 ⟨rfl, ao, co, hV, hG⟩
  have htr := hG.1.at (finish_res hB.out hob2.out) (by
    rintro (h' | h' | h')
    · simp [Value.ownBlock] at h'
    · omega
    · omega)
  have c0 : w1.cell? ⟨w.heap.size + 1 + 1, 0, none⟩ = some (.int .i64 n) := cell_at hV.out 0
  have c1 : w1.cell? ⟨w.heap.size + 1 + 1, 1, none⟩ = some (.slice ao s'.1.length co) := cell_at hV.out 1
  have c2 : w1.cell? ⟨w.heap.size + 1 + 1, 2, none⟩ = some (.int .i64 0) := cell_at hV.out 2
  have f2 : w1.frozen? ⟨w.heap.size + 1 + 1, 2, none⟩ = false := free_at hV.out 2
  have d0 : w1.cell? ⟨w.heap.size + 1, 0, none⟩ = some (.int .i64 0) := cell_at htr 0
  have d1 : w1.cell? ⟨w.heap.size + 1, 1, none⟩ = some (.slice none 0 0) := cell_at htr 1
  have d2 : w1.cell? ⟨w.heap.size + 1, 2, none⟩ = some (.int .i64 0) := cell_at htr 2
  have g0 : w1.frozen? ⟨w.heap.size + 1, 0, none⟩ = false := free_at htr 0
  have g1 : w1.frozen? ⟨w.heap.size + 1, 1, none⟩ = false := free_at htr 1
  have g2 : w1.frozen? ⟨w.heap.size + 1, 2, none⟩ = false := free_at htr 2
  have hsame1 : Same w w1 := hsame.trans hG.1 (fun i hi h' => by
    rcases h' with h' | h' | h'
    · simp [Value.ownBlock] at h'
    · omega
    · omega)
  replace hsame1 := Lib.hid hsame1
  replace hV := Lib.hid hV
  replace htr := Lib.hid htr
  clear hG ht hsame hst hob2
  by_cases hlim : s'.1.length ≤ 16384
  · have hl' : ¬ (16384 : Int) < s'.1.length := by omega
    replace hlim := Lib.hid hlim
    go_wp2_with fail
    refine bodyPost_ret (v := .tuple #[.agg #[.int .i64 n, .slice ao s'.1.length co, .int .i64 kn], .int .i64 0]) (by simp [results, Try.results58, go_sem, d0, d1, d2, c0, c1, c2]) rfl ?_
    unfold finishF
    rw [if_pos hlim.out]
    exact ⟨ao, co, rfl, finish_slice hV.out htr.out, finish_end hsame1.out⟩
  · have hl' : (16384 : Int) < s'.1.length := by omega
    go_wp2_with fail
    refine bodyPost_ret (v := .tuple #[.agg #[.int .i64 0, .slice none 0 0, .int .i64 0], .int .i64 3]) (by simp [results, Try.results58, go_sem, d0, d1, d2, c0, c1, c2]) rfl ?_
    unfold finishF
    rw [if_neg (by omega)]
    exact ⟨rfl, finish_end hsame1.out⟩

end Go.Proofs.Ytaebjalpebgliaa
