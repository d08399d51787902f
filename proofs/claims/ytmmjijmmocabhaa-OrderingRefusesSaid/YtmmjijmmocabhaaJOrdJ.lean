/- Sift, Improve walked. check, Permute, Size, Sift, Improve walked. sift walked. Sifting, plain. sizes: newSizes, of walked; check, Permute, Size. -/
import Derived.Test.YtmmjijmmocabhaaJLawT
import Derived.Test.YtmmjijmmocabhaaJKey8
namespace Go.Proofs.Ytmmjijmmocabhaa
open Go.RowKit
set_option linter.unusedVariables false
set_option linter.unusedSimpArgs false

/-! ### steps of a drawn region whose value is known -/
section
variable {L : Nat → Prop} {P : Program} {ops : Array Oper} {Q : Exit → Act → World → Prop}
theorem sched_val {kds : List Nat} {F : Act → World → Prop} {i : Nat} {rest : List Nat} {o : Oper} {a : Act} {w : World} (ho : ops[i]? = some o) (hk : kds.getD i 3 = 1) (hg : o.guard = none) (v : Value)
    (hrun : ∀ g : Kin L w, (execOp a.eval o).run P g.1 = .ok (.value v) g.1) (h : wpTo L P ops Q kds F rest (a.put o.dst v) w) : wpTo L P ops Q kds F (i :: rest) a w := by
  refine sched_s ho hk (fun K hK => ?_)
  have hw : Region.wanted o (yielded ops a.tmps) = true := by simp [Region.wanted, hg]
  rw [if_pos hw]
  refine ⟨v, ?_, hK _ h⟩
  rintro w' ⟨g, rfl⟩
  rw [hrun g]
  exact ⟨rfl, rfl⟩
theorem exec_load_row {o : Oper} {a : Act} {w : World} (ty : TypeId) (x : Operand) (ho : o.op = .load ty x) (g : Nat) (hx : a.eval x = .pointer (some ⟨g, 0, none⟩)) (t : TypeId) (cs : Array Value) (fr : Nat × Nat) (d : TypeDesc) (hg : w.heap[g]? = some (.cells cs t fr))
    (hu : P.underlying ty = some d) (hd : (match d with | .struct _ | .array _ _ => true | _ => false) = true) (hi : (P.info? ty).map (·.size) = some cs.size) : (execOp a.eval o).run P w = .ok (.value (.agg cs)) w := by
  unfold execOp
  simp only [ho, hx, Instr.loadAt, Instr.sureAddr, Sem.run_bind, Sem.run_pure, Result.andThen_ok, run_loadVar_row w g t ty cs fr d hg hu hd hi]
theorem exec_lookup {o : Oper} {a : Act} {w : World} (t : TypeId) (m k : Operand) (ok : Bool) (ho : o.op = .lookup t m k ok) (mv kv v : Value) (hm : a.eval m = mv) (hk : a.eval k = kv) (h : (Instr.lookup t mv kv ok).run P w = .ok v w) : (execOp a.eval o).run P w = .ok (.value v) w := by
  unfold execOp
  simp only [ho, hm, hk, Sem.run_bind, h, Result.andThen_ok, Sem.run_pure]
end

/-! ### keys -/
def keyL (o : List Int) (k : Nat) : List Int := o.take k ++ List.replicate (40 - k) 0
def keyF (o : List Int) : K40 := ⟨(o ++ List.replicate 40 0).take 40, by simp⟩
def i8Cells (l : List Int) : List Value := l.map (Value.int .i8)
theorem i8_length (l : List Int) : (i8Cells l).length = l.length := by simp [i8Cells]
theorem i8_set (l : List Int) (k : Nat) (b : Int) : (i8Cells l).set k (.int .i8 b) = i8Cells (l.set k b) := by simp [i8Cells, List.map_set]
theorem i8_at (l : List Int) (k : Nat) (b : Int) (h : l[k]? = some b) : (i8Cells l)[k]? = some (.int .i8 b) := by simp [i8Cells, h]
theorem i8_one (l : List Int) : (i8Cells l).toArray.all (·.oneCell') = true := by simp [i8Cells, Value.oneCell']
theorem keyL_zero (o : List Int) : keyL o 0 = List.replicate 40 0 := by simp [keyL]
theorem keyL_length {o : List Int} {k : Nat} (hk : k ≤ o.length) (h40 : o.length ≤ 40) : (keyL o k).length = 40 := by simp [keyL]; omega
theorem keyL_get {o : List Int} {k : Nat} (hk : k < o.length) (h40 : o.length ≤ 40) : (keyL o k)[k]? = some 0 := by
  unfold keyL
  rw [List.getElem?_append_right (by simp; omega), List.getElem?_replicate]
  have : (o.take k).length = k := by simp; omega
  rw [this, if_pos (by omega)]
theorem keyL_succ {o : List Int} {k : Nat} (hk : k < o.length) (h40 : o.length ≤ 40) : (keyL o k).set k o[k] = keyL o (k + 1) := by
  unfold keyL
  have e : 40 - k = (40 - (k + 1)) + 1 := by omega
  have hm : (o.take k).length = k := by simp; omega
  rw [e, List.replicate_succ, List.set_append_right _ _ (by omega), hm, Nat.sub_self, List.set_cons_zero, List.take_succ_eq_append_getElem hk, List.append_assoc]
  rfl
theorem keyL_end {o : List Int} (h40 : o.length ≤ 40) : keyL o o.length = (keyF o).1 := by
  unfold keyL keyF
  simp only [List.take_length]
  rw [List.take_append, List.take_of_length_le h40, List.take_replicate]
  congr 2
  omega
theorem keyF_inj {n : Nat} {o o' : List Int} (h : IsOrd n o) (h' : IsOrd n o') (e : keyF o = keyF o') : o = o' := by
  have e' : (keyF o).1.take n = (keyF o').1.take n := by rw [e]
  have h40 := h.n40
  have take : ∀ o : List Int, o.length = n → (keyF o).1.take n = o := by
    intro o hl
    unfold keyF
    simp only
    rw [List.take_take, Nat.min_eq_left h40, List.take_append_of_le_length (by omega), List.take_of_length_le (by omega)]
  rw [take o h.len, take o' h'.len] at e'
  exact e'
theorem kv_key (o : List Int) : kv (keyF o) = .agg (i8Cells (keyF o).1).toArray := rfl
theorem size40b : (Try.prog.info? 120).map (·.size) = some 40 := by kernel_rfl

/-- The size of a table in an order. -/
def szF (n : Nat) (t : List Bool) (o : List Int) : Int := ((tableF n [] 0 (permT o n t)).1.length : Nat)
theorem szF_tab {n : Nat} {t : List Bool} {o : List Int} {d : Dg} (h : d.tab n (permT o n t)) : (d.L.length : Int) = szF n t o := by
  unfold szF; rw [h.2.eq]

/-- The sizes that are known, at the address b. -/
structure Sz (n : Nat) (t : List Bool) (a : Option Addr) (cap : Nat) (L : List Nd) (r : Int) (b m : Nat) (w : World) : Prop where
  box : w.heap[b]? = some (.cells #[.int .i64 n, .slice a L.length cap, .int .i64 r, .map (some m), .int .i64 0] 86 (0, 0))
  map : ∃ M : List (K40 × Int), MapAt kv (Value.int .i64) w m M ∧ ∀ o, IsOrd n o → ∀ v, mget M (keyF o) = some v → v = szF n t o
  nds : NodesAt w a L cap
theorem Sz.same {n : Nat} {t : List Bool} {a : Option Addr} {cap : Nat} {L : List Nd} {r : Int} {b m : Nat} {w w' : World} (h : Sz n t a cap L r b m w) (hs : Same w w') : Sz n t a cap L r b m w' := by
  obtain ⟨M, hM, hm⟩ := h.map
  exact ⟨hs.at h.box id, ⟨M, hM.of_block (hs.block m hM.lt id), hm⟩, h.nds.same hs⟩
theorem Sz.ne {n : Nat} {t : List Bool} {a : Option Addr} {cap : Nat} {L : List Nd} {r : Int} {b m : Nat} {w : World} (h : Sz n t a cap L r b m w) : b ≠ m := by
  rintro rfl
  obtain ⟨M, ⟨es, c, h1, _⟩, _⟩ := h.map
  rw [h.box] at h1
  cases h1

def OfR (n : Nat) (t : List Bool) (a : Option Addr) (cap : Nat) (L : List Nd) (r : Int) (b m : Nat) (o : List Int) (w : World) (e : Ending) (w' : World) : Prop :=
  e = .returned (.int .i64 (szF n t o)) ∧ Sz n t a cap L r b m w' ∧ Fr (fun k => k = m) w w'

/-! ### newSizes -/
set_option maxRecDepth 100000 in
theorem newSizes_any (n : Nat) (t : List Bool) (a : Option Addr) (cap : Nat) (L : List Nd) (r : Int) (w : World) (hN : NodesAt w a L cap) :
    Calls Try.prog 56 #[.agg #[.int .i64 n, .slice a L.length cap, .int .i64 r]] w fun e w' => ∃ b m, e = .returned (.pointer (some ⟨b, 0, none⟩)) ∧ Sz n t a cap L r b m w' ∧ w.heap.size ≤ b ∧ w.heap.size ≤ m ∧ Same w w' := by
  have hmm := @run_makeMap Try.prog
  replace hN := Lib.hid hN
  go_enter Try.func56, Try.ntmps56
  go_wp2_with fail
  go_ret
  refine ⟨w.heap.size + 1 + 1, w.heap.size + 1, rfl, ⟨heap_new_at (by simp) _, ⟨[], ?_, by intro o ho v h; simp [mget] at h⟩, hN.out.same (by repeat (first | exact Fr.refl _ _ | apply Fr.undrew | apply Fr.undrewN | apply Fr.drew | apply Fr.drewN | apply Fr.alloc))⟩, by omega, by omega, (by repeat (first | exact Fr.refl _ _ | apply Fr.undrew | apply Fr.undrewN | apply Fr.drew | apply Fr.drewN | apply Fr.alloc))⟩
  have := mapAt_made (enc := kv) (venc := Value.int .i64) (w.alloc (.cells #[.int .i64 n, .slice a L.length cap, .int .i64 r] 45))
  rw [World.size_alloc] at this
  exact this.of_block (Below.heap_alloc _ _ _ (by simp))

/-! ### of -/
theorem sz_put {n : Nat} {t : List Bool} {a : Option Addr} {cap : Nat} {L : List Nd} {r : Int} {b m : Nat} {w w' : World} {M : List (K40 × Int)} {o : List Int} {v : Int} (h : Sz n t a cap L r b m w)
    (hv : ∀ o, IsOrd n o → ∀ v, mget M (keyF o) = some v → v = szF n t o) (ho : IsOrd n o) (he : v = szF n t o) (hf : Fr (fun k => k = m) w w') (hN : NodesAt w' a L cap) (hM : MapAt kv (Value.int .i64) w' m (mput M (keyF o) v)) : Sz n t a cap L r b m w' := by
  refine ⟨hf.at h.box h.ne, ⟨_, hM, fun o' ho' u hu => ?_⟩, hN⟩
  by_cases e : keyF o' = keyF o
  · rw [e, mget_put_same] at hu
    cases hu
    rw [keyF_inj ho' ho e]
    exact he
  · rw [mget_put_other _ _ _ _ e] at hu
    exact hv o' ho' u hu
theorem map_none {w : World} {a : Option Addr} {cap m : Nat} {L : List Nd} {M : List (K40 × Int)} (hN : NodesAt w a L cap) (hM : MapAt kv (Value.int .i64) w m M) (w' : World) (hf : Fr (fun k => k = m) w w') : NodesAt w' a L cap := by
  obtain ⟨h1, h2, h3, h4⟩ := hN
  refine ⟨h1, h2, h3, fun hn => ?_⟩
  obtain ⟨b, off, ha, hb, hc⟩ := h4 hn
  have hne : b ≠ m := by
    rintro rfl
    obtain ⟨es, c, hm, _⟩ := hM
    have := hc 0 _ (ndCells_get L 0 hn).1
    rw [World.cell?, hm] at this
    cases this
  refine ⟨b, off, ha, Nat.lt_of_lt_of_le hb hf.size, fun j u hu => ?_⟩
  rw [← hc j u hu]
  simp [World.cell?, hf.block b hb hne]
set_option maxRecDepth 100000 in
set_option maxHeartbeats 4000000 in
theorem of_any {n : Nat} {t : List Bool} {L : List Nd} {r : Int} {o : List Int} (hn : n ≤ 10) (hT : IsTab n t L r) (ho : IsOrd n o) (a : Option Addr) (cap : Nat) (ao : Option Addr) (co b m : Nat) (w : World)
    (hS : Sz n t a cap L r b m w) (hO : RowAt w (.slice ao n co) n (intCells o)) :
    Calls Try.prog 57 #[.pointer (some ⟨b, 0, none⟩), .slice ao n co] w (OfR n t a cap L r b m o w) := by
  have hq := ho.len
  have h40 := ho.n40
  have PE := fun W (hW : Same w W) => permute_any hn hT ho a cap ao co W (hS.nds.same hW) (hO.same hW)
  have hsb := lt_of_heap hS.box
  have hsm : m < w.heap.size := by obtain ⟨M, hM, _⟩ := hS.map; exact hM.lt
  have hbm := hS.ne
  obtain ⟨q, hql⟩ : ∃ q, L.length = q := ⟨_, rfl⟩
  have hLl : q ≤ 16384 := by rw [← hql]; exact hT.short
  rw [hql] at PE
  replace hO := Lib.hid hO; replace hq := Lib.hid hq; replace ho := Lib.hid ho; replace hS := Lib.hid hS; replace hT := Lib.hid hT; replace PE := Lib.hid PE; replace hql := Lib.hid hql
  go_enter Try.func57, Try.ntmps57
  go_wp2_with fail
  go_loopw [14] (fun i wr => ∃ k : Nat, i = .int .i64 k ∧ k ≤ n ∧ ArrAt wr w.heap.size 120 (i8Cells (keyL o k)) ∧ Same w wr) (fun i _ => n - (intOf i).toNat)
  case atStart => exact ⟨0, rfl, by omega, by rw [keyL_zero]; exact ArrAt.new rfl, (by repeat (first | exact Fr.refl _ _ | apply Fr.alloc | apply Fr.drewN | apply Fr.drew | apply Fr.undrew | apply Fr.undrewN))⟩
  case round =>
    obtain ⟨k, rfl, hk, hA, hs⟩ := hrel
    by_cases hlt : k < n
    · have hkl : k < o.length := by rw [hq.out]; exact hlt
      obtain ⟨bo, off, rfl, hb', c0⟩ := int_cell (hO.out.same hs) (k := k) hkl hq.out
      have hr := ho.out.range _ (List.getElem_mem hkl)
      obtain ⟨x, hx⟩ : ∃ x : Nat, o[k] = x := ⟨o[k].toNat, by omega⟩
      rw [hx] at c0 hr
      have hxn : x < n := by omega
      have af := hA.free k
      have ax := hA.cell (i8_at _ _ _ (keyL_get hkl (by rw [hq.out]; exact h40)))
      have ab := hA.lt
      have hA2 := hA.set k (.int .i8 x)
      rw [i8_set, ← hx, keyL_succ hkl (by rw [hq.out]; exact h40)] at hA2
      have hs2 := hs.setCell ⟨w.heap.size, k, none⟩ (.int .i8 x) (by simp)
      have hw8 : IntKind.i8.wrap (x : Int) = x := by unfold IntKind.wrap; simp [IntKind.bits, IntKind.signed]; omega
      rw [hx] at hA2
      clear hr
      replace hA := Lib.hid hA; replace hs := Lib.hid hs; replace hA2 := Lib.hid hA2; replace hs2 := Lib.hid hs2; replace hx := Lib.hid hx
      go_wp2_with fail
      go_roundw
      case rel => exact ⟨k + 1, by go_num, by omega, hA2.out, hs2.out⟩
      case measure => simp [intOf]; omega
    · obtain rfl : k = n := by omega
      rw [show keyL o k = (keyF o).1 by rw [← keyL_end (by rw [hq.out]; omega), hq.out]] at hA
      have hS1 := hS.out.same hs
      obtain ⟨M, hM, hMv⟩ := hS1.map
      have b0 := cell_at hS1.box 0
      have b1 := cell_at hS1.box 1
      have b2 := cell_at hS1.box 2
      have b3 := cell_at hS1.box 3
      have b4 := cell_at hS1.box 4
      have bl := lt_of_heap hS1.box
      have al := hA.lt
      have hml := hM.lt
      simp only [hql.out] at b1
      cases hm : mget M (keyF o) with
      | some v =>
        have hv := hMv o ho.out v hm
        replace hA := Lib.hid hA; replace hs := Lib.hid hs; replace hS1 := Lib.hid hS1; replace hM := Lib.hid hM; replace hMv := Lib.hid hMv; replace hm := Lib.hid hm; replace hv := Lib.hid hv
        go_upto_region 7 with fail
        refine wp_region_sched (L3 b w.heap.size m) [0, 0, 0, 1, 1, 1, 0, 0, 0, 0, 0] [0, 1, 2, 3, 4, 5, 6, 7, 8, 9, 10] (by kernel_rfl) (by kernel_rfl) ?_
        (first | (refine sched_w rfl rfl (fun _ hK => ?_); go_simp; refine hK _ ?_; clear hK) | (refine sched_s rfl rfl (fun _ hK => ?_); go_simp; first | (refine hK _ ?_; clear hK) | (refine ⟨_, fun _ => rfl, hK _ ?_⟩; clear hK)))
        (first | (refine sched_w rfl rfl (fun _ hK => ?_); go_simp; refine hK _ ?_; clear hK) | (refine sched_s rfl rfl (fun _ hK => ?_); go_simp; first | (refine hK _ ?_; clear hK) | (refine ⟨_, fun _ => rfl, hK _ ?_⟩; clear hK)))
        (first | (refine sched_w rfl rfl (fun _ hK => ?_); go_simp; refine hK _ ?_; clear hK) | (refine sched_s rfl rfl (fun _ hK => ?_); go_simp; first | (refine hK _ ?_; clear hK) | (refine ⟨_, fun _ => rfl, hK _ ?_⟩; clear hK)))
        (first | (refine sched_w rfl rfl (fun _ hK => ?_); go_simp; refine hK _ ?_; clear hK) | (refine sched_s rfl rfl (fun _ hK => ?_); go_simp; first | (refine hK _ ?_; clear hK) | (refine ⟨_, fun _ => rfl, hK _ ?_⟩; clear hK)))
        refine sched_val rfl rfl rfl (.agg (i8Cells (keyF o).1).toArray) (fun g => exec_load_row 120 (.tmp 5) rfl w.heap.size rfl 120 _ (0, 0) _ ((g.heap w.heap.size al (by simp [L3])).trans hA.out) a_i8 rfl (by rw [size40b]; simp [i8_length, (keyF o).2])) ?_
        (try simp only [Act.put, List.setIfInBounds_toArray, List.set_cons_zero, List.set_cons_succ])
        refine sched_val rfl rfl rfl (.tuple #[.int .i64 v, .bool true]) (fun g => exec_lookup 84 (.tmp 28) (.tmp 29) true rfl (.map (some m)) (kv (keyF o)) _ rfl rfl (lookup_hit key40 map40 (hM.out.of_block (g.heap m hml (by simp [L3]))) hm.out true)) ?_
        (try simp only [Act.put, List.setIfInBounds_toArray, List.set_cons_zero, List.set_cons_succ])
        repeat (first | (refine sched_w rfl rfl (fun _ hK => ?_); go_simp; refine hK _ ?_; clear hK) | (refine sched_s rfl rfl (fun _ hK => ?_); go_simp; first | (refine hK _ ?_; clear hK) | (refine ⟨_, fun _ => rfl, hK _ ?_⟩; clear hK)))
        refine sched_nil (NoPanic.normal ?_)
        go_wp2_with fail
        go_ret
        exact ⟨by rw [hv.out]; rfl, hS1.out.same (by repeat (first | exact Fr.refl _ _ | apply Fr.undrew | apply Fr.undrewN | apply Fr.drew | apply Fr.drewN | apply Fr.alloc)), (hs.out.same (by repeat (first | exact Fr.refl _ _ | apply Fr.undrew | apply Fr.undrewN | apply Fr.drew | apply Fr.drewN | apply Fr.alloc))).mono (fun _ _ h => h.elim)⟩
      | none =>
        replace hA := Lib.hid hA; replace hs := Lib.hid hs; replace hS1 := Lib.hid hS1; replace hM := Lib.hid hM; replace hMv := Lib.hid hMv; replace hm := Lib.hid hm
        go_upto_region 7 with fail
        refine wp_region_sched (L3 b w.heap.size m) [0, 0, 0, 1, 1, 1, 0, 0, 0, 0, 0] [0, 1, 2, 3, 4, 5, 6, 7, 8, 9, 10] (by kernel_rfl) (by kernel_rfl) ?_
        (first | (refine sched_w rfl rfl (fun _ hK => ?_); go_simp; refine hK _ ?_; clear hK) | (refine sched_s rfl rfl (fun _ hK => ?_); go_simp; first | (refine hK _ ?_; clear hK) | (refine ⟨_, fun _ => rfl, hK _ ?_⟩; clear hK)))
        (first | (refine sched_w rfl rfl (fun _ hK => ?_); go_simp; refine hK _ ?_; clear hK) | (refine sched_s rfl rfl (fun _ hK => ?_); go_simp; first | (refine hK _ ?_; clear hK) | (refine ⟨_, fun _ => rfl, hK _ ?_⟩; clear hK)))
        (first | (refine sched_w rfl rfl (fun _ hK => ?_); go_simp; refine hK _ ?_; clear hK) | (refine sched_s rfl rfl (fun _ hK => ?_); go_simp; first | (refine hK _ ?_; clear hK) | (refine ⟨_, fun _ => rfl, hK _ ?_⟩; clear hK)))
        (first | (refine sched_w rfl rfl (fun _ hK => ?_); go_simp; refine hK _ ?_; clear hK) | (refine sched_s rfl rfl (fun _ hK => ?_); go_simp; first | (refine hK _ ?_; clear hK) | (refine ⟨_, fun _ => rfl, hK _ ?_⟩; clear hK)))
        refine sched_val rfl rfl rfl (.agg (i8Cells (keyF o).1).toArray) (fun g => exec_load_row 120 (.tmp 5) rfl w.heap.size rfl 120 _ (0, 0) _ ((g.heap w.heap.size al (by simp [L3])).trans hA.out) a_i8 rfl (by rw [size40b]; simp [i8_length, (keyF o).2])) ?_
        (try simp only [Act.put, List.setIfInBounds_toArray, List.set_cons_zero, List.set_cons_succ])
        refine sched_val rfl rfl rfl (.tuple #[.int .i64 0, .bool false]) (fun g => exec_lookup 84 (.tmp 28) (.tmp 29) true rfl (.map (some m)) (kv (keyF o)) _ rfl rfl (lookup_miss key40 map40 (hM.out.of_block (g.heap m hml (by simp [L3]))) hm.out (zeroI _) true)) ?_
        (try simp only [Act.put, List.setIfInBounds_toArray, List.set_cons_zero, List.set_cons_succ])
        repeat (first | (refine sched_w rfl rfl (fun _ hK => ?_); go_simp; refine hK _ ?_; clear hK) | (refine sched_s rfl rfl (fun _ hK => ?_); go_simp; first | (refine hK _ ?_; clear hK) | (refine ⟨_, fun _ => rfl, hK _ ?_⟩; clear hK)))
        refine sched_nil (NoPanic.normal ?_)
        go_wp2_with fail
        refine (PE.out _ (hs.out.same (by repeat (first | exact Fr.refl _ _ | apply Fr.undrew | apply Fr.undrewN | apply Fr.drew | apply Fr.drewN | apply Fr.alloc)))).mono ?_
        rintro e w2 ⟨d, rfl, hd, ht, hs2⟩
        have hs3 : Same wr w2 := (show Same wr _ from (by repeat (first | exact Fr.refl _ _ | apply Fr.undrew | apply Fr.undrewN | apply Fr.drew | apply Fr.drewN | apply Fr.alloc))).same hs2
        have hA3 := hA.out.same hs3
        have hS3 := hS1.out.same hs3
        have hM3 := hM.out.of_block (hs3.block m hml id)
        have e3 := cell_at hS3.box 3
        have el := lt_of_heap hS3.box
        have al3 := hA3.lt
        have ml3 := hM3.lt
        have dsz := szF_tab ht
        clear hs2 b0 b1 b2 b3 b4
        replace hd := Lib.hid hd; replace ht := Lib.hid ht; replace hs3 := Lib.hid hs3; replace hA3 := Lib.hid hA3; replace hS3 := Lib.hid hS3; replace hM3 := Lib.hid hM3; replace dsz := Lib.hid dsz
        go_upto_region 14 with fail
        have k10 := heap_new w2 (.cells #[.int .i64 d.n, .slice d.a d.L.length d.cap, .int .i64 d.r] 45)
        have m10 : m < w2.heap.size ∧ w.heap.size < w2.heap.size ∧ b < w2.heap.size := ⟨ml3, al3, el⟩
        refine wp_region_sched (L3 b w.heap.size w2.heap.size) [0, 0, 0, 1, 1, 0, 1, 0, 3] [0, 1, 2, 5, 3, 4, 6, 7, 8] (by kernel_rfl) (by kernel_rfl) ?_
        (first | (refine sched_w rfl rfl (fun _ hK => ?_); go_simp; refine hK _ ?_; clear hK) | (refine sched_s rfl rfl (fun _ hK => ?_); go_simp; first | (refine hK _ ?_; clear hK) | (refine ⟨_, fun _ => rfl, hK _ ?_⟩; clear hK)))
        (first | (refine sched_w rfl rfl (fun _ hK => ?_); go_simp; refine hK _ ?_; clear hK) | (refine sched_s rfl rfl (fun _ hK => ?_); go_simp; first | (refine hK _ ?_; clear hK) | (refine ⟨_, fun _ => rfl, hK _ ?_⟩; clear hK)))
        (first | (refine sched_w rfl rfl (fun _ hK => ?_); go_simp; refine hK _ ?_; clear hK) | (refine sched_s rfl rfl (fun _ hK => ?_); go_simp; first | (refine hK _ ?_; clear hK) | (refine ⟨_, fun _ => rfl, hK _ ?_⟩; clear hK)))
        (first | (refine sched_w rfl rfl (fun _ hK => ?_); go_simp; refine hK _ ?_; clear hK) | (refine sched_s rfl rfl (fun _ hK => ?_); go_simp; first | (refine hK _ ?_; clear hK) | (refine ⟨_, fun _ => rfl, hK _ ?_⟩; clear hK)))
        (first | (refine sched_w rfl rfl (fun _ hK => ?_); go_simp; refine hK _ ?_; clear hK) | (refine sched_s rfl rfl (fun _ hK => ?_); go_simp; first | (refine hK _ ?_; clear hK) | (refine ⟨_, fun _ => rfl, hK _ ?_⟩; clear hK)))
        refine sched_val rfl rfl rfl (.agg (i8Cells (keyF o).1).toArray) (fun g => exec_load_row 120 (.tmp 5) rfl w.heap.size rfl 120 _ (0, 0) _ ((g.heap w.heap.size (by simp; omega) (by simp [L3])).trans (hA3.out.same (by repeat (first | exact Fr.refl _ _ | apply Fr.undrew | apply Fr.undrewN | apply Fr.drew | apply Fr.drewN | apply Fr.alloc)))) a_i8 rfl (by rw [size40b]; simp [i8_length, (keyF o).2])) ?_
        (try simp only [Act.put, List.setIfInBounds_toArray, List.set_cons_zero, List.set_cons_succ])
        (first | (refine sched_w rfl rfl (fun _ hK => ?_); go_simp; refine hK _ ?_; clear hK) | (refine sched_s rfl rfl (fun _ hK => ?_); go_simp; first | (refine hK _ ?_; clear hK) | (refine ⟨_, fun _ => rfl, hK _ ?_⟩; clear hK)))
        (first | (refine sched_w rfl rfl (fun _ hK => ?_); go_simp; refine hK _ ?_; clear hK) | (refine sched_s rfl rfl (fun _ hK => ?_); go_simp; first | (refine hK _ ?_; clear hK) | (refine ⟨_, fun _ => rfl, hK _ ?_⟩; clear hK)))
        refine sched_l rfl (by decide) (fun _ hK => ?_)
        refine step_mput rfl (.tmp 53) (.tmp 54) (.tmp 57) rfl key40 map40 m M rfl (hM3.out.of_block (Below.heap_alloc _ _ _ ml3)) (keyF o) rfl (d.L.length : Int) (by go_simp) (fun ob hob => ?_)
        refine hK _ _ ?_
        clear hK
        (try simp only [Act.put, List.setIfInBounds_toArray, List.set_cons_zero, List.set_cons_succ])
        refine sched_nil (NoPanic.normal ?_)
        have hw4 : (setObj (w2.alloc (.cells #[.int .i64 d.n, .slice d.a d.L.length d.cap, .int .i64 d.r] 45)).drew m ob).heap[w2.heap.size]? = some (.cells #[.int .i64 d.n, .slice d.a d.L.length d.cap, .int .i64 d.r] 45 (0, 0)) := by
          rw [heap_setObj_other (by omega)]; exact k10
        have hf4 : Fr (fun k => k = m) w2 (setObj (w2.alloc (.cells #[.int .i64 d.n, .slice d.a d.L.length d.cap, .int .i64 d.r] 45)).drew m ob) := (((Fr.refl _ _).alloc _).drew).setObj m ob (fun _ => rfl)
        have hS4 : Sz k t a cap L r b m (setObj (w2.alloc (.cells #[.int .i64 d.n, .slice d.a d.L.length d.cap, .int .i64 d.r] 45)).drew m ob) := sz_put hS3.out hMv.out ho.out dsz.out hf4 (map_none hS3.out.nds hM3.out _ hf4) hob
        change Exit.then _ _ Exit.normal (Act.mk _ _) _
        have hs4 : Fr (fun k => k = m) w (setObj (w2.alloc (.cells #[.int .i64 d.n, .slice d.a d.L.length d.cap, .int .i64 d.r] 45)).drew m ob) := Fr.trans (S := fun k => k = m) ((hs.out.same hs3.out).mono (fun _ _ h => h.elim)) hf4 (fun _ _ h => h)
        generalize hW4 : setObj (w2.alloc (.cells #[.int .i64 d.n, .slice d.a d.L.length d.cap, .int .i64 d.r] 45)).drew m ob = w4 at *
        have y0 := cell_at hw4 1
        have yl := lt_of_heap hw4
        clear hW4 hob e3
        replace hw4 := Lib.hid hw4; replace hf4 := Lib.hid hf4; replace hS4 := Lib.hid hS4; replace hs4 := Lib.hid hs4
        go_wp2_with fail
        go_ret
        exact ⟨by rw [← dsz.out]; rfl, hS4.out, hs4.out⟩
end Go.Proofs.Ytmmjijmmocabhaa
namespace Go.Proofs.Ytmmjijmmocabhaa
open Go.RowKit
set_option linter.unusedVariables false
set_option linter.unusedSimpArgs false

theorem IsOrd.perm {n : Nat} {o o' : List Int} (h : IsOrd n o) (hp : o'.Perm o) : IsOrd n o' :=
  ⟨h.n40, by rw [hp.length_eq, h.len], hp.nodup_iff.2 h.nodup, fun x hx => h.range x (hp.mem_iff.1 hx)⟩
theorem movF_perm {n : Nat} {o : List Int} (h : IsOrd n o) {v : Nat} (hv : v < n) (p : Nat) : (movF o v p).Perm o := by
  have h1 : (o.filter fun x => !(x == (v : Int))) = o.erase (v : Int) := by
    rw [h.nodup.erase_eq_filter]; rfl
  unfold movF
  rw [h1]
  refine List.perm_middle.trans ?_
  rw [List.take_append_drop]
  exact (List.perm_cons_erase (h.has hv)).symm
theorem movF_ord {n : Nat} {o : List Int} (h : IsOrd n o) {v : Nat} (hv : v < n) (p : Nat) : IsOrd n (movF o v p) := h.perm (movF_perm h hv p)

theorem szF_nonneg (n : Nat) (t : List Bool) (o : List Int) : 0 ≤ szF n t o := by unfold szF; omega

/-- The best order, of the first p positions of v, and its size (-1: none yet). -/
def bestF (n : Nat) (t : List Bool) (o : List Int) (v : Nat) : Nat → List Int × Int
  | 0 => (o, -1)
  | p + 1 => if (bestF n t o v p).2 < 0 ∨ szF n t (movF o v p) < (bestF n t o v p).2 then (movF o v p, szF n t (movF o v p)) else bestF n t o v p
def siftV (n : Nat) (t : List Bool) (o : List Int) (v : Nat) : List Int := (bestF n t o v n).1
def siftN (n : Nat) (t : List Bool) (o : List Int) : Nat → List Int
  | 0 => o
  | v + 1 => siftV n t (siftN n t o v) v
def siftF (n : Nat) (t : List Bool) (o : List Int) : List Int := siftN n t o n

theorem bestF_ord {n : Nat} {t : List Bool} {o : List Int} (h : IsOrd n o) {v : Nat} (hv : v < n) : ∀ p, IsOrd n (bestF n t o v p).1
  | 0 => h
  | p + 1 => by
    rw [bestF]
    split
    · exact movF_ord h hv p
    · exact bestF_ord h hv p
theorem siftN_ord {n : Nat} {t : List Bool} {o : List Int} (h : IsOrd n o) : ∀ v, v ≤ n → IsOrd n (siftN n t o v)
  | 0, _ => h
  | v + 1, hv => bestF_ord (siftN_ord h v (by omega)) (by omega) n
theorem siftF_ord {n : Nat} {t : List Bool} {o : List Int} (h : IsOrd n o) : IsOrd n (siftF n t o) := siftN_ord h n (Nat.le_refl _)

theorem bestF_size {n : Nat} {t : List Bool} {o : List Int} {v : Nat} : ∀ p, 0 < p → (bestF n t o v p).2 = szF n t (bestF n t o v p).1 ∧ ∀ q, q < p → szF n t (bestF n t o v p).1 ≤ szF n t (movF o v q)
  | 0, h => by omega
  | p + 1, _ => by
    have hz := szF_nonneg n t (movF o v p)
    rw [bestF]
    by_cases h0 : p = 0
    · subst h0
      rw [if_pos (.inl (by rw [bestF]; show (-1 : Int) < 0; decide))]
      exact ⟨rfl, fun q hq => by obtain rfl : q = 0 := by omega
                                 exact Int.le_refl _⟩
    · obtain ⟨i1, i2⟩ := bestF_size (n := n) (t := t) (o := o) (v := v) p (by omega)
      have hb := szF_nonneg n t (bestF n t o v p).1
      split
      · rename_i h
        rcases h with h | h
        · omega
        · refine ⟨rfl, fun q hq => ?_⟩
          by_cases e : q = p
          · subst e; exact Int.le_refl _
          · have := i2 q (by omega); simp only; omega
      · rename_i h
        refine ⟨i1, fun q hq => ?_⟩
        by_cases e : q = p
        · subst e; omega
        · exact i2 q (by omega)

/-! ### rows beside a map -/
theorem RowAt.map {w w' : World} {v : Value} {n m : Nat} {cells : List Value} (h : RowAt w v n cells) (hm : ∃ es c, w.heap[m]? = some (.map es c)) (hf : Fr (fun k => k = m) w w') : RowAt w' v n cells := by
  obtain ⟨hl, a, cap, he, h1, h2, h3, h4⟩ := h
  refine ⟨hl, a, cap, he, h1, h2, h3, fun hn => ?_⟩
  obtain ⟨b, off, ha, hb, hc⟩ := h4 hn
  have hne : b ≠ m := by
    rintro rfl
    obtain ⟨es, c, hm⟩ := hm
    obtain ⟨u, hu⟩ : ∃ u, cells[0]? = some u := by
      cases cells with
      | nil => simp at hl; omega
      | cons u l => exact ⟨u, rfl⟩
    have := hc 0 _ hu
    rw [World.cell?, hm] at this
    cases this
  refine ⟨b, off, ha, Nat.lt_of_lt_of_le hb hf.size, fun j u hu => ?_⟩
  rw [← hc j u hu]
  simp [World.cell?, hf.block b hb hne]
theorem Sz.isMap {n : Nat} {t : List Bool} {a : Option Addr} {cap : Nat} {L : List Nd} {r : Int} {b m : Nat} {w : World} (h : Sz n t a cap L r b m w) : ∃ es c, w.heap[m]? = some (.map es c) := by
  obtain ⟨M, ⟨es, c, h1, _⟩, _⟩ := h.map
  exact ⟨es, c, h1⟩
theorem owns_map {w w' : World} {base : Nat} {T : TypeId} {sz : Nat} {v : Value} {n m : Nat} {xs : List Value} (h : w.ownsRow base T sz v n xs) (hm : ∃ es c, w.heap[m]? = some (.map es c)) (hf : Fr (fun k => k = m) w w') : w'.ownsRow base T sz v n xs :=
  owns_fr h hf (fun k hk e => by
    subst e
    obtain ⟨cur, hc⟩ := own_block h hk
    obtain ⟨es, c, hm⟩ := hm
    rw [hm] at hc
    cases hc)
theorem Sz.frm {n : Nat} {t : List Bool} {a : Option Addr} {cap : Nat} {L : List Nd} {r : Int} {b m : Nat} {w w' : World} (h : Sz n t a cap L r b m w) (hs : Same w w') : Fr (fun k => k = m) w w' := hs.mono (fun _ _ f => f.elim)
theorem OwnI.up {w : World} {base base' g cap n : Nat} {l : List Int} (h : OwnI w base' g cap l) (hb : base ≤ base') (hn : l.length = n) : w.ownsRow base 3 1 (.slice (some ⟨g, 0, none⟩) n cap) n (intCells l) := (h.base hb).owns hn
end Go.Proofs.Ytmmjijmmocabhaa
namespace Go.Proofs.Ytmmjijmmocabhaa
open Go.RowKit
set_option linter.unusedVariables false
set_option linter.unusedSimpArgs false

/-- A row of the call's own beside the sizes. -/
structure Own2 (n : Nat) (t : List Bool) (a : Option Addr) (cap : Nat) (L : List Nd) (r : Int) (b m : Nat) (w wr : World) : Prop where
  sz : Sz n t a cap L r b m wr
  fr : Fr (fun k => k = m) w wr
theorem Own2.same {n : Nat} {t : List Bool} {a : Option Addr} {cap : Nat} {L : List Nd} {r : Int} {b m : Nat} {w wr W : World} (h : Own2 n t a cap L r b m w wr) (hs : Same wr W) : Own2 n t a cap L r b m w W := ⟨h.sz.same hs, h.fr.same hs⟩
theorem Own2.put {n : Nat} {t : List Bool} {a : Option Addr} {cap : Nat} {L : List Nd} {r : Int} {b m : Nat} {w wr W : World} (h : Own2 n t a cap L r b m w wr) (hz : Sz n t a cap L r b m W) (hf : Fr (fun k => k = m) wr W) : Own2 n t a cap L r b m w W := ⟨hz, h.fr.trans hf (fun _ _ e => e)⟩
def RowO (base n : Nat) (v : Value) (o : List Int) (w : World) : Prop := ∃ a c, v = .slice a n c ∧ w.ownsRow base 3 1 (.slice a n c) n (intCells o)
theorem RowO.same {base n : Nat} {v : Value} {o : List Int} {w W : World} (h : RowO base n v o w) (hs : Same w W) : RowO base n v o W := by
  obtain ⟨a, c, e, h⟩ := h; exact ⟨a, c, e, owns_same h hs⟩
theorem RowO.map {base n m : Nat} {v : Value} {o : List Int} {w W : World} (h : RowO base n v o w) (hm : ∃ es c, w.heap[m]? = some (.map es c)) (hf : Fr (fun k => k = m) w W) : RowO base n v o W := by
  obtain ⟨a, c, e, h⟩ := h; exact ⟨a, c, e, owns_map h hm hf⟩
theorem own_rowAt {base n : Nat} {a : Option Addr} {c : Nat} {o : List Int} {w : World} (h : w.ownsRow base 3 1 (.slice a n c) n (intCells o)) : RowAt w (.slice a n c) n (intCells o) := (SliceAt.of_owns h).row

def SiftR (n : Nat) (t : List Bool) (a : Option Addr) (cap : Nat) (L : List Nd) (r : Int) (b m : Nat) (o : List Int) (w : World) (e : Ending) (w' : World) : Prop :=
  ∃ ao co, e = .returned (.tuple #[.slice ao n co, .int .i64 (szF n t o)]) ∧ w'.ownsRow w.heap.size 3 1 (.slice ao n co) n (intCells o) ∧ Sz n t a cap L r b m w' ∧ Fr (fun k => k = m) w w'

set_option maxRecDepth 100000 in
set_option maxHeartbeats 4000000 in
theorem sift_any {n : Nat} {t : List Bool} {L : List Nd} {r : Int} {o : List Int} (hn : n ≤ 10) (hT : IsTab n t L r) (ho : IsOrd n o) (a : Option Addr) (cap : Nat) (ao : Option Addr) (co b m : Nat) (w : World)
    (hS : Sz n t a cap L r b m w) (hO : RowAt w (.slice ao n co) n (intCells o)) :
    Calls Try.prog 68 #[.pointer (some ⟨b, 0, none⟩), .slice ao n co] w (SiftR n t a cap L r b m (siftF n t o) w) := by
  have OF := fun (o' : List Int) (ho' : IsOrd n o') ao' co' W hS' hO' => of_any hn hT ho' a cap ao' co' b m W hS' hO'
  have hqn : n ≤ 1000000 := by omega
  replace hO := Lib.hid hO; replace ho := Lib.hid ho; replace hS := Lib.hid hS; replace hT := Lib.hid hT; replace OF := Lib.hid OF
  go_enter Try.func68, Try.ntmps68
  go_wp2_with fail
  refine (cloneI_any o ao co n _ ho.out.len hO.out hqn).mono ?_
  rintro e w1 ⟨a1, c1, rfl, hI, hs⟩
  have hW1 : Own2 n t a cap L r b m w w1 := ⟨hS.out.same hs, hS.out.frm hs⟩
  have hR1 : RowO w.heap.size n (.slice a1 n c1) (siftN n t o 0) w1 := ⟨a1, c1, rfl, hI⟩
  have b0 := cell_at hW1.sz.box 0
  have bl := lt_of_heap hW1.sz.box
  replace hI := Lib.hid hI; replace hs := Lib.hid hs; replace hW1 := Lib.hid hW1; replace hR1 := Lib.hid hR1
  go_wp2_with fail
  clear b0 bl
  go_loopw [1, 20] (fun v1 i wr => ∃ v : Nat, i = .int .i64 v ∧ v ≤ n ∧ RowO w.heap.size n v1 (siftN n t o v) wr ∧ Own2 n t a cap L r b m w wr) (fun _ i _ => n - (intOf i).toNat)
  case atStart => exact ⟨0, rfl, by omega, hR1.out, hW1.out⟩
  case round =>
    obtain ⟨v, rfl, hv, ⟨a2, c2, rfl, hR⟩, hW⟩ := hrel
    have ho2 := siftN_ord (t := t) ho.out v hv
    by_cases hlt : v < n
    · obtain ⟨x, hx⟩ : ∃ x, x = siftN n t o v := ⟨_, rfl⟩
      rw [← hx] at hR ho2
      replace hR := Lib.hid hR; replace hW := Lib.hid hW; replace ho2 := Lib.hid ho2; replace hx := Lib.hid hx
      go_wp2_with fail
      obtain ⟨wo, rfl⟩ : ∃ wo, wo = wr := ⟨_, rfl⟩
      go_loopw [7, 8, 26] (fun v7 v8 i wr => ∃ p : Nat, i = .int .i64 p ∧ p ≤ n ∧ v8 = .int .i64 (bestF n t x v p).2 ∧ RowO w.heap.size n v7 (bestF n t x v p).1 wr ∧ wr.ownsRow w.heap.size 3 1 (.slice a2 n c2) n (intCells x) ∧ Own2 n t a cap L r b m w wr) (fun _ _ i _ => n - (intOf i).toNat)
      case atStart => exact ⟨0, rfl, by omega, rfl, ⟨a2, c2, rfl, hR.out⟩, hR.out, hW.out⟩
      case round =>
        clear hR hW
        obtain ⟨p, rfl, hp, rfl, ⟨a7, c7, rfl, hB⟩, hR, hW⟩ := hrel
        by_cases hpt : p < n
        · obtain ⟨y, hy⟩ : ∃ y, y = movF x v p := ⟨_, rfl⟩
          have hyo : IsOrd n y := by rw [hy]; exact movF_ord ho2.out hlt p
          have hyl := hyo.len
          have MV := move_any ho2.out v p hlt hpt a2 c2 wr (own_rowAt hR)
          unfold MovRet at MV
          rw [← hy] at MV
          have hbs : bestF n t x v (p + 1) = if (bestF n t x v p).2 < 0 ∨ szF n t y < (bestF n t x v p).2 then (y, szF n t y) else bestF n t x v p := by rw [bestF, ← hy]
          generalize bestF n t x v p = B at *
          obtain ⟨B1, B2⟩ := B
          simp only at hbs
          replace hB := Lib.hid hB; replace hR := Lib.hid hR; replace hW := Lib.hid hW; replace hy := Lib.hid hy; replace hyo := Lib.hid hyo; replace hyl := Lib.hid hyl; replace MV := Lib.hid MV; replace hbs := Lib.hid hbs
          go_wp2_with fail
          refine MV.out.mono ?_
          rintro e w2 ⟨g, c, rfl, hI2, hs2⟩
          have hW2 := hW.out.same hs2
          have hB2 := owns_same hB.out hs2
          have hR2 := owns_same hR.out hs2
          have hy2 := hI2.up (base := w.heap.size) hW.out.fr.size hyl.out
          replace hI2 := Lib.hid hI2; replace hs2 := Lib.hid hs2; replace hW2 := Lib.hid hW2; replace hB2 := Lib.hid hB2; replace hR2 := Lib.hid hR2; replace hy2 := Lib.hid hy2
          go_wp2_with fail
          refine (OF.out y hyo.out _ _ _ hW2.out.sz (own_rowAt hy2.out)).mono ?_
          rintro e w3 ⟨rfl, hS3, hf3⟩
          have hM := hW2.out.sz.isMap
          have hW3 := hW2.out.put hS3 hf3
          have hB3 := owns_map hB2.out hM hf3
          have hR3 := owns_map hR2.out hM hf3
          have hy3 := owns_map hy2.out hM hf3
          have e4 := cell_at hS3.box 4
          have el := lt_of_heap hS3.box
          clear hf3 hM
          replace hS3 := Lib.hid hS3; replace hW3 := Lib.hid hW3; replace hB3 := Lib.hid hB3; replace hR3 := Lib.hid hR3; replace hy3 := Lib.hid hy3
          generalize szF n t y = s at *
          by_cases h1 : B2 < 0
          · rw [if_pos (.inl h1)] at hbs
            replace hbs := Lib.hid hbs
            go_wp2_with fail
            go_roundw
            case rel => exact ⟨p + 1, by go_num, by omega, by rw [hbs.out], ⟨some ⟨g, 0, none⟩, c, rfl, by rw [hbs.out]; exact hy3.out⟩, hR3.out, hW3.out⟩
            case measure => simp [intOf]; omega
          · by_cases h2 : s < B2
            · rw [if_pos (.inr h2)] at hbs
              replace hbs := Lib.hid hbs
              go_wp2_with fail
              go_roundw
              case rel => exact ⟨p + 1, by go_num, by omega, by rw [hbs.out], ⟨some ⟨g, 0, none⟩, c, rfl, by rw [hbs.out]; exact hy3.out⟩, hR3.out, hW3.out⟩
              case measure => simp [intOf]; omega
            · rw [if_neg (by omega)] at hbs
              replace hbs := Lib.hid hbs
              go_wp2_with fail
              go_roundw
              case rel => exact ⟨p + 1, by go_num, by omega, by rw [hbs.out], ⟨a7, c7, rfl, by rw [hbs.out]; exact hB3.out⟩, hR3.out, hW3.out⟩
              case measure => simp [intOf]; omega
        · obtain rfl : p = n := by omega
          have hnx : siftN p t o (v + 1) = (bestF p t x v p).1 := by rw [siftN, ← hx.out]; rfl
          replace hB := Lib.hid hB; replace hR := Lib.hid hR; replace hW := Lib.hid hW; replace hnx := Lib.hid hnx
          go_wp2_with fail
          go_roundw
          case rel => exact ⟨v + 1, by go_num, by omega, ⟨a7, c7, rfl, by rw [hnx.out]; exact hB.out⟩, hW.out⟩
          case measure => simp [intOf]; omega
    · obtain rfl : v = n := by omega
      obtain ⟨x, hx⟩ : ∃ x, x = siftF v t o := ⟨_, rfl⟩
      rw [show siftN v t o v = x by rw [hx]; rfl] at hR ho2
      replace hR := Lib.hid hR; replace hW := Lib.hid hW; replace ho2 := Lib.hid ho2; replace hx := Lib.hid hx
      go_wp2_with fail
      refine (OF.out x ho2.out _ _ _ hW.out.sz (own_rowAt hR.out)).mono ?_
      rintro e w3 ⟨rfl, hS3, hf3⟩
      have hR3 := owns_map hR.out hW.out.sz.isMap hf3
      have hW3 := hW.out.put hS3 hf3
      have e4 := cell_at hS3.box 4
      have el := lt_of_heap hS3.box
      clear hf3
      replace hS3 := Lib.hid hS3; replace hR3 := Lib.hid hR3; replace hW3 := Lib.hid hW3
      go_wp2_with fail
      go_ret2
      exact ⟨a2, c2, by rw [← hx.out]; rfl, by rw [← hx.out]; exact hR3.out, hW3.out.sz, hW3.out.fr⟩
end Go.Proofs.Ytmmjijmmocabhaa
namespace Go.Proofs.Ytmmjijmmocabhaa
open Go.RowKit
set_option linter.unusedVariables false
set_option linter.unusedSimpArgs false

def errF (c n : Int) (o : List Int) : Int := if c ≠ 0 then c else ordErr n o

set_option maxRecDepth 100000 in
set_option maxHeartbeats 1000000 in
theorem fcheck_any (n r c : Int) (a ao : Option Addr) (q cap k co : Nat) (o : List Int) (w : World) (CK : ∀ W, Same w W → Calls Try.prog 45 #[.agg #[.int .i64 n, .slice a q cap, .int .i64 r]] W fun e w' => e = .returned (.int .i64 c) ∧ Same W w')
    (hk : o.length = k) (hO : RowAt w (.slice ao k co) k (intCells o)) (hl : k ≤ 1000000) :
    Calls Try.prog 54 #[.agg #[.int .i64 n, .slice a q cap, .int .i64 r], .slice ao k co] w fun e w' => e = .returned (.int .i64 (errF c n o)) ∧ Same w w' := by
  obtain ⟨E, hE⟩ : ∃ E, E = errF c n o := ⟨_, rfl⟩
  rw [← hE]
  unfold errF at hE
  have OC := fun W (hW : Same w W) => ocheck_any o n ao co k W hk (hO.same hW) hl
  by_cases h0 : c = 0
  · rw [if_neg (by simpa using h0)] at hE
    rw [← hE] at OC
    have hb : (c != 0) = false := by simpa using h0
    clear h0
    replace CK := Lib.hid CK; replace hE := Lib.hid hE; replace OC := Lib.hid OC; replace hO := Lib.hid hO; replace hk := Lib.hid hk
    go_enter Try.func54, Try.ntmps54
    go_wp2_with fail
    refine (CK.out _ (by repeat (first | exact Fr.refl _ _ | apply Fr.alloc | apply Fr.drewN | apply Fr.drew | apply Fr.undrew | apply Fr.undrewN))).mono ?_
    rintro e w1 ⟨rfl, hs⟩
    have hs1 : Same w w1 := (show Same w _ from (by repeat (first | exact Fr.refl _ _ | apply Fr.alloc | apply Fr.drewN | apply Fr.drew | apply Fr.undrew | apply Fr.undrewN))).same hs
    have kb := hs.at (heap_new w _) id
    have k0 := cell_at kb 0
    have kl := lt_of_heap kb
    replace hs := Lib.hid hs; replace hs1 := Lib.hid hs1; replace kb := Lib.hid kb
    go_wp2_with fail
    refine (OC.out _ hs1.out).mono ?_
    rintro e w2 ⟨rfl, hs2⟩
    have hs3 := hs1.out.same hs2
    replace hs2 := Lib.hid hs2; replace hs3 := Lib.hid hs3
    go_wp2_with fail
    go_ret
    exact ⟨rfl, hs3.out⟩
  · rw [if_pos h0] at hE
    subst hE
    have hb : (E != 0) = true := by simpa using h0
    replace CK := Lib.hid CK; replace OC := Lib.hid OC; replace hO := Lib.hid hO; replace hk := Lib.hid hk; replace h0 := Lib.hid h0
    go_enter Try.func54, Try.ntmps54
    go_wp2_with fail
    refine (CK.out _ (by repeat (first | exact Fr.refl _ _ | apply Fr.alloc | apply Fr.drewN | apply Fr.drew | apply Fr.undrew | apply Fr.undrewN))).mono ?_
    rintro e w1 ⟨rfl, hs⟩
    have hs1 : Same w w1 := (show Same w _ from (by repeat (first | exact Fr.refl _ _ | apply Fr.alloc | apply Fr.drewN | apply Fr.drew | apply Fr.undrew | apply Fr.undrewN))).same hs
    replace hs := Lib.hid hs; replace hs1 := Lib.hid hs1
    go_wp2_with fail
    go_ret
    exact ⟨rfl, hs1.out⟩

/-- What check answers, wherever it is asked. -/
def ChkIs (n r E : Int) (a ao : Option Addr) (q cap k co : Nat) (w : World) : Prop :=
  ∀ W, Same w W → Calls Try.prog 54 #[.agg #[.int .i64 n, .slice a q cap, .int .i64 r], .slice ao k co] W fun e w' => e = .returned (.int .i64 E) ∧ Same W w'

/-! ### Permute -/
set_option maxRecDepth 100000 in
set_option maxHeartbeats 1000000 in
theorem Permute_bad (n r E : Int) (a ao : Option Addr) (q cap k co : Nat) (w : World) (h : ChkIs n r E a ao q cap k co w) (h0 : E ≠ 0) :
    Calls Try.prog 24 #[.agg #[.int .i64 n, .slice a q cap, .int .i64 r], .slice ao k co] w (DErr w E) := by
  have hb : (E != 0) = true := by simpa using h0
  unfold ChkIs at h
  replace h := Lib.hid h; replace h0 := Lib.hid h0
  go_enter Try.func24, Try.ntmps24
  go_wp2_with fail
  refine (h.out _ (by repeat (first | exact Fr.refl _ _ | apply Fr.alloc | apply Fr.drewN | apply Fr.drew | apply Fr.undrew | apply Fr.undrewN))).mono ?_
  rintro e w1 ⟨rfl, hs'⟩
  have kt := hs'.at (heap_new_at (w := w.alloc (.cells #[.int .i64 n, .slice a q cap, .int .i64 r] 45)) (by simp) (.cells #[.int .i64 0, .slice none 0 0, .int .i64 0] 45)) id (k := w.heap.size + 1)
  have hs : Same w w1 := (show Same w _ from (by repeat (first | exact Fr.refl _ _ | apply Fr.alloc | apply Fr.drewN | apply Fr.drew | apply Fr.undrew | apply Fr.undrewN))).same hs'
  clear hs'
  obtain ⟨⟨t0, t1, t2, f0, f1, f2, tb⟩, d0, d1, d2, hF, hK, hSl⟩ := res3 (a := .int .i64 0) (c := .slice none 0 0) (d := .int .i64 0) kt hs (by omega); replace hF := Lib.hid hF; replace hK := Lib.hid hK; replace hSl := Lib.hid hSl; replace kt := Lib.hid kt; replace hs := Lib.hid hs
  go_wp2_with fail
  refine bodyPost_ret (v := .tuple #[.agg #[.int .i64 0, .slice none 0 0, .int .i64 0], .int .i64 E]) (by simp [results, Try.results24, go_sem, d0, d1, d2]) rfl ?_
  exact ⟨rfl, hF.out⟩

set_option maxRecDepth 100000 in
set_option maxHeartbeats 1000000 in
theorem Permute_ok {n : Nat} {t : List Bool} {L : List Nd} {r : Int} {o : List Int} (hn : n ≤ 10) (hT : IsTab n t L r) (ho : IsOrd n o) (a : Option Addr) (cap : Nat) (ao : Option Addr) (co : Nat) (w : World)
    (hL : NodesAt w a L cap) (hO : RowAt w (.slice ao n co) n (intCells o)) (h : ChkIs n r 0 a ao L.length cap n co w) :
    Calls Try.prog 24 #[.agg #[.int .i64 n, .slice a L.length cap, .int .i64 r], .slice ao n co] w (DgR n (permT o n t) w) := by
  have PE := fun W (hW : Same w W) => permute_any hn hT ho a cap ao co W (hL.same hW) (hO.same hW)
  obtain ⟨q, hq⟩ : ∃ q, L.length = q := ⟨_, rfl⟩
  unfold ChkIs at h
  rw [hq] at PE h ⊢
  replace h := Lib.hid h; replace PE := Lib.hid PE; replace hq := Lib.hid hq; replace hL := Lib.hid hL; replace hO := Lib.hid hO; replace hT := Lib.hid hT; replace ho := Lib.hid ho
  go_enter Try.func24, Try.ntmps24
  go_wp2_with fail
  refine (h.out _ (by repeat (first | exact Fr.refl _ _ | apply Fr.alloc | apply Fr.drewN | apply Fr.drew | apply Fr.undrew | apply Fr.undrewN))).mono ?_
  rintro e w1 ⟨rfl, hs'⟩
  have kt := hs'.at (heap_new_at (w := w.alloc (.cells #[.int .i64 n, .slice a q cap, .int .i64 r] 45)) (by simp) (.cells #[.int .i64 0, .slice none 0 0, .int .i64 0] 45)) id (k := w.heap.size + 1)
  have kb := hs'.at (heap_old (heap_new w (.cells #[.int .i64 n, .slice a q cap, .int .i64 r] 45)) _) id
  have hs : Same w w1 := (show Same w _ from (by repeat (first | exact Fr.refl _ _ | apply Fr.alloc | apply Fr.drewN | apply Fr.drew | apply Fr.undrew | apply Fr.undrewN))).same hs'
  have e0 := cell_at kb 0
  have e1 := cell_at kb 1
  have e2 := cell_at kb 2
  have el := lt_of_heap kb
  clear hs'
  replace hs := Lib.hid hs; replace kt := Lib.hid kt; replace kb := Lib.hid kb
  go_wp2_with fail
  refine (PE.out _ hs.out).mono ?_
  rintro e w2 ⟨d, rfl, hd, ht, hs2⟩
  have kt' := hs2.at kt.out id
  have hs3 := hs.out.same hs2
  clear hs e0 e1 e2 el kb kt hs2
  have hs := hs3
  have kt := kt'
  clear hs3 kt'
  replace hd := Lib.hid hd; replace ht := Lib.hid ht
  obtain ⟨⟨t0, t1, t2, f0, f1, f2, tb⟩, d0, d1, d2, hF, hK, hSl⟩ := res3 (a := .int .i64 d.n) (c := .slice d.a d.L.length d.cap) (d := .int .i64 d.r) kt hs (by omega); replace hF := Lib.hid hF; replace hK := Lib.hid hK; replace hSl := Lib.hid hSl; replace kt := Lib.hid kt; replace hs := Lib.hid hs
  go_wp2_with fail
  refine bodyPost_ret (v := .tuple #[.agg #[.int .i64 d.n, .slice d.a d.L.length d.cap, .int .i64 d.r], .int .i64 0]) (by simp [results, Try.results24, go_sem, d0, d1, d2]) rfl ?_
  exact ⟨d, rfl, hSl.out _ _ _ _ _ hd.out (by decide), ht.out, hF.out⟩

/-! ### Size -/
set_option maxRecDepth 100000 in
set_option maxHeartbeats 1000000 in
theorem Size_bad (n r E : Int) (a ao : Option Addr) (q cap k co : Nat) (w : World) (h : ChkIs n r E a ao q cap k co w) (h0 : E ≠ 0) :
    Calls Try.prog 25 #[.agg #[.int .i64 n, .slice a q cap, .int .i64 r], .slice ao k co] w fun e w' => e = .returned (.tuple #[.int .i64 0, .int .i64 E]) ∧ Same w w' := by
  have hb : (E != 0) = true := by simpa using h0
  unfold ChkIs at h
  replace h := Lib.hid h; replace h0 := Lib.hid h0
  go_enter Try.func25, Try.ntmps25
  go_wp2_with fail
  refine (h.out _ (by repeat (first | exact Fr.refl _ _ | apply Fr.alloc | apply Fr.drewN | apply Fr.drew | apply Fr.undrew | apply Fr.undrewN))).mono ?_
  rintro e w1 ⟨rfl, hs'⟩
  have hs : Same w w1 := (show Same w _ from (by repeat (first | exact Fr.refl _ _ | apply Fr.alloc | apply Fr.drewN | apply Fr.drew | apply Fr.undrew | apply Fr.undrewN))).same hs'
  clear hs'
  replace hs := Lib.hid hs
  go_wp2_with fail
  go_ret2
  exact ⟨rfl, hs.out⟩

theorem new_map {n : Nat} {t : List Bool} {a : Option Addr} {cap : Nat} {L : List Nd} {r : Int} {b m : Nat} {w w1 : World} (hs : Same w w1) (hm : w.heap.size ≤ m) {W : World} (hf : Fr (fun k => k = m) w1 W) : Same w W := hs.trans hf (fun i hi e => by have : i = m := e; omega)

set_option maxRecDepth 100000 in
set_option maxHeartbeats 1000000 in
theorem Size_ok {n : Nat} {t : List Bool} {L : List Nd} {r : Int} {o : List Int} (hn : n ≤ 10) (hT : IsTab n t L r) (ho : IsOrd n o) (a : Option Addr) (cap : Nat) (ao : Option Addr) (co : Nat) (w : World)
    (hL : NodesAt w a L cap) (hO : RowAt w (.slice ao n co) n (intCells o)) (h : ChkIs n r 0 a ao L.length cap n co w) :
    Calls Try.prog 25 #[.agg #[.int .i64 n, .slice a L.length cap, .int .i64 r], .slice ao n co] w fun e w' => e = .returned (.tuple #[.int .i64 (szF n t o), .int .i64 0]) ∧ Same w w' := by
  have NS := fun W (hW : Same w W) => newSizes_any n t a cap L r W (hL.same hW)
  have OF := fun b m W (hS : Sz n t a cap L r b m W) hO => of_any hn hT ho a cap ao co b m W hS hO
  obtain ⟨q, hq⟩ : ∃ q, L.length = q := ⟨_, rfl⟩
  unfold ChkIs at h
  rw [hq] at NS h ⊢
  replace h := Lib.hid h; replace NS := Lib.hid NS; replace OF := Lib.hid OF; replace hq := Lib.hid hq; replace hL := Lib.hid hL; replace hO := Lib.hid hO; replace hT := Lib.hid hT; replace ho := Lib.hid ho
  go_enter Try.func25, Try.ntmps25
  go_wp2_with fail
  refine (h.out _ (by repeat (first | exact Fr.refl _ _ | apply Fr.alloc | apply Fr.drewN | apply Fr.drew | apply Fr.undrew | apply Fr.undrewN))).mono ?_
  rintro e w1 ⟨rfl, hs'⟩
  have kb := hs'.at (heap_new w (.cells #[.int .i64 n, .slice a q cap, .int .i64 r] 45)) id
  have hs : Same w w1 := (show Same w _ from (by repeat (first | exact Fr.refl _ _ | apply Fr.alloc | apply Fr.drewN | apply Fr.drew | apply Fr.undrew | apply Fr.undrewN))).same hs'
  have e0 := cell_at kb 0
  have e1 := cell_at kb 1
  have e2 := cell_at kb 2
  have el := lt_of_heap kb
  clear hs'
  replace hs := Lib.hid hs; replace kb := Lib.hid kb
  go_wp2_with fail
  refine (NS.out _ hs.out).mono ?_
  rintro e w2 ⟨b, m, rfl, hS, hb, hm, hs2⟩
  have hs3 := hs.out.same hs2
  have hm3 : w.heap.size ≤ m := Nat.le_trans hs.out.size hm
  clear e0 e1 e2 el hb hm
  replace hS := Lib.hid hS; replace hs2 := Lib.hid hs2; replace hs3 := Lib.hid hs3
  go_wp2_with fail
  refine (OF.out b m _ hS.out (hO.out.same hs3.out)).mono ?_
  rintro e w3 ⟨rfl, hS3, hf3⟩
  have hs4 : Same w w3 := hs3.out.trans hf3 (fun i hi e => by have : i = m := e; omega)
  have e4 := cell_at hS3.box 4
  have el := lt_of_heap hS3.box
  clear hf3
  replace hS3 := Lib.hid hS3; replace hs4 := Lib.hid hs4
  go_upto_region 6 with fail
  refine wp_region_sched (Lk b) [0, 0, 0, 0, 1, 0, 0] [0, 1, 2, 3, 5, 4, 6] (by kernel_rfl) (by kernel_rfl) ?_
  repeat (first | (refine sched_w rfl rfl (fun _ hK => ?_); go_simp; refine hK _ ?_; clear hK) | (refine sched_s rfl rfl (fun _ hK => ?_); go_simp; first | (refine hK _ ?_; clear hK) | (refine ⟨_, fun _ => rfl, hK _ ?_⟩; clear hK)))
  refine sched_nil (NoPanic.normal ?_)
  go_wp2_with fail
  go_ret2
  exact ⟨rfl, hs4.out.same (by repeat (first | exact Fr.refl _ _ | apply Fr.undrew | apply Fr.undrewN | apply Fr.drew | apply Fr.drewN | apply Fr.alloc))⟩
end Go.Proofs.Ytmmjijmmocabhaa
namespace Go.Proofs.Ytmmjijmmocabhaa
open Go.RowKit
set_option linter.unusedVariables false
set_option linter.unusedSimpArgs false

/-- An order and its size, returned. -/
def OrdR (n : Nat) (o : List Int) (s : Int) (w : World) (e : Ending) (w' : World) : Prop :=
  ∃ ao co, e = .returned (.tuple #[.slice ao n co, .int .i64 s, .int .i64 0]) ∧ RowAt w' (.slice ao n co) n (intCells o) ∧ Same w w'
def OrdE (E : Int) (w : World) (e : Ending) (w' : World) : Prop := e = .returned (.tuple #[.slice none 0 0, .int .i64 0, .int .i64 E]) ∧ Same w w'

set_option maxRecDepth 100000 in
set_option maxHeartbeats 1000000 in
theorem Sift_bad (n r E : Int) (a ao : Option Addr) (q cap k co : Nat) (w : World) (h : ChkIs n r E a ao q cap k co w) (h0 : E ≠ 0) :
    Calls Try.prog 43 #[.agg #[.int .i64 n, .slice a q cap, .int .i64 r], .slice ao k co] w (OrdE E w) := by
  have hb : (E != 0) = true := by simpa using h0
  unfold ChkIs at h
  replace h := Lib.hid h; replace h0 := Lib.hid h0
  go_enter Try.func43, Try.ntmps43
  go_wp2_with fail
  refine (h.out _ (by repeat (first | exact Fr.refl _ _ | apply Fr.alloc | apply Fr.drewN | apply Fr.drew | apply Fr.undrew | apply Fr.undrewN))).mono ?_
  rintro e w1 ⟨rfl, hs'⟩
  have hs : Same w w1 := (show Same w _ from (by repeat (first | exact Fr.refl _ _ | apply Fr.alloc | apply Fr.drewN | apply Fr.drew | apply Fr.undrew | apply Fr.undrewN))).same hs'
  clear hs'
  replace hs := Lib.hid hs
  go_wp2_with fail
  go_ret3
  exact ⟨rfl, hs.out⟩

set_option maxRecDepth 100000 in
set_option maxHeartbeats 1000000 in
theorem Sift_ok {n : Nat} {t : List Bool} {L : List Nd} {r : Int} {o : List Int} (hn : n ≤ 10) (hT : IsTab n t L r) (ho : IsOrd n o) (a : Option Addr) (cap : Nat) (ao : Option Addr) (co : Nat) (w : World)
    (hL : NodesAt w a L cap) (hO : RowAt w (.slice ao n co) n (intCells o)) (h : ChkIs n r 0 a ao L.length cap n co w) :
    Calls Try.prog 43 #[.agg #[.int .i64 n, .slice a L.length cap, .int .i64 r], .slice ao n co] w (OrdR n (siftF n t o) (szF n t (siftF n t o)) w) := by
  have NS := fun W (hW : Same w W) => newSizes_any n t a cap L r W (hL.same hW)
  have OF := fun b m W (hS : Sz n t a cap L r b m W) hO => sift_any hn hT ho a cap ao co b m W hS hO
  obtain ⟨q, hq⟩ : ∃ q, L.length = q := ⟨_, rfl⟩
  unfold ChkIs at h
  rw [hq] at NS h ⊢
  replace h := Lib.hid h; replace NS := Lib.hid NS; replace OF := Lib.hid OF; replace hq := Lib.hid hq; replace hL := Lib.hid hL; replace hO := Lib.hid hO; replace hT := Lib.hid hT; replace ho := Lib.hid ho
  go_enter Try.func43, Try.ntmps43
  go_wp2_with fail
  refine (h.out _ (by repeat (first | exact Fr.refl _ _ | apply Fr.alloc | apply Fr.drewN | apply Fr.drew | apply Fr.undrew | apply Fr.undrewN))).mono ?_
  rintro e w1 ⟨rfl, hs'⟩
  have kb := hs'.at (heap_new w (.cells #[.int .i64 n, .slice a q cap, .int .i64 r] 45)) id
  have hs : Same w w1 := (show Same w _ from (by repeat (first | exact Fr.refl _ _ | apply Fr.alloc | apply Fr.drewN | apply Fr.drew | apply Fr.undrew | apply Fr.undrewN))).same hs'
  have e0 := cell_at kb 0
  have e1 := cell_at kb 1
  have e2 := cell_at kb 2
  have el := lt_of_heap kb
  clear hs'
  replace hs := Lib.hid hs; replace kb := Lib.hid kb
  go_wp2_with fail
  refine (NS.out _ hs.out).mono ?_
  rintro e w2 ⟨b, m, rfl, hS, hb, hm, hs2⟩
  have hs3 := hs.out.same hs2
  have hm3 : w.heap.size ≤ m := Nat.le_trans hs.out.size hm
  clear e0 e1 e2 el hb hm
  replace hS := Lib.hid hS; replace hs2 := Lib.hid hs2; replace hs3 := Lib.hid hs3
  go_wp2_with fail
  refine (OF.out b m _ hS.out (hO.out.same hs3.out)).mono ?_
  rintro e w3 ⟨a3, c3, rfl, hR3, hS3, hf3⟩
  have hs4 : Same w w3 := hs3.out.trans hf3 (fun i hi e => by have : i = m := e; omega)
  have hR4 := own_rowAt hR3
  have e4 := cell_at hS3.box 4
  have el := lt_of_heap hS3.box
  clear hf3 hR3
  replace hS3 := Lib.hid hS3; replace hs4 := Lib.hid hs4; replace hR4 := Lib.hid hR4
  go_upto_region 6 with fail
  refine wp_region_sched (Lk b) [0, 0, 0, 0, 0, 1, 0, 0, 0] [0, 1, 2, 3, 4, 6, 7, 5, 8] (by kernel_rfl) (by kernel_rfl) ?_
  repeat (first | (refine sched_w rfl rfl (fun _ hK => ?_); go_simp; refine hK _ ?_; clear hK) | (refine sched_s rfl rfl (fun _ hK => ?_); go_simp; first | (refine hK _ ?_; clear hK) | (refine ⟨_, fun _ => rfl, hK _ ?_⟩; clear hK)))
  refine sched_nil (NoPanic.normal ?_)
  go_wp2_with fail
  go_ret3
  exact ⟨a3, c3, rfl, hR4.out.same (by repeat (first | exact Fr.refl _ _ | apply Fr.undrew | apply Fr.undrewN | apply Fr.drew | apply Fr.drewN | apply Fr.alloc)), hs4.out.same (by repeat (first | exact Fr.refl _ _ | apply Fr.undrew | apply Fr.undrewN | apply Fr.drew | apply Fr.drewN | apply Fr.alloc))⟩

/-! ### Improve -/
/-- What Improve ends at: as long as sifting makes the size less. -/
def impF (n : Nat) (t : List Bool) : Nat → List Int → Int → List Int
  | 0, o, _ => o
  | f + 1, o, bf => if bf ≤ szF n t (siftF n t o) then siftF n t o else impF n t f (siftF n t o) (szF n t (siftF n t o))
theorem impF_fuel (n : Nat) (t : List Bool) : ∀ (f g : Nat) (o : List Int) (bf : Int), bf.toNat < f → bf.toNat < g → impF n t f o bf = impF n t g o bf
  | 0, _, _, _, h, _ => by omega
  | _ + 1, 0, _, _, _, h => by omega
  | f + 1, g + 1, o, bf, h1, h2 => by
    have hz := szF_nonneg n t (siftF n t o)
    rw [impF, impF]
    split
    · rfl
    · exact impF_fuel n t f g _ _ (by omega) (by omega)
def impE (n : Nat) (t : List Bool) (o : List Int) : List Int := impF n t ((szF n t o).toNat + 1) o (szF n t o)
theorem impF_step (n : Nat) (t : List Bool) (o : List Int) (bf : Int) (h : szF n t (siftF n t o) < bf) : impF n t (bf.toNat + 1) o bf = impF n t ((szF n t (siftF n t o)).toNat + 1) (siftF n t o) (szF n t (siftF n t o)) := by
  have hz := szF_nonneg n t (siftF n t o)
  rw [impF, if_neg (by omega)]
  exact impF_fuel n t _ _ _ _ (by omega) (by omega)

set_option maxRecDepth 100000 in
set_option maxHeartbeats 1000000 in
theorem Improve_bad (n r E : Int) (a ao : Option Addr) (q cap k co : Nat) (w : World) (h : ChkIs n r E a ao q cap k co w) (h0 : E ≠ 0) :
    Calls Try.prog 41 #[.agg #[.int .i64 n, .slice a q cap, .int .i64 r], .slice ao k co] w (OrdE E w) := by
  have hb : (E != 0) = true := by simpa using h0
  unfold ChkIs at h
  replace h := Lib.hid h; replace h0 := Lib.hid h0
  go_enter Try.func41, Try.ntmps41
  go_wp2_with fail
  refine (h.out _ (by repeat (first | exact Fr.refl _ _ | apply Fr.alloc | apply Fr.drewN | apply Fr.drew | apply Fr.undrew | apply Fr.undrewN))).mono ?_
  rintro e w1 ⟨rfl, hs'⟩
  have hs : Same w w1 := (show Same w _ from (by repeat (first | exact Fr.refl _ _ | apply Fr.alloc | apply Fr.drewN | apply Fr.drew | apply Fr.undrew | apply Fr.undrewN))).same hs'
  clear hs'
  replace hs := Lib.hid hs
  go_wp2_with fail
  go_ret3
  exact ⟨rfl, hs.out⟩

set_option maxRecDepth 100000 in
set_option maxHeartbeats 1000000 in
theorem Improve_ok {n : Nat} {t : List Bool} {L : List Nd} {r : Int} {o : List Int} (hn : n ≤ 10) (hT : IsTab n t L r) (ho : IsOrd n o) (a : Option Addr) (cap : Nat) (ao : Option Addr) (co : Nat) (w : World)
    (hL : NodesAt w a L cap) (hO : RowAt w (.slice ao n co) n (intCells o)) (h : ChkIs n r 0 a ao L.length cap n co w) :
    Calls Try.prog 41 #[.agg #[.int .i64 n, .slice a L.length cap, .int .i64 r], .slice ao n co] w (OrdR n (impE n t o) (szF n t (impE n t o)) w) := by
  have NS := fun W (hW : Same w W) => newSizes_any n t a cap L r W (hL.same hW)
  have OF := fun b m W (hS : Sz n t a cap L r b m W) hO => of_any hn hT ho a cap ao co b m W hS hO
  have SF := fun o' (ho' : IsOrd n o') ao' co' b m W (hS : Sz n t a cap L r b m W) hO => sift_any hn hT ho' a cap ao' co' b m W hS hO
  obtain ⟨q, hq⟩ : ∃ q, L.length = q := ⟨_, rfl⟩
  unfold ChkIs at h
  rw [hq] at NS h ⊢
  replace h := Lib.hid h; replace NS := Lib.hid NS; replace OF := Lib.hid OF; replace SF := Lib.hid SF; replace hq := Lib.hid hq; replace hL := Lib.hid hL; replace hO := Lib.hid hO; replace hT := Lib.hid hT; replace ho := Lib.hid ho
  go_enter Try.func41, Try.ntmps41
  go_wp2_with fail
  refine (h.out _ (by repeat (first | exact Fr.refl _ _ | apply Fr.alloc | apply Fr.drewN | apply Fr.drew | apply Fr.undrew | apply Fr.undrewN))).mono ?_
  rintro e w1 ⟨rfl, hs'⟩
  have kb := hs'.at (heap_new w (.cells #[.int .i64 n, .slice a q cap, .int .i64 r] 45)) id
  have hs : Same w w1 := (show Same w _ from (by repeat (first | exact Fr.refl _ _ | apply Fr.alloc | apply Fr.drewN | apply Fr.drew | apply Fr.undrew | apply Fr.undrewN))).same hs'
  have e0 := cell_at kb 0
  have e1 := cell_at kb 1
  have e2 := cell_at kb 2
  have el := lt_of_heap kb
  clear hs'
  replace hs := Lib.hid hs; replace kb := Lib.hid kb
  go_wp2_with fail
  refine (NS.out _ hs.out).mono ?_
  rintro e w2 ⟨b, m, rfl, hS, hb, hm, hs2⟩
  have hs3 := hs.out.same hs2
  have hm3 : w.heap.size ≤ m := Nat.le_trans hs.out.size hm
  clear e0 e1 e2 el hb hm
  replace hS := Lib.hid hS; replace hs2 := Lib.hid hs2; replace hs3 := Lib.hid hs3
  go_wp2_with fail
  refine (OF.out b m _ hS.out (hO.out.same hs3.out)).mono ?_
  rintro e w3 ⟨rfl, hS3, hf3⟩
  have hO3 := (hO.out.same hs3.out).map hS.out.isMap hf3
  have hs4 : Same w w3 := hs3.out.trans hf3 (fun i hi e => by have : i = m := e; omega)
  clear hf3
  obtain ⟨s0, hs0⟩ : ∃ s0, s0 = szF n t o := ⟨_, rfl⟩
  have hR : impF n t (s0.toNat + 1) o s0 = impE n t o := by rw [hs0]; rfl
  have hz0 : 0 ≤ s0 := by rw [hs0]; exact szF_nonneg _ _ _
  rw [← hs0]
  replace hS3 := Lib.hid hS3; replace hs4 := Lib.hid hs4; replace hO3 := Lib.hid hO3; replace hR := Lib.hid hR; replace hs0 := Lib.hid hs0
  go_wp2_with fail
  go_loopw [1, 9] (fun v1 v9 wr => ∃ (x : List Int) (bf : Int) (ax : Option Addr) (cx : Nat), v1 = .slice ax n cx ∧ v9 = .int .i64 bf ∧ 0 ≤ bf ∧ IsOrd n x ∧ impF n t (bf.toNat + 1) x bf = impE n t o ∧ RowAt wr (.slice ax n cx) n (intCells x) ∧ Sz n t a cap L r b m wr ∧ Same w wr) (fun _ v9 _ => (intOf v9).toNat)
  case atStart => exact ⟨o, s0, ao, co, rfl, rfl, hz0, ho.out, hR.out, hO3.out, hS3.out, hs4.out⟩
  case round =>
    obtain ⟨x, bf, ax, cx, rfl, rfl, hz, hx, hI, hX, hSw, hsw⟩ := hrel
    have e4 := cell_at hSw.box 4
    have el := lt_of_heap hSw.box
    replace hx := Lib.hid hx; replace hI := Lib.hid hI; replace hX := Lib.hid hX; replace hSw := Lib.hid hSw; replace hsw := Lib.hid hsw
    go_wp2_with fail
    refine (SF.out x hx.out ax cx b m _ hSw.out hX.out).mono ?_
    rintro e w5 ⟨a5, c5, rfl, hR5, hS5, hf5⟩
    have hs5 : Same w w5 := hsw.out.trans hf5 (fun i hi e => by have : i = m := e; omega)
    have hX5 := own_rowAt hR5
    have hx5 := siftF_ord (t := t) hx.out
    have hz5 := szF_nonneg n t (siftF n t x)
    have hst := impF_step n t x bf
    have hen : bf ≤ szF n t (siftF n t x) → impF n t (bf.toNat + 1) x bf = siftF n t x := fun h => by rw [impF, if_pos h]
    rw [hI.out] at hst hen
    clear e4 el hf5 hR5
    have e4 := cell_at hS5.box 4
    have el := lt_of_heap hS5.box
    obtain ⟨y, hy⟩ : ∃ y, y = siftF n t x := ⟨_, rfl⟩
    rw [← hy] at hX5 hx5 hz5 hst hen ⊢
    obtain ⟨s, hs⟩ : ∃ s, s = szF n t y := ⟨_, rfl⟩
    rw [← hs] at hst hen hz5 ⊢
    by_cases hge : bf ≤ s
    · have hE := hen hge
      replace hs5 := Lib.hid hs5; replace hX5 := Lib.hid hX5; replace hx5 := Lib.hid hx5; replace hst := Lib.hid hst; replace hen := Lib.hid hen; replace hE := Lib.hid hE; replace hS5 := Lib.hid hS5; replace hs := Lib.hid hs; replace hy := Lib.hid hy
      go_wp2_with fail
      go_ret3
      exact ⟨a5, c5, by rw [hE.out, ← hs.out]; rfl, by rw [hE.out]; exact hX5.out, hs5.out⟩
    · have hE := (hst (by omega)).symm
      replace hs5 := Lib.hid hs5; replace hX5 := Lib.hid hX5; replace hx5 := Lib.hid hx5; replace hst := Lib.hid hst; replace hen := Lib.hid hen; replace hE := Lib.hid hE; replace hS5 := Lib.hid hS5; replace hs := Lib.hid hs; replace hy := Lib.hid hy
      go_wp2_with fail
      go_roundw
      case rel => exact ⟨y, s, a5, c5, rfl, rfl, hz5, hx5.out, hE.out, hX5.out, hS5.out, hs5.out⟩
      case measure => simp [intOf]; omega
end Go.Proofs.Ytmmjijmmocabhaa
