/- FromTable, Constant, Variable. -/
import Derived.Test.YtaebjalpebgliaaCanonC
import Derived.Test.YtaebjalpebgliaaCheck
namespace Go.Proofs.Ytaebjalpebgliaa
open Go.RowKit
set_option linter.unusedVariables false
set_option linter.unusedSimpArgs false

theorem count_ok (n : Int) (w : World) (h : 0 ≤ n ∧ n ≤ 40) : Calls Try.prog 55 #[.int .i64 n] w fun e w' => e = .returned (.int .i64 0) ∧ w = w' := by
  have := count_any n w
  rwa [if_neg (by omega)] at this
theorem count_bad (n : Int) (w : World) (h : n < 0 ∨ 40 < n) : Calls Try.prog 55 #[.int .i64 n] w fun e w' => e = .returned (.int .i64 2) ∧ w = w' := by
  have := count_any n w
  rwa [if_pos (by omega)] at this

/-- A diagram's result variable, stored. -/
theorem res3 {w w1 : World} {b : Nat} {x y z a c d : Value} {T : TypeId} (kt : w1.heap[b]? = some (.cells #[x, y, z] T (0, 0))) (hs : Same w w1) (hb : w.heap.size ≤ b) :
    (w1.cell? ⟨b, 0, none⟩ = some x ∧ w1.cell? ⟨b, 1, none⟩ = some y ∧ w1.cell? ⟨b, 2, none⟩ = some z ∧ w1.frozen? ⟨b, 0, none⟩ = false ∧ w1.frozen? ⟨b, 1, none⟩ = false ∧ w1.frozen? ⟨b, 2, none⟩ = false ∧ b < w1.heap.size) ∧
    (((w1.setCell ⟨b, 0, none⟩ a).setCell ⟨b, 1, none⟩ c).setCell ⟨b, 2, none⟩ d).cell? ⟨b, 0, none⟩ = some a ∧
    (((w1.setCell ⟨b, 0, none⟩ a).setCell ⟨b, 1, none⟩ c).setCell ⟨b, 2, none⟩ d).cell? ⟨b, 1, none⟩ = some c ∧
    (((w1.setCell ⟨b, 0, none⟩ a).setCell ⟨b, 1, none⟩ c).setCell ⟨b, 2, none⟩ d).cell? ⟨b, 2, none⟩ = some d ∧
    Same w (((w1.setCell ⟨b, 0, none⟩ a).setCell ⟨b, 1, none⟩ c).setCell ⟨b, 2, none⟩ d) ∧
    (∀ k o, w1.heap[k]? = some o → k ≠ b → (((w1.setCell ⟨b, 0, none⟩ a).setCell ⟨b, 1, none⟩ c).setCell ⟨b, 2, none⟩ d).heap[k]? = some o) ∧
    (∀ T' sz v n cells, SliceAt w1 T' sz v n cells → T' ≠ T → SliceAt (((w1.setCell ⟨b, 0, none⟩ a).setCell ⟨b, 1, none⟩ c).setCell ⟨b, 2, none⟩ d) T' sz v n cells) := by
  have kF := stored3 (a := a) (c := c) (d := d) kt
  have hfr := stored3_fr (w := w1) (b := b) (a := a) (c := c) (d := d)
  exact ⟨⟨cell_at kt 0, cell_at kt 1, cell_at kt 2, free_at kt 0, free_at kt 1, free_at kt 2, lt_of_heap kt⟩, cell_at kF 0, cell_at kF 1, cell_at kF 2, hs.trans hfr (fun i hi h => by omega), fun k o hk hne => hfr.at hk hne,
    fun T' sz v n cells hsl hne => hsl.fr hfr (fun k cur hk h => by rw [h, kt] at hk; simp at hk; exact hne hk.2.symm)⟩

/-- A block of nodes that a call laid. -/
theorem nodes_of_block {w : World} {g : Nat} {L : List Nd} (h : w.heap[g]? = some (.cells (ndCells L).toArray 80 (0, 0))) (hm : L.length ≤ 1000) : SliceAt w 80 3 (.slice (some ⟨g, 0, none⟩) L.length L.length) L.length (ndCells L) :=
  SliceAt.of_owns (own_of_block (base := 0) h (Nat.zero_le _) (ndCells_length L) rfl (by unfold maxLen; omega))

set_option maxRecDepth 100000 in
set_option maxHeartbeats 400000 in
theorem variable_ok (n i : Int) (w : World) (h : 0 ≤ n ∧ n ≤ 40) (hi : 0 ≤ i ∧ i < n) :
    Calls Try.prog 29 #[.int .i64 n, .int .i64 i] w (DRet w n [(i, 0, 1)] 2) := by
  obtain ⟨h1, h2⟩ := h
  obtain ⟨h3, h4⟩ := hi
  go_enter Try.func29, Try.ntmps29
  go_wp2_with fail
  refine (count_ok n _ ⟨h1, h2⟩).mono ?_
  rintro e w' ⟨rfl, rfl⟩
  go_upto_region 6 with fail
  all_goals first | (exfalso; omega) | skip
  have hs : Same w ((w.alloc (.cells #[.int .i64 0, .slice none 0 0, .int .i64 0] 31)).alloc (.cells #[.int .i64 i, .int .i64 0, .int .i64 1] 80)) := (by repeat (first | exact Fr.refl _ _ | apply Fr.alloc | apply Fr.drewN | apply Fr.drew))
  have kt : ((w.alloc (.cells #[.int .i64 0, .slice none 0 0, .int .i64 0] 31)).alloc (.cells #[.int .i64 i, .int .i64 0, .int .i64 1] 80)).heap[w.heap.size]? = some (.cells #[.int .i64 0, .slice none 0 0, .int .i64 0] 31 (0, 0)) := heap_old (heap_new _ _) _
  have kn : ((w.alloc (.cells #[.int .i64 0, .slice none 0 0, .int .i64 0] 31)).alloc (.cells #[.int .i64 i, .int .i64 0, .int .i64 1] 80)).heap[w.heap.size + 1]? = some (.cells #[.int .i64 i, .int .i64 0, .int .i64 1] 80 (0, 0)) := heap_new_at (by simp) _
  replace kn := Lib.hid kn
  clear hs kt kn
  go_wp2_with fail
  refine bodyPost_ret (v := .tuple #[.agg #[.int .i64 n, .slice (some ⟨w.heap.size + 1, 0, none⟩) 1 1, .int .i64 2], .int .i64 0]) (by simp [results, Try.results29, go_sem]) rfl ?_
  exact ⟨some ⟨w.heap.size + 1, 0, none⟩, 1, rfl, nodes_of_block (L := [(i, 0, 1)]) (heap_new_at (by simp) _) (by simp), (by repeat (first | exact Fr.refl _ _ | apply Fr.alloc | apply Fr.drewN | apply Fr.drew))⟩

set_option maxRecDepth 100000 in
set_option maxHeartbeats 400000 in
theorem variable_range (n i : Int) (w : World) (h : n < 0 ∨ 40 < n ∨ i < 0 ∨ n ≤ i) :
    Calls Try.prog 29 #[.int .i64 n, .int .i64 i] w (DErr w 2) := by
  by_cases h1 : n < 0 ∨ 40 < n
  · clear h
    replace h1 := Lib.hid h1
    go_enter Try.func29, Try.ntmps29
    go_wp2_with fail
    refine (count_bad n _ h1.out).mono ?_
    rintro e w' ⟨rfl, rfl⟩
    go_wp2_with fail
    refine bodyPost_ret (v := .tuple #[.agg #[.int .i64 0, .slice none 0 0, .int .i64 0], .int .i64 2]) (by simp [results, Try.results29, go_sem]) rfl ?_
    exact ⟨rfl, (by repeat (first | exact Fr.refl _ _ | apply Fr.alloc | apply Fr.drewN | apply Fr.drew))⟩
  · have h2 : 0 ≤ n := by omega
    have h3 : n ≤ 40 := by omega
    have h4 : i < 0 ∨ n ≤ i := by omega
    clear h h1
    replace h4 := Lib.hid h4
    go_enter Try.func29, Try.ntmps29
    go_wp2_with fail
    refine (count_ok n _ ⟨h2, h3⟩).mono ?_
    rintro e w' ⟨rfl, rfl⟩
    rcases h4.out with h4 | h4
    · go_wp2_with fail
      refine bodyPost_ret (v := .tuple #[.agg #[.int .i64 0, .slice none 0 0, .int .i64 0], .int .i64 2]) (by simp [results, Try.results29, go_sem]) rfl ?_
      exact ⟨rfl, (by repeat (first | exact Fr.refl _ _ | apply Fr.alloc | apply Fr.drewN | apply Fr.drew))⟩
    · go_wp2_with fail
      all_goals
        refine bodyPost_ret (v := .tuple #[.agg #[.int .i64 0, .slice none 0 0, .int .i64 0], .int .i64 2]) (by simp [results, Try.results29, go_sem]) rfl ?_
        exact ⟨rfl, (by repeat (first | exact Fr.refl _ _ | apply Fr.alloc | apply Fr.drewN | apply Fr.drew))⟩

set_option maxRecDepth 100000 in
set_option maxHeartbeats 400000 in
theorem constant_bad (n : Int) (v : Bool) (w : World) (h : n < 0 ∨ 40 < n) :
    Calls Try.prog 28 #[.int .i64 n, .bool v] w (DErr w 2) := by
  go_enter Try.func28, Try.ntmps28
  go_wp2_with fail
  refine (count_bad n _ h).mono ?_
  rintro e w' ⟨rfl, rfl⟩
  go_wp2_with fail
  refine bodyPost_ret (v := .tuple #[.agg #[.int .i64 0, .slice none 0 0, .int .i64 0], .int .i64 2]) (by simp [results, Try.results28, go_sem]) rfl ?_
  exact ⟨rfl, (by repeat (first | exact Fr.refl _ _ | apply Fr.alloc | apply Fr.drewN | apply Fr.drew))⟩

set_option maxRecDepth 100000 in
set_option maxHeartbeats 400000 in
theorem constant_ok (n : Int) (v : Bool) (w : World) (h : 0 ≤ n ∧ n ≤ 40) :
    Calls Try.prog 28 #[.int .i64 n, .bool v] w (DRet w n [] (if v then 1 else 0)) := by
  obtain ⟨h1, h2⟩ := h
  cases v
  · go_enter Try.func28, Try.ntmps28
    go_wp2_with fail
    refine (count_ok n _ ⟨h1, h2⟩).mono ?_
    rintro e w' ⟨rfl, rfl⟩
    have hs : Same w ((w.alloc (.cells #[.int .i64 0, .slice none 0 0, .int .i64 0] 31)).alloc (.cells #[.int .i64 n, .slice none 0 0, .int .i64 0] 31)) := (by repeat (first | exact Fr.refl _ _ | apply Fr.alloc | apply Fr.drewN | apply Fr.drew))
    have kt : ((w.alloc (.cells #[.int .i64 0, .slice none 0 0, .int .i64 0] 31)).alloc (.cells #[.int .i64 n, .slice none 0 0, .int .i64 0] 31)).heap[w.heap.size]? = some (.cells #[.int .i64 0, .slice none 0 0, .int .i64 0] 31 (0, 0)) := heap_old (heap_new _ _) _
    clear hs kt
    go_wp2_with fail
    refine bodyPost_ret (v := .tuple #[.agg #[.int .i64 n, .slice none 0 0, .int .i64 0], .int .i64 0]) (by simp [results, Try.results28, go_sem]) rfl ?_
    exact ⟨none, 0, rfl, SliceAt.nil _ _ _, (by repeat (first | exact Fr.refl _ _ | apply Fr.alloc | apply Fr.drewN | apply Fr.drew))⟩
  · go_enter Try.func28, Try.ntmps28
    go_wp2_with fail
    refine (count_ok n _ ⟨h1, h2⟩).mono ?_
    rintro e w' ⟨rfl, rfl⟩
    have hs : Same w (((w.alloc (.cells #[.int .i64 0, .slice none 0 0, .int .i64 0] 31)).alloc (.cells #[.int .i64 n, .slice none 0 0, .int .i64 0] 31)).setCell ⟨w.heap.size + 1, 2, none⟩ (.int .i64 1)) := (show Same w ((w.alloc (.cells #[.int .i64 0, .slice none 0 0, .int .i64 0] 31)).alloc (.cells #[.int .i64 n, .slice none 0 0, .int .i64 0] 31)) from (by repeat (first | exact Fr.refl _ _ | apply Fr.alloc | apply Fr.drewN | apply Fr.drew))).setCell _ _ (fun h => by simp only at h; omega)
    have kt : (((w.alloc (.cells #[.int .i64 0, .slice none 0 0, .int .i64 0] 31)).alloc (.cells #[.int .i64 n, .slice none 0 0, .int .i64 0] 31)).setCell ⟨w.heap.size + 1, 2, none⟩ (.int .i64 1)).heap[w.heap.size]? = some (.cells #[.int .i64 0, .slice none 0 0, .int .i64 0] 31 (0, 0)) := by
      rw [heap_setCell_other (by simp)]; exact heap_old (heap_new _ _) _
    clear hs kt
    go_wp2_with fail
    refine bodyPost_ret (v := .tuple #[.agg #[.int .i64 n, .slice none 0 0, .int .i64 1], .int .i64 0]) (by simp [results, Try.results28, go_sem]) rfl ?_
    exact ⟨none, 0, rfl, SliceAt.nil _ _ _, (by repeat (first | exact Fr.refl _ _ | apply Fr.alloc | apply Fr.drewN | apply Fr.drew))⟩

theorem wrap_pow (n : Nat) (h : n ≤ 60) : wrap64 (2 ^ n) = ((2 ^ n : Nat) : Int) := by
  have h2 : 2 ^ n ≤ 2 ^ 60 := Nat.pow_le_pow_right (by omega) h
  have e : ((2 : Int) ^ n) = ((2 ^ n : Nat) : Int) := by simp
  rw [e]
  obtain ⟨k, hk⟩ : ∃ k : Nat, k = 2 ^ n := ⟨_, rfl⟩
  rw [← hk] at h2 ⊢
  exact IntWalk.wrap64_in _ ⟨by omega, by omega⟩

set_option maxRecDepth 100000 in
set_option maxHeartbeats 400000 in
theorem fromTable_row (n : Nat) (t : List Bool) (aT : Option Addr) (capT : Nat) (w : World) (hn : n ≤ 10) (ht : t.length = 2 ^ n) (hT : RowAt w (.slice aT t.length capT) t.length (boolCells t)) :
    Calls Try.prog 25 #[.int .i64 n, .slice aT t.length capT] w (DRet w n (tableF n [] 0 t).1 (tableF n [] 0 t).2) := by
  have h1 : (0 : Int) ≤ n := by omega
  have h2 : (n : Int) ≤ 10 := by omega
  have hp : t.length ≤ 1024 := by
    have h2 : 2 ^ n ≤ 2 ^ 10 := Nat.pow_le_pow_right (by omega) hn
    omega
  have hq : ((t.length : Int) != wrap64 (2 ^ n)) = false := by rw [wrap_pow n (by omega), ht]; simp
  have T := IsTab.of hn ht
  obtain ⟨ho, hv, htab⟩ := T.ord
  obtain ⟨s', v1, v2⟩ := finish_table ho hv
  rw [htab] at v1 v2
  have hlen : (tableF n [] 0 t).1.length ≤ 16384 := T.short
  have hO := v2
  have FIN : ∀ B p m a2 cap2 W, BuilderAt W B p m a2 cap2 (tableF n [] 0 t).1 → Calls Try.prog 58 #[.pointer (some ⟨p, 0, none⟩), .int .i64 n, .int .i64 (tableF n [] 0 t).2] W (DRet W n (tableF n [] 0 t).1 (tableF n [] 0 t).2) := by
    intro B p m a2 cap2 W hB
    refine (finish_any B p m a2 cap2 _ n _ (n + 1) s' _ W hB ho.val.laid (by omega) hv.1 hv.2 v1 (by rw [hO]; omega)).mono ?_
    intro e w3 hD
    unfold finishF at hD
    rw [if_pos (by rw [hO]; exact hlen), hO] at hD
    exact hD
  have hown : 0 < t.length → ∀ k, (Value.slice aT t.length capT).ownBlock = some k → k < w.heap.size := hT.below
  replace hown := Lib.hid hown
  replace FIN := Lib.hid FIN
  replace hT := Lib.hid hT
  replace ht := Lib.hid ht
  clear T ho hv htab v1 v2 hO hlen
  go_enter Try.func25, Try.ntmps25
  go_wp2_with fail
  refine (count_ok n _ (by omega)).mono ?_
  rintro e w' ⟨rfl, rfl⟩
  go_wp2_with fail
  refine (begin_any _).mono ?_
  rintro e w2 ⟨p, m, rfl, hB, hs2⟩
  replace hs2 := Lib.hid hs2
  replace hB := Lib.hid hB
  go_wp2_with fail
  refine (table_any n (w.heap.size + 1) p m none 0 [] 0 aT capT t _ (by omega) ht.out (by have := hB.out; simpa using this) (hT.out.same ((show Same w _ from (by repeat (first | exact Fr.refl _ _ | apply Fr.alloc | apply Fr.drewN | apply Fr.drew))).same hs2.out)) (fun k hk => by
    have := Nat.two_pow_pos n
    have := hown.out (by rw [ht.out]; omega) k hk
    omega) (by omega) (by omega) (by have := ht.out; simp; omega)).mono ?_
  rintro e w3 hr
  obtain ⟨rfl, a1, cap1, hB1, hG1⟩ := hr.of
  clear hr
  have hs3 : Same w w3 := Grew.same_base (w0 := w) (by have := hB.out; simpa using this) (by simpa [or_false] using hG1) ((show Same w _ from (by repeat (first | exact Fr.refl _ _ | apply Fr.alloc | apply Fr.drewN | apply Fr.drew))).same hs2.out) (by simp)
  have kt3 : w3.heap[w.heap.size]? = some (.cells #[.int .i64 0, .slice none 0 0, .int .i64 0] 31 (0, 0)) := by
    rw [hG1.below (by have := hB.out; simpa using this) (by omega)]
    exact hs2.out.at (heap_new _ _) id
  replace hB1 := Lib.hid hB1
  replace hs3 := Lib.hid hs3
  replace kt3 := Lib.hid kt3
  clear hG1
  go_wp2_with fail
  refine (FIN.out _ _ _ _ _ _ hB1.out).mono ?_
  rintro e w4 ⟨ao, co, rfl, hO, hs4⟩
  have kt := hs4.at kt3.out id
  have hs := hs3.out.same hs4
  replace hO := Lib.hid hO
  obtain ⟨⟨t0, t1, t2, f0, f1, f2, tb⟩, d0, d1, d2, hF, hK, hSl⟩ := res3 (a := .int .i64 n) (c := .slice ao (tableF n [] 0 t).1.length co) (d := .int .i64 (tableF n [] 0 t).2) kt hs (by omega); replace hF := Lib.hid hF; replace hK := Lib.hid hK; replace hSl := Lib.hid hSl; replace kt := Lib.hid kt; replace hs := Lib.hid hs
  have hOF := hSl.out _ _ _ _ _ hO.out (by decide)
  replace hOF := Lib.hid hOF
  go_wp2_with fail
  refine bodyPost_ret (v := .tuple #[.agg #[.int .i64 n, .slice ao (tableF n [] 0 t).1.length co, .int .i64 (tableF n [] 0 t).2], .int .i64 0]) (by simp [results, Try.results25, go_sem, d0, d1, d2]) rfl ?_
  exact ⟨ao, co, rfl, hOF.out, hF.out⟩

theorem fromTable_ok (n : Nat) (t : List Bool) (aT : Option Addr) (capT : Nat) (w : World) (hn : n ≤ 10) (ht : t.length = 2 ^ n) (hT : SliceAt w 4 1 (.slice aT t.length capT) t.length (boolCells t)) :
    Calls Try.prog 25 #[.int .i64 n, .slice aT t.length capT] w (DRet w n (tableF n [] 0 t).1 (tableF n [] 0 t).2) := fromTable_row n t aT capT w hn ht hT.row
end Go.Proofs.Ytaebjalpebgliaa
