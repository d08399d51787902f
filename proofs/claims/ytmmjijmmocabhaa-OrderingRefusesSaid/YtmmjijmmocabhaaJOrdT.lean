/- Least: its errors. Least walked. -/
import Derived.Test.YtmmjijmmocabhaaJOrdQ
import Derived.Test.YtmmjijmmocabhaaJOrdJ
namespace Go.Proofs.Ytmmjijmmocabhaa
open Go.RowKit
set_option linter.unusedVariables false
set_option linter.unusedSimpArgs false
attribute [local go_sem] Oper.semAt_some

theorem complF_mem {n : Nat} : ∀ (d : Nat) (p q : List Int), Nodup6 n p → q ∈ complF n d p → q.length = p.length + d ∧ Nodup6 n q
  | 0, p, q, hp, h => by
    simp [complF] at h; subst h; exact ⟨rfl, hp⟩
  | d + 1, p, q, hp, h => by
    rw [complF, List.mem_flatMap] at h
    obtain ⟨v, hv, hq⟩ := h
    have hv' := List.mem_range.1 hv
    split at hq
    · simp at hq
    · rename_i hm
      have hp' : Nodup6 n (p ++ [(v : Int)]) := ⟨by rw [List.nodup_append]; exact ⟨hp.1, by simp, fun x hx y hy e => by simp at hy; subst hy; exact hm (e ▸ hx)⟩, fun x hx => by
        rcases List.mem_append.1 hx with h | h
        · exact hp.2 x h
        · simp at h; subst h; omega⟩
      obtain ⟨h1, h2⟩ := complF_mem d _ q hp' hq
      exact ⟨by simp at h1; omega, h2⟩
theorem ordsF_ord {n : Nat} (h : n ≤ 40) {q : List Int} (hq : q ∈ ordsF n) : IsOrd n q := by
  obtain ⟨h1, h2, h3⟩ := complF_mem n [] q ⟨by simp, by simp⟩ hq
  exact ⟨h, by simpa using h1, h2, h3⟩

/-- The best order so far, and its size. -/
def lstep (n : Nat) (t : List Bool) (s : List Int × Int) (x : List Int) : List Int × Int := if s.2 < 0 ∨ szF n t x < s.2 then (x, szF n t x) else s
def leastF (n : Nat) (t : List Bool) (l : List (List Int)) : List Int × Int := l.foldl (lstep n t) ([], -1)
theorem leastF_snoc (n : Nat) (t : List Bool) (l : List (List Int)) (x : List Int) : leastF n t (l ++ [x]) = lstep n t (leastF n t l) x := by simp [leastF]

set_option maxRecDepth 100000 in
theorem orders_any (n : Int) (w : World) : Calls Try.prog 67 #[.int .i64 n] w fun e w' => e = .returned (.func (.func 82) #[] #[.pointer (some ⟨w.heap.size, 0, none⟩)]) ∧ w' = w.alloc (.cells #[.int .i64 n] 3) := by
  go_enter Try.func67, Try.ntmps67
  go_wp2_with fail
  go_ret
  exact ⟨rfl, rfl⟩
theorem enter_orders1 (args : Array Value) (W : World) : (callFunc 82 args).run Try.prog W = .ok (.enter 82 args) W := by kernel_rfl

/-- Between two rounds of Least. B: the heap's size where the loop begins. -/
structure LSt (n : Nat) (t : List Bool) (a : Option Addr) (cap : Nat) (L : List Nd) (rt : Int) (bs m b2 b3 b4 b6 b7 b8 B : Nat) (w : World) (S : List Int × Int) (W : World) : Prop where
  lt : w.heap.size ≤ B ∧ bs < B ∧ m < B ∧ b2 < B ∧ b3 < B ∧ b4 < B ∧ b6 < B ∧ b7 < B ∧ b8 < B
  sz : Sz n t a cap L rt bs m W
  k2 : W.heap[b2]? = some (.cells #[.slice none 0 0] 23 (0, 0))
  k3 : W.heap[b3]? = some (.cells #[.int .i64 0] 3 (0, 0))
  k4 : W.heap[b4]? = some (.cells #[.int .i64 0] 26 (0, 0))
  k6 : W.heap[b6]? = some (.cells #[.pointer (some ⟨bs, 0, none⟩)] 81 (0, 0))
  k8 : W.heap[b8]? = some (.cells #[.int .i64 S.2] 3 (0, 0))
  k7 : ∃ a7 c7, W.heap[b7]? = some (.cells #[.slice a7 S.1.length c7] 23 (0, 0)) ∧ W.ownsRow (B + 7) 3 1 (.slice a7 S.1.length c7) S.1.length (intCells S.1)
  sm : Same w W

theorem Sz.fr {n : Nat} {t : List Bool} {a : Option Addr} {cap : Nat} {L : List Nd} {r : Int} {b m : Nat} {w w' : World} {S : Nat → Prop} (h : Sz n t a cap L r b m w) (hf : Fr S w w') (h1 : ¬ S b) (h2 : ¬ S m) (hn : NodesAt w' a L cap) : Sz n t a cap L r b m w' := by
  obtain ⟨M, hM, hm⟩ := h.map
  exact ⟨hf.at h.box h1, ⟨M, hM.of_block (hf.block m hM.lt h2), hm⟩, hn⟩

theorem LSt.mv {n : Nat} {t : List Bool} {a : Option Addr} {cap : Nat} {L : List Nd} {rt : Int} {bs m b2 b3 b4 b6 b7 b8 B : Nat} {w : World} {S : List Int × Int} {W W' : World} (h : LSt n t a cap L rt bs m b2 b3 b4 b6 b7 b8 B w S W) (hL : NodesAt w a L cap)
    {X : Nat → Prop} (hf : Fr X W W') (hX : ∀ k, X k → B ≤ k ∧ k < B + 7) : LSt n t a cap L rt bs m b2 b3 b4 b6 b7 b8 B w S W' := by
  obtain ⟨l0, l1, l2, l3, l4, l5, l6, l7, l8⟩ := h.lt
  have no : ∀ k, k < B → ¬ X k := fun k hk hx => by have := hX k hx; omega
  have hs : Same w W' := h.sm.trans hf (fun i hi e => by have := hX i e; omega)
  obtain ⟨a7, c7, k7, ho⟩ := h.k7
  refine ⟨h.lt, h.sz.fr hf (no _ l1) (no _ l2) (hL.same hs), hf.at h.k2 (no _ l3), hf.at h.k3 (no _ l4), hf.at h.k4 (no _ l5), hf.at h.k6 (no _ l6), hf.at h.k8 (no _ l8), ⟨a7, c7, hf.at k7 (no _ l7), ?_⟩, hs⟩
  refine owns_fr ho hf (fun k hk hx => ?_)
  have := hX k hx
  rcases ho.2 with ⟨e, _⟩ | ⟨g, c, cur, e, hg, _⟩
  · rw [e] at hk; simp [Value.ownBlock] at hk
  · rw [e] at hk; simp [Value.ownBlock] at hk; omega

/-- A size found. -/
theorem LSt.sized {n : Nat} {t : List Bool} {a : Option Addr} {cap : Nat} {L : List Nd} {rt : Int} {bs m b2 b3 b4 b6 b7 b8 B : Nat} {w : World} {S : List Int × Int} {W W' : World} (h : LSt n t a cap L rt bs m b2 b3 b4 b6 b7 b8 B w S W)
    (hz : Sz n t a cap L rt bs m W') (hf : Fr (fun k => k = m) W W') (hm : w.heap.size ≤ m) (h2 : b2 ≠ m) (h3 : b3 ≠ m) (h4 : b4 ≠ m) (h6 : b6 ≠ m) (h7 : b7 ≠ m) (h8 : b8 ≠ m) : LSt n t a cap L rt bs m b2 b3 b4 b6 b7 b8 B w S W' := by
  obtain ⟨a7, c7, k7, ho⟩ := h.k7
  exact ⟨h.lt, hz, hf.at h.k2 h2, hf.at h.k3 h3, hf.at h.k4 h4, hf.at h.k6 h6, hf.at h.k8 h8, ⟨a7, c7, hf.at k7 h7, owns_map ho h.sz.isMap hf⟩, h.sm.trans hf (fun i hi e => by have : i = m := e; omega)⟩
/-- A better order kept. -/
theorem LSt.best {n : Nat} {t : List Bool} {a : Option Addr} {cap : Nat} {L : List Nd} {rt : Int} {bs m b2 b3 b4 b6 b7 b8 B : Nat} {w : World} {S : List Int × Int} {W : World} (h : LSt n t a cap L rt bs m b2 b3 b4 b6 b7 b8 B w S W) (hL : NodesAt w a L cap)
    {a9 : Option Addr} {c9 q : Nat} {x : List Int} (s : Int) (hq : x.length = q) (ho : W.ownsRow (B + 7) 3 1 (.slice a9 q c9) q (intCells x)) (hw : w.heap.size ≤ b7 ∧ w.heap.size ≤ b8)
    (d2 : b2 ≠ b7 ∧ b2 ≠ b8) (d3 : b3 ≠ b7 ∧ b3 ≠ b8) (d4 : b4 ≠ b7 ∧ b4 ≠ b8) (d6 : b6 ≠ b7 ∧ b6 ≠ b8) (d7 : b7 ≠ b8) (ds : bs ≠ b7 ∧ bs ≠ b8) (dm : m ≠ b7 ∧ m ≠ b8) :
    LSt n t a cap L rt bs m b2 b3 b4 b6 b7 b8 B w (x, s) ((W.setCell ⟨b7, 0, none⟩ (.slice a9 q c9)).setCell ⟨b8, 0, none⟩ (.int .i64 s)) := by
  subst hq
  have hf : Fr (fun k => k = b7 ∨ k = b8) W ((W.setCell ⟨b7, 0, none⟩ (.slice a9 x.length c9)).setCell ⟨b8, 0, none⟩ (.int .i64 s)) := ((Fr.refl _ _).setCell _ _ (fun _ => .inl rfl)).setCell _ _ (fun _ => .inr rfl)
  have hs : Same w ((W.setCell ⟨b7, 0, none⟩ (.slice a9 x.length c9)).setCell ⟨b8, 0, none⟩ (.int .i64 s)) := h.sm.trans hf (fun i hi e => by rcases e with e | e <;> omega)
  obtain ⟨a7, c7, k7, _⟩ := h.k7
  have l7 := h.lt.2.2.2.2.2.2.2.1
  have l8 := h.lt.2.2.2.2.2.2.2.2
  refine ⟨h.lt, h.sz.fr hf (by omega) (by omega) (hL.same hs), hf.at h.k2 (by omega), hf.at h.k3 (by omega), hf.at h.k4 (by omega), hf.at h.k6 (by omega), ?_, ⟨a9, c9, ?_, owns_fr ho hf (fun k hk hx => ?_)⟩, hs⟩
  · have h8 : (W.setCell ⟨b7, 0, none⟩ (.slice a9 x.length c9)).heap[b8]? = some (.cells #[.int .i64 S.2] 3 (0, 0)) := by rw [heap_setCell_other (by simp; omega)]; exact h.k8
    have := heap_setCell_same h8 0 (.int .i64 s)
    simpa using this
  · rw [heap_setCell_other (by simp; omega)]
    have := heap_setCell_same k7 0 (.slice a9 x.length c9)
    simpa using this
  · rcases ho.2 with ⟨e, _⟩ | ⟨g, c, cur, e, hg, _⟩
    · rw [e] at hk; simp [Value.ownBlock] at hk
    · rw [e] at hk; simp [Value.ownBlock] at hk; rcases hx with hx | hx <;> omega

theorem lbest {n : Nat} {t : List Bool} {a : Option Addr} {cap : Nat} {L : List Nd} {rt : Int} {bs m b b2 b3 b4 b6 b7 b8 B : Nat} {w : World} {S : List Int × Int} {W : World} (hord : w.heap.size < b2 ∧ b2 < b3 ∧ b3 < b4 ∧ b4 < bs ∧ b4 < m ∧ bs < b6 ∧ m < b6 ∧ b6 < b7 ∧ b7 < b8 ∧ b8 < b ∧ b < B)
    (h : LSt n t a cap L rt bs m b2 b3 b4 b6 b7 b8 B w S W) (hL : NodesAt w a L cap) {a9 : Option Addr} {c9 q : Nat} {x : List Int} (s : Int) (hq : x.length = q) (ho : W.ownsRow (B + 7) 3 1 (.slice a9 q c9) q (intCells x)) :
    LSt n t a cap L rt bs m b2 b3 b4 b6 b7 b8 B w (x, s) ((W.setCell ⟨b7, 0, none⟩ (.slice a9 q c9)).setCell ⟨b8, 0, none⟩ (.int .i64 s)) :=
  h.best hL s hq ho (by omega) (by omega) (by omega) (by omega) (by omega) (by omega) (by omega) (by omega)

set_option maxRecDepth 100000 in
set_option maxHeartbeats 8000000 in
theorem Least_ok {n : Nat} {t : List Bool} {L : List Nd} {rt : Int} (hn : n ≤ 6) (hT : IsTab n t L rt) (a : Option Addr) (cap : Nat) (w : World) (hL : NodesAt w a L cap)
    (CK : ∀ W, Same w W → Calls Try.prog 45 #[.agg #[.int .i64 n, .slice a L.length cap, .int .i64 rt]] W fun e w' => e = .returned (.int .i64 0) ∧ Same W w') :
    Calls Try.prog 40 #[.agg #[.int .i64 n, .slice a L.length cap, .int .i64 rt]] w fun e w' =>
      ∃ ao co, e = .returned (.tuple #[.slice ao (leastF n t (ordsF n)).1.length co, .int .i64 (leastF n t (ordsF n)).2, .int .i64 0]) ∧ RowAt w' (.slice ao (leastF n t (ordsF n)).1.length co) (leastF n t (ordsF n)).1.length (intCells (leastF n t (ordsF n)).1) ∧ Same w w' := by
  have NS := fun W (hW : Same w W) => newSizes_any n t a cap L rt W (hL.same hW)
  have OF := fun o (ho : IsOrd n o) ao co b m W (hS : Sz n t a cap L rt b m W) hO => of_any (show n ≤ 10 by omega) hT ho a cap ao co b m W hS hO
  obtain ⟨q, hq⟩ : ∃ q, L.length = q := ⟨_, rfl⟩
  rw [hq] at NS CK ⊢
  have hn6 : ¬ (6 : Int) < n := by omega
  replace CK := Lib.hid CK; replace NS := Lib.hid NS; replace OF := Lib.hid OF; replace hq := Lib.hid hq; replace hL := Lib.hid hL; replace hT := Lib.hid hT
  refine callsIn_wide.1 (callsIn_of_wp_marks (F := Fence.wide) (n := 2) Try.func40 rfl trivial ?_ rfl)
  refine wpIn_wide.2 ?_
  simp only [Try.ntmps40, List.size_toArray, List.length_cons, List.length_nil, Nat.reduceAdd, Nat.reduceSub, Array.replicate_succ, Array.replicate_zero, List.push_toArray, List.append_toArray, List.nil_append, List.cons_append]
  go_wp2_with fail
  refine (CK.out _ (by repeat (first | exact Fr.refl _ _ | apply Fr.alloc | apply Fr.drewN | apply Fr.drew | apply Fr.undrew | apply Fr.undrewN))).mono ?_
  rintro e w1 ⟨rfl, hs'⟩
  have z4 := lt_of_heap (hs'.at (heap_new_at (k := w.heap.size + 1 + 1 + 1) (by simp) (.cells #[.int .i64 0] 26)) id)
  have kb := hs'.at (heap_old (heap_old (heap_old (heap_new w (.cells #[.int .i64 n, .slice a q cap, .int .i64 rt] 45)) _) _) _) id
  have k2 := hs'.at (heap_old (heap_old (heap_new_at (k := w.heap.size + 1) (by simp) (.cells #[.slice none 0 0] 23)) _) _) id
  have k3 := hs'.at (heap_old (heap_new_at (k := w.heap.size + 1 + 1) (by simp) (.cells #[.int .i64 0] 3)) _) id
  have k4 := hs'.at (heap_new_at (k := w.heap.size + 1 + 1 + 1) (by simp) (.cells #[.int .i64 0] 26)) id
  have hs : Same w w1 := (show Same w _ from (by repeat (first | exact Fr.refl _ _ | apply Fr.alloc | apply Fr.drewN | apply Fr.drew | apply Fr.undrew | apply Fr.undrewN))).same hs'
  have e0 := cell_at kb 0
  have e1 := cell_at kb 1
  have e2 := cell_at kb 2
  have el := lt_of_heap kb
  clear hs'
  replace hs := Lib.hid hs; replace kb := Lib.hid kb; replace k2 := Lib.hid k2; replace k3 := Lib.hid k3; replace k4 := Lib.hid k4
  go_wp2_with fail
  refine (NS.out _ hs.out).mono ?_
  rintro e w2 ⟨bs, m, rfl, hS, hb, hm, hs2⟩
  have hs3 := hs.out.same hs2
  have kb' := hs2.at kb.out id
  have k2' := hs2.at k2.out id
  have k3' := hs2.at k3.out id
  have k4' := hs2.at k4.out id
  clear e0 e1 e2 el kb k2 k3 k4
  have e0 := cell_at kb' 0
  have el := lt_of_heap kb'
  have el4 := lt_of_heap k4'
  have z1 : w.heap.size < w2.heap.size + 1 := by omega
  have z2 : w.heap.size < w2.heap.size + 1 + 1 := by omega
  have z3 : w.heap.size < w2.heap.size + 1 + 1 + 1 := by omega
  have bsl := lt_of_heap hS.box
  have ml : m < w2.heap.size := by obtain ⟨M, hM, _⟩ := hS.map; exact hM.lt
  replace hS := Lib.hid hS; replace hs2 := Lib.hid hs2; replace hs3 := Lib.hid hs3; replace kb' := Lib.hid kb'; replace k2' := Lib.hid k2'; replace k3' := Lib.hid k3'; replace k4' := Lib.hid k4'; replace hs := Lib.hid hs
  go_wp2_with fail
  refine (orders_any n _).mono ?_
  rintro e w3 ⟨rfl, hw3⟩
  simp only [World.size_alloc]
  have q2 : w3.heap[w.heap.size + 1]? = some (.cells #[.slice none 0 0] 23 (0, 0)) := by rw [hw3]; exact heap_old (heap_old (heap_old (heap_old k2'.out _) _) _) _
  have q3 : w3.heap[w.heap.size + 1 + 1]? = some (.cells #[.int .i64 0] 3 (0, 0)) := by rw [hw3]; exact heap_old (heap_old (heap_old (heap_old k3'.out _) _) _) _
  have q4 : w3.heap[w.heap.size + 1 + 1 + 1]? = some (.cells #[.int .i64 0] 26 (0, 0)) := by rw [hw3]; exact heap_old (heap_old (heap_old (heap_old k4'.out _) _) _) _
  have q6 : w3.heap[w2.heap.size]? = some (.cells #[.pointer (some ⟨bs, 0, none⟩)] 81 (0, 0)) := by rw [hw3]; exact heap_old (heap_old (heap_old (heap_new _ _) _) _) _
  have q7 : w3.heap[w2.heap.size + 1]? = some (.cells #[.slice none 0 0] 23 (0, 0)) := by rw [hw3]; exact heap_old (heap_old (heap_new_at (by simp) _) _) _
  have q8 : w3.heap[w2.heap.size + 1 + 1]? = some (.cells #[.int .i64 (-1)] 3 (0, 0)) := by rw [hw3]; exact heap_old (heap_new_at (by simp) _) _
  have qb : w3.heap[w2.heap.size + 1 + 1 + 1]? = some (.cells #[.int .i64 n] 3 (0, 0)) := by rw [hw3]; exact heap_new_at (by simp) _
  have h23 : Same w2 w3 := by rw [hw3]; exact (by repeat (first | exact Fr.refl _ _ | apply Fr.undrew | apply Fr.undrewN | apply Fr.drew | apply Fr.drewN | apply Fr.alloc))
  have hB : w3.heap.size = w2.heap.size + 4 := by rw [hw3]; simp
  obtain ⟨b6, hb6⟩ : ∃ x, x = w2.heap.size := ⟨_, rfl⟩
  obtain ⟨B, hBe⟩ : ∃ x, x = w3.heap.size := ⟨_, rfl⟩
  obtain ⟨b2, hb2⟩ : ∃ x, x = w.heap.size + 1 := ⟨_, rfl⟩
  obtain ⟨b3, hb3⟩ : ∃ x, x = b2 + 1 := ⟨_, rfl⟩
  obtain ⟨b4, hb4⟩ : ∃ x, x = b3 + 1 := ⟨_, rfl⟩
  obtain ⟨b7, hb7⟩ : ∃ x, x = b6 + 1 := ⟨_, rfl⟩
  obtain ⟨b8, hb8⟩ : ∃ x, x = b7 + 1 := ⟨_, rfl⟩
  obtain ⟨b, hbb⟩ : ∃ x, x = b8 + 1 := ⟨_, rfl⟩
  rw [← hb6, ← hb7] at q7
  rw [← hb6, ← hb7, ← hb8] at q8
  rw [← hb6, ← hb7, ← hb8, ← hbb] at qb
  rw [← hb2] at q2
  rw [← hb2, ← hb3] at q3
  rw [← hb2, ← hb3, ← hb4] at q4
  rw [← hb6] at q6
  rw [← hb6, ← hb7, ← hb8, ← hbb, ← hb2, ← hb3, ← hb4]
  have hlt : w.heap.size ≤ B ∧ bs < B ∧ m < B ∧ b2 < B ∧ b3 < B ∧ b4 < B ∧ b6 < B ∧ b7 < B ∧ b8 < B := by have := hs3.out.size; omega
  have hord : w.heap.size < b2 ∧ b2 < b3 ∧ b3 < b4 ∧ b4 < bs ∧ b4 < m ∧ bs < b6 ∧ m < b6 ∧ b6 < b7 ∧ b7 < b8 ∧ b8 < b ∧ b < B := by omega
  have hS3 := hS.out.same h23
  have hsm3 := hs3.out.same h23
  have hmw : w.heap.size ≤ m := by have := hs.out.size; omega
  have hlst : LSt n t a cap L rt bs m b2 b3 b4 b6 b7 b8 B w (leastF n t []) w3 := ⟨hlt, hS3, q2, q3, q4, q6, q8, ⟨none, 0, q7, World.ownsRow_nil _ _ _ _⟩, hsm3⟩
  have qb0 := cell_at qb 0
  clear z1 z2 z3 e0 el el4 bsl ml kb' k2' k3' k4' q2 q3 q4 q6 q7 q8 h23 hS3 hsm3 hs2 hs3 hS hs hb hm hB hb6 hb7 hb8 hbb hb2 hb3 hb4
  clear hlt hmw
  replace hlst := Lib.hid hlst; replace qb := Lib.hid qb; replace hw3 := Lib.hid hw3; replace hBe := Lib.hid hBe
  go_wp2_with fail
  refine wp_rangeFunc_free rfl enter_orders1 ?_
  obtain ⟨A1, hA1⟩ : ∃ A1 : Value → Act, A1 = fun v => { tmps := #[.agg #[.int .i64 n, .slice a q cap, .int .i64 rt], .pointer (some ⟨w.heap.size, 0, none⟩), .pointer (some ⟨b2, 0, none⟩), .pointer (some ⟨b3, 0, none⟩), .pointer (some ⟨b4, 0, none⟩), .int .i64 0, .pointer (some ⟨b6, 0, none⟩), .pointer (some ⟨b7, 0, none⟩), .pointer (some ⟨b8, 0, none⟩), v, undef, .agg #[.int .i64 n, .slice a q cap, .int .i64 rt], .int .i64 0, .int .i64 0, .bool false, undef, .pointer (some ⟨w.heap.size, 0, none⟩), .int .i64 n, .bool (decide ((6 : Int) < n)), .agg #[.int .i64 n, .slice a q cap, .int .i64 rt], .pointer (some ⟨bs, 0, none⟩), .pointer (some ⟨w.heap.size, 0, none⟩), .int .i64 n, .func (.func 82) #[] #[.pointer (some ⟨b, 0, none⟩)], v, undef, undef, undef, undef, undef, undef, undef, undef, undef, undef, undef, undef, undef, undef, undef, undef, undef, undef, undef, undef, undef, undef, undef, undef], defers := [] } := ⟨_, rfl⟩
  intro r hr hp htm hps has hbd
  rw [← hBe.out]
  have hW1 : ((w3.alloc (.deferred (some []))).alloc (.loop r)).heap.size = B + 2 := by simp [← hBe.out]
  have kl : ((w3.alloc (.deferred (some []))).alloc (.loop r)).heap[B + 1]? = some (.loop r) := heap_new_at (by simp [← hBe.out]) _
  have kd : ((w3.alloc (.deferred (some []))).alloc (.loop r)).heap[B]? = some (.deferred (some [])) := heap_old (heap_new_at (by rw [hBe.out]) _) _
  have kn : ((w3.alloc (.deferred (some []))).alloc (.loop r)).heap[b]? = some (.cells #[.int .i64 n] 3 (0, 0)) := heap_old (heap_old qb.out _) _
  have hl1 := hlst.out.mv hL.out (show Fr (fun _ => False) w3 ((w3.alloc (.deferred (some []))).alloc (.loop r)) from (by repeat (first | exact Fr.refl _ _ | apply Fr.undrew | apply Fr.undrewN | apply Fr.drew | apply Fr.drewN | apply Fr.alloc))) (fun _ h => h.elim)
  generalize (w3.alloc (.deferred (some []))).alloc (.loop r) = W1 at *
  have OR := orders1_any (l := B + 1) (b := b) hn W1 kn (fun pre W => W.heap[B + 1]? = some (.loop r) ∧ W.heap[B]? = some (.deferred (some [])) ∧ LSt n t a cap L rt bs m b2 b3 b4 b6 b7 b8 B w (leastF n t pre) W)
    (fun pre W W' hj hf => ⟨hf.at hj.1 (by simp only [IterS, hW1]; omega), hf.at hj.2.1 (by simp only [IterS, hW1]; omega), hj.2.2.mv hL.out hf (fun k hk => by simp only [IterS, hW1] at hk; omega)⟩) ?_ ⟨kl, kd, hl1⟩
  · refine OR.mono ?_
    rintro e W2 ⟨hv, hj1, hj2, hj3⟩
    refine ⟨hv, hj1, ?_⟩
    have hf : Fr (fun k => k = B + 1) W2 (W2.putObj (B + 1) (.loop (doneL r))) := (Fr.refl _ _).putObj _ _ (fun _ => rfl)
    have kd3 := hf.at hj2 (by omega)
    have hl3 := hj3.mv hL.out hf (fun k hk => by omega)
    generalize W2.putObj (B + 1) (.loop (doneL r)) = W3 at *
    obtain ⟨⟨S1, S2⟩, hSe⟩ : ∃ S, S = leastF n t (ordsF n) := ⟨_, rfl⟩
    rw [← hSe] at hl3
    obtain ⟨a7, c7, k7, ho7⟩ := id hl3.k7
    have y7 := cell_at k7 0
    have y7l := lt_of_heap k7
    have y8 := cell_at hl3.k8 0
    have y8l := lt_of_heap hl3.k8
    have y2 := cell_at hl3.k2 0
    have y2f := free_at hl3.k2 0
    have y2l := lt_of_heap hl3.k2
    have y3 := cell_at hl3.k3 0
    have y3f := free_at hl3.k3 0
    have y3l := lt_of_heap hl3.k3
    have y4 := cell_at hl3.k4 0
    have y4f := free_at hl3.k4 0
    have y4l := lt_of_heap hl3.k4
    obtain ⟨q1, hq1⟩ : ∃ q1, q1 = S1.length := ⟨_, rfl⟩
    simp only [← hq1] at y7
    clear hA1
    replace hj1 := Lib.hid hj1; replace hj2 := Lib.hid hj2; replace hj3 := Lib.hid hj3; replace hl3 := Lib.hid hl3; replace kd3 := Lib.hid kd3; replace hf := Lib.hid hf; replace hSe := Lib.hid hSe; replace k7 := Lib.hid k7; replace ho7 := Lib.hid ho7; replace hq1 := Lib.hid hq1; replace hord := Lib.hid hord; replace kl := Lib.hid kl; replace kd := Lib.hid kd; replace kn := Lib.hid kn; replace hl1 := Lib.hid hl1; replace hr := Lib.hid hr; replace hp := Lib.hid hp; replace htm := Lib.hid htm; replace hps := Lib.hid hps; replace has := Lib.hid has; replace hbd := Lib.hid hbd; replace hW1 := Lib.hid hW1
    go_wp2_with fail
    refine wp_region_sched (L2 b7 b8) [1, 1, 2, 2, 2] [0, 1, 2, 3, 4] (by kernel_rfl) (by kernel_rfl) ?_
    (first | (refine sched_w rfl rfl (fun _ hK => ?_); go_simp; refine hK _ ?_; clear hK) | (refine sched_s rfl rfl (fun _ hK => ?_); go_simp; first | (refine hK _ ?_; clear hK) | (refine ⟨_, fun _ => rfl, hK _ ?_⟩; clear hK)))
    (first | (refine sched_w rfl rfl (fun _ hK => ?_); go_simp; refine hK _ ?_; clear hK) | (refine sched_s rfl rfl (fun _ hK => ?_); go_simp; first | (refine hK _ ?_; clear hK) | (refine ⟨_, fun _ => rfl, hK _ ?_⟩; clear hK)))
    have hord' := hord.out
    have kp2 : ∀ W v, Kp (L2 b7 b8) W (W.setCell ⟨b2, 0, none⟩ v) := fun W v => Kp.of_fr (S := fun k => k = b2) ((Fr.refl _ _).setCell _ _ (fun _ => rfl)) (fun k hk _ e => by rcases hk with hk | hk <;> omega)
    have kp3 : ∀ W v, Kp (L2 b7 b8) W (W.setCell ⟨b3, 0, none⟩ v) := fun W v => Kp.of_fr (S := fun k => k = b3) ((Fr.refl _ _).setCell _ _ (fun _ => rfl)) (fun k hk _ e => by rcases hk with hk | hk <;> omega)
    have kp4 : ∀ W v, Kp (L2 b7 b8) W (W.setCell ⟨b4, 0, none⟩ v) := fun W v => Kp.of_fr (S := fun k => k = b4) ((Fr.refl _ _).setCell _ _ (fun _ => rfl)) (fun k hk _ e => by rcases hk with hk | hk <;> omega)
    have d32 : ¬ b3 = b2 := by omega
    have d42 : ¬ b4 = b2 := by omega
    have d43 : ¬ b4 = b3 := by omega
    clear hord'
    replace kp2 := Lib.hid kp2; replace kp3 := Lib.hid kp3; replace kp4 := Lib.hid kp4
    refine sched_g rfl rfl (fun _ hK => ?_); go_simp; refine hK _ _ (kp2.out _ _) ?_; clear hK
    refine sched_g rfl rfl (fun _ hK => ?_); go_simp; refine hK _ _ (kp3.out _ _) ?_; clear hK
    refine sched_g rfl rfl (fun _ hK => ?_); go_simp; refine hK _ _ (kp4.out _ _) ?_; clear hK
    refine sched_nil (NoPanic.normal ?_)
    go_wp2_with fail
    have hord' := hord.out
    have f2 : Fr (fun k => k = b2 ∨ k = b3 ∨ k = b4) W3 (((W3.setCell ⟨b2, 0, none⟩ (.slice a7 q1 c7)).setCell ⟨b3, 0, none⟩ (.int .i64 S2)).setCell ⟨b4, 0, none⟩ (.int .i64 0)).drew := ((((Fr.refl _ _).setCell _ _ (fun _ => .inl rfl)).setCell _ _ (fun _ => .inr (.inl rfl))).setCell _ _ (fun _ => .inr (.inr rfl))).drew
    have kd4 := f2.at kd3.out (by omega)
    have g2 : (((W3.setCell ⟨b2, 0, none⟩ (.slice a7 q1 c7)).setCell ⟨b3, 0, none⟩ (.int .i64 S2)).setCell ⟨b4, 0, none⟩ (.int .i64 0)).drew.heap[b2]? = some (.cells #[.slice a7 q1 c7] 23 (0, 0)) := by
      show (((W3.setCell ⟨b2, 0, none⟩ (.slice a7 q1 c7)).setCell ⟨b3, 0, none⟩ (.int .i64 S2)).setCell ⟨b4, 0, none⟩ (.int .i64 0)).heap[b2]? = _
      rw [heap_setCell_other (by simp; omega), heap_setCell_other (by simp; omega)]
      have := heap_setCell_same hl3.out.k2 0 (.slice a7 q1 c7)
      simpa using this
    have g3 : (((W3.setCell ⟨b2, 0, none⟩ (.slice a7 q1 c7)).setCell ⟨b3, 0, none⟩ (.int .i64 S2)).setCell ⟨b4, 0, none⟩ (.int .i64 0)).drew.heap[b3]? = some (.cells #[.int .i64 S2] 3 (0, 0)) := by
      show (((W3.setCell ⟨b2, 0, none⟩ (.slice a7 q1 c7)).setCell ⟨b3, 0, none⟩ (.int .i64 S2)).setCell ⟨b4, 0, none⟩ (.int .i64 0)).heap[b3]? = _
      rw [heap_setCell_other (by simp; omega)]
      have h3 : (W3.setCell ⟨b2, 0, none⟩ (.slice a7 q1 c7)).heap[b3]? = some (.cells #[.int .i64 0] 3 (0, 0)) := by rw [heap_setCell_other (by simp; omega)]; exact hl3.out.k3
      have := heap_setCell_same h3 0 (.int .i64 S2)
      simpa using this
    have g4 : (((W3.setCell ⟨b2, 0, none⟩ (.slice a7 q1 c7)).setCell ⟨b3, 0, none⟩ (.int .i64 S2)).setCell ⟨b4, 0, none⟩ (.int .i64 0)).drew.heap[b4]? = some (.cells #[.int .i64 0] 26 (0, 0)) := by
      show (((W3.setCell ⟨b2, 0, none⟩ (.slice a7 q1 c7)).setCell ⟨b3, 0, none⟩ (.int .i64 S2)).setCell ⟨b4, 0, none⟩ (.int .i64 0)).heap[b4]? = _
      have h3 : ((W3.setCell ⟨b2, 0, none⟩ (.slice a7 q1 c7)).setCell ⟨b3, 0, none⟩ (.int .i64 S2)).heap[b4]? = some (.cells #[.int .i64 0] 26 (0, 0)) := by rw [heap_setCell_other (by simp; omega), heap_setCell_other (by simp; omega)]; exact hl3.out.k4
      have := heap_setCell_same h3 0 (.int .i64 0)
      simpa using this
    have hs4 : Same w (((W3.setCell ⟨b2, 0, none⟩ (.slice a7 q1 c7)).setCell ⟨b3, 0, none⟩ (.int .i64 S2)).setCell ⟨b4, 0, none⟩ (.int .i64 0)).drew := hl3.out.sm.trans f2 (fun i hi e => by omega)
    have hro : (((W3.setCell ⟨b2, 0, none⟩ (.slice a7 q1 c7)).setCell ⟨b3, 0, none⟩ (.int .i64 S2)).setCell ⟨b4, 0, none⟩ (.int .i64 0)).drew.ownsRow (B + 7) 3 1 (.slice a7 S1.length c7) S1.length (intCells S1) := owns_fr ho7.out f2 (fun k hk hx => by
      rcases ho7.out.2 with ⟨e, _⟩ | ⟨g, c, cur, e, hg, _⟩
      · rw [e] at hk; simp [Value.ownBlock] at hk
      · rw [e] at hk; simp [Value.ownBlock] at hk; rcases hx with hx | hx | hx <;> omega)
    generalize (((W3.setCell ⟨b2, 0, none⟩ (.slice a7 q1 c7)).setCell ⟨b3, 0, none⟩ (.int .i64 S2)).setCell ⟨b4, 0, none⟩ (.int .i64 0)).drew = W4 at *
    have f3 : Fr (fun k => k = B) W4 (W4.putObj B (.deferred none)) := (Fr.refl _ _).putObj _ _ (fun _ => rfl)
    have c2 := cell_at (f3.at g2 (by omega)) 0
    have c3 := cell_at (f3.at g3 (by omega)) 0
    have c4 := cell_at (f3.at g4 (by omega)) 0
    have hs5 : Same w (W4.putObj B (.deferred none)) := hs4.trans f3 (fun i hi e => by omega)
    have hr5 : (W4.putObj B (.deferred none)).ownsRow (B + 7) 3 1 (.slice a7 S1.length c7) S1.length (intCells S1) := owns_fr hro f3 (fun k hk hx => by
      rcases hro.2 with ⟨e, _⟩ | ⟨g, c, cur, e, hg, _⟩
      · rw [e] at hk; simp [Value.ownBlock] at hk
      · rw [e] at hk; simp [Value.ownBlock] at hk; omega)
    refine ⟨by simp, .inl ⟨B, _, rfl, run_takeDeferred kd4, ?_⟩⟩
    refine ⟨.tuple #[.slice a7 q1 c7, .int .i64 S2, .int .i64 0], ?_, a7, c7, ?_, ?_, hs5⟩
    · simp [results, Try.results40, go_sem, c2, c3, c4]
    · rw [← hSe.out, hq1.out]
    · rw [← hSe.out]; exact (SliceAt.of_owns hr5).row
  · intro pre x W hj hpre hsW hrow
    rw [hW1] at hsW hrow ⊢
    have hx : IsOrd n x := ordsF_ord (by omega) (hpre.subset (by simp))
    refine round_yield hj.1 hr hp (by rw [hps]; rfl) (R := fun W' => (W'.heap[B + 1]? = some (.loop r) ∧ W'.heap[B]? = some (.deferred (some [])) ∧ LSt n t a cap L rt bs m b2 b3 b4 b6 b7 b8 B w (leastF n t (pre ++ [x])) W') ∧ Fr (RoundS b (B + 2)) W W') (A1 (.slice (some ⟨B + 2 + 2, 0, none⟩) n n)) ?_ ?_
    · rw [htm, hps, has]
      rw [hA1]
      gi_wp2
    rw [hbd]
    have hlb : B + 1 < W.heap.size := lt_of_heap hj.1
    have hfb : Fr (fun k => k = B + 1) W (W.putObj (B + 1) (.loop (busyL r))) := (Fr.refl _ _).putObj _ _ (fun _ => rfl)
    have kl2 : (W.putObj (B + 1) (.loop (busyL r))).heap[B + 1]? = some (.loop (busyL r)) := World.putObj_heap_same hlb
    have kd2 : (W.putObj (B + 1) (.loop (busyL r))).heap[B]? = some (.deferred (some [])) := hfb.at hj.2.1 (by omega)
    have hl2 := hj.2.2.mv hL.out hfb (fun k hk => by omega)
    have hrow2 : RowAt (W.putObj (B + 1) (.loop (busyL r))) (.slice (some ⟨B + 2 + 2, 0, none⟩) n n) n (intCells x) := hrow.keep hfb.size (fun k hk hlt => hfb.block k hlt (by simp [Value.ownBlock] at hk; omega))
    have hWB : B + 7 ≤ W.heap.size := by omega
    have hW2s := hfb.size
    generalize W.putObj (B + 1) (.loop (busyL r)) = W2 at *
    have y6 := cell_at hl2.k6 0
    have y6l := lt_of_heap hl2.k6
    clear hsW hW1
    replace hj := Lib.hid hj; replace kl2 := Lib.hid kl2; replace kd2 := Lib.hid kd2; replace hl2 := Lib.hid hl2; replace hrow2 := Lib.hid hrow2; replace hfb := Lib.hid hfb; replace hx := Lib.hid hx; replace hpre := Lib.hid hpre; replace hrow := Lib.hid hrow; replace kl := Lib.hid kl; replace kd := Lib.hid kd; replace kn := Lib.hid kn; replace hl1 := Lib.hid hl1; replace hr := Lib.hid hr; replace hp := Lib.hid hp; replace htm := Lib.hid htm; replace hps := Lib.hid hps; replace has := Lib.hid has; replace hbd := Lib.hid hbd; replace hord := Lib.hid hord; replace hWB := Lib.hid hWB; replace hW2s := Lib.hid hW2s
    rw [hA1]
    gi_wp2_with fail
    refine ⟨trivial, ?_⟩
    refine (CallsIn.inRound (B + 1) (callsIn_wide.2 (OF.out x hx.out _ _ bs m _ hl2.out.sz hrow2.out))).mono ?_
    rintro e W3 ⟨rfl, hS3, hf3⟩
    have hord' := hord.out
    have hl3 := hl2.out.sized hS3 hf3 (by omega) (by omega) (by omega) (by omega) (by omega) (by omega) (by omega)
    have kl3 := hf3.at kl2.out (by omega)
    have kd3 := hf3.at kd2.out (by omega)
    have hrow3 := hrow2.out.map hl2.out.sz.isMap hf3
    have hW3s := hf3.size
    have hf35 : Fr (RoundS b (B + 2)) W W3 := (hfb.out.mono (fun k _ h => by simp only [RoundS]; omega)).trans (T := RoundS b (B + 2)) (hf3.mono (fun k _ h => by simp only [RoundS]; omega)) (fun _ _ h => h)
    have hls := leastF_snoc n t pre x
    unfold lstep at hls
    have hnm : n ≤ 1000000 := by omega
    clear y6 y6l hord'
    have y6 := cell_at hl3.k6 0
    have y6l := lt_of_heap hl3.k6
    have y8 := cell_at hl3.k8 0
    have y8l := lt_of_heap hl3.k8
    have ye := cell_at hS3.box 4
    have yel := lt_of_heap hS3.box
    generalize szF n t x = s at *
    obtain ⟨⟨S1, S2⟩, hSe⟩ : ∃ S, S = leastF n t pre := ⟨_, rfl⟩
    rw [← hSe] at hls hl3 y8
    simp only at hls y8
    have FIN : ∀ W5 : World, W5.heap[B + 1]? = some (.loop (busyL r)) → W5.heap[B]? = some (.deferred (some [])) → LSt n t a cap L rt bs m b2 b3 b4 b6 b7 b8 B w (leastF n t (pre ++ [x])) W5 → Fr (RoundS b (B + 2)) W W5 →
        Exit.normal = Exit.normal ∧ W5.heap[B + 1]? = some (.loop (busyL r)) ∧ ((W5.putObj (B + 1) (.loop r)).heap[B + 1]? = some (.loop r) ∧ (W5.putObj (B + 1) (.loop r)).heap[B]? = some (.deferred (some [])) ∧ LSt n t a cap L rt bs m b2 b3 b4 b6 b7 b8 B w (leastF n t (pre ++ [x])) (W5.putObj (B + 1) (.loop r))) ∧ Fr (RoundS b (B + 2)) W (W5.putObj (B + 1) (.loop r)) := by
      intro W5 h1 h2 h3 h4
      have hf : Fr (fun k => k = B + 1) W5 (W5.putObj (B + 1) (.loop r)) := (Fr.refl _ _).putObj _ _ (fun _ => rfl)
      have hbb := hord.out
      exact ⟨rfl, h1, ⟨World.putObj_heap_same (lt_of_heap h1), hf.at h2 (by omega), h3.mv hL.out hf (fun k hk => by omega)⟩, h4.trans (T := RoundS b (B + 2)) (hf.mono (fun k _ h => by simp only [RoundS]; omega)) (fun _ _ h => h)⟩
    by_cases h1 : S2 < 0
    · rw [if_pos (.inl h1)] at hls
      replace hl3 := Lib.hid hl3; replace kl3 := Lib.hid kl3; replace kd3 := Lib.hid kd3; replace hrow3 := Lib.hid hrow3; replace hW3s := Lib.hid hW3s; replace hf35 := Lib.hid hf35; replace hls := Lib.hid hls; replace hS3 := Lib.hid hS3; replace hf3 := Lib.hid hf3; replace hSe := Lib.hid hSe; replace FIN := Lib.hid FIN
      gi_wp2_with fail
      refine ⟨trivial, ?_⟩
      refine (CallsIn.inRound (B + 1) (callsIn_wide.2 (cloneI_any x _ n n _ hx.out.len hrow3.out hnm))).mono ?_
      rintro e W4 ⟨a9, c9, rfl, ho9, hs9⟩
      have hl4 := hl3.out.mv hL.out hs9 (fun _ h => h.elim)
      have kl4 := hs9.at kl3.out id
      have kd4 := hs9.at kd3.out id
      have hW4s := hs9.size
      obtain ⟨a7, c7, k7, _⟩ := id hl4.k7
      clear y6 y6l y8 y8l ye yel
      have y7 := cell_at k7 0
      have y7f := free_at k7 0
      have y7l := lt_of_heap k7
      have y8 := cell_at hl4.k8 0
      have y8f := free_at hl4.k8 0
      have y8l := lt_of_heap hl4.k8
      have ho9' : W4.ownsRow (B + 7) 3 1 (.slice a9 n c9) n (intCells x) := own_base ho9 (by have := hWB.out; have := hW2s.out; have := hW3s.out; omega)
      have hl5 := lbest hord.out hl4 hL.out (a9 := a9) (c9 := c9) s hx.out.len ho9'
      have hf5 : Fr (fun k => k = b7 ∨ k = b8) W4 ((W4.setCell ⟨b7, 0, none⟩ (.slice a9 n c9)).setCell ⟨b8, 0, none⟩ (.int .i64 s)) := ((Fr.refl _ _).setCell _ _ (fun _ => .inl rfl)).setCell _ _ (fun _ => .inr rfl)
      have hbb := hord.out
      have kl5 := hf5.at kl4 (by omega)
      have kd5 := hf5.at kd4 (by omega)
      have hf6 : Fr (RoundS b (B + 2)) W ((W4.setCell ⟨b7, 0, none⟩ (.slice a9 n c9)).setCell ⟨b8, 0, none⟩ (.int .i64 s)) := (hf35.out.trans (T := RoundS b (B + 2)) (hs9.mono (fun _ _ h => h.elim)) (fun _ _ h => h)).trans (T := RoundS b (B + 2)) (hf5.mono (fun k _ h => by simp only [RoundS]; omega)) (fun _ _ h => h)
      have d87 : ¬ b8 = b7 := by omega
      have d78 : ¬ b7 = b8 := by omega
      clear hbb k7
      rw [← hls.out] at hl5
      replace ho9 := Lib.hid ho9; replace hs9 := Lib.hid hs9; replace hl4 := Lib.hid hl4; replace kl4 := Lib.hid kl4; replace kd4 := Lib.hid kd4; replace hW4s := Lib.hid hW4s; replace ho9' := Lib.hid ho9'; replace hl5 := Lib.hid hl5; replace hf5 := Lib.hid hf5; replace kl5 := Lib.hid kl5; replace kd5 := Lib.hid kd5; replace hf6 := Lib.hid hf6
      gi_wp2_with fail
      exact (FIN.out _ kl5.out kd5.out hl5.out hf6.out).2
    · by_cases h2 : s < S2
      · rw [if_pos (.inr h2)] at hls
        replace hl3 := Lib.hid hl3; replace kl3 := Lib.hid kl3; replace kd3 := Lib.hid kd3; replace hrow3 := Lib.hid hrow3; replace hW3s := Lib.hid hW3s; replace hf35 := Lib.hid hf35; replace hls := Lib.hid hls; replace hS3 := Lib.hid hS3; replace hf3 := Lib.hid hf3; replace hSe := Lib.hid hSe; replace FIN := Lib.hid FIN
        gi_wp2_with fail
        refine ⟨trivial, ?_⟩
        refine (CallsIn.inRound (B + 1) (callsIn_wide.2 (cloneI_any x _ n n _ hx.out.len hrow3.out hnm))).mono ?_
        rintro e W4 ⟨a9, c9, rfl, ho9, hs9⟩
        have hl4 := hl3.out.mv hL.out hs9 (fun _ h => h.elim)
        have kl4 := hs9.at kl3.out id
        have kd4 := hs9.at kd3.out id
        have hW4s := hs9.size
        obtain ⟨a7, c7, k7, _⟩ := id hl4.k7
        clear y6 y6l y8 y8l ye yel
        have y7 := cell_at k7 0
        have y7f := free_at k7 0
        have y7l := lt_of_heap k7
        have y8 := cell_at hl4.k8 0
        have y8f := free_at hl4.k8 0
        have y8l := lt_of_heap hl4.k8
        have ho9' : W4.ownsRow (B + 7) 3 1 (.slice a9 n c9) n (intCells x) := own_base ho9 (by have := hWB.out; have := hW2s.out; have := hW3s.out; omega)
        have hl5 := lbest hord.out hl4 hL.out (a9 := a9) (c9 := c9) s hx.out.len ho9'
        have hf5 : Fr (fun k => k = b7 ∨ k = b8) W4 ((W4.setCell ⟨b7, 0, none⟩ (.slice a9 n c9)).setCell ⟨b8, 0, none⟩ (.int .i64 s)) := ((Fr.refl _ _).setCell _ _ (fun _ => .inl rfl)).setCell _ _ (fun _ => .inr rfl)
        have hbb := hord.out
        have kl5 := hf5.at kl4 (by omega)
        have kd5 := hf5.at kd4 (by omega)
        have hf6 : Fr (RoundS b (B + 2)) W ((W4.setCell ⟨b7, 0, none⟩ (.slice a9 n c9)).setCell ⟨b8, 0, none⟩ (.int .i64 s)) := (hf35.out.trans (T := RoundS b (B + 2)) (hs9.mono (fun _ _ h => h.elim)) (fun _ _ h => h)).trans (T := RoundS b (B + 2)) (hf5.mono (fun k _ h => by simp only [RoundS]; omega)) (fun _ _ h => h)
        have d87 : ¬ b8 = b7 := by omega
        have d78 : ¬ b7 = b8 := by omega
        clear hbb k7
        rw [← hls.out] at hl5
        replace ho9 := Lib.hid ho9; replace hs9 := Lib.hid hs9; replace hl4 := Lib.hid hl4; replace kl4 := Lib.hid kl4; replace kd4 := Lib.hid kd4; replace hW4s := Lib.hid hW4s; replace ho9' := Lib.hid ho9'; replace hl5 := Lib.hid hl5; replace hf5 := Lib.hid hf5; replace kl5 := Lib.hid kl5; replace kd5 := Lib.hid kd5; replace hf6 := Lib.hid hf6
        gi_wp2_with fail
        exact (FIN.out _ kl5.out kd5.out hl5.out hf6.out).2
      · rw [if_neg (by omega)] at hls
        rw [← hls] at hl3
        replace hl3 := Lib.hid hl3; replace kl3 := Lib.hid kl3; replace kd3 := Lib.hid kd3; replace hrow3 := Lib.hid hrow3; replace hW3s := Lib.hid hW3s; replace hf35 := Lib.hid hf35; replace hls := Lib.hid hls; replace hS3 := Lib.hid hS3; replace hf3 := Lib.hid hf3; replace hSe := Lib.hid hSe; replace FIN := Lib.hid FIN
        gi_wp2_with fail
        exact (FIN.out _ kl3.out kd3.out hl3.out hf35.out).2
end Go.Proofs.Ytmmjijmmocabhaa
namespace Go.Proofs.Ytmmjijmmocabhaa
open Go.RowKit
set_option linter.unusedVariables false
set_option linter.unusedSimpArgs false

def LeastE (E : Int) (w : World) (e : Ending) (w' : World) : Prop := e = .returned (.tuple #[.slice none 0 0, .int .i64 0, .int .i64 E]) ∧ Same w w'
theorem err_boxes {w w1 : World} {b2 b3 b4 : Nat} {v0 : Value} (k2 : w1.heap[b2]? = some (.cells #[v0] 23 (0, 0))) (k3 : w1.heap[b3]? = some (.cells #[.int .i64 0] 3 (0, 0))) (k4 : w1.heap[b4]? = some (.cells #[.int .i64 0] 26 (0, 0)))
    (h1 : w.heap.size ≤ b2 ∧ b2 < b3 ∧ b3 < b4) (hs : Same w w1) (E : Int) :
    (((w1.setCell ⟨b2, 0, none⟩ (.slice none 0 0)).setCell ⟨b3, 0, none⟩ (.int .i64 0)).setCell ⟨b4, 0, none⟩ (.int .i64 E)).cell? ⟨b2, 0, none⟩ = some (.slice none 0 0) ∧
    (((w1.setCell ⟨b2, 0, none⟩ (.slice none 0 0)).setCell ⟨b3, 0, none⟩ (.int .i64 0)).setCell ⟨b4, 0, none⟩ (.int .i64 E)).cell? ⟨b3, 0, none⟩ = some (.int .i64 0) ∧
    (((w1.setCell ⟨b2, 0, none⟩ (.slice none 0 0)).setCell ⟨b3, 0, none⟩ (.int .i64 0)).setCell ⟨b4, 0, none⟩ (.int .i64 E)).cell? ⟨b4, 0, none⟩ = some (.int .i64 E) ∧
    Same w (((w1.setCell ⟨b2, 0, none⟩ (.slice none 0 0)).setCell ⟨b3, 0, none⟩ (.int .i64 0)).setCell ⟨b4, 0, none⟩ (.int .i64 E)) := by
  have g2 : (((w1.setCell ⟨b2, 0, none⟩ (.slice none 0 0)).setCell ⟨b3, 0, none⟩ (.int .i64 0)).setCell ⟨b4, 0, none⟩ (.int .i64 E)).heap[b2]? = some (.cells (#[v0].setIfInBounds 0 (.slice none 0 0)) 23 (0, 0)) := by
    rw [heap_setCell_other (by simp; omega), heap_setCell_other (by simp; omega)]; exact heap_setCell_same k2 0 _
  have g3 : (((w1.setCell ⟨b2, 0, none⟩ (.slice none 0 0)).setCell ⟨b3, 0, none⟩ (.int .i64 0)).setCell ⟨b4, 0, none⟩ (.int .i64 E)).heap[b3]? = some (.cells (#[.int .i64 0].setIfInBounds 0 (.int .i64 0)) 3 (0, 0)) := by
    rw [heap_setCell_other (by simp; omega)]
    refine heap_setCell_same ?_ 0 _
    rw [heap_setCell_other (by simp; omega)]; exact k3
  have g4 : (((w1.setCell ⟨b2, 0, none⟩ (.slice none 0 0)).setCell ⟨b3, 0, none⟩ (.int .i64 0)).setCell ⟨b4, 0, none⟩ (.int .i64 E)).heap[b4]? = some (.cells (#[.int .i64 0].setIfInBounds 0 (.int .i64 E)) 26 (0, 0)) := by
    refine heap_setCell_same ?_ 0 _
    rw [heap_setCell_other (by simp; omega), heap_setCell_other (by simp; omega)]; exact k4
  have f2 : Fr (fun k => k = b2 ∨ k = b3 ∨ k = b4) w1 (((w1.setCell ⟨b2, 0, none⟩ (.slice none 0 0)).setCell ⟨b3, 0, none⟩ (.int .i64 0)).setCell ⟨b4, 0, none⟩ (.int .i64 E)) := (((Fr.refl _ _).setCell _ _ (fun _ => .inl rfl)).setCell _ _ (fun _ => .inr (.inl rfl))).setCell _ _ (fun _ => .inr (.inr rfl))
  exact ⟨(cell_at g2 0).trans (by simp), (cell_at g3 0).trans (by simp), (cell_at g4 0).trans (by simp), hs.trans f2 (fun i hi e => by rcases e with e | e | e <;> omega)⟩

set_option maxRecDepth 100000 in
set_option maxHeartbeats 2000000 in
theorem Least_bad (n rt E : Int) (a : Option Addr) (q cap : Nat) (w : World) (h0 : E ≠ 0)
    (CK : ∀ W, Same w W → Calls Try.prog 45 #[.agg #[.int .i64 n, .slice a q cap, .int .i64 rt]] W fun e w' => e = .returned (.int .i64 E) ∧ Same W w') :
    Calls Try.prog 40 #[.agg #[.int .i64 n, .slice a q cap, .int .i64 rt]] w (LeastE E w) := by
  have hb : (E != 0) = true := by simpa using h0
  replace CK := Lib.hid CK; replace h0 := Lib.hid h0
  go_enter Try.func40, Try.ntmps40
  go_wp2_with fail
  refine (CK.out _ (by repeat (first | exact Fr.refl _ _ | apply Fr.alloc | apply Fr.drewN | apply Fr.drew | apply Fr.undrew | apply Fr.undrewN))).mono ?_
  rintro e w1 ⟨rfl, hs'⟩
  have k2 := hs'.at (heap_old (heap_old (heap_new_at (k := w.heap.size + 1) (by simp) (.cells #[.slice none 0 0] 23)) _) _) id
  have k3 := hs'.at (heap_old (heap_new_at (k := w.heap.size + 1 + 1) (by simp) (.cells #[.int .i64 0] 3)) _) id
  have k4 := hs'.at (heap_new_at (k := w.heap.size + 1 + 1 + 1) (by simp) (.cells #[.int .i64 0] 26)) id
  have hs : Same w w1 := (show Same w _ from (by repeat (first | exact Fr.refl _ _ | apply Fr.alloc | apply Fr.drewN | apply Fr.drew | apply Fr.undrew | apply Fr.undrewN))).same hs'
  obtain ⟨c2, c3, c4, hF⟩ := err_boxes k2 k3 k4 (by omega) hs E
  have y2 := cell_at k2 0
  have y2f := free_at k2 0
  have y2l := lt_of_heap k2
  have y3 := cell_at k3 0
  have y3f := free_at k3 0
  have y3l := lt_of_heap k3
  have y4 := cell_at k4 0
  have y4f := free_at k4 0
  have y4l := lt_of_heap k4
  clear hs'
  replace hs := Lib.hid hs; replace k2 := Lib.hid k2; replace k3 := Lib.hid k3; replace k4 := Lib.hid k4; replace hF := Lib.hid hF
  go_wp2_with fail
  refine bodyPost_ret (v := .tuple #[.slice none 0 0, .int .i64 0, .int .i64 E]) (by simp [results, Try.results40, go_sem, c2, c3, c4]) rfl ?_
  exact ⟨rfl, hF.out⟩

set_option maxRecDepth 100000 in
set_option maxHeartbeats 2000000 in
theorem Least_limit (n rt : Int) (a : Option Addr) (q cap : Nat) (w : World) (h0 : 6 < n)
    (CK : ∀ W, Same w W → Calls Try.prog 45 #[.agg #[.int .i64 n, .slice a q cap, .int .i64 rt]] W fun e w' => e = .returned (.int .i64 0) ∧ Same W w') :
    Calls Try.prog 40 #[.agg #[.int .i64 n, .slice a q cap, .int .i64 rt]] w (LeastE 3 w) := by
  replace CK := Lib.hid CK
  go_enter Try.func40, Try.ntmps40
  go_wp2_with fail
  refine (CK.out _ (by repeat (first | exact Fr.refl _ _ | apply Fr.alloc | apply Fr.drewN | apply Fr.drew | apply Fr.undrew | apply Fr.undrewN))).mono ?_
  rintro e w1 ⟨rfl, hs'⟩
  have kb := hs'.at (heap_old (heap_old (heap_old (heap_new w (.cells #[.int .i64 n, .slice a q cap, .int .i64 rt] 45)) _) _) _) id
  have k2 := hs'.at (heap_old (heap_old (heap_new_at (k := w.heap.size + 1) (by simp) (.cells #[.slice none 0 0] 23)) _) _) id
  have k3 := hs'.at (heap_old (heap_new_at (k := w.heap.size + 1 + 1) (by simp) (.cells #[.int .i64 0] 3)) _) id
  have k4 := hs'.at (heap_new_at (k := w.heap.size + 1 + 1 + 1) (by simp) (.cells #[.int .i64 0] 26)) id
  have hs : Same w w1 := (show Same w _ from (by repeat (first | exact Fr.refl _ _ | apply Fr.alloc | apply Fr.drewN | apply Fr.drew | apply Fr.undrew | apply Fr.undrewN))).same hs'
  obtain ⟨c2, c3, c4, hF⟩ := err_boxes k2 k3 k4 (by omega) hs 3
  have y0 := cell_at kb 0
  have y0l := lt_of_heap kb
  have y2 := cell_at k2 0
  have y2f := free_at k2 0
  have y2l := lt_of_heap k2
  have y3 := cell_at k3 0
  have y3f := free_at k3 0
  have y3l := lt_of_heap k3
  have y4 := cell_at k4 0
  have y4f := free_at k4 0
  have y4l := lt_of_heap k4
  clear hs'
  replace hs := Lib.hid hs; replace k2 := Lib.hid k2; replace k3 := Lib.hid k3; replace k4 := Lib.hid k4; replace hF := Lib.hid hF; replace kb := Lib.hid kb
  go_wp2_with fail
  refine bodyPost_ret (v := .tuple #[.slice none 0 0, .int .i64 0, .int .i64 3]) (by simp [results, Try.results40, go_sem, c2, c3, c4]) rfl ?_
  exact ⟨rfl, hF.out⟩
end Go.Proofs.Ytmmjijmmocabhaa
