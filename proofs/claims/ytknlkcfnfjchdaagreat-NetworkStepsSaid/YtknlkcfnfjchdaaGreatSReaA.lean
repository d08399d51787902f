/- projection.Reach: rows of edges; checkSet, check, observe walked. canonical automata of graphs: Empty, Found walked. canonical automata of graphs: Step, index, Events, Empty, Found walked. -/
import Derived.Test.YtknlkcfnfjchdaaGreatSAppR
import Derived.Test.YtknlkcfnfjchdaaGreatSMkP
namespace Go.Proofs.YtknlkcfnfjchdaaGreat
open Go.RowKit
set_option linter.unusedVariables false
set_option linter.unusedSimpArgs false

set_option maxRecDepth 100000 in
set_option maxHeartbeats 4000000 in
theorem rstep_any (A : Au) (s e : Int) (w : World) (hA : A.at w) (hz : A.small) : Calls Tryz.prog 176 #[A.v, .int .i64 s, .int .i64 e] w fun r w' => r = .returned (.int .i64 (stepI A.es s e)) ∧ Same w w' := by
  obtain ⟨al, n, mk, es, aA, cA, aM, cM, aE, cE⟩ := A
  obtain ⟨h1, h2, h3⟩ := hA
  obtain ⟨z1, z2, z3⟩ := hz
  unfold Au.v
  simp only at h1 h2 h3 z1 z2 z3 ⊢
  have ND := fun (k : Nat) (hk : k < es.length) W (hW : Same w W) => (h3.same hW).node hk
  have hat := fun (k : Nat) (hk : k < es.length) h h1 => stepI_at (es := es) (s := s) (e := e) (k := k) hk h h1
  have hnone := stepI_none (es := es) (s := s) (e := e)
  obtain ⟨R, hR⟩ : ∃ R, R = stepI es s e := ⟨_, rfl⟩
  simp only [← hR] at hat hnone ⊢
  obtain ⟨qE, hqE⟩ : ∃ q, q = es.length := ⟨_, rfl⟩
  rw [← hqE] at z3 ⊢
  have hL : es.length = qE := hqE.symm
  generalize al.length = qA at *
  generalize mk.length = qM at *
  clear h1 h2 h3 hqE z1 z2
  replace ND := Lib.hid ND; replace hR := Lib.hid hR; replace hat := Lib.hid hat; replace hnone := Lib.hid hnone; replace hL := Lib.hid hL
  go_enter Tryz.func176, Tryz.ntmps176
  go_upto_region 1 with fail
  have kb := heap_new w (.cells #[.slice aA qA cA, .int .i64 n, .slice aM qM cM, .slice aE qE cE] 44)
  have hs : Same w (w.alloc (.cells #[.slice aA qA cA, .int .i64 n, .slice aM qM cM, .slice aE qE cE] 44)) := fs2
  generalize w.alloc (.cells #[.slice aA qA cA, .int .i64 n, .slice aM qM cM, .slice aE qE cE] 44) = W0 at *
  generalize w.heap.size = ba at *
  replace kb := Lib.hid kb; replace hs := Lib.hid hs
  go_wp2_with fail
  go_loopw [7] (fun i wr => ∃ k : Nat, i = .int .i64 k ∧ k ≤ qE ∧ (∀ (j : Nat) (hj : j < es.length), j < k → ¬ (es[j].1 = s ∧ es[j].2.1 = e)) ∧ Same W0 wr) (fun i _ => qE - (intOf i).toNat)
  case atStart => exact ⟨0, rfl, by omega, fun _ _ h => by omega, Fr.refl _ _⟩
  case round =>
    obtain ⟨k, rfl, hk, hf, hs1⟩ := hrel
    have hs2 := hs.out.same hs1
    replace kb := Lib.hid (hs1.at kb.out id)
    have b3 := cell_at kb.out 3
    have bl := lt_of_heap kb.out
    by_cases hlt : k < qE
    · have hkl : k < es.length := by rw [hL.out]; exact hlt
      obtain ⟨bb, off, rfl, hbl, z0, z1, z2⟩ := ND.out k hkl wr hs2
      have hat1 := hat.out k hkl hf
      have hf2 : ¬ (es[k].1 = s ∧ es[k].2.1 = e) → ∀ (j : Nat) (hj : j < es.length), j < k + 1 → ¬ (es[j].1 = s ∧ es[j].2.1 = e) := fun hn j hj hjk => by
        by_cases h : j < k
        · exact hf j hj h
        · have : j = k := by omega
          subst this; exact hn
      generalize es[k] = x at *
      obtain ⟨f, g, t⟩ := x
      simp only at z0 z1 z2 hat1 hf2
      by_cases c1 : f = s
      · by_cases c2 : g = e
        · have hRt := hat1 ⟨c1, c2⟩
          subst c1 c2
          replace hs1 := Lib.hid hs1; replace hs2 := Lib.hid hs2; replace hf := Lib.hid hf; replace hat1 := Lib.hid hat1; replace hf2 := Lib.hid hf2; replace hRt := Lib.hid hRt
          go_wp2_with fail
          go_ret
          exact ⟨by rw [hRt.out]; rfl, hs2.out.same fs2⟩
        · have c2' : (g == e) = false := by simpa using c2
          have hf3 := hf2 (fun h => c2 h.2)
          subst c1
          replace hs1 := Lib.hid hs1; replace hs2 := Lib.hid hs2; replace hf := Lib.hid hf; replace hat1 := Lib.hid hat1; replace hf2 := Lib.hid hf2; replace hf3 := Lib.hid hf3; replace c2 := Lib.hid c2
          go_wp2_with fail
          go_roundw
          case rel => exact ⟨k + 1, by go_num, by omega, hf3.out, hs1.out.same fs2⟩
          case measure => simp [intOf]; omega
      · have c1' : (f == s) = false := by simpa using c1
        have hf3 := hf2 (fun h => c1 h.1)
        replace hs1 := Lib.hid hs1; replace hs2 := Lib.hid hs2; replace hf := Lib.hid hf; replace hat1 := Lib.hid hat1; replace hf2 := Lib.hid hf2; replace hf3 := Lib.hid hf3; replace c1 := Lib.hid c1
        go_wp2_with fail
        go_roundw
        case rel => exact ⟨k + 1, by go_num, by omega, hf3.out, hs1.out.same fs2⟩
        case measure => simp [intOf]; omega
    · obtain rfl : k = qE := by omega
      have hRn := hnone.out (fun j hj => hf j hj (by rw [← hL.out]; exact hj))
      replace hs1 := Lib.hid hs1; replace hs2 := Lib.hid hs2; replace hf := Lib.hid hf; replace hRn := Lib.hid hRn
      go_wp2_with fail
      go_ret
      exact ⟨by rw [hRn.out]; rfl, hs2.out.same fs2⟩

set_option maxRecDepth 100000 in
set_option maxHeartbeats 1000000 in
theorem rindex_any (l : List Int) (x : Int) (a : Option Addr) (q cap : Nat) (w : World) (hq : l.length = q) (hl : RowAt w (.slice a q cap) q (intCells l)) (hq9 : q ≤ 100000) :
    Calls Tryz.prog 177 #[.slice a q cap, .int .i64 x] w fun e w' => e = .returned (.int .i64 (idxI l x)) ∧ Same w w' := by
  have hat := fun (k : Nat) (hk : k < l.length) h h1 => idxI_at (l := l) (x := x) (k := k) hk h h1
  have hnone := idxI_none (l := l) (x := x)
  obtain ⟨R, hR⟩ : ∃ R, R = idxI l x := ⟨_, rfl⟩
  simp only [← hR] at hat hnone ⊢
  have hL : l.length = q := hq
  clear hq
  replace hl := Lib.hid hl; replace hL := Lib.hid hL; replace hR := Lib.hid hR; replace hat := Lib.hid hat; replace hnone := Lib.hid hnone
  go_enter Tryz.func177, Tryz.ntmps177
  go_wp2_with fail
  go_loopw [5] (fun i wr => ∃ k : Nat, i = .int .i64 k ∧ k ≤ q ∧ (∀ (j : Nat) (h : j < l.length), j < k → l[j] ≠ x) ∧ Same w wr) (fun i _ => q - (intOf i).toNat)
  case atStart => exact ⟨0, rfl, by omega, fun _ _ h => by omega, Fr.refl _ _⟩
  case round =>
    obtain ⟨k, rfl, hk, hf, hs⟩ := hrel
    by_cases hlt : k < q
    · have hkl : k < l.length := by rw [hL.out]; exact hlt
      obtain ⟨bb, off, rfl, hbl, z0⟩ := (hl.out.same hs).int (by rw [hL.out]) hlt
      by_cases he : l[k] = x
      · have hm := hat.out k hkl he hf
        rw [he] at z0
        replace hf := Lib.hid hf; replace hs := Lib.hid hs; replace he := Lib.hid he; replace hm := Lib.hid hm
        go_wp2_with fail
        go_ret
        exact ⟨by rw [hm.out]; rfl, hs.out.same fs2⟩
      · have hpe : (l[k] == x) = false := by simpa using he
        have hf2 : ∀ (j : Nat) (h : j < l.length), j < k + 1 → l[j] ≠ x := fun j h hj => by
          by_cases hjk : j < k
          · exact hf j h hjk
          · have : j = k := by omega
            subst this; exact he
        generalize l[k] = y at *
        replace hf := Lib.hid hf; replace hs := Lib.hid hs; replace hf2 := Lib.hid hf2; replace he := Lib.hid he
        go_wp2_with fail
        go_roundw
        case rel => exact ⟨k + 1, by go_num, by omega, hf2.out, hs.out.same fs2⟩
        case measure => simp [intOf]; omega
    · obtain rfl : k = q := by omega
      have hm := hnone.out (fun j hj => hf j hj (by rw [← hL.out]; exact hj))
      replace hf := Lib.hid hf; replace hs := Lib.hid hs; replace hm := Lib.hid hm
      go_wp2_with fail
      go_ret
      exact ⟨by rw [hm.out]; rfl, hs.out.same fs2⟩

/-- The events of a set. -/
def setP8 (s : Int) (k : Nat) : Bool := bits .and .u8 (s / 2 ^ k) 1 == 1
def evL (s : Int) : List Int := natI (filF (setP8 s) 5)
theorem evL_len (s : Int) : (evL s).length ≤ 5 := by unfold evL; rw [natI_len]; exact filF_len _ _
theorem evL_err (s : Int) : renErr 32 (evL s) (evL s).length 0 = 0 := by
  unfold evL
  refine renErr_0 _ 0 (by omega) (fun j hj => ?_) (fun j hj => ?_)
  · rw [natI_len] at hj
    rw [natI_toF hj]
    have := (filF_mem.1 (List.getElem_mem hj)).1
    omega
  · rw [natI_len] at hj
    rw [natI_toF (by omega), natI_toF hj]
    have := List.pairwise_iff_getElem.1 (filF_pair (setP8 s) 5) j (j + 1) (by omega) hj (by omega)
    omega
set_option maxRecDepth 100000 in
set_option maxHeartbeats 1000000 in
theorem events_any (s : Int) (w : World) :
    Calls Tryz.prog 21 #[.int .u8 s] w fun e w' => ∃ a c, e = .returned (.slice a (evL s).length c) ∧ w'.ownsRow w.heap.size 3 1 (.slice a (evL s).length c) (evL s).length (intCells (evL s)) ∧ Same w w' := by
  obtain ⟨i3, hi3, hi3z, hi3s, hi3b⟩ := info_parts info3
  unfold evL
  go_enter Tryz.func21, Tryz.ntmps21
  go_wp2_with fail
  go_loopw [3, 4] (fun v i wr => ∃ (k m : Nat) (a : Option Addr) (c : Nat), i = .int .i64 k ∧ k ≤ 5 ∧ m = (filF (setP8 s) k).length ∧ v = .slice a m c ∧ wr.ownsRow w.heap.size 3 1 (.slice a m c) m (intCells (natI (filF (setP8 s) k))) ∧ Same w wr) (fun _ i _ => 5 - (intOf i).toNat)
  case atStart => exact ⟨0, 0, none, 0, rfl, by omega, rfl, rfl, World.ownsRow_nil _ _ _ _, Fr.refl _ _⟩
  case round =>
    obtain ⟨k, m, a, c, rfl, hk, hm, rfl, ho, hs⟩ := hrel
    have hws := hs.size
    have hmk := filF_len (setP8 s) k
    rw [← hm] at hmk
    by_cases hkn : k < 5
    · have hmin : min k 8 = k := by omega
      have hk5 : (k : Int) < 5 := by omega
      obtain ⟨b, hb⟩ : ∃ b, b = setP8 s k := ⟨_, rfl⟩
      have hb2 := hb
      unfold setP8 at hb2
      cases b with
      | true =>
        have hst := filF_yes (p := setP8 s) hb.symm
        have hb3 : (bits .and .u8 (s / 2 ^ k) 1 == 1) = true := hb2.symm
        replace ho := Lib.hid ho; replace hs := Lib.hid hs; replace hst := Lib.hid hst; replace hm := Lib.hid hm; replace hb := Lib.hid hb; replace hb2 := Lib.hid hb2
        go_wp2_with (at_builtin; refine wpList_append1 rfl (.tmp 14) (.tmp 16) 31 rfl w.heap.size 3 i3 (.int .i64 0) 1 8 Tryz.underlying31 hi3 hi3z hi3s hi3b rfl (by decide) (by decide) a m c (intCells (natI (filF (setP8 s) k))) rfl (owns_same ho.out fs2) (by omega) wr.heap.size [.int .i64 k] rfl rfl (heap_new _ _) (by simp [Value.oneCell']) (by simp; omega) ?_; intro a5 c5 w5 ho5 hG5)
        have hs5 : Same w w5 := grew_fresh (hs.out.same fs2) hG5 (fun k hk => (ho.out.lt k hk).1)
        have ho5' : w5.ownsRow w.heap.size 3 1 (.slice a5 (m + 1) c5) (m + 1) (intCells (natI (filF (setP8 s) (k + 1)))) := by
          rw [hst.out, natI_snoc]; exact ho5
        clear ho5 hG5
        go_roundw
        case rel => exact ⟨k + 1, m + 1, a5, c5, by go_num, by omega, by rw [hst.out, List.length_append, ← hm.out]; rfl, rfl, ho5', hs5⟩
        case measure => simp [intOf]; omega
      | false =>
        have hst := filF_no (p := setP8 s) hb.symm
        have hb3 : (bits .and .u8 (s / 2 ^ k) 1 == 1) = false := hb2.symm
        replace ho := Lib.hid ho; replace hs := Lib.hid hs; replace hst := Lib.hid hst; replace hm := Lib.hid hm; replace hb := Lib.hid hb; replace hb2 := Lib.hid hb2
        go_wp2_with fail
        go_roundw
        case rel => exact ⟨k + 1, m, a, c, by go_num, by omega, by rw [hst.out, ← hm.out], rfl, by rw [hst.out]; exact owns_same ho.out fs2, hs.out.same fs2⟩
        case measure => simp [intOf]; omega
    · obtain rfl : k = 5 := by omega
      replace ho := Lib.hid ho; replace hs := Lib.hid hs; replace hm := Lib.hid hm
      go_wp2_with fail
      go_ret
      exact ⟨a, c, by rw [natI_len, ← hm.out]; rfl, by rw [natI_len, ← hm.out]; exact owns_same ho.out fs2, hs.out.same fs2⟩

theorem int_one (l : List Int) : ∀ u ∈ intCells l, u.oneCell' = true := fun u hu => by
  unfold intCells at hu
  obtain ⟨x, _, rfl⟩ := List.mem_map.1 hu
  rfl
/-- An automaton's box, stored over. -/
theorem box_au {w : World} {b : Nat} {x y z v u0 u1 u2 u3 : Value} {T : TypeId} (h : w.heap[b]? = some (.cells #[x, y, z, v] T (0, 0))) :
    let W := (((w.setCell ⟨b, 0, none⟩ u0).setCell ⟨b, 1, none⟩ u1).setCell ⟨b, 2, none⟩ u2).setCell ⟨b, 3, none⟩ u3
    W.heap[b]? = some (.cells #[u0, u1, u2, u3] T (0, 0)) ∧ Fr (fun k => k = b) w W := by
  have h1 := heap_setCell_same h 0 u0
  have h2 := heap_setCell_same h1 1 u1
  have h3 := heap_setCell_same h2 2 u2
  have h4 := heap_setCell_same h3 3 u3
  refine ⟨by simpa using h4, ?_⟩
  exact ((((Fr.refl (fun k => k = b) w).setCell ⟨b, 0, none⟩ u0 (fun _ => rfl)).setCell ⟨b, 1, none⟩ u1 (fun _ => rfl)).setCell ⟨b, 2, none⟩ u2 (fun _ => rfl)).setCell ⟨b, 3, none⟩ u3 (fun _ => rfl)
theorem box4_facts {w : World} {b : Nat} {x y z v : Value} {T : TypeId} (h : w.heap[b]? = some (.cells #[x, y, z, v] T (0, 0))) :
    w.cell? ⟨b, 0, none⟩ = some x ∧ w.cell? ⟨b, 1, none⟩ = some y ∧ w.cell? ⟨b, 2, none⟩ = some z ∧ w.cell? ⟨b, 3, none⟩ = some v ∧ w.frozen? ⟨b, 0, none⟩ = false ∧ w.frozen? ⟨b, 1, none⟩ = false ∧ w.frozen? ⟨b, 2, none⟩ = false ∧ w.frozen? ⟨b, 3, none⟩ = false ∧ b < w.heap.size :=
  ⟨cell_at h 0, cell_at h 1, cell_at h 2, cell_at h 3, free_at h 0, free_at h 1, free_at h 2, free_at h 3, lt_of_heap h⟩

set_option maxRecDepth 100000 in
set_option maxHeartbeats 1000000 in
theorem rempty_any (al : List Int) (a : Option Addr) (q c : Nat) (w : World) (hq : al.length = q) (hl : RowAt w (.slice a q c) q (intCells al)) (hq9 : q ≤ 1000) :
    Calls Tryz.prog 138 #[.slice a q c] w fun e w' => ∃ a' c', e = .returned (.agg #[.slice a' q c', .int .i64 0, .slice none 0 0, .slice none 0 0]) ∧ w'.ownsRow w.heap.size 3 1 (.slice a' q c') q (intCells al) ∧ Same w w' := by
  obtain ⟨i3, hi3, hi3z, hi3s, hi3b⟩ := info_parts info3
  have h1 := int_one al
  replace hl := Lib.hid hl; replace hq := Lib.hid hq; replace h1 := Lib.hid h1
  go_enter Tryz.func138, Tryz.ntmps138
  go_upto_region 1 with fail
  have kb := heap_new w (.cells #[.slice none 0 0, .int .i64 0, .slice none 0 0, .slice none 0 0] 44)
  have hs : Same w (w.alloc (.cells #[.slice none 0 0, .int .i64 0, .slice none 0 0, .slice none 0 0] 44)) := fs2
  generalize w.alloc (.cells #[.slice none 0 0, .int .i64 0, .slice none 0 0, .slice none 0 0] 44) = W0 at *
  have hz := hs.size
  have hzk := lt_of_heap kb
  obtain ⟨ba, hba⟩ : ∃ ba, ba = w.heap.size := ⟨_, rfl⟩
  rw [← hba] at kb hz hzk ⊢
  replace kb := Lib.hid kb; replace hs := Lib.hid hs; replace hba := Lib.hid hba
  go_wp2_with (at_builtin; refine wpList_appR rfl (.tmp 3) (.tmp 4) 31 rfl ba 3 i3 (.int .i64 0) 8 Tryz.underlying31 hi3 hi3z hi3s hi3b rfl (by decide) (.slice (some ⟨W0.heap.size, 0, none⟩) 0 0) 0 [] rfl (own_of_block (heap_new _ _) hz rfl rfl (by unfold maxLen; omega)) a q c (intCells al) rfl (hl.out.same (hs.out.same fs2)) h1.out (by omega) (by simp; omega) ?_; intro a5 c5 w5 ho5 hG5; simp only [Nat.zero_add, List.nil_append] at ho5 hG5 ⊢; have hs5 : Same W0 w5 := grew_fresh (W := W0.alloc (.cells #[] 3)) fs2 hG5 (fun k hk => by simp only [Value.ownBlock, Option.some.injEq] at hk; omega); have k5 := hs5.at kb.out id; obtain ⟨y0, y1, y2, y3, f0, f1, f2, f3, yl⟩ := box4_facts k5; replace hs5 := Lib.hid hs5; replace ho5 := Lib.hid ho5; replace k5 := Lib.hid k5; clear hG5)
  obtain ⟨k6, f6⟩ := box_au (u0 := .slice a5 q c5) (u1 := .int .i64 0) (u2 := .slice none 0 0) (u3 := .slice none 0 0) k5.out
  have ho6 := owns_fr ho5.out f6 (fun k hk e => by
    obtain ⟨cur, e1⟩ := own_block ho5.out hk
    rw [show k = ba from e, k5.out] at e1
    simp at e1)
  have hs6 : Same w _ := (hs.out.same hs5.out).trans f6 (fun i hi e => by have : i = ba := e; have := hba.out; omega)
  clear y0 y1 y2 y3 f0 f1 f2 f3
  generalize (((w5.setCell ⟨ba, 0, none⟩ (.slice a5 q c5)).setCell ⟨ba, 1, none⟩ (.int .i64 0)).setCell ⟨ba, 2, none⟩ (.slice none 0 0)).setCell ⟨ba, 3, none⟩ (.slice none 0 0) = W6 at *
  obtain ⟨d0, d1, d2, d3, f0, f1, f2, f3, yl⟩ := box4_facts k6
  refine bodyPost_ret (v := .agg #[.slice a5 q c5, .int .i64 0, .slice none 0 0, .slice none 0 0]) (by simp [results, Tryz.results138, go_sem, d0, d1, d2, d3]) rfl ?_
  exact ⟨a5, c5, rfl, by rw [← hba.out]; exact ho6, hs6⟩

set_option maxRecDepth 100000 in
set_option maxHeartbeats 8000000 in
theorem rfound_any (A : Au) (n : Nat) (hn : A.n = n) (hn64 : n ≤ 64) (w : World) (hA : A.at w) (hz : A.small) (he : EsIn n A.es) :
    Calls Tryz.prog 174 #[A.v] w fun e w' => ∃ a c, e = .returned (.slice a (foundF A.es A.al n).length c) ∧ w'.ownsRow w.heap.size 3 1 (.slice a (foundF A.es A.al n).length c) (foundF A.es A.al n).length (intCells (foundF A.es A.al n)) ∧ Same w w' := by
  obtain ⟨i3, hi3, hi3z, hi3s, hi3b⟩ := info_parts info3
  have SP := fun (s e : Int) W (hW : Same w W) => rstep_any A s e W (hA.same hW) hz
  have hal := hA.al
  have z1 := hz.al
  clear hA hz
  obtain ⟨al, m, mk, es, aA, cA, aM, cM, aE, cE⟩ := A
  simp only at hn
  subst hn
  unfold Au.v at SP ⊢
  simp only at SP hal he z1 ⊢
  obtain ⟨F, hF⟩ : ∃ F, F = foundF es al n := ⟨_, rfl⟩
  rw [← hF]
  obtain ⟨qA, hqA⟩ : ∃ q, q = al.length := ⟨_, rfl⟩
  rw [← hqA] at SP hal z1 ⊢
  generalize mk.length = qM at *
  generalize es.length = qE at *
  replace SP := Lib.hid SP; replace hal := Lib.hid hal; replace he := Lib.hid he; replace hF := Lib.hid hF; replace hqA := Lib.hid hqA
  go_enter Tryz.func174, Tryz.ntmps174
  go_upto_region 1 with fail
  have kb := heap_new w (.cells #[.slice aA qA cA, .int .i64 n, .slice aM qM cM, .slice aE qE cE] 44)
  have hs : Same w (w.alloc (.cells #[.slice aA qA cA, .int .i64 n, .slice aM qM cM, .slice aE qE cE] 44)) := fs2
  generalize w.alloc (.cells #[.slice aA qA cA, .int .i64 n, .slice aM qM cM, .slice aE qE cE] 44) = W0 at *
  have hz := hs.size
  have hzk := lt_of_heap kb
  obtain ⟨ba, hba⟩ : ∃ ba, ba = w.heap.size := ⟨_, rfl⟩
  rw [← hba] at kb hz hzk ⊢
  replace kb := Lib.hid kb; replace hs := Lib.hid hs; replace hba := Lib.hid hba
  have b1 := cell_at kb.out 1
  by_cases hn0 : n = 0
  · subst hn0
    have hF0 : F = [] := hF.out
    replace hF0 := Lib.hid hF0
    go_wp2_with fail
    go_loopw [3, 4] (fun x i wr => x = .slice none 0 0 ∧ i = .int .i64 0 ∧ Same w wr) (fun _ _ _ => 0)
    case atStart => exact ⟨rfl, rfl, hs.out.same fs2⟩
    case round =>
      obtain ⟨rfl, rfl, hs1⟩ := hrel
      replace hs1 := Lib.hid hs1
      go_wp2_with fail
      go_ret
      exact ⟨none, 0, by rw [hF0.out]; rfl, by rw [hF0.out]; exact World.ownsRow_nil _ _ _ _, hs1.out.same fs2⟩
  · have hn1 : (0 : Int) < n := by omega
    have hF1 : fndF es al n 0 [0] = F := by rw [hF.out]; unfold foundF; rw [if_pos (by omega)]
    replace hF1 := Lib.hid hF1
    go_wp2_with (at_builtin; refine wpList_append1 rfl (.tmp 10) (.tmp 11) 31 rfl W0.heap.size 3 i3 (.int .i64 0) 1 8 Tryz.underlying31 hi3 hi3z hi3s hi3b rfl (by decide) (by decide) none 0 0 [] rfl (World.ownsRow_nil _ _ _ _) (by omega) W0.heap.size [.int .i64 0] rfl rfl (heap_new _ _) (by simp [Value.oneCell']) (by simp) ?_; intro a5 c5 w5 ho5 hG5; simp only [Nat.zero_add, List.nil_append] at ho5 hG5 ⊢; have hs5 : Same W0 w5 := (show Same W0 _ from fs2).same (grew_nilA hG5); replace hs5 := Lib.hid hs5; replace ho5 := Lib.hid ho5; clear hG5)
    go_loopw [3, 4] (fun x i wr => ∃ (j q : Nat) (out : List Int) (a : Option Addr) (c : Nat), i = .int .i64 j ∧ q = out.length ∧ x = .slice a q c ∧ wr.ownsRow W0.heap.size 3 1 (.slice a q c) q (intCells out) ∧ FndOk n out ∧ j ≤ q ∧ fndF es al (n - j) j out = F ∧ Same W0 wr) (fun _ i _ => n - (intOf i).toNat)
    case atStart => exact ⟨0, 1, [0], a5, c5, rfl, rfl, rfl, ho5.out, ⟨by simp, fun x hx => by simp at hx; omega⟩, by omega, hF1.out, hs5.out⟩
    case round =>
      clear hs5 ho5 hF1
      obtain ⟨j, q, out, a, c, rfl, hq, rfl, ho, hok, hj, hF1, hs1⟩ := hrel
      have hlen := hok.len
      rw [← hq] at hlen
      by_cases hjq : j < q
      · have hjl : j < out.length := by omega
        obtain ⟨f, hf⟩ : ∃ f, n - j = f + 1 := ⟨n - j - 1, by omega⟩
        rw [hf, fndF_go hjl] at hF1
        obtain rfl : f = n - (j + 1) := by omega
        obtain ⟨s, hsd⟩ : ∃ s, s = out[j] := ⟨_, rfl⟩
        rw [← hsd, ← hqA.out] at hF1
        obtain ⟨wo, rfl⟩ : ∃ wo, wo = wr := ⟨_, rfl⟩
        have hjn : j < n := by omega
        clear hf b1
        replace ho := Lib.hid ho; replace hok := Lib.hid hok; replace hF1 := Lib.hid hF1; replace hs1 := Lib.hid hs1; replace hq := Lib.hid hq; replace hsd := Lib.hid hsd
        go_wp2_with fail
        go_loopw [3, 5] (fun x i wr => ∃ (k q : Nat) (o2 : List Int) (a : Option Addr) (c : Nat), i = .int .i64 k ∧ k ≤ qA ∧ o2 = expS es al s out k ∧ q = o2.length ∧ x = .slice a q c ∧ wr.ownsRow W0.heap.size 3 1 (.slice a q c) q (intCells o2) ∧ Same W0 wr) (fun _ i _ => qA - (intOf i).toNat)
        case atStart => exact ⟨0, q, out, a, c, rfl, by omega, (expS_0 _ _ _ _).symm, hq.out, rfl, ho.out, hs1.out⟩
        case round =>
          clear ho hs1
          obtain ⟨k, q2, o2, a2, c2, rfl, hk, ho2, hq2, rfl, ho, hs1⟩ := hrel
          have hok2 : FndOk n o2 := by rw [ho2]; exact expS_ok he.out hok.out k (by rw [← hqA.out]; exact hk)
          have hlen2 := hok2.len
          rw [← hq2] at hlen2
          have hpre : out <+: o2 := by rw [ho2]; exact expS_pre k (by rw [← hqA.out]; exact hk)
          have hql : q ≤ q2 := by rw [hq.out, hq2]; exact hpre.length_le
          have hs2 := hs.out.same hs1
          replace kb := Lib.hid (hs1.at kb.out id)
          have b0 := cell_at kb.out 0
          have b1 := cell_at kb.out 1
          have b2 := cell_at kb.out 2
          have b3 := cell_at kb.out 3
          have bl := lt_of_heap kb.out
          have hw1 := hs1.size
          by_cases hkA : k < qA
          · have hsj : o2[j]'(by omega) = s := by
              rw [hsd.out]
              obtain ⟨t, rfl⟩ := hpre
              exact List.getElem_append_left _
            obtain ⟨bb, off, rfl, hbl, z0⟩ := ((SliceAt.of_owns ho).row).int (k := j) (by rw [hq2]) (by omega)
            rw [hsj] at z0
            obtain ⟨bc, off2, rfl, hcl, z1⟩ := (hal.out.same hs2).int (k := k) (by rw [hqA.out]) hkA
            have hrec := expS_succ (es := es) (al := al) (s := s) (out := out) (k := k) (by rw [← hqA.out]; exact hkA)
            rw [← ho2] at hrec
            unfold addS at hrec
            have SP1 := SP.out s (al[k]'(by rw [← hqA.out]; exact hkA))
            generalize al[k]'(by rw [← hqA.out]; exact hkA) = e at *
            generalize stepI es s e = t at *
            have RH := fun W (hW : Same wr W) => rhas_any o2 t _ q2 c2 W hq2.symm ((SliceAt.of_owns ho).row.same hW) (by omega)
            have hji : j < q2 := by omega
            clear hsj
            replace ho := Lib.hid ho; replace hok2 := Lib.hid hok2; replace hs1 := Lib.hid hs1; replace hs2 := Lib.hid hs2; replace hrec := Lib.hid hrec; replace SP1 := Lib.hid SP1; replace RH := Lib.hid RH; replace ho2 := Lib.hid ho2; replace hq2 := Lib.hid hq2
            go_upto_region 10 with fail
            refine wp_region_sched (fun k => k = ba ∨ k = bb ∨ k = bc) [1, 0, 0, 0, 1, 0, 1, 0, 0, 1, 3, 0] [1, 2, 3, 5, 7, 0, 4, 6, 8, 9, 10, 11] (by kernel_rfl) (by kernel_rfl) ?_
            repeat (first | (refine sched_w rfl rfl (fun _ hK => ?_); go_simp; refine hK _ ?_; clear hK) | (refine sched_s rfl rfl (fun _ hK => ?_); go_simp; first | (refine hK _ ?_; clear hK) | (refine ⟨_, fun _ => rfl, hK _ ?_⟩; clear hK)))
            refine sched_l rfl (by decide) (fun _ hK => ?_); go_simp
            refine (SP1.out _ (hs2.out.same fs2)).mono ?_
            rintro e6 w6 ⟨rfl, s6⟩
            have hs6 : Same wr w6 := (show Same wr _ from fs2).same s6
            refine hK _ _ ?_; clear hK; try simp only [Act.put, List.setIfInBounds_toArray, List.set_cons_zero, List.set_cons_succ]
            repeat (first | (refine sched_w rfl rfl (fun _ hK => ?_); go_simp; refine hK _ ?_; clear hK) | (refine sched_s rfl rfl (fun _ hK => ?_); go_simp; first | (refine hK _ ?_; clear hK) | (refine ⟨_, fun _ => rfl, hK _ ?_⟩; clear hK)))
            refine sched_nil (NoPanic.normal ?_)
            have hs7 := hs1.out.same hs6
            clear s6 b0 b1 b2 b3 z0 z1
            replace hs6 := Lib.hid hs6; replace hs7 := Lib.hid hs7
            by_cases c1 : 0 ≤ t
            · obtain ⟨R, hR⟩ : ∃ R, R = decide (t ∈ o2) := ⟨_, rfl⟩
              have RH1 := RH.out
              rw [← hR] at RH1
              replace RH1 := Lib.hid RH1; replace hR := Lib.hid hR
              go_wp2_with fail
              refine (RH1.out _ hs6.out).mono ?_
              rintro e7 w7 ⟨rfl, s7⟩
              have hs8 := hs6.out.same s7
              have hs9 := hs7.out.same s7
              clear s7
              cases R with
              | true =>
                have hrec2 : expS es al s out (k + 1) = o2 := by rw [hrec.out, if_neg (fun h => h.2 (of_decide_eq_true hR.out.symm))]
                replace hs8 := Lib.hid hs8; replace hs9 := Lib.hid hs9; replace hrec2 := Lib.hid hrec2
                go_wp2_with fail
                go_roundw
                case rel => exact ⟨k + 1, q2, o2, _, c2, by go_num, by omega, hrec2.out.symm, hq2.out, rfl, owns_same ho.out (hs8.out.same fs2), hs9.out.same fs2⟩
                case measure => simp [intOf]; omega
              | false =>
                have hrec2 : expS es al s out (k + 1) = o2 ++ [t] := by rw [hrec.out, if_pos ⟨c1, fun h => by have := hR.out; rw [decide_eq_true h] at this; cases this⟩]
                have hz8 := hs8.size
                replace hs8 := Lib.hid hs8; replace hs9 := Lib.hid hs9; replace hrec2 := Lib.hid hrec2
                go_wp2_with (at_builtin; refine wpList_append1 rfl (.tmp 45) (.tmp 47) 31 rfl W0.heap.size 3 i3 (.int .i64 0) 1 8 Tryz.underlying31 hi3 hi3z hi3s hi3b rfl (by decide) (by decide) _ q2 c2 (intCells o2) rfl (owns_same ho.out (hs8.out.same fs2)) (by omega) w7.heap.size [.int .i64 t] rfl rfl (heap_new _ _) (by simp [Value.oneCell']) (by simp; omega) ?_; intro a9 c9 w9 ho9 hG9)
                have hs10 : Same W0 w9 := grew_fresh (hs9.out.same fs2) hG9 (fun k hk => (ho.out.lt k hk).1)
                have ho10 : w9.ownsRow W0.heap.size 3 1 (.slice a9 (q2 + 1) c9) (q2 + 1) (intCells (o2 ++ [t])) := by
                  have := ho9; simpa [intCells] using this
                clear ho9 hG9
                go_roundw
                case rel => exact ⟨k + 1, q2 + 1, o2 ++ [t], a9, c9, by go_num, by omega, hrec2.out.symm, by rw [List.length_append, ← hq2.out]; rfl, rfl, ho10, hs10⟩
                case measure => simp [intOf]; omega
            · have hrec2 : expS es al s out (k + 1) = o2 := by rw [hrec.out, if_neg (fun h => c1 h.1)]
              have c1' : (0 ≤ t) = False := by simpa using c1
              replace hrec2 := Lib.hid hrec2; replace c1 := Lib.hid c1
              go_wp2_with fail
              go_roundw
              case rel => exact ⟨k + 1, q2, o2, _, c2, by go_num, by omega, hrec2.out.symm, hq2.out, rfl, owns_same ho.out (hs6.out.same fs2), hs7.out.same fs2⟩
              case measure => simp [intOf]; omega
          · obtain rfl : k = qA := by omega
            have hF1 := hF1.out
            rw [← ho2] at hF1
            replace ho := Lib.hid ho; replace hok2 := Lib.hid hok2; replace hF1 := Lib.hid hF1; replace hs1 := Lib.hid hs1; replace hs2 := Lib.hid hs2; replace hq2 := Lib.hid hq2
            go_wp2_with fail
            go_roundw
            case rel => exact ⟨j + 1, q2, o2, a2, c2, by go_num, hq2.out, rfl, ho.out, hok2.out, by omega, hF1.out, hs1.out⟩
            case measure => simp [intOf]; omega
      · obtain rfl : j = q := by omega
        rw [fndF_end (by omega)] at hF1
        subst hF1
        replace ho := Lib.hid ho; replace hok := Lib.hid hok; replace hs1 := Lib.hid hs1; replace hq := Lib.hid hq
        go_wp2_with fail
        go_ret
        exact ⟨a, c, by rw [← hq.out]; rfl, by rw [← hq.out]; exact owns_mono (owns_same ho.out fs2) (by rw [← hba.out]; exact hz), (hs.out.same hs1.out).same fs2⟩

/-! ### rows of edges -/
structure RE where
  a : Option Addr
  cap : Nat
  l : List Nd
def RE.v (g : RE) : Value := .slice g.a g.l.length g.cap
end Go.Proofs.YtknlkcfnfjchdaaGreat
