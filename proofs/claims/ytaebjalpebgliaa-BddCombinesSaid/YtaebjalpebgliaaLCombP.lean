/- BddCombines: what the walk of its loop keeps, and the calls ahead. -/
import Derived.Test.YtaebjalpebgliaaKnown
import Derived.Test.YtaebjalpebgliaaLSame
import Derived.Test.YtaebjalpebgliaaLTable
import Derived.Test.YtaebjalpebgliaaRows5
import Derived.Test.YtaebjalpebgliaaCut
namespace Go.Proofs.Ytaebjalpebgliaa
open Go.RowKit
set_option linter.unusedVariables false
set_option linter.unusedSimpArgs false

/-- A call returns some diagram and an error: that of a table, or none. -/
structure Res (ok : Prop) (n : Nat) (t : List Bool) (nn : Int) (L : List Nd) (r E : Int) : Prop where
  yes : ok → nn = n ∧ tableF n [] 0 t = (L, r) ∧ E = 0
  no : ¬ ok → nn = 0 ∧ L = [] ∧ r = 0 ∧ E = 4

def CRet (ok : Prop) (n : Nat) (t : List Bool) (w : World) (e : Ending) (w' : World) : Prop :=
  ∃ nn a L c r E, e = .returned (.tuple #[.agg #[.int .i64 nn, .slice a L.length c, .int .i64 r], .int .i64 E]) ∧ Res ok n t nn L r E ∧ SliceAt w' 80 3 (.slice a L.length c) L.length (ndCells L) ∧ Same w w'

theorem DRet.cret {ok : Prop} {n : Nat} {t : List Bool} {w w' : World} {e : Ending} (hok : ok) (h : DRet w n (tableF n [] 0 t).1 (tableF n [] 0 t).2 e w') : CRet ok n t w e w' := by
  obtain ⟨ao, co, rfl, hO, hs⟩ := h
  exact ⟨_, ao, _, co, _, _, rfl, ⟨fun _ => ⟨rfl, rfl, rfl⟩, fun h => absurd hok h⟩, hO, hs⟩
theorem DOut.cret {ok : Prop} {n : Nat} {t : List Bool} {w w' : World} {e : Ending} (hok : ¬ ok) (h : DOut w 0 [] 0 4 e w') : CRet ok n t w e w' := by
  obtain ⟨ao, co, rfl, hO, hs⟩ := h
  exact ⟨_, ao, _, co, _, _, rfl, ⟨fun h => absurd h hok, fun _ => ⟨rfl, rfl, rfl, rfl⟩⟩, hO, hs⟩

/-- A canonical diagram as a value. -/
def CanD (n : Nat) (t : List Bool) (a : Option Addr) (c : Nat) (L : List Nd) (r : Int) (w : World) : Prop := IsTab n t L r ∧ SliceAt w 80 3 (.slice a L.length c) L.length (ndCells L)

theorem CanD.same {n : Nat} {t : List Bool} {a : Option Addr} {c : Nat} {L : List Nd} {r : Int} {w w' : World} (h : CanD n t a c L r w) (hs : Same w w') : CanD n t a c L r w' := ⟨h.1, h.2.same hs⟩

theorem ldia_can (n : Nat) (b : Nat) (t : List Bool) (w : World) (hn : n ≤ 10) (ht : t.length = 2 ^ n) (hT : BoolsAt w b t) :
    Calls Try.prog 14 #[.int .i64 n, .slice (some ⟨b, 0, none⟩) t.length t.length] w fun e w' => ∃ a L c r, e = .returned (.agg #[.int .i64 n, .slice a L.length c, .int .i64 r]) ∧ CanD n t a c L r w' ∧ Same w w' := by
  have h2 : 2 ^ n ≤ 2 ^ 10 := Nat.pow_le_pow_right (by omega) hn
  refine (ldiagram_any n _ _ t w hn ht (hT.slice (by omega))).mono ?_
  rintro e w' ⟨a, c, rfl, hO, hs⟩
  exact ⟨a, _, c, _, rfl, ⟨IsTab.of hn ht, hO⟩, hs⟩

theorem not_can (n : Nat) (t : List Bool) (a : Option Addr) (c : Nat) (L : List Nd) (r : Int) (w : World) (hn : n ≤ 10) (h : CanD n t a c L r w) :
    Calls Try.prog 15 #[.agg #[.int .i64 n, .slice a L.length c, .int .i64 r]] w (CRet True n (ite3 t (fls n) (tru n)) w) :=
  (not_right n ⟨n, a, c, L, r⟩ t w hn h.2 ⟨rfl, h.1⟩).mono fun e w' h' => h'.cret trivial

theorem bin_can (n m : Nat) (t t' : List Bool) (a a' : Option Addr) (c c' : Nat) (L L' : List Nd) (r r' : Int) (w : World) (hn : n ≤ 10) (h : CanD n t a c L r w) (h' : CanD m t' a' c' L' r' w) :
    Calls Try.prog 16 #[.agg #[.int .i64 n, .slice a L.length c, .int .i64 r], .agg #[.int .i64 m, .slice a' L'.length c', .int .i64 r']] w (CRet (n = m) n (ite3 t t' (fls n)) w) ∧
    Calls Try.prog 17 #[.agg #[.int .i64 n, .slice a L.length c, .int .i64 r], .agg #[.int .i64 m, .slice a' L'.length c', .int .i64 r']] w (CRet (n = m) n (ite3 t (tru n) t') w) ∧
    Calls Try.prog 18 #[.agg #[.int .i64 n, .slice a L.length c, .int .i64 r], .agg #[.int .i64 m, .slice a' L'.length c', .int .i64 r']] w (CRet (n = m) n (ite3 t (ite3 t' (fls n) (tru n)) t') w) := by
  by_cases e : n = m
  · subst e
    exact ⟨(and_right n ⟨n, a, c, L, r⟩ ⟨n, a', c', L', r'⟩ t t' w hn h.2 h'.2 ⟨rfl, h.1⟩ ⟨rfl, h'.1⟩).mono fun e w' h' => h'.cret rfl,
      (or_right n ⟨n, a, c, L, r⟩ ⟨n, a', c', L', r'⟩ t t' w hn h.2 h'.2 ⟨rfl, h.1⟩ ⟨rfl, h'.1⟩).mono fun e w' h' => h'.cret rfl,
      (xor_right n ⟨n, a, c, L, r⟩ ⟨n, a', c', L', r'⟩ t t' w hn h.2 h'.2 ⟨rfl, h.1⟩ ⟨rfl, h'.1⟩).mono fun e w' h' => h'.cret rfl⟩
  · have T : (Dg.mk n a c L r).tab n t := ⟨rfl, h.1⟩
    have T' : (Dg.mk m a' c' L' r').tab m t' := ⟨rfl, h'.1⟩
    refine ⟨(and_call ⟨n, a, c, L, r⟩ ⟨m, a', c', L', r'⟩ 0 [] 0 4 w (fun W ad hW hD => ?_)).mono fun e' w' h' => h'.cret e, (or_call ⟨n, a, c, L, r⟩ ⟨m, a', c', L', r'⟩ 0 [] 0 4 w (fun W ad hW hD => ?_)).mono fun e' w' h' => h'.cret e, (xor_call ⟨n, a, c, L, r⟩ ⟨m, a', c', L', r'⟩ 0 [] 0 4 w (fun W ad hW hD => ?_)).mono fun e' w' h' => h'.cret e⟩
    · exact two_size (F := 0) ⟨n, a, c, L, r⟩ ⟨m, a', c', L', r'⟩ n m t t' w h.2 h'.2 T T' e _ W ad hW hD
    · exact two_size (F := 0) ⟨n, a, c, L, r⟩ ⟨m, a', c', L', r'⟩ n m t t' w h.2 h'.2 T T' e _ W ad hW hD
    · exact two_size (F := 0) ⟨n, a, c, L, r⟩ ⟨m, a', c', L', r'⟩ n m t t' w h.2 h'.2 T T' e _ W ad hW hD

theorem ite_can (n m k : Nat) (t t' t'' : List Bool) (a a' a'' : Option Addr) (c c' c'' : Nat) (L L' L'' : List Nd) (r r' r'' : Int) (w : World) (hn : n ≤ 10) (h : CanD n t a c L r w) (h' : CanD m t' a' c' L' r' w) (h'' : CanD k t'' a'' c'' L'' r'' w) :
    Calls Try.prog 19 #[.agg #[.int .i64 n, .slice a L.length c, .int .i64 r], .agg #[.int .i64 m, .slice a' L'.length c', .int .i64 r'], .agg #[.int .i64 k, .slice a'' L''.length c'', .int .i64 r'']] w (CRet (n = m ∧ n = k) n (ite3 t t' t'') w) := by
  by_cases e : n = m ∧ n = k
  · obtain ⟨rfl, rfl⟩ := e
    exact (ite_rt n ⟨n, a, c, L, r⟩ ⟨n, a', c', L', r'⟩ ⟨n, a'', c'', L'', r''⟩ t t' t'' w hn h.2 h'.2 h''.2 ⟨rfl, h.1⟩ ⟨rfl, h'.1⟩ ⟨rfl, h''.1⟩).mono fun e w' h' => h'.cret ⟨rfl, rfl⟩
  · exact (three_size ⟨n, a, c, L, r⟩ ⟨m, a', c', L', r'⟩ ⟨k, a'', c'', L'', r''⟩ n m k t t' t'' w h.2 h'.2 h''.2 ⟨rfl, h.1⟩ ⟨rfl, h'.1⟩ ⟨rfl, h''.1⟩ (by omega)).mono fun e' w' h' => h'.cret e

theorem is_can (n : Nat) (t : List Bool) (mm : Nat) (L : List Nd) (r : Int) (a aT : Option Addr) (c cT : Nat) (w : World) (hn : n ≤ 10) (ht : t.length = 2 ^ n) (hm : t.length = mm) (h : tableF n [] 0 t = (L, r)) (hO : SliceAt w 80 3 (.slice a L.length c) L.length (ndCells L))
    (hT : SliceAt w 4 1 (.slice aT mm cT) mm (boolCells t)) :
    Calls Try.prog 20 #[.agg #[.int .i64 n, .slice a L.length c, .int .i64 r], .int .i64 0, .int .i64 n, .slice aT mm cT] w fun e w' => e = .returned (.bool true) ∧ Same w w' := by
  subst hm
  have := is_true n t a aT c cT w hn ht hT (by rw [h]; exact hO)
  rw [h] at this
  exact this

/-- The loop: block bo has the rows; row 0 has j values, rows 1 to 3 have j1, row 4 has j2. -/
structure LRel (W0 : World) (bo : Nat) (f0 f1 f2 f3 f4 : Nat → Bool) (j j1 j2 : Nat) (a0 a1 a2 a3 a4 : Option Addr) (c0 c1 c2 c3 c4 : Nat) (wr : World) : Prop where
  outer : wr.heap[bo]? = some (.cells #[.slice a0 j c0, .slice a1 j1 c1, .slice a2 j1 c2, .slice a3 j1 c3, .slice a4 j2 c4] 26 (0, 0))
  rows : Rws (bo + 1) wr [(.slice a0 j c0, colF f0 j), (.slice a1 j1 c1, colF f1 j1), (.slice a2 j1 c2, colF f2 j1), (.slice a3 j1 c3, colF f3 j1), (.slice a4 j2 c4, colF f4 j2)]
  same : Same W0 wr

theorem LRel.step0 {W0 : World} {bo : Nat} {f0 f1 f2 f3 f4 : Nat → Bool} {j j1 j2 : Nat} {a0 a1 a2 a3 a4 a' : Option Addr} {c0 c1 c2 c3 c4 c' : Nat} {wr W W' : World} {b : Bool} (h : LRel W0 bo f0 f1 f2 f3 f4 j j1 j2 a0 a1 a2 a3 a4 c0 c1 c2 c3 c4 wr) (hb : b = f0 j) (hbo : W0.heap.size ≤ bo) (hs : Same wr W)
    (hO : W'.ownsRow (bo + 1) 4 1 (.slice a' (j + 1) c') (j + 1) (boolCells (colF f0 j) ++ [.bool b])) (hG : Grew (fun _ => False) W W' (.slice a0 j c0) (.slice a' (j + 1) c')) :
    W'.heap[bo]? = some (.cells #[.slice a0 j c0, .slice a1 j1 c1, .slice a2 j1 c2, .slice a3 j1 c3, .slice a4 j2 c4] 26 (0, 0)) ∧
    LRel W0 bo f0 f1 f2 f3 f4 (j + 1) j1 j2 a' a1 a2 a3 a4 c' c1 c2 c3 c4 (W'.setCell ⟨bo, 0, none⟩ (.slice a' (j + 1) c')) := by
  have hl := lt_of_heap h.outer
  obtain ⟨r1, r2, r3⟩ := Rws.append (R1 := []) h.rows hs (by omega) hO hG
  have ho := r2 _ _ h.outer (by omega)
  refine ⟨ho, by rw [heap_setCell_same ho]; rfl, ?_, (r3 W0 (by omega) h.same).setCell _ _ (fun hh => by simp only at hh; omega)⟩
  rw [colF_succ, ← hb]
  exact r1.fr (S := fun k => k = bo) ((Fr.refl _ _).setCell _ _ (fun _ => rfl)) (fun k hk => by omega)

theorem LRel.mid {W0 : World} {bo : Nat} {f0 f1 f2 f3 f4 : Nat → Bool} {j j1 j2 : Nat} {a0 a1 a2 a3 a4 : Option Addr} {c0 c1 c2 c3 c4 : Nat} {wr : World} (h : LRel W0 bo f0 f1 f2 f3 f4 j j1 j2 a0 a1 a2 a3 a4 c0 c1 c2 c3 c4 wr) :
    Mid W0 bo #[.slice a0 j c0, .slice a1 j1 c1, .slice a2 j1 c2, .slice a3 j1 c3, .slice a4 j2 c4] [(.slice a0 j c0, colF f0 j), (.slice a1 j1 c1, colF f1 j1), (.slice a2 j1 c2, colF f2 j1), (.slice a3 j1 c3, colF f3 j1), (.slice a4 j2 c4, colF f4 j2)] wr := ⟨h.outer, h.rows, h.same⟩

theorem LRel.fin {W0 : World} {bo : Nat} {f0 f1 f2 f3 f4 : Nat → Bool} {j j1 j2 : Nat} {a0 a1 a2 a3 a4 : Option Addr} {c0 c1 c2 c3 c4 : Nat} {wr : World} (h : LRel W0 bo f0 f1 f2 f3 f4 j j1 j2 a0 a1 a2 a3 a4 c0 c1 c2 c3 c4 wr) (hbo : W0.heap.size ≤ bo)
    (d1 d2 d3 : Option Addr) (e1 e2 e3 : Nat) (b1 b2 b3 : Bool) (pend : List (Value × List Bool)) (W : World) (h1 : b1 = f1 j1) (h2 : b2 = f2 j1) (h3 : b3 = f3 j1)
    (hM : Mid W0 bo #[.slice a0 j c0, .slice a1 j1 c1, .slice a2 j1 c2, .slice a3 j1 c3, .slice a4 j2 c4] ((.slice a0 j c0, colF f0 j) :: (.slice d1 (j1 + 1) e1, colF f1 j1 ++ [b1]) :: (.slice d2 (j1 + 1) e2, colF f2 j1 ++ [b2]) :: (.slice d3 (j1 + 1) e3, colF f3 j1 ++ [b3]) :: (.slice a4 j2 c4, colF f4 j2) :: pend) W) :
    LRel W0 bo f0 f1 f2 f3 f4 j (j1 + 1) j2 a0 d1 d2 d3 a4 c0 e1 e2 e3 c4 (((W.setCell ⟨bo, 1, none⟩ (.slice d1 (j1 + 1) e1)).setCell ⟨bo, 2, none⟩ (.slice d2 (j1 + 1) e2)).setCell ⟨bo, 3, none⟩ (.slice d3 (j1 + 1) e3)) := by
  subst h1 h2 h3
  rw [← colF_succ, ← colF_succ, ← colF_succ] at hM
  have hf : Fr (fun k => k = bo) W (((W.setCell ⟨bo, 1, none⟩ (.slice d1 (j1 + 1) e1)).setCell ⟨bo, 2, none⟩ (.slice d2 (j1 + 1) e2)).setCell ⟨bo, 3, none⟩ (.slice d3 (j1 + 1) e3)) :=
    (((Fr.refl (fun k => k = bo) _).setCell _ _ (fun _ => rfl)).setCell _ _ (fun _ => rfl)).setCell _ _ (fun _ => rfl)
  refine ⟨?_, ?_, hM.same.trans hf (fun i hi hh => by omega)⟩
  · rw [heap_setCell_same (heap_setCell_same (heap_setCell_same hM.outer _ _) _ _)]; rfl
  · have := hM.rows.fr hf (fun k hk => by omega)
    exact ⟨fun p hp => this.1 p (by simp at hp ⊢; rcases hp with h | h | h | h | h <;> simp [h]), (List.pairwise_append (l₂ := pend)).1 (by simpa using this.2) |>.1⟩

theorem LRel.step4 {W0 : World} {bo : Nat} {f0 f1 f2 f3 f4 : Nat → Bool} {j j1 j2 : Nat} {a0 a1 a2 a3 a4 a' : Option Addr} {c0 c1 c2 c3 c4 c' : Nat} {wr W W' : World} {b : Bool} (h : LRel W0 bo f0 f1 f2 f3 f4 j j1 j2 a0 a1 a2 a3 a4 c0 c1 c2 c3 c4 wr) (hb : b = f4 j2) (hbo : W0.heap.size ≤ bo) (hs : Same wr W)
    (hO : W'.ownsRow (bo + 1) 4 1 (.slice a' (j2 + 1) c') (j2 + 1) (boolCells (colF f4 j2) ++ [.bool b])) (hG : Grew (fun _ => False) W W' (.slice a4 j2 c4) (.slice a' (j2 + 1) c')) :
    W'.heap[bo]? = some (.cells #[.slice a0 j c0, .slice a1 j1 c1, .slice a2 j1 c2, .slice a3 j1 c3, .slice a4 j2 c4] 26 (0, 0)) ∧
    LRel W0 bo f0 f1 f2 f3 f4 j j1 (j2 + 1) a0 a1 a2 a3 a' c0 c1 c2 c3 c' (W'.setCell ⟨bo, 4, none⟩ (.slice a' (j2 + 1) c')) := by
  have hl := lt_of_heap h.outer
  obtain ⟨r1, r2, r3⟩ := Rws.append (R1 := [(.slice a0 j c0, colF f0 j), (.slice a1 j1 c1, colF f1 j1), (.slice a2 j1 c2, colF f2 j1), (.slice a3 j1 c3, colF f3 j1)]) (R2 := []) h.rows hs (by omega) hO hG
  have ho := r2 _ _ h.outer (by omega)
  refine ⟨ho, by rw [heap_setCell_same ho]; rfl, ?_, (r3 W0 (by omega) h.same).setCell _ _ (fun hh => by simp only at hh; omega)⟩
  rw [colF_succ, ← hb]
  exact r1.fr (S := fun k => k = bo) ((Fr.refl _ _).setCell _ _ (fun _ => rfl)) (fun k hk => by omega)

end Go.Proofs.Ytaebjalpebgliaa
