/- bdd.Restrict. -/
import Derived.Test.YtaebjalpebgliaaChange
import Derived.Test.YtaebjalpebgliaaChgP
import Derived.Test.YtaebjalpebgliaaFrom
import Derived.Test.YtaebjalpebgliaaOpsR
import Derived.Test.YtaebjalpebgliaaSearch
namespace Go.Proofs.Ytaebjalpebgliaa
open Go.RowKit
set_option linter.unusedVariables false
set_option linter.unusedSimpArgs false

/-- A builder whose number stands for a table: finish returns its diagram. -/
theorem fin_tab {N : List Nd} {n : Nat} {k : Int} {t : List Bool} (hn : n ≤ 10) (ho : Ord N n) (hv : VNum N k) (ht : tab N n 0 k = t) (hl : N.length ≤ 100000) (B p m : Nat) (a : Option Addr) (cap : Nat) (W : World) (hB : BuilderAt W B p m a cap N) :
    Calls Try.prog 58 #[.pointer (some ⟨p, 0, none⟩), .int .i64 n, .int .i64 k] W (DRet W n (tableF n [] 0 t).1 (tableF n [] 0 t).2) := by
  obtain ⟨s', v1, v2⟩ := finish_table ho hv
  rw [ht] at v1 v2
  have hs := tab_short hn t
  refine (finish_any B p m a cap N n k (n + 1) s' _ W hB ho.val.laid hl hv.1 hv.2 v1 (by rw [v2]; omega)).mono ?_
  intro e w3 hD
  unfold finishF at hD
  rw [if_pos (by rw [v2]; exact hs), v2] at hD
  exact hD

/-- change of a diagram's root, laid into an empty builder. -/
theorem chg_there {n : Nat} (hn : n ≤ 10) {t : List Bool} {L : List Nd} {r : Int} (T : IsTab n t L r) {wn : Int → Bool} {o : Bool → Bool → Bool} {dof : Is → Int → Int → Option (Is × Int)} (ho : Idem o) (hdo : DoOk n o dof) :
    VNd (addF L ([], [0, 1])).1 ∧ VNum (addF L ([], [0, 1])).1 ((addF L ([], [0, 1])).2.getD r.toNat 0) ∧
    ∃ s' q, changeF wn dof (n + 1) (((addF L ([], [0, 1])).1, []), []) ((addF L ([], [0, 1])).2.getD r.toNat 0) = some (s', q) ∧ Ord s'.1.1 n ∧ VNum s'.1.1 q ∧ tab s'.1.1 n 0 q = chT wn o n 0 t ∧ s'.1.1.length ≤ 100000 := by
  obtain ⟨hL, hr, ht⟩ := T.ord
  obtain ⟨a1, a2, a3, a4, a5⟩ := add_root hL (Ord.nil (n := (n : Int)) (by omega)) hr
  have h0 := (topF_range hL.val hr).1
  have e := a5 n 0 (by omega) h0
  obtain ⟨s', q, b1, b2, b3, b4, b5, b6, b7, b8, b9⟩ := change_right (wn := wn) ho hdo n 0 _ (((addF L ([], [0, 1])).1, []), []) (n + 1) a1 (Memo.nil _ _) (CMemo.nil _ _ _ _) a3 (by rw [a4]; exact h0) (by omega) (by omega) (by omega)
  refine ⟨a1.val, a3, s', q, b1, b2, b6, by rw [b8, e, ht], ?_⟩
  have h1 := addF_length1 L ([], [0, 1])
  have h2 := T.small
  have h3 : 2 ^ n ≤ 2 ^ 10 := Nat.pow_le_pow_right (by omega) hn
  have h4 : n * 2 ^ n ≤ 10 * 2 ^ 10 := Nat.mul_le_mul hn h3
  simp only [List.length_nil] at h1 b9
  omega

theorem VM.nil {K : Type} [DecidableEq K] (N : List Nd) : VM N ([] : List (K × Int)) := fun _ _ h => by simp [mget] at h

/-- What lies below a builder is kept by change. -/
theorem chg_low {S : Nat → Prop} {W w' : World} {B p m mc : Nat} {a : Option Addr} {cap : Nat} {N : List Nd} {v' : Value} (hB : BuilderAt W B p m a cap N) (hmc : B ≤ mc) (hS : ∀ i, S i → B ≤ i)
    (hG : Grew (fun i => BB p m i ∨ S i ∨ i = mc) W w' (.slice a N.length cap) v') {k : Nat} (hk : k < W.heap.size) (hkB : k < B) : w'.heap[k]? = W.heap[k]? := by
  refine hG.1.block k hk ?_
  rintro (h | h | h | h)
  · have := (hB.own.lt k h).1; omega
  · rcases h with h | h
    · have := hB.pb; omega
    · have := hB.mb; omega
  · have := hS _ h; omega
  · omega

theorem chg_same {S : Nat → Prop} {w0 W w' : World} {B p m mc : Nat} {a : Option Addr} {cap : Nat} {N : List Nd} {v' : Value} (hB : BuilderAt W B p m a cap N) (hmc : B ≤ mc) (hS : ∀ i, S i → B ≤ i)
    (hG : Grew (fun i => BB p m i ∨ S i ∨ i = mc) W w' (.slice a N.length cap) v') (h0 : Same w0 W) (hw : w0.heap.size ≤ B) : Same w0 w' := by
  refine h0.trans hG.1 (fun i hi h => ?_)
  have hi' : i < W.heap.size := Nat.lt_of_lt_of_le hi h0.size
  rcases h with h | h | h | h
  · have := (hB.own.lt i h).1; omega
  · rcases h with h | h
    · have := hB.pb; omega
    · have := hB.mb; omega
  · have := hS _ h; omega
  · omega

def pickB (b : Bool) : Bool → Bool → Bool := fun x y => if b then y else x
theorem pick_idem (b : Bool) : Idem (pickB b) := fun x => by cases b <;> rfl

def doR (b : Bool) : Is → Int → Int → Option (Is × Int) := fun s l h => some (s, if b then h else l)

theorem zip_pick (b : Bool) : ∀ (x y : List Bool), x.length = y.length → List.zipWith (pickB b) x y = if b then y else x
  | [], [], _ => by cases b <;> rfl
  | u :: x, v :: y, h => by
    rw [List.zipWith_cons_cons, zip_pick b x y (by simpa using h)]
    cases b <;> rfl

theorem doR_ok (n : Int) (b : Bool) : DoOk n (pickB b) (doR b) := by
  intro d v l h s hN hM hl hh tl th hv h0
  have h2 := Nat.two_pow_pos d
  refine ⟨s, _, rfl, hN, hM, List.prefix_refl _, ?_, ?_, ?_, by omega⟩
  · cases b <;> simp only [if_true, Bool.false_eq_true, if_false] <;> assumption
  · cases b <;> simp only [if_true, Bool.false_eq_true, if_false] <;> assumption
  · rw [zip_pick b _ _ (by rw [tab_length, tab_length])]
    cases b <;> rfl

theorem doR_val (b : Bool) : DoVal (doR b) := by
  intro s l h s' r e hN hM hl hh
  simp only [doR, Option.some.injEq, Prod.mk.injEq] at e
  obtain ⟨rfl, rfl⟩ := e
  exact ⟨hN, hM, by cases b <;> simp only [if_true, Bool.false_eq_true, if_false] <;> assumption, Nat.le_refl _⟩

theorem enter_R1 (args : Array Value) (W : World) : (callFunc 65 args).run Try.prog W = .ok (.enter 65 args) W := by kernel_rfl
theorem enter_R2 (args : Array Value) (W : World) : (callFunc 66 args).run Try.prog W = .ok (.enter 66 args) W := by kernel_rfl

theorem rest1 (v u : Int) (k : Nat) (W : World) (h : W.heap[k]? = some (.cells #[.int .i64 u] 3 (0, 0))) :
    Calls Try.prog 65 #[.int .i64 v, .pointer (some ⟨k, 0, none⟩)] W fun e W' => e = .returned (.bool (decide (v = u))) ∧ Same W W' := by
  have c := cell_at h 0
  have hb := lt_of_heap h
  have e : (v == u) = decide (v = u) := by by_cases h : v = u <;> simp [h]
  obtain ⟨R, hR⟩ : ∃ R, R = decide (v = u) := ⟨_, rfl⟩
  rw [← hR] at e ⊢
  replace h := Lib.hid h; replace hR := Lib.hid hR
  go_enter Try.func65, Try.ntmps65
  go_wp2_with fail
  go_ret
  exact ⟨by first | rfl | rw [e], (by repeat (first | exact Fr.refl _ _ | apply Fr.alloc | apply Fr.drewN | apply Fr.drew | apply Fr.undrew | apply Fr.undrewN))⟩

theorem rest2 (l h : Int) (b : Bool) (k : Nat) (W : World) (hk : W.heap[k]? = some (.cells #[.bool b] 4 (0, 0))) :
    Calls Try.prog 66 #[.int .i64 l, .int .i64 h, .pointer (some ⟨k, 0, none⟩)] W fun e W' => e = .returned (.int .i64 (if b then h else l)) ∧ Same W W' := by
  have c := cell_at hk 0
  have hb := lt_of_heap hk
  replace hk := Lib.hid hk
  cases b
  · go_enter Try.func66, Try.ntmps66
    go_wp2_with fail
    go_ret
    exact ⟨rfl, (by repeat (first | exact Fr.refl _ _ | apply Fr.alloc | apply Fr.drewN | apply Fr.drew | apply Fr.undrew | apply Fr.undrewN))⟩
  · go_enter Try.func66, Try.ntmps66
    go_wp2_with fail
    go_ret
    exact ⟨rfl, (by repeat (first | exact Fr.refl _ _ | apply Fr.alloc | apply Fr.drewN | apply Fr.drew | apply Fr.undrew | apply Fr.undrewN))⟩

theorem rest_env {B p m mc k1 k2 : Nat} {u : Nat} {b : Bool} (hm : m < mc ∧ p < mc) (hB : B ≤ mc) (h1 : k1 < B) (h2 : k2 < B) :
    ChgE (oneV u) (doR b) B p m mc (fun _ => False) (fun W _ => W.heap[k1]? = some (.cells #[.int .i64 u] 3 (0, 0)) ∧ W.heap[k2]? = some (.cells #[.bool b] 4 (0, 0))) 65 66
      #[.pointer (some ⟨k1, 0, none⟩)] #[.pointer (some ⟨k2, 0, none⟩)] := by
  refine ⟨enter_R1, enter_R2, ?_, ?_, ?_, doR_val b, fun i h => h.elim, hm⟩
  · intro v W M h
    exact rest1 v u k1 W h.1
  · intro a cap s l h s' r W hBu hP _ _ _ _ e _
    simp only [doR, Option.some.injEq, Prod.mk.injEq] at e
    obtain ⟨rfl, rfl⟩ := e
    refine (rest2 l h b k2 W hP.2).mono ?_
    rintro e W' ⟨rfl, hs⟩
    exact ⟨rfl, a, cap, hBu.same hs, ⟨hs.at hP.1 id, hs.at hP.2 id⟩, Grew.of_same _ hs⟩
  · intro W W' M a cap N hP hBu hf
    have key : ∀ k, k < B → ¬ ((Value.slice a N.length cap).ownBlock = some k ∨ BB p m k ∨ k = mc) := by
      rintro k hk (h | h | h)
      · have := (hBu.own.lt k h).1; omega
      · rcases h with h | h
        · have := hBu.pb; omega
        · have := hBu.mb; omega
      · omega
    exact ⟨hf.at hP.1 (key k1 h1), hf.at hP.2 (key k2 h2)⟩

set_option maxRecDepth 100000 in
set_option maxHeartbeats 4000000 in
theorem restrict_ok (d : Dg) (n : Nat) (t : List Bool) (u : Nat) (b : Bool) (w : World) (hn : n ≤ 10) (hat : d.at w) (T : d.tab n t) (hu : u < n) :
    Calls Try.prog 37 #[d.v, .int .i64 u, .bool b] w (DRet w n (tableF n [] 0 (oneT (pickB b) n u t)).1 (tableF n [] 0 (oneT (pickB b) n u t)).2) := by
  have C := fun W (hW : Same w W) => check_tab d n t W (SliceAt.same hat hW) T
  obtain ⟨hL, hr, ht⟩ := T.2.ord
  obtain ⟨c1, c2, s', q, c3, c4, c5, c6, c7⟩ := chg_there hn T.2 (wn := oneV u) (pick_idem b) (doR_ok n b)
  rw [oneT_chT (pickB b) T.2.len hu]
  have FIN := fin_tab hn c4 c5 c6 c7
  have hsm := T.2.small
  have hp10 : 2 ^ n ≤ 2 ^ 10 := Nat.pow_le_pow_right (by omega) hn
  have e := T.1
  rw [Dg.v, e] at C ⊢
  unfold Dg.at at hat
  clear T
  generalize d.L = L at *
  generalize d.r = r at *
  generalize d.a = a at *
  generalize d.cap = cap at *
  obtain ⟨O, hO⟩ : ∃ O, O = tableF n [] 0 (chT (oneV u) (pickB b) n 0 t) := ⟨_, rfl⟩
  rw [← hO] at FIN ⊢
  have hlow : 0 < L.length → ∀ k, (Value.slice a L.length cap).ownBlock = some k → k < w.heap.size := lit_own_below hat
  have ADD := fun B p m a' cap' W (hB : BuilderAt W B p m a' cap' []) (hw : Same w W) (hwB : w.heap.size ≤ B) => add_any B p m a' cap' [] n r a cap L W hB (hat.same hw) (fun h0 i hi => Nat.lt_of_lt_of_le (hlow h0 i hi) hwB) hL.val.laid hr.1 hr.2 (by simp; omega)
  obtain ⟨N, hN⟩ : ∃ N, N = (addF L ([], [0, 1])).1 := ⟨_, rfl⟩
  obtain ⟨k, hk⟩ : ∃ k, k = (addF L ([], [0, 1])).2.getD r.toNat 0 := ⟨_, rfl⟩
  rw [← hN, ← hk] at ADD c3 c2
  rw [← hN] at c1
  have hun : ¬ (n : Int) ≤ u := by omega
  have hmm := @run_makeMap Try.prog
  replace C := Lib.hid C; replace FIN := Lib.hid FIN; replace ADD := Lib.hid ADD; replace c1 := Lib.hid c1; replace c2 := Lib.hid c2; replace c3 := Lib.hid c3; replace c4 := Lib.hid c4; replace c5 := Lib.hid c5; replace c6 := Lib.hid c6; replace c7 := Lib.hid c7; replace hat := Lib.hid hat; replace hL := Lib.hid hL; replace hr := Lib.hid hr; replace ht := Lib.hid ht; replace e := Lib.hid e; replace hlow := Lib.hid hlow; replace hN := Lib.hid hN; replace hk := Lib.hid hk; replace hO := Lib.hid hO
  go_enter Try.func37, Try.ntmps37
  go_wp2_with fail
  refine (C.out _ (by repeat (first | exact Fr.refl _ _ | apply Fr.alloc | apply Fr.drewN | apply Fr.drew | apply Fr.undrew | apply Fr.undrewN))).mono ?_
  rintro e w1 ⟨rfl, hs1⟩
  have kb : w1.heap[w.heap.size]? = some (.cells #[.int .i64 n, .slice a L.length cap, .int .i64 r] 31 (0, 0)) := hs1.at (heap_old (heap_old (heap_old (heap_new _ _) _) _) _) id
  have kv : w1.heap[w.heap.size + 1]? = some (.cells #[.int .i64 u] 3 (0, 0)) := hs1.at (heap_old (heap_old (heap_new_at (by simp) _) _) _) id
  have kx : w1.heap[w.heap.size + 1 + 1]? = some (.cells #[.bool b] 4 (0, 0)) := hs1.at (heap_old (heap_new_at (by simp) _) _) id
  have kt : w1.heap[w.heap.size + 1 + 1 + 1]? = some (.cells #[.int .i64 0, .slice none 0 0, .int .i64 0] 31 (0, 0)) := hs1.at (heap_new_at (by simp) _) id
  have hs : Same w w1 := (show Same w _ from (by repeat (first | exact Fr.refl _ _ | apply Fr.alloc | apply Fr.drewN | apply Fr.drew | apply Fr.undrew | apply Fr.undrewN))).same hs1
  have x0 := cell_at kb 0; have x1 := cell_at kb 1; have x2 := cell_at kb 2
  have y0 := cell_at kv 0
  have tb := lt_of_heap kt
  replace kb := Lib.hid kb; replace kv := Lib.hid kv; replace kx := Lib.hid kx; replace kt := Lib.hid kt; replace hs := Lib.hid hs; replace hs1 := Lib.hid hs1
  go_wp2_with fail
  refine (begin_any _).mono ?_
  rintro e w2 ⟨p, m, rfl, hB, hs2⟩
  have kb2 := hs2.at kb.out id
  have kv2 := hs2.at kv.out id
  have kx2 := hs2.at kx.out id
  have kt2 := hs2.at kt.out id
  have hw2 := hs.out.same hs2
  have hsz := hs.out.size
  have hsz2 := hs2.size
  clear x0 x1 x2 y0
  have x0 := cell_at kb2 0; have x1 := cell_at kb2 1; have x2 := cell_at kb2 2
  have xb := lt_of_heap kb2
  replace kb2 := Lib.hid kb2; replace kv2 := Lib.hid kv2; replace kx2 := Lib.hid kx2; replace kt2 := Lib.hid kt2; replace hw2 := Lib.hid hw2; replace hB := Lib.hid hB; replace hs2 := Lib.hid hs2
  go_wp2_with fail
  refine (ADD.out w1.heap.size p m none 0 w2 hB.out hw2.out hsz).mono ?_
  rintro e w3 hr3
  obtain ⟨rfl, a1, cap1, hB3, hG3⟩ := hr3.of
  have hs3 : Same w w3 := Grew.same_base (w0 := w) hB.out (by simpa [or_false] using hG3) hw2.out hsz
  have low3 : ∀ j o, j < w1.heap.size → w2.heap[j]? = some o → w3.heap[j]? = some o := fun j o hj h => by rw [hG3.below hB.out hj]; exact h
  have kb3 := low3 _ _ (by omega) kb2.out
  have kv3 := low3 _ _ (by omega) kv2.out
  have kx3 := low3 _ _ (by omega) kx2.out
  have kt3 := low3 _ _ (by omega) kt2.out
  have hpm3 : p < w3.heap.size ∧ m < w3.heap.size := ⟨lt_of_heap hB3.blk, hB3.map.lt⟩
  have hB3w : w1.heap.size ≤ w3.heap.size := by have := hB3.pb; omega
  have CH := change_any (rest_env (B := w1.heap.size) (p := p) (m := m) (mc := w3.heap.size) (k1 := w.heap.size + 1) (k2 := w.heap.size + 1 + 1) (u := u) (b := b) ⟨hpm3.2, hpm3.1⟩ hB3w (by omega) (by omega)) (n + 1) a1 cap1 ((N, []), []) k s' q (w3.alloc (.map #[] 0)) (hB3.same (by repeat (first | exact Fr.refl _ _ | apply Fr.alloc | apply Fr.drewN | apply Fr.drew | apply Fr.undrew | apply Fr.undrewN))) ⟨heap_old kv3 _, heap_old kx3 _⟩ (mapAt_made_at rfl) c1.out (VM.nil _) (VM.nil _) c2.out c3.out c7.out
  replace hs3 := Lib.hid hs3; replace kb3 := Lib.hid kb3; replace kv3 := Lib.hid kv3; replace kx3 := Lib.hid kx3; replace kt3 := Lib.hid kt3; replace hB3 := Lib.hid hB3; replace CH := Lib.hid CH
  clear low3 hr3 hG3 x0 x1 x2 xb
  go_wp2_with fail
  refine CH.out.mono ?_
  rintro e w4 ⟨rfl, a4, cap4, hB4, hP4, hC4, hG4⟩
  have hs4 : Same w w4 := chg_same (hB3.out.same (by repeat (first | exact Fr.refl _ _ | apply Fr.alloc | apply Fr.drewN | apply Fr.drew | apply Fr.undrew | apply Fr.undrewN))) hB3w (fun _ h => h.elim) hG4 (hs3.out.same (by repeat (first | exact Fr.refl _ _ | apply Fr.alloc | apply Fr.drewN | apply Fr.drew | apply Fr.undrew | apply Fr.undrewN))) hsz
  have low4 : ∀ j o, j < w1.heap.size → w3.heap[j]? = some o → w4.heap[j]? = some o := fun j o hj h => by
    have := lt_of_heap h
    rw [chg_low (hB3.out.same (by repeat (first | exact Fr.refl _ _ | apply Fr.alloc | apply Fr.drewN | apply Fr.drew | apply Fr.undrew | apply Fr.undrewN))) hB3w (fun _ h => h.elim) hG4 (by simp; omega) hj]
    exact heap_old h _
  have kb4 := low4 _ _ (by omega) kb3.out
  have kt4 := low4 _ _ (by omega) kt3.out
  have x0 := cell_at kb4 0; have x1 := cell_at kb4 1; have x2 := cell_at kb4 2
  have xb := lt_of_heap kb4
  replace hs4 := Lib.hid hs4; replace kb4 := Lib.hid kb4; replace kt4 := Lib.hid kt4; replace hB4 := Lib.hid hB4
  clear low4 hG4 hP4 hC4 CH
  go_wp2_with fail
  refine (FIN.out w1.heap.size p m a4 cap4 w4 hB4.out).mono ?_
  rintro e w5 ⟨ao, co, rfl, hO5, hs5⟩
  have kt := hs5.at kt4.out id
  have hs := hs4.out.same hs5
  replace hO5 := Lib.hid hO5
  obtain ⟨⟨t0, t1, t2, f0, f1, f2, tb⟩, d0, d1, d2, hF, hK, hSl⟩ := res3 (a := .int .i64 n) (c := .slice ao O.1.length co) (d := .int .i64 O.2) kt hs (by omega); replace hF := Lib.hid hF; replace hK := Lib.hid hK; replace hSl := Lib.hid hSl; replace kt := Lib.hid kt; replace hs := Lib.hid hs
  have hOF := hSl.out _ _ _ _ _ hO5.out (by decide)
  replace hOF := Lib.hid hOF
  clear x0 x1 x2 xb
  go_wp2_with fail
  refine bodyPost_ret (v := .tuple #[.agg #[.int .i64 n, .slice ao O.1.length co, .int .i64 O.2], .int .i64 0]) (by simp [results, Try.results37, go_sem, d0, d1, d2]) rfl ?_
  exact ⟨ao, co, rfl, hOF.out, hF.out⟩

set_option maxRecDepth 100000 in
set_option maxHeartbeats 2000000 in
theorem restrict_bad (d : Dg) (n : Nat) (t : List Bool) (u : Int) (b : Bool) (w : World) (hat : d.at w) (T : d.tab n t) (hu : u < 0 ∨ (n : Int) ≤ u) :
    Calls Try.prog 37 #[d.v, .int .i64 u, .bool b] w (DErr w 2) := by
  have C := fun W (hW : Same w W) => check_tab d n t W (SliceAt.same hat hW) T
  have e := T.1
  rw [Dg.v, e] at C ⊢
  unfold Dg.at at hat
  clear T
  generalize d.L = L at *
  generalize d.r = r at *
  generalize d.a = a at *
  generalize d.cap = cap at *
  replace C := Lib.hid C; replace hat := Lib.hid hat; replace e := Lib.hid e
  rcases hu with hu | hu
  · go_enter Try.func37, Try.ntmps37
    go_wp2_with fail
    refine (C.out _ (by repeat (first | exact Fr.refl _ _ | apply Fr.alloc | apply Fr.drewN | apply Fr.drew | apply Fr.undrew | apply Fr.undrewN))).mono ?_
    rintro e w1 ⟨rfl, hs1⟩
    have kb : w1.heap[w.heap.size]? = some (.cells #[.int .i64 n, .slice a L.length cap, .int .i64 r] 31 (0, 0)) := hs1.at (heap_old (heap_old (heap_old (heap_new _ _) _) _) _) id
    have kv : w1.heap[w.heap.size + 1]? = some (.cells #[.int .i64 u] 3 (0, 0)) := hs1.at (heap_old (heap_old (heap_new_at (by simp) _) _) _) id
    have kt : w1.heap[w.heap.size + 1 + 1 + 1]? = some (.cells #[.int .i64 0, .slice none 0 0, .int .i64 0] 31 (0, 0)) := hs1.at (heap_new_at (by simp) _) id
    have hs : Same w w1 := (show Same w _ from (by repeat (first | exact Fr.refl _ _ | apply Fr.alloc | apply Fr.drewN | apply Fr.drew | apply Fr.undrew | apply Fr.undrewN))).same hs1
    have x0 := cell_at kb 0; have x1 := cell_at kb 1; have x2 := cell_at kb 2
    have y0 := cell_at kv 0
    obtain ⟨⟨t0, t1, t2, f0, f1, f2, tb⟩, d0, d1, d2, hF, hK, hSl⟩ := res3 (a := .int .i64 0) (c := .slice none 0 0) (d := .int .i64 0) kt hs (by omega); replace hF := Lib.hid hF; replace hK := Lib.hid hK; replace hSl := Lib.hid hSl; replace kt := Lib.hid kt; replace hs := Lib.hid hs
    replace kb := Lib.hid kb; replace kv := Lib.hid kv; replace hs1 := Lib.hid hs1
    go_wp2_with fail
    refine bodyPost_ret (v := .tuple #[.agg #[.int .i64 0, .slice none 0 0, .int .i64 0], .int .i64 2]) (by simp [results, Try.results37, go_sem, d0, d1, d2]) rfl ?_
    exact ⟨rfl, hF.out⟩
  · have hu0 : ¬ u < 0 := by omega
    go_enter Try.func37, Try.ntmps37
    go_wp2_with fail
    refine (C.out _ (by repeat (first | exact Fr.refl _ _ | apply Fr.alloc | apply Fr.drewN | apply Fr.drew | apply Fr.undrew | apply Fr.undrewN))).mono ?_
    rintro e w1 ⟨rfl, hs1⟩
    have kb : w1.heap[w.heap.size]? = some (.cells #[.int .i64 n, .slice a L.length cap, .int .i64 r] 31 (0, 0)) := hs1.at (heap_old (heap_old (heap_old (heap_new _ _) _) _) _) id
    have kv : w1.heap[w.heap.size + 1]? = some (.cells #[.int .i64 u] 3 (0, 0)) := hs1.at (heap_old (heap_old (heap_new_at (by simp) _) _) _) id
    have kt : w1.heap[w.heap.size + 1 + 1 + 1]? = some (.cells #[.int .i64 0, .slice none 0 0, .int .i64 0] 31 (0, 0)) := hs1.at (heap_new_at (by simp) _) id
    have hs : Same w w1 := (show Same w _ from (by repeat (first | exact Fr.refl _ _ | apply Fr.alloc | apply Fr.drewN | apply Fr.drew | apply Fr.undrew | apply Fr.undrewN))).same hs1
    have x0 := cell_at kb 0; have x1 := cell_at kb 1; have x2 := cell_at kb 2
    have y0 := cell_at kv 0
    obtain ⟨⟨t0, t1, t2, f0, f1, f2, tb⟩, d0, d1, d2, hF, hK, hSl⟩ := res3 (a := .int .i64 0) (c := .slice none 0 0) (d := .int .i64 0) kt hs (by omega); replace hF := Lib.hid hF; replace hK := Lib.hid hK; replace hSl := Lib.hid hSl; replace kt := Lib.hid kt; replace hs := Lib.hid hs
    replace kb := Lib.hid kb; replace kv := Lib.hid kv; replace hs1 := Lib.hid hs1
    go_wp2_with fail
    refine bodyPost_ret (v := .tuple #[.agg #[.int .i64 0, .slice none 0 0, .int .i64 0], .int .i64 2]) (by simp [results, Try.results37, go_sem, d0, d1, d2]) rfl ?_
    exact ⟨rfl, hF.out⟩

/-- The contract of a do that works on a builder and a memory of ite. -/
def DoC (F : FuncId) (dof : Is → Int → Int → Option (Is × Int)) : Prop :=
  ∀ (B p m mm : Nat) (a : Option Addr) (cap : Nat) (s : Is) (l h : Int) (s' : Is) (r : Int) (W : World), BuilderAt W B p m a cap s.1 → MapAt ndv (Value.int .i64) W mm s.2 → mm ≠ m → VNd s.1 → VM s.1 s.2 → VNum s.1 l → VNum s.1 h → dof s l h = some (s', r) → s'.1.length ≤ 100000 →
    Calls Try.prog F #[.pointer (some ⟨p, 0, none⟩), .int .i64 l, .int .i64 h, .map (some mm)] W (IRet W B p m mm a cap s.1 s' r)

def doE (f : Nat) : Is → Int → Int → Option (Is × Int) := fun s l h => iteF f s l 1 h
def doA (f : Nat) : Is → Int → Int → Option (Is × Int) := fun s l h => iteF f s l h 0

theorem ite3_or : ∀ (a b : List Bool) (n : Nat), a.length = n → b.length = n → ite3 a (List.replicate n true) b = List.zipWith (fun x y => x || y) a b
  | [], [], 0, _, _ => rfl
  | x :: a, y :: b, n + 1, h1, h2 => by
    rw [List.replicate_succ, ite3, ite3_or a b n (by simpa using h1) (by simpa using h2), List.zipWith_cons_cons]
    cases x <;> rfl

theorem ite3_and : ∀ (a b : List Bool) (n : Nat), a.length = n → b.length = n → ite3 a b (List.replicate n false) = List.zipWith (fun x y => x && y) a b
  | [], [], 0, _, _ => rfl
  | x :: a, y :: b, n + 1, h1, h2 => by
    rw [List.replicate_succ, ite3, ite3_and a b n (by simpa using h1) (by simpa using h2), List.zipWith_cons_cons]
    cases x <;> rfl

theorem or_idem : Idem (fun x y => x || y) := fun x => by cases x <;> rfl
theorem and_idem : Idem (fun x y => x && y) := fun x => by cases x <;> rfl
theorem or_inter : Inter (fun x y => x || y) := fun a b c d => by cases a <;> cases b <;> cases c <;> cases d <;> rfl
theorem and_inter : Inter (fun x y => x && y) := fun a b c d => by cases a <;> cases b <;> cases c <;> cases d <;> rfl

theorem doE_ok (n : Nat) (hn : n ≤ 40) : DoOk n (fun x y => x || y) (doE (n + 1)) := by
  intro d v l h s hN hM hl hh tl th hv h0
  obtain ⟨s', k, a1, a2, a3, a4, a5, a6, a7, a8⟩ := ite_right d v l 1 h s (n + 1) hN hM hl (vnum1 _) hh tl (by rw [topF_const (by omega)]; omega) th hv h0 (by omega)
  refine ⟨s', k, a1, a2, a3, a4, a5, a6, ?_, a8⟩
  rw [a7, tab_one _ _ _ (by omega), ite3_or _ _ (2 ^ d) (tab_length _ _ _ _) (tab_length _ _ _ _)]

theorem doA_ok (n : Nat) (hn : n ≤ 40) : DoOk n (fun x y => x && y) (doA (n + 1)) := by
  intro d v l h s hN hM hl hh tl th hv h0
  obtain ⟨s', k, a1, a2, a3, a4, a5, a6, a7, a8⟩ := ite_right d v l h 0 s (n + 1) hN hM hl hh (vnum0 _) tl th (by rw [topF_const (by omega)]; omega) hv h0 (by omega)
  refine ⟨s', k, a1, a2, a3, a4, a5, a6, ?_, a8⟩
  rw [a7, tab_zero _ _ _ (by omega), ite3_and _ _ (2 ^ d) (tab_length _ _ _ _) (tab_length _ _ _ _)]

theorem doE_val (f : Nat) : DoVal (doE f) := fun s l h s' r e hN hM hl hh => iteF_valid f s s' l 1 h r e hN hM hl (vnum1 _) hh
theorem doA_val (f : Nat) : DoVal (doA f) := fun s l h s' r e hN hM hl hh => iteF_valid f s s' l h 0 r e hN hM hl hh (vnum0 _)

theorem enter_E (args : Array Value) (W : World) : (callFunc 68 args).run Try.prog W = .ok (.enter 68 args) W := by kernel_rfl
theorem enter_A (args : Array Value) (W : World) : (callFunc 69 args).run Try.prog W = .ok (.enter 69 args) W := by kernel_rfl
theorem enter_Q1 (args : Array Value) (W : World) : (callFunc 84 args).run Try.prog W = .ok (.enter 84 args) W := by kernel_rfl
theorem enter_Q2 (args : Array Value) (W : World) : (callFunc 86 args).run Try.prog W = .ok (.enter 86 args) W := by kernel_rfl

set_option maxHeartbeats 400000 in
theorem doE_c (f : Nat) : DoC 68 (doE f) := by
  intro B p m mm a cap s l h s' r W hB hM hne hN hV hl hh e hlen
  have I := ite_any f B p m mm a cap s l 1 h s' r W hB hM hne hN hV hl (vnum1 _) hh e hlen
  replace hB := Lib.hid hB; replace hM := Lib.hid hM; replace hN := Lib.hid hN; replace hV := Lib.hid hV; replace hl := Lib.hid hl; replace hh := Lib.hid hh; replace e := Lib.hid e; replace hlen := Lib.hid hlen; replace I := Lib.hid I
  go_enter Try.func68, Try.ntmps68
  go_wp2_with fail
  refine I.out.mono ?_
  rintro e w1 ⟨rfl, h1⟩
  replace h1 := Lib.hid h1
  go_wp2_with fail
  go_ret
  exact ⟨rfl, h1.out⟩

set_option maxHeartbeats 400000 in
theorem doA_c (f : Nat) : DoC 69 (doA f) := by
  intro B p m mm a cap s l h s' r W hB hM hne hN hV hl hh e hlen
  have I := ite_any f B p m mm a cap s l h 0 s' r W hB hM hne hN hV hl hh (vnum0 _) e hlen
  replace hB := Lib.hid hB; replace hM := Lib.hid hM; replace hN := Lib.hid hN; replace hV := Lib.hid hV; replace hl := Lib.hid hl; replace hh := Lib.hid hh; replace e := Lib.hid e; replace hlen := Lib.hid hlen; replace I := Lib.hid I
  go_enter Try.func69, Try.ntmps69
  go_wp2_with fail
  refine I.out.mono ?_
  rintro e w1 ⟨rfl, h1⟩
  replace h1 := Lib.hid h1
  go_wp2_with fail
  go_ret
  exact ⟨rfl, h1.out⟩

theorem RowAt.low {w w' : World} {B : Nat} {a : Option Addr} {n cap : Nat} {cells : List Value} (h : RowAt w (.slice a n cap) n cells) (hs : w.heap.size ≤ w'.heap.size)
    (hk : ∀ k, k < B → k < w.heap.size → w'.heap[k]? = w.heap[k]?) (hlow : 0 < n → ∀ k, (Value.slice a n cap).ownBlock = some k → k < B) : RowAt w' (.slice a n cap) n cells := by
  by_cases hn : 0 < n
  · exact h.keep hs (fun k hk' hlt => hk k (hlow hn k hk') hlt)
  · obtain ⟨hl, a', cap', he, h1, h2, h3, hb⟩ := h
    exact ⟨hl, a', cap', he, h1, h2, h3, fun h => absurd h hn⟩

/-- What the closures of quantify read. -/
structure QPre (F : FuncId) (p mm ks kd kb km : Nat) (qs : List Int) (aQ : Option Addr) (capQ : Nat) (W : World) (M : List (Nd × Int)) : Prop where
  set : W.heap[ks]? = some (.cells #[.slice aQ qs.length capQ] 42 (0, 0))
  fn : W.heap[kd]? = some (.cells #[.func (.func F) #[] #[]] 102 (0, 0))
  bld : W.heap[kb]? = some (.cells #[.pointer (some ⟨p, 0, none⟩)] 85 (0, 0))
  mem : W.heap[km]? = some (.cells #[.map (some mm)] 86 (0, 0))
  map : MapAt ndv (Value.int .i64) W mm M
  row : RowAt W (.slice aQ qs.length capQ) qs.length (intCells qs)

set_option maxHeartbeats 400000 in
theorem quant1 (v : Int) (ks : Nat) (qs : List Int) (aQ : Option Addr) (capQ : Nat) (W : World) (hl7 : qs.length ≤ 1000) (h : W.heap[ks]? = some (.cells #[.slice aQ qs.length capQ] 42 (0, 0))) (hQ : RowAt W (.slice aQ qs.length capQ) qs.length (intCells qs)) (hs : ∀ i j, i ≤ j → j < qs.length → toF qs i ≤ toF qs j) :
    Calls Try.prog 84 #[.int .i64 v, .pointer (some ⟨ks, 0, none⟩)] W fun e W' => e = .returned (.bool (decide (v ∈ qs))) ∧ Same W W' := by
  have CO := contains_any qs v aQ capQ W hl7 hQ hs
  have c := cell_at h 0
  have hb := lt_of_heap h
  obtain ⟨R, hR⟩ : ∃ R, R = decide (v ∈ qs) := ⟨_, rfl⟩
  rw [← hR] at CO ⊢
  replace h := Lib.hid h; replace hQ := Lib.hid hQ; replace hs := Lib.hid hs; replace CO := Lib.hid CO; replace hR := Lib.hid hR
  go_enter Try.func84, Try.ntmps84
  go_wp2_with fail
  refine CO.out.mono ?_
  rintro e w1 ⟨rfl, hs1⟩
  replace hs1 := Lib.hid hs1
  go_wp2_with fail
  go_ret
  exact ⟨rfl, hs1.out⟩

set_option maxHeartbeats 400000 in
theorem quant2 (F : FuncId) (eF : ∀ (args : Array Value) (W : World), (callFunc F args).run Try.prog W = .ok (.enter F args) W) (l h : Int) (p mm kd kb km : Nat) (W : World) (R : Ending → World → Prop)
    (h1 : W.heap[kd]? = some (.cells #[.func (.func F) #[] #[]] 102 (0, 0))) (h2 : W.heap[kb]? = some (.cells #[.pointer (some ⟨p, 0, none⟩)] 85 (0, 0))) (h3 : W.heap[km]? = some (.cells #[.map (some mm)] 86 (0, 0)))
    (r : Int) (hR : Calls Try.prog F #[.pointer (some ⟨p, 0, none⟩), .int .i64 l, .int .i64 h, .map (some mm)] W fun e W' => e = .returned (.int .i64 r) ∧ R (.returned (.int .i64 r)) W') :
    Calls Try.prog 86 #[.int .i64 l, .int .i64 h, .pointer (some ⟨kd, 0, none⟩), .pointer (some ⟨kb, 0, none⟩), .pointer (some ⟨km, 0, none⟩)] W fun e W' => e = .returned (.int .i64 r) ∧ R (.returned (.int .i64 r)) W' := by
  have c1 := cell_at h1 0
  have c2 := cell_at h2 0
  have c3 := cell_at h3 0
  have b1 := lt_of_heap h1
  have b2 := lt_of_heap h2
  have b3 := lt_of_heap h3
  replace h1 := Lib.hid h1; replace h2 := Lib.hid h2; replace h3 := Lib.hid h3; replace hR := Lib.hid hR
  go_enter Try.func86, Try.ntmps86
  go_wp2_with fail
  refine hR.out.mono ?_
  rintro e w1 ⟨rfl, hR1⟩
  replace hR1 := Lib.hid hR1
  go_wp2_with fail
  go_ret
  exact ⟨rfl, hR1.out⟩

theorem quant_env {F : FuncId} {dof : Is → Int → Int → Option (Is × Int)} (eF : ∀ (args : Array Value) (W : World), (callFunc F args).run Try.prog W = .ok (.enter F args) W) (hC : DoC F dof) (hV : DoVal dof) {B p m mc mm ks kd kb km : Nat} {qs : List Int} {aQ : Option Addr} {capQ : Nat}
    (hm : m < mc ∧ p < mc) (hmm : mm < mc ∧ mm ≠ m) (hB : B ≤ mc) (h1 : ks < B) (h2 : kd < B) (h3 : kb < mc ∧ km < mc) (hl7 : qs.length ≤ 1000) (hs : ∀ i j, i ≤ j → j < qs.length → toF qs i ≤ toF qs j) (hlow : 0 < qs.length → ∀ k, (Value.slice aQ qs.length capQ).ownBlock = some k → k < B) (hmB : B ≤ mm) :
    ChgE (fun x => decide (x ∈ qs)) dof B p m mc (fun i => i = mm) (QPre F p mm ks kd kb km qs aQ capQ) 84 86 #[.pointer (some ⟨ks, 0, none⟩)] #[.pointer (some ⟨kd, 0, none⟩), .pointer (some ⟨kb, 0, none⟩), .pointer (some ⟨km, 0, none⟩)] := by
  refine ⟨enter_Q1, enter_Q2, ?_, ?_, ?_, hV, fun i h => by omega, hm⟩
  · intro v W M h
    exact quant1 v ks qs aQ capQ W hl7 h.set h.row hs
  · intro a cap s l h s' r W hBu hP hN hVM hl hh e hlen
    have D := hC B p m mm a cap s l h s' r W hBu hP.map hmm.2 hN hVM hl hh e hlen
    refine (quant2 F eF l h p mm kd kb km W (fun _ W' => ∃ a' cap', BuilderAt W' B p m a' cap' s'.1 ∧ QPre F p mm ks kd kb km qs aQ capQ W' s'.2 ∧ Grew (fun i => BB p m i ∨ i = mm) W W' (.slice a s.1.length cap) (.slice a' s'.1.length cap')) hP.fn hP.bld hP.mem r (D.mono ?_)).mono ?_
    · rintro e W' ⟨rfl, a', cap', b1, b2, b3⟩
      have low : ∀ k, k < B → k < W.heap.size → W'.heap[k]? = W.heap[k]? := by
        intro k hk hlt
        refine b3.1.block k hlt ?_
        rintro (h | h | h)
        · have := (hBu.own.lt k h).1; omega
        · rcases h with h | h
          · have := hBu.pb; omega
          · have := hBu.mb; omega
        · omega
      refine ⟨rfl, a', cap', b1, ⟨?_, ?_, ite_keeps hBu hP.map b3 hP.bld (by decide) (by decide), ite_keeps hBu hP.map b3 hP.mem (by decide) (by decide), b2, hP.row.low b3.1.size low hlow⟩, b3⟩
      · rw [low _ h1 (lt_of_heap hP.set)]; exact hP.set
      · rw [low _ h2 (lt_of_heap hP.fn)]; exact hP.fn
    · rintro e W' ⟨rfl, h⟩
      exact ⟨rfl, h⟩
  · intro W W' M a cap N hP hBu hf
    have low : ∀ k, k < B → k < W.heap.size → W'.heap[k]? = W.heap[k]? := by
      intro k hk hlt
      refine hf.block k hlt ?_
      rintro (h | h | h)
      · have := (hBu.own.lt k h).1; omega
      · rcases h with h | h
        · have := hBu.pb; omega
        · have := hBu.mb; omega
      · omega
    have cells : ∀ {k : Nat} {cur : Array Value} {T : TypeId}, W.heap[k]? = some (.cells cur T (0, 0)) → T ≠ 80 → T ≠ 117 → k < mc → W'.heap[k]? = some (.cells cur T (0, 0)) := by
      intro k cur T hk t1 t2 hlt
      refine hf.at hk ?_
      rintro (h | h | h)
      · exact hBu.apart hk t1 t2 (.inl h)
      · exact hBu.apart hk t1 t2 (.inr h)
      · omega
    refine ⟨?_, ?_, cells hP.bld (by decide) (by decide) h3.1, cells hP.mem (by decide) (by decide) h3.2, ?_, hP.row.low hf.size low hlow⟩
    · rw [low _ h1 (lt_of_heap hP.set)]; exact hP.set
    · rw [low _ h2 (lt_of_heap hP.fn)]; exact hP.fn
    · refine hP.map.of_block (hf.block _ hP.map.lt ?_)
      rintro (h | h)
      · exact hBu.other_map hP.map hmm.2 (.inl h)
      · rcases h with h | h
        · exact hBu.other_map hP.map hmm.2 (.inr h)
        · omega
end Go.Proofs.Ytaebjalpebgliaa
