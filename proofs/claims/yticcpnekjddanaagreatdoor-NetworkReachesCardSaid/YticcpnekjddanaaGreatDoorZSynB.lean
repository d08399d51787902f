/-  -/
import Derived.Test.YticcpnekjddanaaGreatDoorZMchS
import Derived.Test.YticcpnekjddanaaGreatDoorZKeyS
import Derived.Test.YticcpnekjddanaaGreatDoorZMchI
import Derived.Test.YticcpnekjddanaaGreatDoorZIdxG
import Derived.Test.YticcpnekjddanaaGreatDoorZNwsQ
import Derived.Test.YticcpnekjddanaaGreatDoorZMkM
set_option maxRecDepth 100000
set_option maxHeartbeats 2000000
set_option linter.unusedVariables false
set_option linter.unusedSimpArgs false
namespace Go.Proofs.YticcpnekjddanaaGreatDoor
open Go.RowKit
def KnM (m : Nat) (M : List (List UInt8 × Int)) (T : List (List Nat)) : Prop :=
 ∀ x : List Nat, x.length = m → (∀ n ∈ x, n < 100) → qa0 M (qe7 x) = if x ∈ T then some ((qdX T x : Nat) : Int) else none
theorem KnM.start {m : Nat} {x0 : List Nat} (h : ∀ n ∈ x0, n < 100) : KnM m (qbW [] (qe7 x0) 0) [x0] := fun x hx hb => by
 by_cases e : x = x0
 · subst e
   rw [qa3, if_pos List.mem_cons_self]
   simp [qdX]
 · rw [qbK _ _ _ _ (fun hk => e (qhJ hb h hk)), if_neg (by simpa using e)]
   rfl
theorem KnM.put {m : Nat} {M : List (List UInt8 × Int)} {T : List (List Nat)} (h : KnM m M T) {y : List Nat} (hy : ∀ n ∈ y, n < 100) (hn : ¬ y ∈ T) : KnM m (qbW M (qe7 y) ((T.length : Nat) : Int)) (T ++ [y]) := fun x hx hb => by
 by_cases e : x = y
 · subst e
   rw [qa3, if_pos (by simp), qhx hn]
 · rw [qbK _ _ _ _ (fun hk => e (qhJ hb hy hk)), h x hx hb]
   by_cases hm : x ∈ T
   · rw [if_pos hm, if_pos (List.mem_append_left _ hm), qhw _ hm]
   · rw [if_neg hm, if_neg (fun hh => by
       rcases List.mem_append.1 hh with h1 | h1
       · exact hm h1
       · exact e (List.mem_singleton.1 h1))]
def mkL (As : List Au) (T : List (List Nat)) (k : Nat) : List Int := qaz ((List.range k).filter fun i => mkB As (T.getD i []))
theorem mkL_yes {As : List Au} {T : List (List Nat)} {k : Nat} (h : mkB As (T.getD k []) = true) : mkL As T (k + 1) = mkL As T k ++ [(k : Int)] := by
 unfold mkL
 rw [List.range_succ, List.filter_append, List.filter_cons, if_pos h, List.filter_nil]
 simp [qaz]
theorem mkL_no {As : List Au} {T : List (List Nat)} {k : Nat} (h : mkB As (T.getD k []) = false) : mkL As T (k + 1) = mkL As T k := by
 unfold mkL
 rw [List.range_succ, List.filter_append, List.filter_cons, if_neg (by rw [h]; decide), List.filter_nil, List.append_nil]
theorem mkL_app {As : List Au} {T : List (List Nat)} (K : List (List Nat)) {k : Nat} (hk : k ≤ T.length) : mkL As (T ++ K) k = mkL As T k := by
 unfold mkL
 congr 1
 refine List.filter_congr (fun i hi => ?_)
 have hi := List.mem_range.1 hi
 rw [show (T ++ K).getD i [] = T.getD i [] from by simp only [List.getD_eq_getElem?_getD]; rw [List.getElem?_append_left (by omega)]]
theorem qok (As : List Au) (T : List (List Nat)) (k : Nat) : (mkL As T k).length ≤ k := by
 unfold mkL
 rw [qaG]
 exact Nat.le_trans (List.length_filter_le _ _) (by simp)
theorem qj7 {As : List Au} {T : List (List Nat)} {k : Nat} {v : Int} : v ∈ mkL As T k ↔ ∃ i : Nat, v = i ∧ i < k ∧ mkB As (T.getD i []) = true := by
 unfold mkL qaz
 rw [List.mem_map]
 constructor
 · rintro ⟨i, h1, rfl⟩
   have := List.mem_filter.1 h1
   exact ⟨i, rfl, List.mem_range.1 this.1, this.2⟩
 · rintro ⟨i, rfl, h1, h2⟩
   exact ⟨i, List.mem_filter.2 ⟨List.mem_range.2 h1, h2⟩, rfl⟩
def esL (G : List (Nat × Int × Nat)) : List Nd := G.map fun g => (((g.1 : Nat) : Int), g.2.1, ((g.2.2 : Nat) : Int))
theorem qgm (G : List (Nat × Int × Nat)) : (esL G).length = G.length := by simp [esL]
theorem qk5 (G : List (Nat × Int × Nat)) (g : Nat × Int × Nat) : esL (G ++ [g]) = esL G ++ [(((g.1 : Nat) : Int), g.2.1, ((g.2.2 : Nat) : Int))] := by simp [esL]
theorem qol {G : List (Nat × Int × Nat)} {j : Nat} (hj : j < G.length) : (esL G)[j]'(by rw [qgm]; exact hj) = (((G[j].1 : Nat) : Int), G[j].2.1, ((G[j].2.2 : Nat) : Int)) := by simp [esL]
theorem qhK {α ε : Type} [DecidableEq α] (nx : α → ε → Option α) (T : List α) (l : List ε) (j : Nat) : (qhz nx T l j).length ≤ l.length := by
 unfold qhz
 exact List.length_filterMap_le _ _
theorem qgn {α β : Type} {f : α → List β} {c : Nat} (h : ∀ a, (f a).length ≤ c) : ∀ l : List α, (l.flatMap f).length ≤ l.length * c
 | [] => by simp
 | a :: l => by
  rw [List.flatMap_cons, List.length_append, List.length_cons, Nat.succ_mul]
  have := h a
  have := qgn h l
  omega
theorem BJ.glen {α ε : Type} [DecidableEq α] {nx : α → ε → Option α} {E : List ε} {x0 : α} {k c : Nat} {T : List α} {G : List (Nat × ε × Nat)} {D : List Nat} (h : BJ nx E x0 k c T G D) : G.length ≤ (k + 1) * E.length := by
 rw [h.edg, List.length_append]
 have h1 := qgn (fun j => qhK nx T E j) (List.range k)
 have h2 := qhK nx T (E.take c) k
 have h3 : (E.take c).length ≤ E.length := by rw [List.length_take]; omega
 rw [List.length_range] at h1
 rw [Nat.succ_mul]
 omega
theorem qj8 {α : Type} [DecidableEq α] : ∀ {T U : List α}, T.Nodup → (∀ x ∈ T, x ∈ U) → T.length ≤ U.length
 | [], U, _, _ => Nat.zero_le _
 | x :: T, U, hn, h => by
  obtain ⟨h1, h2⟩ := List.nodup_cons.1 hn
  have h3 := qj8 (U := U.erase x) h2 (fun y hy => (List.mem_erase_of_ne (fun e => h1 (by rw [← e]; exact hy))).2 (h y (List.mem_cons_of_mem _ hy)))
  have h4 := List.length_erase_of_mem (h x List.mem_cons_self)
  have h5 : 0 < U.length := List.length_pos_of_mem (h x List.mem_cons_self)
  rw [List.length_cons]
  omega
theorem qk6 {N : Nw} (hem : N.emp = false) : List.replicate N.As.length 0 ∈ qaA N.ns := by
 refine qbH.2 ⟨by simp [N.ns_len], qcr.2 (fun i hi => ?_)⟩
 rw [N.ns_len] at hi
 have h0 : (List.replicate N.As.length 0).getD i 0 = 0 := by
  simp only [List.getD_eq_getElem?_getD, List.getElem?_replicate]
  split <;> rfl
 rw [h0]
 unfold Nw.emp at hem
 rw [List.any_eq_false] at hem
 have h1 : N.ns.getD i 0 ∈ N.ns := by
  have hi2 : i < N.ns.length := by rw [N.ns_len]; exact hi
  rw [List.getD_eq_getElem?_getD, List.getElem?_eq_getElem hi2]
  exact List.getElem_mem hi2
 have := hem _ h1
 rw [beq_iff_eq] at this
 omega
theorem nxT_tup {N : Nw} (h : qbs N) {e : Int} (he : e ∈ qaJ N.As) {x y : List Nat} (hx : x ∈ qaA N.ns) (hn : nxT N.As x e = some y) : y ∈ qaA N.ns := by
 obtain ⟨h1, h2⟩ := qhG hn
 refine qbH.2 ⟨by rw [h1, N.ns_len], qcr.2 (fun i hi => ?_)⟩
 rw [N.ns_len] at hi
 rw [N.ns_get hi]
 have h3 := h2 i hi
 have h4 := (qcD hx).2 i hi
 unfold nx1 at h3
 have hA := h.au _ (List.getElem_mem hi)
 split at h3
 · obtain ⟨z, h5, h6⟩ := Option.map_eq_some_iff.1 h3
   have h7 := hA.edge (List.mem_of_find?_eq_some h5)
   omega
 · rw [← Option.some.inj h3]
   exact h4
def qdt (l : List Int) (g : List Bool) : List Bool := l.foldl (fun g s => g.set s.toNat true) g
theorem qey (l : List Int) : ∀ g : List Bool, (qdt l g).length = g.length := by
 induction l with
 | nil => intro g; rfl
 | cons s l ih => intro g; show (qdt l (g.set s.toNat true)).length = _; rw [ih, List.length_set]
theorem ql1 {l : List Int} {j : Nat} (hj : j < l.length) (g : List Bool) : qdt (l.take (j + 1)) g = (qdt (l.take j) g).set (l[j]).toNat true := by
 rw [List.take_add_one, List.getElem?_eq_getElem hj]
 unfold qdt
 rw [List.foldl_append]
 rfl
theorem qom (l : List Int) : ∀ (g : List Bool) (i : Nat), (qdt l g).getD i false = (g.getD i false || decide (i < g.length ∧ ∃ s ∈ l, s.toNat = i)) := by
 induction l with
 | nil => intro g i; simp [qdt]
 | cons s l ih =>
  intro g i
  show (qdt l (g.set s.toNat true)).getD i false = _
  rw [ih, qfo, List.length_set, Bool.eq_iff_iff]
  simp only [Bool.or_eq_true, decide_eq_true_eq, List.mem_cons]
  by_cases hc : s.toNat = i ∧ s.toNat < g.length
  · rw [if_pos hc]
    constructor
    · exact fun _ => .inr ⟨by omega, s, .inl rfl, hc.1⟩
    · exact fun _ => .inl rfl
  · rw [if_neg hc]
    constructor
    · rintro (h | ⟨h1, t, h2, h3⟩)
      · exact .inl h
      · exact .inr ⟨h1, t, .inr h2, h3⟩
    · rintro (h | ⟨h1, t, h2, h3⟩)
      · exact .inl h
      · rcases h2 with rfl | h2
        · exact absurd ⟨h3, by omega⟩ hc
        · exact .inr ⟨h1, t, h2, h3⟩
def maxL (l : List Nat) : Nat := l.foldl max 0
theorem qon {l : List Nat} {j : Nat} (hj : j < l.length) : maxL (l.take (j + 1)) = max (maxL (l.take j)) l[j] := by
 rw [List.take_add_one, List.getElem?_eq_getElem hj]
 unfold maxL
 rw [List.foldl_append]
 rfl
theorem qk7 : ∀ (l : List Nat) (a k : Nat), (∀ x ∈ l, x ≤ k) → a ≤ k → (a = k ∨ k ∈ l) → l.foldl max a = k
 | [], a, k, _, _, h => by
  rcases h with h | h
  · exact h
  · simp at h
 | x :: l, a, k, h1, h2, h3 => by
  have hx := h1 x List.mem_cons_self
  refine qk7 l (max a x) k (fun y hy => h1 y (List.mem_cons_of_mem _ hy)) (by omega) ?_
  rcases h3 with h3 | h3
  · exact .inl (by omega)
  · rcases List.mem_cons.1 h3 with h3 | h3
    · exact .inl (by omega)
    · exact .inr h3
theorem ql2 {N : Nw} (OK : qby N) {x : List Nat} (hx : x ∈ qaA N.ns) : mkB N.As x = N.chosen N.marks x := by
 rw [qeQ hx, Bool.eq_iff_iff]
 unfold mkB
 rw [List.all_eq_true, List.all_eq_true]
 constructor
 · intro h i hi
   have h1 := h i hi
   have hi := List.mem_range.1 hi
   simp only [List.getElem?_eq_getElem hi] at h1
   rw [← (OK.ma hi).1] at h1
   exact decide_eq_true (qkB.1 (of_decide_eq_true h1))
 · intro h i hi
   have h1 := h i hi
   have hi := List.mem_range.1 hi
   simp only [List.getElem?_eq_getElem hi]
   rw [← (OK.ma hi).1]
   exact decide_eq_true (qkB.2 (of_decide_eq_true h1))
abbrev rA (N : Nw) (k : Nat) : List Bool := clI N.all 0 (N.rel (qau N.As (qaJ N.As))) (N.set (N.chosen fun _ => [0])) k
abbrev rB (N : Nw) (k : Nat) : List Bool := clI N.all 1 (N.rel (qau N.As (qaJ N.As))) (N.set (N.chosen N.marks)) k
structure RchF (N : Nw) (T : List (List Nat)) (G : List (Nat × Int × Nat)) : Prop where
 nd : T.Nodup
 bd : ∀ e ∈ G, e.1 < T.length ∧ e.2.2 < T.length
 sub : ∀ x ∈ T, x ∈ qaA N.ns
 reach : ∀ k, rA N (k + 1) = rA N k → (∀ j, j < k → rA N j ≠ rA N (j + 1)) → (∃ F, Sup N.ns F ∧ rA N k = N.set F ∧ ∀ x ∈ qaA N.ns, F x = decide (x ∈ T)) ∧ maxL (G.foldl qbV (List.replicate T.length 0)) = k
 block : ∀ j k, rA N (j + 1) = rA N j → rB N (k + 1) = rB N k → ∃ B, Sup N.ns B ∧ blkT N.all (rA N j) (rB N k) = N.set B ∧
  ∀ x ∈ qaA N.ns, B x = (decide (x ∈ T) && !(qaB G (qdt (mkL N.As T T.length) (List.replicate T.length false)) T.length).getD (qdX T x) false)
theorem qpX {N : Nw} (OK : qby N) (he : N.emp = true) : RchF N [] [] := by
 have hno : ∀ x, ¬ x ∈ qaA N.ns := fun x hx => by rw [qoh hx] at he; cases he
 have hcs := fun d => qf6 OK.ok (s := 0) (by omega) (qaJ N.As) (N.chosen fun _ => [0]) d
 have hsup := fun d => qdW (s := 0) (E := qaJ N.As) OK.ok (ini_sup N) d
 refine ⟨List.nodup_nil, by simp, by simp, fun k a1 a2 => ⟨⟨_, hsup k, hcs k, fun x hx => absurd hx (hno x)⟩, ?_⟩, fun j k b0 b1 => ?_⟩
 · show 0 = k
   rcases Nat.eq_zero_or_pos k with h | h
   · exact h.symm
   · exfalso
     have h1 := a2 0 h
     unfold rA at h1
     rw [hcs, hcs, Ne, OK.ok.set_iff (hsup _) (hsup _)] at h1
     exact h1 (fun x hx => absurd hx (hno x))
 · obtain ⟨B, h1, h2, h3⟩ := qiQ OK.ok (j := j) b1 (qgi OK)
   exact ⟨B, h1, h2, fun x hx => absurd hx (hno x)⟩
theorem qpY {N : Nw} (OK : qby N) (he : N.emp = false) {T : List (List Nat)} {G : List (Nat × Int × Nat)} {D : List Nat} (hB : BI (nxT N.As) (qaJ N.As) (List.replicate N.As.length 0) T.length T G D) (hT : ∀ x ∈ T, x ∈ qaA N.ns) : RchF N T G := by
 have hbd : ∀ e ∈ G, e.1 < T.length ∧ e.2.2 < T.length := fun e hg => by
  obtain ⟨x, y, h1, h2, h3, h4⟩ := (qfr hB e).1 hg
  have hl := (List.getElem?_eq_some_iff.1 h1).1
  obtain ⟨i, h5, _⟩ := hB.cls e.1 e.2.1 x y hl h2 h1 h3
  rw [h4]
  exact ⟨hl, qnY (List.mem_of_getElem? h5)⟩
 have hg0 : ∀ i x, T[i]? = some x → (qdt (mkL N.As T T.length) (List.replicate T.length false)).getD i false = N.chosen N.marks x := fun i x hx => by
  have hl := (List.getElem?_eq_some_iff.1 hx).1
  have hgx : T.getD i [] = x := by rw [List.getD_eq_getElem?_getD, hx]; rfl
  rw [qom, ← ql2 OK (hT x (List.mem_of_getElem? hx)), ← hgx, Bool.eq_iff_iff, List.length_replicate]
  have hz : (List.replicate T.length false).getD i false = false := by
   simp only [List.getD_eq_getElem?_getD, List.getElem?_replicate]
   split <;> rfl
  rw [hz, Bool.false_or, decide_eq_true_eq]
  constructor
  · rintro ⟨_, s, h1, h2⟩
    obtain ⟨j, rfl, _, h3⟩ := qj7.1 h1
    rw [show j = i by omega] at h3
    exact h3
  · intro h
    exact ⟨hl, (i : Int), qj7.2 ⟨i, rfl, hl, h⟩, by omega⟩
 refine ⟨hB.nd, hbd, hT, fun k a1 a2 => ?_, fun j k b0 b1 => ?_⟩
 · obtain ⟨_, h2, h3⟩ := qiP OK.ok he hB a1
   refine ⟨⟨_, qdW (s := 0) (E := qaJ N.As) OK.ok (ini_sup N) k, h2, h3⟩, ?_⟩
   obtain ⟨r1, i, r2, r3⟩ := qj5 OK.ok he hB a1 a2
   obtain ⟨d1, d2⟩ := qlI T.length G (fun e hg => (hbd e hg).2)
   have hget : ∀ i, i < T.length → (G.foldl qbV (List.replicate T.length 0)).getD i 0 = D.getD i 0 := fun i hi => by rw [d2, if_pos hi, hB.dep]
   unfold maxL
   refine qk7 _ 0 k (fun x hx => ?_) (Nat.zero_le _) ?_
   · obtain ⟨j, hj, rfl⟩ := List.mem_iff_getElem.1 hx
     have h5 := hget j (by omega)
     rw [List.getD_eq_getElem?_getD, List.getElem?_eq_getElem hj] at h5
     have h6 := r1 j (by omega)
     simp only [Option.getD_some] at h5
     omega
   · right
     have h5 := hget i r2
     have hil : i < (G.foldl qbV (List.replicate T.length 0)).length := by omega
     rw [List.getD_eq_getElem?_getD, List.getElem?_eq_getElem hil] at h5
     simp only [Option.getD_some] at h5
     rw [← r3, ← h5]
     exact List.getElem_mem hil
 · obtain ⟨B, h1, h2, h3⟩ := qiQ OK.ok (j := j) b1 (qgi OK)
   refine ⟨B, h1, h2, fun x hx => ?_⟩
   obtain ⟨_, _, h5⟩ := qiP OK.ok he hB b0
   rw [h3, h5 x hx]
   by_cases hm : x ∈ T
   · have hp := qeu hm
     have hbk := qpU OK.ok hB hT (g := qdt (mkL N.As T T.length) (List.replicate T.length false)) (by rw [qey, List.length_replicate]) hg0 hp
     rw [qey, List.length_replicate] at hbk
     have hfar := qpV OK.ok b1 (qgi OK) hx
     rw [decide_eq_true hm, Bool.true_and, Bool.true_and]
     congr 1
     rw [Bool.eq_iff_iff, hfar, hbk]
   · rw [decide_eq_false hm, Bool.false_and, Bool.false_and]
theorem qop (args : Array Value) (W : World) : (callFunc 12 args).run Tryz.prog W = .ok (.enter 12 args) W := by kernel_rfl
theorem qpZ (args : Array Value) (W : World) : (callFunc 10 args).run Tryz.prog W = .ok (.enter 10 args) W := by kernel_rfl
theorem qoq (args : Array Value) (W : World) : (callFunc 16 args).run Tryz.prog W = .ok (.enter 16 args) W := by kernel_rfl
theorem qp0 (args : Array Value) (W : World) : (callFunc 14 args).run Tryz.prog W = .ok (.enter 14 args) W := by kernel_rfl
theorem rch11 (y t : List Int) (a a' : Option Addr) (q q' c c' bx : Nat) (w : World) (hq : y.length = q) (hq' : t.length = q') (h : qan w (.slice a q c) q (gw y)) (h' : qan w (.slice a' q' c') q' (gw t)) (hl : q ≤ 100000) (kb : w.heap[bx]? = some (.cells #[.slice a' q' c'] 33 (0, 0))) :
 Calls Tryz.prog 12 #[.slice a q c, .pointer (some ⟨bx, 0, none⟩)] w fun e w' => e = .returned (.bool (decide (y = t))) ∧ qad w w' := by
 have EQ := fun W (hW : qad w W) => qgQ y t a a' q q' c c' W hq hq' (h.same hW) (h'.same hW) hl
 generalize decide (y = t) = R at *
 have c0 := gn kb 0
 have cl := gu kb
 clear h h'
 replace EQ := gi EQ; replace kb := gi kb
 go_enter Tryz.func12, Tryz.ntmps12
 go_wp2_with fail
 refine (EQ.out _ fs2).mono ?_
 rintro e w1 ⟨rfl, s1⟩
 have hs1 : qad w w1 := (show qad w _ from fs2).same s1
 clear c0 cl
 go_wp2_with fail
 go_ret
 exact ⟨rfl, hs1⟩
theorem rch21 (y t : List Int) (a a' : Option Addr) (q q' c c' bx : Nat) (w : World) (hq : y.length = q) (hq' : t.length = q') (h : qan w (.slice a q c) q (gw y)) (h' : qan w (.slice a' q' c') q' (gw t)) (hl : q ≤ 100000) (kb : w.heap[bx]? = some (.cells #[.slice a' q' c'] 33 (0, 0))) :
 Calls Tryz.prog 16 #[.slice a q c, .pointer (some ⟨bx, 0, none⟩)] w fun e w' => e = .returned (.bool (decide (y = t))) ∧ qad w w' := by
 have EQ := fun W (hW : qad w W) => qgQ y t a a' q q' c c' W hq hq' (h.same hW) (h'.same hW) hl
 generalize decide (y = t) = R at *
 have c0 := gn kb 0
 have cl := gu kb
 clear h h'
 replace EQ := gi EQ; replace kb := gi kb
 go_enter Tryz.func16, Tryz.ntmps16
 go_wp2_with fail
 refine (EQ.out _ fs2).mono ?_
 rintro e w1 ⟨rfl, s1⟩
 have hs1 : qad w w1 := (show qad w _ from fs2).same s1
 clear c0 cl
 go_wp2_with fail
 go_ret
 exact ⟨rfl, hs1⟩
theorem rch1 (gs : List Grp) (a : Option Addr) (k c bl : Nat) (t : List Int) (aT : Option Addr) (q cT : Nat) (w : World) (hG : qiA w (.slice a k c) k gs) (hk : k ≤ 1000000) (hl : ∀ g ∈ gs, g.l.length ≤ 100000) (hq : t.length = q) (hT : qan w (.slice aT q cT) q (gw t)) (kl : w.heap[bl]? = some (.cells #[.slice a k c] 40 (0, 0))) :
 Calls Tryz.prog 10 #[.slice aT q cT, .pointer (some ⟨bl, 0, none⟩)] w fun e w' => e = .returned (.bool ((lst gs).any fun y => decide (y = t))) ∧ qad w w' := by
 have CG := fun bx W (hW : qad w W) (kb : W.heap[bx]? = some (.cells #[.slice aT q cT] 33 (0, 0))) => qhv gs (fun y => decide (y = t)) 12 #[.pointer (some ⟨bx, 0, none⟩)] a k c W (hG.same hW) qop hk (fun g hg W' hW' => rch11 g.l t g.a aT _ q g.cap cT bx W' rfl hq ((hG.2 g hg).same (hW.same hW')) (hT.same (hW.same hW')) (hl g hg) (hW'.at kb id))
 generalize (lst gs).any (fun y => decide (y = t)) = R at *
 clear hG hT hl
 replace CG := gi CG
 go_enter Tryz.func10, Tryz.ntmps10
 go_upto_region 1 with fail
 have kb := gv w (.cells #[.slice aT q cT] 33)
 have hs : qad w (w.alloc (.cells #[.slice aT q cT] 33)) := fs2
 have kl1 := hs.at kl id
 generalize w.alloc (.cells #[.slice aT q cT] 33) = W0 at *
 have c0 := gn kl1 0
 have cl := gu kl1
 generalize w.heap.size = bx at *
 replace kb := gi kb; replace hs := gi hs; replace kl1 := gi kl1
 go_wp2_with fail
 refine (CG.out _ _ hs.out kb.out).mono ?_
 rintro e w1 ⟨rfl, s1⟩
 have hs1 := hs.out.same s1
 clear c0 cl s1
 replace hs1 := gi hs1
 go_wp2_with fail
 go_ret
 exact ⟨rfl, hs1.out⟩
theorem rch2 (T : List (List Nat)) (hnd : T.Nodup) (gs : List Grp) (hlg : lst gs = T.map qaz) (a : Option Addr) (k c bl : Nat) (x : List Nat) (aT : Option Addr) (q cT : Nat) (w : World) (hG : qiA w (.slice a k c) k gs) (hk : k ≤ 1000000) (hl : ∀ g ∈ gs, g.l.length ≤ 100000) (hq : x.length = q) (hT : qan w (.slice aT q cT) q (gw (qaz x))) (kl : w.heap[bl]? = some (.cells #[.slice a k c] 40 (0, 0)))
 (g : List Bool) (hg : g.length = k) (aG : Option Addr) (cG bg : Nat) (kg : w.heap[bg]? = some (.cells #[.slice aG k cG] 55 (0, 0))) (hGr : qan w (.slice aG k cG) k (gz g)) :
 Calls Tryz.prog 14 #[.slice aT q cT, .pointer (some ⟨bl, 0, none⟩), .pointer (some ⟨bg, 0, none⟩)] w fun e w' => e = .returned (.bool (decide (x ∈ T) && !g.getD (qdX T x) false)) ∧ qad w w' := by
 have hlen := hG.len
 have IX : ∀ bx W (hW : qad w W) (kb : W.heap[bx]? = some (.cells #[.slice aT q cT] 33 (0, 0))), Calls Tryz.prog 15 #[.slice a k c, .func (.func 16) #[] #[.pointer (some ⟨bx, 0, none⟩)]] W fun e W' => ∃ r : Int, e = .returned (.int .i64 r) ∧ (0 ≤ r ∧ (∃ j : Nat, r = j ∧ j < k ∧ (decide (x ∈ T) && !g.getD (qdX T x) false) = !g.getD j false) ∨ r < 0 ∧ (decide (x ∈ T) && !g.getD (qdX T x) false) = false) ∧ qad W W' := fun bx W hW kb =>
  (qkP gs (fun y => decide (y = qaz x)) 16 #[.pointer (some ⟨bx, 0, none⟩)] a k c W (hG.same hW) qoq hk (fun g hg W' hW' => rch21 g.l (qaz x) g.a aT _ q g.cap cT bx W' rfl (by rw [qaG]; exact hq) ((hG.2 g hg).same (hW.same hW')) (hT.same (hW.same hW')) (hl g hg) (hW'.at kb id))).mono fun e W' ⟨r, h1, ⟨h2, h3⟩, h4⟩ => ⟨r, h1, by
   by_cases h0 : 0 ≤ r
   · obtain ⟨j, rfl, g', h5, h6⟩ := h3 h0
     have h6 := of_decide_eq_true h6
     have hj := (List.getElem?_eq_some_iff.1 h5).1
     have h7 : (lst gs)[j]? = some (qaz x) := by rw [← h6]; unfold lst; rw [List.getElem?_map, h5]; rfl
     rw [hlg, List.getElem?_map] at h7
     obtain ⟨z, h8, h9⟩ := Option.map_eq_some_iff.1 h7
     rw [qph h9] at h8
     refine .inl ⟨h0, j, rfl, by omega, ?_⟩
     rw [qhy hnd h8, decide_eq_true (List.mem_of_getElem? h8)]
     rfl
   · refine .inr ⟨by omega, ?_⟩
     rw [decide_eq_false h0, hlg, qk8] at h2
     rw [← h2]
     rfl, h4⟩
 have hgr := fun (j : Nat) (hj : j < k) W (hW : qad w W) => (show ∃ b off, aG = some ⟨b, off, none⟩ ∧ b < W.heap.size ∧ W.cell? ⟨b, off + j, none⟩ = some (.bool (g.getD j false)) from by
  obtain ⟨b, off, h1, h2, h3⟩ := (hGr.same hW).cell (by omega)
  exact ⟨b, off, h1, h2, h3 j _ (by simp [gz, List.getD_eq_getElem?_getD, List.getElem?_eq_getElem (show j < g.length by omega)])⟩)
 generalize (decide (x ∈ T) && !g.getD (qdX T x) false) = R at *
 clear hG hT hl hGr hlg hnd hlen
 replace IX := gi IX; replace hgr := gi hgr
 go_enter Tryz.func14, Tryz.ntmps14
 go_upto_region 1 with fail
 have kb := gv w (.cells #[.slice aT q cT] 33)
 have hs : qad w (w.alloc (.cells #[.slice aT q cT] 33)) := fs2
 have kl1 := hs.at kl id
 have kg1 := hs.at kg id
 generalize w.alloc (.cells #[.slice aT q cT] 33) = W0 at *
 have c0 := gn kl1 0
 have cl := gu kl1
 generalize w.heap.size = bx at *
 replace kb := gi kb; replace hs := gi hs; replace kl1 := gi kl1; replace kg1 := gi kg1
 go_wp2_with fail
 refine (IX.out _ _ hs.out kb.out).mono ?_
 rintro e w1 ⟨r, rfl, hr, s1⟩
 have hs1 := hs.out.same s1
 have kg2 := s1.at kg1.out id
 clear c0 cl s1
 rcases hr with ⟨h0, j, rfl, hj, hR⟩ | ⟨h0, rfl⟩
 · obtain ⟨b, off, rfl, hb, z0⟩ := hgr.out j hj _ hs1
   have c0 := gn kg2 0
   have cl := gu kg2
   generalize g.getD j false = v at *
   subst hR
   replace hs1 := gi hs1; replace kg2 := gi kg2
   go_wp2_with fail
   go_ret
   exact ⟨rfl, hs1.out⟩
 · have h0' : (0 ≤ r) = False := by simpa using h0
   replace hs1 := gi hs1; replace kg2 := gi kg2
   go_wp2_with fail
   go_ret
   exact ⟨rfl, hs1.out⟩
end Go.Proofs.YticcpnekjddanaaGreatDoor
namespace Go.Proofs.YticcpnekjddanaaGreatDoor
open Go.RowKit
theorem AuB.keep {S : Nat → Prop} {Wb w w' : World} {b : Nat} {aA : Option Addr} {qA cA : Nat} {n : Int} {ma : List Int} {aM : Option Addr} {cM : Nat} {es : List Nd} {aE : Option Addr} {cE : Nat} (h : AuB Wb b aA qA cA n ma aM cM es aE cE w) (hf : Fr S w w')
 (hS : ∀ k, S k → Wb.heap.size ≤ k ∧ ∀ cs T f, w.heap[k]? = some (.cells cs T f) → T = 33) : AuB Wb b aA qA cA n ma aM cM es aE cE w' := by
 have nt : ∀ {k : Nat} {cs : Array Value} {T : TypeId} {f : Nat × Nat}, w.heap[k]? = some (.cells cs T f) → T ≠ 33 → ¬ S k := fun hk hT hs => hT ((hS _ hs).2 _ _ _ hk)
 refine ⟨hf.at h.box (nt h.box (by decide)), qaN h.ma hf (fun k hk => ?_), qaN h.es hf (fun k hk => ?_), h.fr.trans hf (fun i hi e => ?_)⟩
 · obtain ⟨cur, e⟩ := qaj h.ma hk
   exact nt e (by decide)
 · obtain ⟨cur, e⟩ := qaj h.es hk
   exact nt e (by decide)
 · have := (hS i e).1
   omega
theorem TG.keep {S : Nat → Prop} {base : Nat} {w w' : World} {a : Option Addr} {k c : Nat} {gs : List Grp} (h : TG base w a k c gs) (hf : Fr S w w') (hS : ∀ k cs f, S k → w.heap[k]? ≠ some (.cells cs 33 f))
 (hE : ∀ g ∈ gs, 0 < g.l.length → ∀ k, g.v.ownBlock = some k → ¬ S k) : TG base w' a k c gs :=
 ⟨h.len, qaN h.own hf (fun k hk hs => by
  obtain ⟨cur, e⟩ := qaj h.own hk
  exact hS k _ _ hs e), fun g hg => (h.el g hg).away hf (hE g hg)⟩
structure SyB (W1 : World) (ba : Nat) (aV : Option Addr) (qV cV : Nat) (ma : List Int) (aM : Option Addr) (cM : Nat) (es : List Nd) (aE : Option Addr) (cE : Nat) (mk : Nat) (M : List (List UInt8 × Int)) (gs : List Grp) (aT : Option Addr) (k cT : Nat) (w : World) : Prop where
 au : AuB W1 ba aV qV cV 0 ma aM cM es aE cE w
 tg : TG W1.heap.size w aT k cT gs
 mp : qaR qlZ (Value.int .i64) w mk M
 mkb : W1.heap.size ≤ mk
 dis : ∀ g ∈ gs, 0 < g.l.length → ∀ b, g.v.ownBlock = some b → (Value.slice aM ma.length cM).ownBlock ≠ some b
section
variable {W1 : World} {ba : Nat} {aV : Option Addr} {qV cV : Nat} {ma : List Int} {aM : Option Addr} {cM : Nat} {es : List Nd} {aE : Option Addr} {cE : Nat} {mk : Nat} {M : List (List UInt8 × Int)} {gs : List Grp} {aT : Option Addr} {k cT : Nat} {w W w' : World} {a' : Option Addr} {c' : Nat}
theorem SyB.same (h : SyB W1 ba aV qV cV ma aM cM es aE cE mk M gs aT k cT w) (hs : qad w W) : SyB W1 ba aV qV cV ma aM cM es aE cE mk M gs aT k cT W :=
 ⟨h.au.same hs, h.tg.same hs, h.mp.of_block (hs.block mk h.mp.lt id), h.mkb, h.dis⟩
theorem SyB.mp_ne (h : SyB W1 ba aV qV cV ma aM cM es aE cE mk M gs aT k cT w) {cs : Array Value} {T : TypeId} {f : Nat × Nat} : w.heap[mk]? ≠ some (.cells cs T f) := fun e => by
 obtain ⟨es, c, h1, _⟩ := h.mp
 rw [h1] at e
 cases e
theorem SyB.map_kept {S : Nat → Prop} (h : SyB W1 ba aV qV cV ma aM cM es aE cE mk M gs aT k cT w) (hf : Fr S w w') (hS : ∀ b, S b → ∃ cs T f, w.heap[b]? = some (.cells cs T f)) : qaR qlZ (Value.int .i64) w' mk M :=
 h.mp.of_block (hf.block mk h.mp.lt (fun e => by
  obtain ⟨cs, T, f, e⟩ := hS mk e
  exact h.mp_ne e))
theorem SyB.pushM {x : Int} (h : SyB W1 ba aV qV cV ma aM cM es aE cE mk M gs aT k cT w) (hs : qad w W) (ho : w'.ownsRow W1.heap.size 3 1 (.slice a' (ma.length + 1) c') (ma.length + 1) (gw ma ++ [.int .i64 x])) (hG : qaK (fun _ => False) W w' (.slice aM ma.length cM) (.slice a' (ma.length + 1) c')) :
 w'.heap[ba]? = some (.cells #[.slice aV qV cV, .int .i64 0, .slice aM ma.length cM, .slice aE es.length cE] 39 (0, 0)) ∧
 SyB W1 ba aV qV cV (ma ++ [x]) a' c' es aE cE mk M gs aT k cT (w'.setCell ⟨ba, 2, none⟩ (.slice a' (ma.length + 1) c')) := by
 obtain ⟨hbx, hA⟩ := h.au.pushM hs ho hG
 have h2 := h.same hs
 have hF : Fr (fun q => q = ba) w' (w'.setCell ⟨ba, 2, none⟩ (.slice a' (ma.length + 1) c')) := (Fr.refl _ _).setCell _ _ (fun _ => rfl)
 have hG1 : ∀ b, ((Value.slice aM ma.length cM).ownBlock = some b ∨ False) → ∃ cs, W.heap[b]? = some (.cells cs 3 (0, 0)) := fun b hb => by
  rcases hb with hb | hb
  · exact qaj h2.au.ma hb
  · exact hb.elim
 have hT1 : TG W1.heap.size w' aT k cT gs := h2.tg.keep hG.1 (fun b cs f hb e => by
  obtain ⟨cs2, e2⟩ := hG1 b hb
  rw [e2] at e
  simp at e) (fun g hg hp b hb hS => by
  rcases hS with hS | hS
  · exact h.dis g hg hp b hb hS
  · exact hS)
 have hT2 := hT1.keep hF (fun b cs f hb e => by
  rw [show b = ba from hb, hbx] at e
  simp at e) (fun g hg hp b hb hS => by
  obtain ⟨_, a1, c1, e1, _, _, _, hbb⟩ := hT1.el g hg
  obtain ⟨b2, o2, cur, e2, hh, _⟩ := hbb hp
  have e3 : g.v.ownBlock = some b2 := by rw [e1, e2]; rfl
  rw [e3] at hb
  have : b2 = ba := (Option.some.inj hb).trans hS
  rw [this, hbx] at hh
  simp at hh)
 refine ⟨hbx, hA, hT2, ?_, h.mkb, fun g hg hp b hb e => ?_⟩
 · have m1 := h2.map_kept hG.1 (fun b hb => by
     obtain ⟨cs, e⟩ := hG1 b hb
     exact ⟨cs, _, _, e⟩)
   exact m1.of_block (hF.block mk m1.lt (fun e => by
    obtain ⟨es2, c2, e1, _⟩ := m1
    rw [show mk = ba from e, hbx] at e1
    cases e1))
 · have e' : (Value.slice a' (ma.length + 1) c').ownBlock = some b := by
     rw [List.length_append] at e
     exact e
   rcases hG.2 b e' with e2 | e2
   · exact h.dis g hg hp b hb e2
   · have := (h2.tg.el g hg).lt hp hb
     omega
theorem SyB.pushE {x : Nd} (h : SyB W1 ba aV qV cV ma aM cM es aE cE mk M gs aT k cT w) (hs : qad w W) (ho : w'.ownsRow W1.heap.size 57 3 (.slice a' (es.length + 1) c') (es.length + 1) (qap es ++ [.int .i64 x.1, .int .i64 x.2.1, .int .i64 x.2.2])) (hG : qaK (fun _ => False) W w' (.slice aE es.length cE) (.slice a' (es.length + 1) c')) :
 w'.heap[ba]? = some (.cells #[.slice aV qV cV, .int .i64 0, .slice aM ma.length cM, .slice aE es.length cE] 39 (0, 0)) ∧
 SyB W1 ba aV qV cV ma aM cM (es ++ [x]) a' c' mk M gs aT k cT (w'.setCell ⟨ba, 3, none⟩ (.slice a' (es.length + 1) c')) := by
 obtain ⟨hbx, hA⟩ := h.au.pushE hs ho hG
 have h2 := h.same hs
 have hF : Fr (fun q => q = ba) w' (w'.setCell ⟨ba, 3, none⟩ (.slice a' (es.length + 1) c')) := (Fr.refl _ _).setCell _ _ (fun _ => rfl)
 have hG1 : ∀ b, ((Value.slice aE es.length cE).ownBlock = some b ∨ False) → ∃ cs, W.heap[b]? = some (.cells cs 57 (0, 0)) := fun b hb => by
  rcases hb with hb | hb
  · exact qaj h2.au.es hb
  · exact hb.elim
 have blk : ∀ {V : World} {g : Grp} {b : Nat}, qaa V 3 1 g.v g.l.length (gw g.l) → 0 < g.l.length → g.v.ownBlock = some b → ∃ cs f, V.heap[b]? = some (.cells cs 3 f) := fun {V g b} hS hp hb => by
  obtain ⟨_, a1, c1, e1, _, _, _, hbb⟩ := hS
  obtain ⟨b2, o2, cur, e2, hh, _⟩ := hbb hp
  have e3 : g.v.ownBlock = some b2 := by rw [e1, e2]; rfl
  rw [e3] at hb
  obtain rfl := Option.some.inj hb
  exact ⟨_, _, hh⟩
 have hT1 : TG W1.heap.size w' aT k cT gs := h2.tg.keep hG.1 (fun b cs f hb e => by
  obtain ⟨cs2, e2⟩ := hG1 b hb
  rw [e2] at e
  simp at e) (fun g hg hp b hb hS => by
  obtain ⟨cs2, e2⟩ := hG1 b hS
  obtain ⟨cs3, f3, e3⟩ := blk (h2.tg.el g hg) hp hb
  rw [e2] at e3
  simp at e3)
 have hT2 := hT1.keep hF (fun b cs f hb e => by
  rw [show b = ba from hb, hbx] at e
  simp at e) (fun g hg hp b hb hS => by
  obtain ⟨cs3, f3, e3⟩ := blk (hT1.el g hg) hp hb
  rw [show b = ba from hS, hbx] at e3
  simp at e3)
 refine ⟨hbx, hA, hT2, ?_, h.mkb, h.dis⟩
 have m1 := h2.map_kept hG.1 (fun b hb => by
  obtain ⟨cs, e⟩ := hG1 b hb
  exact ⟨cs, _, _, e⟩)
 exact m1.of_block (hF.block mk m1.lt (fun e => by
  obtain ⟨es2, c2, e1, _⟩ := m1
  rw [show mk = ba from e, hbx] at e1
  cases e1))
theorem SyB.pushT {g : Grp} (h : SyB W1 ba aV qV cV ma aM cM es aE cE mk M gs aT k cT w) (hs : qad w W) (hg : qaa W 3 1 g.v g.l.length (gw g.l)) (hd : 0 < g.l.length → ∀ b, g.v.ownBlock = some b → (Value.slice aM ma.length cM).ownBlock ≠ some b)
 (ho : w'.ownsRow W1.heap.size 33 1 (.slice a' (k + 1) c') (k + 1) (gs.map Grp.v ++ [g.v])) (hG : qaK (fun _ => False) W w' (.slice aT k cT) (.slice a' (k + 1) c')) : SyB W1 ba aV qV cV ma aM cM es aE cE mk M (gs ++ [g]) a' (k + 1) c' w' := by
 have h2 := h.same hs
 have hG1 : ∀ b, ((Value.slice aT k cT).ownBlock = some b ∨ False) → (∃ cs, W.heap[b]? = some (.cells cs 33 (0, 0))) ∧ W1.heap.size ≤ b := fun b hb => by
  rcases hb with hb | hb
  · exact ⟨qaj h2.tg.own hb, (h2.tg.own.lt b hb).1⟩
  · exact hb.elim
 refine ⟨h2.au.keep hG.1 (fun b hb => ⟨(hG1 b hb).2, fun cs T f e => ?_⟩), h.tg.push hs hg ho hG, h2.map_kept hG.1 (fun b hb => ?_), h.mkb, fun x hx hp b hb => ?_⟩
 · obtain ⟨cs2, e2⟩ := (hG1 b hb).1
   rw [e2] at e
   simp at e
   exact e.2.1.symm
 · obtain ⟨cs2, e2⟩ := (hG1 b hb).1
   exact ⟨_, _, _, e2⟩
 · rcases List.mem_append.1 hx with hx | hx
   · exact h.dis x hx hp b hb
   · obtain rfl := List.mem_singleton.1 hx
     exact hd hp b hb
theorem SyB.put {M' : List (List UInt8 × Int)} {ob : Obj} (h : SyB W1 ba aV qV cV ma aM cM es aE cE mk M gs aT k cT w) (hob : qaR qlZ (Value.int .i64) (setObj w mk ob) mk M') : SyB W1 ba aV qV cV ma aM cM es aE cE mk M' gs aT k cT (setObj w mk ob) := by
 have hF : Fr (fun q => q = mk) w (setObj w mk ob) := (Fr.refl _ _).setObj _ _ (fun _ => rfl)
 refine ⟨h.au.keep hF (fun b hb => ⟨by rw [show b = mk from hb]; exact h.mkb, fun cs T f e => ?_⟩), h.tg.keep hF (fun b cs f hb e => ?_) (fun g hg hp b hb e => ?_), hob, h.mkb, h.dis⟩
 · rw [show b = mk from hb] at e
   exact absurd e h.mp_ne
 · rw [show b = mk from hb] at e
   exact h.mp_ne e
 · obtain ⟨_, a1, c1, e1, _, _, _, hbb⟩ := h.tg.el g hg
   obtain ⟨b2, o2, cur, e2, hh, _⟩ := hbb hp
   have e3 : g.v.ownBlock = some b2 := by rw [e1, e2]; rfl
   rw [e3] at hb
   have : b2 = mk := (Option.some.inj hb).trans e
   rw [this] at hh
   exact h.mp_ne hh
theorem SyB.rows (h : SyB W1 ba aV qV cV ma aM cM es aE cE mk M gs aT k cT w) (hF : Fr (fun q => q = ba) w W) : qaa W 3 1 (.slice aM ma.length cM) ma.length (gw ma) ∧ qaa W 57 3 (.slice aE es.length cE) es.length (qap es) ∧ qiA W (.slice aT k cT) k gs := by
 refine ⟨qaa.bx (qaa.of_owns h.au.ma) h.au.box (by decide) hF, qaa.bx (qaa.of_owns h.au.es) h.au.box (by decide) hF, TG.gs (base := W1.heap.size) ⟨h.tg.len, qaN h.tg.own hF (fun q hq e => ?_), fun g hg => qaa.bx (h.tg.el g hg) h.au.box (by decide) hF⟩⟩
 obtain ⟨cur, e1⟩ := qaj h.tg.own hq
 rw [show q = ba from e, h.au.box] at e1
 simp at e1
end
end Go.Proofs.YticcpnekjddanaaGreatDoor
