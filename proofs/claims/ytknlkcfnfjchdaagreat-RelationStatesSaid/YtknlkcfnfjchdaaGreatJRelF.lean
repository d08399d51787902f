/- package relation: fromPairs, FromPairs, Identity walked. package relation: Pairs' closures. package relation: domain walked. package relation: States walked. package relation: each walked. -/
import Derived.Test.YtknlkcfnfjchdaaGreatJRelV
import Derived.Test.YtknlkcfnfjchdaaGreatJValue
namespace Go.Proofs.YtknlkcfnfjchdaaGreat
open Go.RowKit
set_option linter.unusedVariables false
set_option linter.unusedSimpArgs false

/-- Where a table is true, from b on. -/
def posT : List Bool → Nat → List Nat
  | [], _ => []
  | x :: t, b => if x then b :: posT t (b + 1) else posT t (b + 1)
theorem posT_append : ∀ (s t : List Bool) (b : Nat), posT (s ++ t) b = posT s b ++ posT t (b + s.length)
  | [], t, b => by simp [posT]
  | x :: s, t, b => by
    have ih := posT_append s t (b + 1)
    simp only [List.cons_append, posT, ih, List.length_cons]
    rw [show b + 1 + s.length = b + (s.length + 1) by omega]
    split <;> simp
theorem posT_false (b : Nat) : ∀ m, posT (List.replicate m false) b = []
  | 0 => rfl
  | m + 1 => by
    rw [List.replicate_succ, posT, if_neg (by simp)]
    exact posT_false (b + 1) m
theorem posT_mem : ∀ (t : List Bool) (b x : Nat), x ∈ posT t b ↔ b ≤ x ∧ x < b + t.length ∧ t.getD (x - b) false = true
  | [], b, x => by simp [posT]
  | y :: t, b, x => by
    have ih := posT_mem t (b + 1) x
    have key : x ∈ posT (y :: t) b ↔ (y = true ∧ x = b) ∨ x ∈ posT t (b + 1) := by
      rw [posT]
      by_cases hy : y = true
      · rw [if_pos hy, List.mem_cons]; simp [hy]
      · rw [if_neg hy]; simp [hy]
    rw [key, ih]
    simp only [List.length_cons]
    rcases Nat.lt_trichotomy x b with h | h | h
    · constructor
      · rintro (⟨_, h2⟩ | ⟨h2, _⟩) <;> omega
      · rintro ⟨h2, _⟩; omega
    · subst h
      simp only [Nat.sub_self]
      constructor
      · rintro (⟨h2, _⟩ | ⟨h2, _⟩)
        · exact ⟨by omega, by omega, by simpa using h2⟩
        · omega
      · rintro ⟨_, _, h2⟩
        exact .inl ⟨by simpa using h2, by trivial⟩
    · have e : x - b = (x - (b + 1)) + 1 := by omega
      rw [e]
      simp only [List.getD_cons_succ]
      constructor
      · rintro (⟨_, h2⟩ | ⟨h1, h2, h3⟩)
        · omega
        · exact ⟨by omega, by omega, h3⟩
      · rintro ⟨h1, h2, h3⟩
        exact .inr ⟨by omega, by omega, h3⟩
theorem posT_sorted : ∀ (t : List Bool) (b : Nat), (posT t b).Pairwise (· < ·)
  | [], b => List.Pairwise.nil
  | x :: t, b => by
    rw [posT]
    split
    · refine List.Pairwise.cons (fun y hy => ?_) (posT_sorted t (b + 1))
      have := (posT_mem t (b + 1) y).1 hy
      omega
    · exact posT_sorted t (b + 1)

/-- A list gone through until a function says no. -/
def runP (P : List Nat → Nat → Bool) : List Nat → List Nat → List Nat × Bool
  | done, [] => (done, true)
  | done, x :: l => if P done x then runP P (done ++ [x]) l else (done ++ [x], false)
theorem runP_append (P : List Nat → Nat → Bool) : ∀ (l m done : List Nat), runP P done (l ++ m) = if (runP P done l).2 then runP P (runP P done l).1 m else ((runP P done l).1, false)
  | [], m, done => by simp [runP]
  | x :: l, m, done => by
    have ih := runP_append P l m (done ++ [x])
    simp only [List.cons_append, runP]
    by_cases h : P done x = true
    · simp only [if_pos h, ih]
    · simp [h]

theorem posT_len : ∀ (t : List Bool) (b : Nat), (posT t b).length ≤ t.length
  | [], b => by simp [posT]
  | x :: t, b => by
    have ih := posT_len t (b + 1)
    rw [posT]
    split <;> simp <;> omega
theorem runP_len (P : List Nat → Nat → Bool) : ∀ (l done : List Nat), (runP P done l).1.length ≤ done.length + l.length
  | [], done => by simp [runP]
  | x :: l, done => by
    have ih := runP_len P l (done ++ [x])
    rw [runP]
    split <;> simp at * <;> omega
/-- What each calls: a closure that gathers codes in a value v, whose row and the block bl it may turn. -/
structure EachJ (d : Dg) (F : FuncId) (cs : Array Value) (P : List Nat → Nat → Bool) (bl : Nat) (m : Nat) (J : List Nat → Value → World → Prop) : Prop where
  ent : ∀ (args : Array Value) (W : World), (callFunc F args).run Tryz.prog W = .ok (.enter F args) W
  call : ∀ done v (x : Nat) W, J done v W → x < m → done.length ≤ x → Calls Tryz.prog F (#[.int .i64 x] ++ cs) W fun e W' => e = .returned (.bool (P done x)) ∧ ∃ v', J (done ++ [x]) v' W' ∧ Grew (fun k => k = bl) W W' v v'
  same : ∀ done v W W', J done v W → Same W W' → J done v W'
  lt : ∀ done v W, J done v W → bl < W.heap.size ∧ ∀ k, v.ownBlock = some k → k < W.heap.size
  at_ : ∀ done v W, J done v W → d.at W
def EachR (P : List Nat → Nat → Bool) (bl : Nat) (J : List Nat → Value → World → Prop) (done l : List Nat) (v : Value) (w : World) (e : Ending) (w' : World) : Prop :=
  e = .returned (.bool (runP P done l).2) ∧ ∃ v', J (runP P done l).1 v' w' ∧ Grew (fun k => k = bl) w w' v v'
theorem each_leaf {P : List Nat → Nat → Bool} {bl : Nat} {J : List Nat → Value → World → Prop} {done : List Nat} {v : Value} {x : Nat} {w w' : World} {e : Ending}
    (h : e = .returned (.bool (P done x)) ∧ ∃ v', J (done ++ [x]) v' w' ∧ Grew (fun k => k = bl) w w' v v') : EachR P bl J done [x] v w e w' := by
  obtain ⟨he, v', h1, h2⟩ := h
  unfold EachR
  rw [runP]
  by_cases hp : P done x = true
  · rw [if_pos hp, runP]; rw [hp] at he; exact ⟨he, v', h1, h2⟩
  · rw [if_neg hp]
    have : P done x = false := by simpa using hp
    rw [this] at he
    exact ⟨he, v', h1, h2⟩
theorem EachR.nil {P : List Nat → Nat → Bool} {bl : Nat} {J : List Nat → Value → World → Prop} {done : List Nat} {v : Value} {w w' : World} (E : ∀ done v W W', J done v W → Same W W' → J done v W') (hJ : J done v w) (hs : Same w w') :
    EachR P bl J done [] v w (.returned (.bool true)) w' := ⟨rfl, v, E _ _ _ _ hJ hs, Grew.of_same _ hs⟩
theorem EachR.no {P : List Nat → Nat → Bool} {bl : Nat} {J : List Nat → Value → World → Prop} {done l l' : List Nat} {v v' : Value} {w w' : World} (h2 : (runP P done l).2 = false) (hJ : J (runP P done l).1 v' w') (hg : Grew (fun k => k = bl) w w' v v') :
    EachR P bl J done (l ++ l') v w (.returned (.bool false)) w' := by
  unfold EachR
  rw [runP_append, if_neg (by simp [h2])]
  exact ⟨rfl, v', hJ, hg⟩
theorem EachR.two {P : List Nat → Nat → Bool} {bl : Nat} {J : List Nat → Value → World → Prop} {done l l' : List Nat} {v v' : Value} {w w1 w' : World} {e : Ending} (h2 : (runP P done l).2 = true) (hg : Grew (fun k => k = bl) w w1 v v')
    (h : EachR P bl J (runP P done l).1 l' v' w1 e w') : EachR P bl J done (l ++ l') v w e w' := by
  obtain ⟨he, v2, h1, hg2⟩ := h
  unfold EachR
  rw [runP_append, if_pos h2]
  exact ⟨he, v2, h1, hg.trans hg2⟩

set_option maxRecDepth 100000 in
set_option maxHeartbeats 4000000 in
theorem each_any {d : Dg} {n : Nat} {t : List Bool} (hT : d.tab n t) (hn : n ≤ 24) {F : FuncId} {cs : Array Value} {P : List Nat → Nat → Bool} {bl : Nat} {J : List Nat → Value → World → Prop} (E : EachJ d F cs P bl (2 ^ n) J) :
    ∀ (e v : Nat) (k : Int) (c : Nat) (done : List Nat) (val : Value) (w : World), v + e = n → VNum d.L k → (v : Int) ≤ topF d.L k → c < 2 ^ v → done.length ≤ c * 2 ^ e → J done val w →
    Calls Tryz.prog 125 #[.agg #[.int .i64 d.n, .slice d.a d.L.length d.cap, .int .i64 d.r], .int .i64 k, .int .i64 v, .int .i64 c, .func (.func F) #[] cs] w (EachR P bl J done (posT (tab d.L e v k) (c * 2 ^ e)) val w) := by
  obtain ⟨hO, hV, hTb⟩ := hT.2.ord
  have hdn := hT.1
  have hsh := hT.2.short
  clear hT hTb hV
  have E1 := E.ent
  have E2 := E.call
  have E3 := E.same
  have E4 := E.lt
  have E5 : ∀ done v W, J done v W → SliceAt W 135 3 (.slice d.a d.L.length d.cap) d.L.length (ndCells d.L) := E.at_
  clear E
  rw [hdn]
  generalize d.L = L at *
  generalize d.r = r at *
  generalize d.a = a at *
  generalize d.cap = cap at *
  clear hdn
  intro e
  induction e with
  | zero =>
    intro v k c done val w hve hk hvk hc hdl hJ
    obtain rfl : v = n := by omega
    have hk2 : k < 2 := by
      rcases Int.lt_or_le k 2 with h | h
      · exact h
      · have h1 := hO.var _ (nodeF_mem h hk.2)
        unfold topF at hvk
        rw [if_neg (by omega)] at hvk
        omega
    have hk0 := hk.1
    rw [Nat.pow_zero, Nat.mul_one] at hdl ⊢
    rcases (show k = 0 ∨ k = 1 by omega) with rfl | rfl
    · have hr := fun W hW => EachR.nil (P := P) (bl := bl) E3 hJ (w' := W) hW
      clear hO hvk hc hk hk2 hk0 E1 E2 E4 E5
      have e0 : posT (tab L 0 v 0) c = [] := rfl
      rw [e0]
      replace hr := Lib.hid hr; replace hJ := Lib.hid hJ; replace E3 := Lib.hid E3
      go_enter Tryz.func125, Tryz.ntmps125
      go_wp2_with fail
      go_ret
      exact hr.out _ (by repeat (first | exact Fr.refl _ _ | apply Fr.alloc | apply Fr.drewN | apply Fr.drew | apply Fr.undrew | apply Fr.undrewN))
    · have hr := fun W hW => E2 done val c W (E3 _ _ _ _ hJ hW) hc hdl
      clear hO hvk hc hk hk2 hk0 E2 E4 E5
      have e0 : posT (tab L 0 v 1) c = [c] := rfl
      rw [e0]
      replace hr := Lib.hid hr; replace hJ := Lib.hid hJ; replace E3 := Lib.hid E3
      go_enter Tryz.func125, Tryz.ntmps125
      go_wp2_with fail
      have kb := heap_new w (.cells #[.int .i64 v, .slice a L.length cap, .int .i64 r] 54)
      have hs : Same w (w.alloc (.cells #[.int .i64 v, .slice a L.length cap, .int .i64 r] 54)) := (by repeat (first | exact Fr.refl _ _ | apply Fr.alloc | apply Fr.drewN | apply Fr.drew | apply Fr.undrew | apply Fr.undrewN))
      generalize w.alloc (.cells #[.int .i64 v, .slice a L.length cap, .int .i64 r] 54) = W0 at *
      replace kb := Lib.hid kb; replace hs := Lib.hid hs
      obtain ⟨x0, x1, x2, z0, z1, z2, xl⟩ := box_facts kb.out
      go_wp2_with fail
      refine (hr.out _ hs.out).mono ?_
      rintro e w1 ⟨rfl, v', hJ', hG⟩
      replace hJ' := Lib.hid hJ'; replace hG := Lib.hid hG
      go_wp2_with fail
      go_ret
      exact each_leaf ⟨rfl, v', hJ'.out, (Grew.of_same _ hs.out).trans hG.out⟩
  | succ e ih =>
    intro v k c done val w hve hk hvk hc hdl hJ
    have hk0 := hk.1
    have hk1 := hk.2
    by_cases hkz : k = 0
    · subst hkz
      have hr := fun W hW => EachR.nil (P := P) (bl := bl) E3 hJ (w' := W) hW
      rw [tab_zero _ _ _ (by omega), posT_false]
      clear hO hvk hc hk hk0 hk1 E1 E2 E4 E5 ih
      replace hr := Lib.hid hr; replace hJ := Lib.hid hJ; replace E3 := Lib.hid E3
      go_enter Tryz.func125, Tryz.ntmps125
      go_wp2_with fail
      go_ret
      exact hr.out _ (by repeat (first | exact Fr.refl _ _ | apply Fr.alloc | apply Fr.drewN | apply Fr.drew | apply Fr.undrew | apply Fr.undrewN))
    · have hvn : (v : Int) < n := by omega
      have p0 := hO.part (b := false) hk hvk hvn
      have p1 := hO.part (b := true) hk hvk hvn
      have hc24 : 2 ^ v ≤ 2 ^ 24 := Nat.pow_le_pow_right (by omega) (by omega)
      have hpv : (2 : Nat) ^ (v + 1) = 2 * 2 ^ v := by rw [Nat.pow_succ]; omega
      have e1 : c * 2 ^ (e + 1) = 2 * c * 2 ^ e := by rw [Nat.pow_succ, ← Nat.mul_assoc, Nat.mul_right_comm, Nat.mul_comm c 2]
      have e2 : c * 2 ^ (e + 1) + 2 ^ e = (2 * c + 1) * 2 ^ e := by rw [e1, Nat.add_mul (2 * c) 1, Nat.one_mul]
      have hl2 : (runP P done (posT (tab L e ((v + 1 : Nat) : Int) (partF L k v false)) (2 * c * 2 ^ e))).1.length ≤ (2 * c + 1) * 2 ^ e := by
        have h1 := runP_len P (posT (tab L e ((v + 1 : Nat) : Int) (partF L k v false)) (2 * c * 2 ^ e)) done
        have h2 := posT_len (tab L e ((v + 1 : Nat) : Int) (partF L k v false)) (2 * c * 2 ^ e)
        rw [tab_length] at h2
        omega
      have F1 := fun val W hJ => ih (v + 1) (partF L k v false) (2 * c) done val W (by omega) p0.1 (by have := p0.2; omega) (by omega) (by omega) hJ
      have F2 := fun val W hJ => ih (v + 1) (partF L k v true) (2 * c + 1) _ val W (by omega) p1.1 (by have := p1.2; omega) (by omega) hl2 hJ
      have hpos : posT (tab L (e + 1) v k) (c * 2 ^ (e + 1)) = posT (tab L e ((v + 1 : Nat) : Int) (partF L k v false)) (2 * c * 2 ^ e) ++ posT (tab L e ((v + 1 : Nat) : Int) (partF L k v true)) ((2 * c + 1) * 2 ^ e) := by
        rw [tab, posT_append, tab_length]
        rw [e2, e1]
        rfl
      rw [hpos]
      have hw3 : IntKind.i64.wrap ((v : Int) + 1) = ((v + 1 : Nat) : Int) := by rw [IntWalk.i64_in _ (by omega)]; omega
      have hw1 : IntKind.i64.wrap (2 * (c : Int)) = ((2 * c : Nat) : Int) := by rw [IntWalk.i64_in _ (by omega)]; omega
      have hw4 : IntKind.i64.wrap (((2 * c : Nat) : Int) + 1) = ((2 * c + 1 : Nat) : Int) := by rw [IntWalk.i64_in _ (by omega)]; omega
      obtain ⟨l0, hl0⟩ : ∃ l, l = posT (tab L e ((v + 1 : Nat) : Int) (partF L k v false)) (2 * c * 2 ^ e) := ⟨_, rfl⟩
      obtain ⟨l1, hl1⟩ : ∃ l, l = posT (tab L e ((v + 1 : Nat) : Int) (partF L k v true)) ((2 * c + 1) * 2 ^ e) := ⟨_, rfl⟩
      rw [← hl0] at F1 F2 ⊢
      rw [← hl1] at F2 ⊢
      obtain ⟨u, hu⟩ : ∃ u, u = v + 1 := ⟨_, rfl⟩
      obtain ⟨c0, hc0⟩ : ∃ u, u = 2 * c := ⟨_, rfl⟩
      obtain ⟨c1, hc1⟩ : ∃ u, u = c0 + 1 := ⟨_, rfl⟩
      rw [← hu] at F1 F2 hw3
      rw [← hc0] at F1 F2 hw1 hw4
      rw [← hc1] at F2 hw4
      have hkz' : (k == 0) = false := by simpa using hkz
      have hvz : ((v : Int) == (n : Int)) = false := by simp; omega
      have hsz := E4 _ _ _ hJ
      have hcases : (¬ 1 < k ∧ partF L k v false = k ∧ partF L k v true = k) ∨ (1 < k ∧ ((nodeF L k).1 == (v : Int)) = false ∧ partF L k v false = k ∧ partF L k v true = k) ∨
          (1 < k ∧ ((nodeF L k).1 == (v : Int)) = true ∧ partF L k v false = (nodeF L k).2.1 ∧ partF L k v true = (nodeF L k).2.2) := by
        unfold topF at hvk
        by_cases h1 : 1 < k
        · rw [if_neg (by omega)] at hvk
          have ht : topF L k = (nodeF L k).1 := by unfold topF; rw [if_neg (by omega)]
          by_cases h2 : (nodeF L k).1 = v
          · exact .inr (.inr ⟨h1, by simp [h2], partF_low (by omega), partF_high (by omega)⟩)
          · exact .inr (.inl ⟨h1, by simp [h2], partF_skip (by omega), partF_skip (by omega)⟩)
        · have ht : topF L k = 40 := by unfold topF; rw [if_pos (by omega)]
          exact .inl ⟨h1, partF_skip (by omega), partF_skip (by omega)⟩
      have hw2 : IntKind.i64.wrap (k - 2) = k - 2 := IntWalk.i64_in _ (by omega)
      have hkn : 1 < k → (k - 2).toNat < L.length := fun h => by omega
      obtain ⟨k0, hk0e⟩ : ∃ x, x = partF L k v false := ⟨_, rfl⟩
      obtain ⟨k1', hk1e⟩ : ∃ x, x = partF L k v true := ⟨_, rfl⟩
      rw [← hk0e] at F1 hcases
      rw [← hk1e] at F2 hcases
      clear ih hO hvk hk p0 p1 hc24 hpv hpos hl0 hl1 hu hc0 hc1 hk0e hk1e hc hve E1 E2 hdl hl2 e1 e2
      replace F1 := Lib.hid F1; replace F2 := Lib.hid F2; replace hJ := Lib.hid hJ; replace E3 := Lib.hid E3; replace E4 := Lib.hid E4; replace E5 := Lib.hid E5; replace hsz := Lib.hid hsz; replace hkn := Lib.hid hkn; replace hcases := Lib.hid hcases
      go_enter Tryz.func125, Tryz.ntmps125
      go_upto_region 1 with fail
      have kb := heap_new w (.cells #[.int .i64 n, .slice a L.length cap, .int .i64 r] 54)
      have hs : Same w (w.alloc (.cells #[.int .i64 n, .slice a L.length cap, .int .i64 r] 54)) := (by repeat (first | exact Fr.refl _ _ | apply Fr.alloc | apply Fr.drewN | apply Fr.drew | apply Fr.undrew | apply Fr.undrewN))
      have hbs : w.heap.size < (w.alloc (.cells #[.int .i64 n, .slice a L.length cap, .int .i64 r] 54)).heap.size := by simp
      generalize w.alloc (.cells #[.int .i64 n, .slice a L.length cap, .int .i64 r] 54) = W0 at *
      generalize w.heap.size = b5 at *
      replace kb := Lib.hid kb; replace hs := Lib.hid hs
      have hJ0 := E3.out _ _ _ _ hJ.out hs.out
      have hat := E5.out _ _ _ hJ0
      replace hJ0 := Lib.hid hJ0; replace hat := Lib.hid hat
      obtain ⟨x0, x1, x2, z0, z1, z2, xl⟩ := box_facts kb.out
      rcases hcases.out with ⟨hk2, rfl, rfl⟩ | ⟨hk2, hnv, rfl, rfl⟩ | ⟨hk2, hnv, rfl, rfl⟩
      · clear hat hkn
        go_wp2_with fail
        refine (F1.out _ _ hJ0.out).mono ?_
        rintro e w1 ⟨rfl, v1, hJ1, hG1⟩
        have hb5 : ¬ (Value.ownBlock val = some b5 ∨ b5 = bl) := by
          have := hsz.out
          rintro (h | h)
          · have := this.2 _ h; omega
          · omega
        have kb1 := hG1.1.at kb.out hb5
        have hG1 := (Grew.of_same _ hs.out).trans hG1
        clear x0 x1 x2 z0 z1 z2 xl
        replace kb1 := Lib.hid kb1; replace hG1 := Lib.hid hG1; replace hJ1 := Lib.hid hJ1
        by_cases hb : (runP P done l0).2 = true
        · rw [hb]
          obtain ⟨x0, x1, x2, z0, z1, z2, xl⟩ := box_facts kb1.out
          go_wp2_with fail
          refine (F2.out _ _ hJ1.out).mono ?_
          rintro e w2 hR
          have hR' := EachR.two hb hG1.out hR
          obtain ⟨rfl, _⟩ := hR
          replace hR' := Lib.hid hR'
          go_wp2_with fail
          go_ret
          exact hR'.out
        · have hb : (runP P done l0).2 = false := by simpa using hb
          rw [hb]
          go_wp2_with fail
          go_ret
          exact EachR.no hb hJ1.out hG1.out
      · obtain ⟨b, off, ha, hb, z3, z4, z5⟩ := hat.out.node3 hk2 hk1
        subst ha
        have hkn := hkn.out hk2
        clear z4 z5 hat
        generalize (nodeF L _).1 = nv at *
        go_wp2_with fail
        refine (F1.out _ _ hJ0.out).mono ?_
        rintro e w1 ⟨rfl, v1, hJ1, hG1⟩
        have hb5 : ¬ (Value.ownBlock val = some b5 ∨ b5 = bl) := by
          have := hsz.out
          rintro (h | h)
          · have := this.2 _ h; omega
          · omega
        have kb1 := hG1.1.at kb.out hb5
        have hG1 := (Grew.of_same _ hs.out).trans hG1
        clear x0 x1 x2 z0 z1 z2 xl
        replace kb1 := Lib.hid kb1; replace hG1 := Lib.hid hG1; replace hJ1 := Lib.hid hJ1
        by_cases hb : (runP P done l0).2 = true
        · rw [hb]
          obtain ⟨x0, x1, x2, z0, z1, z2, xl⟩ := box_facts kb1.out
          go_wp2_with fail
          refine (F2.out _ _ hJ1.out).mono ?_
          rintro e w2 hR
          have hR' := EachR.two hb hG1.out hR
          obtain ⟨rfl, _⟩ := hR
          replace hR' := Lib.hid hR'
          go_wp2_with fail
          go_ret
          exact hR'.out
        · have hb : (runP P done l0).2 = false := by simpa using hb
          rw [hb]
          go_wp2_with fail
          go_ret
          exact EachR.no hb hJ1.out hG1.out
      · obtain ⟨b, off, ha, hb, z3, z4, z5⟩ := hat.out.node3 hk2 hk1
        subst ha
        have hkn := hkn.out hk2
        rw [show (nodeF L k).1 = (v : Int) by simpa using hnv] at z3
        have hvv : ((v : Int) == (v : Int)) = true := by simp
        clear hat hnv
        go_upto_region 7 with fail
        refine wp_region_sched (fun k => k = b5 ∨ k = b) [0, 1, 0, 0, 0, 0, 1, 0, 1, 0, 0, 0, 0, 1, 0, 0] [0, 2, 3, 7, 9, 10, 1, 4, 5, 6, 14, 8, 11, 12, 13, 15] (by kernel_rfl) (by kernel_rfl) ?_
        have hk2' : 2 ≤ k := by omega
        have hkl : k - 2 < (L.length : Int) := by omega
        repeat (first | (refine sched_w rfl rfl (fun _ hK => ?_); go_simp; refine hK _ ?_; clear hK) | (refine sched_s rfl rfl (fun _ hK => ?_); go_simp; first | (refine hK _ ?_; clear hK) | (refine ⟨_, fun _ => rfl, hK _ ?_⟩; clear hK)))
        refine sched_nil (NoPanic.normal ?_)
        have hd : Same W0 W0.drew := (by repeat (first | exact Fr.refl _ _ | apply Fr.alloc | apply Fr.drewN | apply Fr.drew | apply Fr.undrew | apply Fr.undrewN))
        have hJ0 := E3.out _ _ _ _ hJ0.out hd
        have hs := hs.out.same hd
        replace kb := Lib.hid (hd.at kb.out id)
        clear hd z3 z4 z5
        clear x0 x1 x2 z0 z1 z2 xl
        generalize W0.drew = W1 at *
        replace hJ0 := Lib.hid hJ0; replace hs := Lib.hid hs
        obtain ⟨x0, x1, x2, z0, z1, z2, xl⟩ := box_facts kb.out
        go_wp2_with fail
        refine (F1.out _ _ hJ0.out).mono ?_
        rintro e w1 ⟨rfl, v1, hJ1, hG1⟩
        have hb5 : ¬ (Value.ownBlock val = some b5 ∨ b5 = bl) := by
          have := hsz.out
          rintro (h | h)
          · have := this.2 _ h; omega
          · omega
        have kb1 := hG1.1.at kb.out hb5
        have hG1 := (Grew.of_same _ hs.out).trans hG1
        clear x0 x1 x2 z0 z1 z2 xl
        replace kb1 := Lib.hid kb1; replace hG1 := Lib.hid hG1; replace hJ1 := Lib.hid hJ1
        by_cases hb : (runP P done l0).2 = true
        · rw [hb]
          obtain ⟨x0, x1, x2, z0, z1, z2, xl⟩ := box_facts kb1.out
          go_wp2_with fail
          refine (F2.out _ _ hJ1.out).mono ?_
          rintro e w2 hR
          have hR' := EachR.two hb hG1.out hR
          obtain ⟨rfl, _⟩ := hR
          replace hR' := Lib.hid hR'
          go_wp2_with fail
          go_ret
          exact hR'.out
        · have hb : (runP P done l0).2 = false := by simpa using hb
          rw [hb]
          go_wp2_with fail
          go_ret
          exact EachR.no hb hJ1.out hG1.out
end Go.Proofs.YtknlkcfnfjchdaaGreat
namespace Go.Proofs.YtknlkcfnfjchdaaGreat
open Go.RowKit
set_option linter.unusedVariables false
set_option linter.unusedSimpArgs false

/-- What the closure of States keeps: its list in box bl. -/
def StJ (d : Dg) (n : Int) (base bl kn : Nat) (w0 : World) (done : List Nat) (v : Value) (W : World) : Prop :=
  ∃ a c, v = .slice a done.length c ∧ W.heap[bl]? = some (.cells #[.slice a done.length c] 31 (0, 0)) ∧ W.ownsRow base 3 1 (.slice a done.length c) done.length (codeC done) ∧
    W.heap[kn]? = some (.cells #[.int .i64 n] 3 (0, 0)) ∧ d.at W ∧ Same w0 W ∧ base ≤ W.heap.size
theorem StJ.same {d : Dg} {n : Int} {base bl kn : Nat} {w0 W W' : World} {done : List Nat} {v : Value} (h : StJ d n base bl kn w0 done v W) (hs : Same W W') : StJ d n base bl kn w0 done v W' := by
  obtain ⟨a, c, h1, h2, h3, h4, h5, h6, h7⟩ := h
  exact ⟨a, c, h1, hs.at h2 id, owns_same h3 hs, hs.at h4 id, SliceAt.same h5 hs, h6.same hs, Nat.le_trans h7 hs.size⟩
theorem enter_St1 (args : Array Value) (W : World) : (callFunc 126 args).run Tryz.prog W = .ok (.enter 126 args) W := by kernel_rfl

/-- The row of a closure's list, stored in its box behind an append. -/
theorem St_put {d : Dg} {n : Int} {base bl kn : Nat} {w0 W w5 : World} {done : List Nat} {x : Nat} {a a5 : Option Addr} {c c5 : Nat} (hkn : kn < base) (hbl : w0.heap.size ≤ bl) (hba : w0.heap.size ≤ base)
    (hb : W.heap[bl]? = some (.cells #[.slice a done.length c] 31 (0, 0))) (ho : W.ownsRow base 3 1 (.slice a done.length c) done.length (codeC done)) (hk : W.heap[kn]? = some (.cells #[.int .i64 n] 3 (0, 0))) (hd : d.at W) (hs : Same w0 W) (hbz : base ≤ W.heap.size)
    {W1 : World} (hW : Same W W1) (ho5 : w5.ownsRow base 3 1 (.slice a5 (done.length + 1) c5) (done.length + 1) (codeC done ++ [.int .i64 x])) (hG : Grew (fun _ => False) W1 w5 (.slice a done.length c) (.slice a5 (done.length + 1) c5)) :
    w5.heap[bl]? = some (.cells #[.slice a done.length c] 31 (0, 0)) ∧
    (StJ d n base bl kn w0 (done ++ [x]) (.slice a5 (done.length + 1) c5) (w5.setCell ⟨bl, 0, none⟩ (.slice a5 (done.length + 1) c5)) ∧
     Grew (fun k => k = bl) W (w5.setCell ⟨bl, 0, none⟩ (.slice a5 (done.length + 1) c5)) (.slice a done.length c) (.slice a5 (done.length + 1) c5)) := by
  have ne1 : ¬ ((Value.slice a done.length c).ownBlock = some bl ∨ False) := by
    rintro (h | h)
    · obtain ⟨cur, hc⟩ := own_block ho h
      rw [hb] at hc
      simp at hc
    · exact h
  have ne2 : ¬ ((Value.slice a done.length c).ownBlock = some kn ∨ False) := by
    rintro (h | h)
    · have := (ho.lt _ h).1; omega
    · exact h
  have hb5 := hG.1.at (hW.at hb id) ne1
  have hk5 := hG.1.at (hW.at hk id) ne2
  have hbk : bl ≠ kn := by
    intro h; subst h
    rw [hb] at hk
    simp at hk
  have hS : Fr (fun k => k = bl) w5 (w5.setCell ⟨bl, 0, none⟩ (.slice a5 (done.length + 1) c5)) := (Fr.refl _ _).setCell _ _ (fun _ => rfl)
  have ho6 := owns_fr ho5 hS (fun k hk' e => by
    subst e
    obtain ⟨cur, hc⟩ := own_block ho5 hk'
    rw [hb5] at hc
    simp at hc)
  have hd1 : d.at W1 := SliceAt.same hd hW
  have hd5 : d.at w5 := SliceAt.fr hd1 hG.1 (fun k cur hk' h => by
    rcases h with h | h
    · obtain ⟨cur', hc⟩ := own_block (owns_same ho hW) h
      rw [hk'] at hc
      simp at hc
    · exact h)
  have hd6 : d.at (w5.setCell ⟨bl, 0, none⟩ (.slice a5 (done.length + 1) c5)) := SliceAt.fr hd5 hS (fun k cur hk' e => by
    rw [show k = bl from e, hb5] at hk'
    simp at hk')
  have hs5 : Same w0 w5 := grew_fresh (hs.same hW) hG (fun k hk' => by have := (ho.lt _ hk').1; omega)
  refine ⟨hb5, ⟨a5, c5, by simp, ?_, ?_, hS.at hk5 (fun e => hbk e.symm), hd6, hs5.trans hS (fun i hi e => by have : i = bl := e; omega), Nat.le_trans hbz (Nat.le_trans hW.size (Nat.le_trans hG.1.size hS.size))⟩, ?_⟩
  · rw [heap_setCell_same hb5]; simp
  · simpa [codeC] using ho6
  · have g1 : Grew (fun k => k = bl) W1 w5 (.slice a done.length c) (.slice a5 (done.length + 1) c5) := ⟨hG.1.mono (fun i _ h => h.imp id (fun f => f.elim)), hG.2⟩
    have g2 := (Grew.of_same (S := fun k => k = bl) (.slice a done.length c) hW).trans g1
    exact ⟨g2.1.trans hS (fun i _ e => .inr e), g2.2⟩

set_option maxRecDepth 100000 in
set_option maxHeartbeats 1000000 in
theorem states1 (d : Dg) (n : Int) (base bl kn : Nat) (w0 : World) (hkn : kn < base) (hbl : w0.heap.size ≤ bl) (hba : w0.heap.size ≤ base) (done : List Nat) (v : Value) (x : Nat) (W : World) (h : StJ d n base bl kn w0 done v W) (hx : x < 100000) (hl : done.length ≤ x) :
    Calls Tryz.prog 126 #[.int .i64 x, .pointer (some ⟨bl, 0, none⟩), .pointer (some ⟨kn, 0, none⟩)] W fun e W' => e = .returned (.bool (decide ((x : Int) < n))) ∧ ∃ v', StJ d n base bl kn w0 (done ++ [x]) v' W' ∧ Grew (fun k => k = bl) W W' v v' := by
  obtain ⟨a, c, rfl, hb, ho, hk, hd, hs, hbz⟩ := h
  obtain ⟨i3, hi3, hi3z, hi3s, hi3b⟩ := info_parts info3
  have c0 := cell_at hb 0
  have bll := lt_of_heap hb
  have ln : (codeC done).length = done.length := codeC_len _
  have PUT := fun (a5 : Option Addr) (c5 : Nat) (W1 w5 : World) => St_put (x := x) (a5 := a5) (c5 := c5) (w5 := w5) (W1 := W1) hkn hbl hba hb ho hk hd hs hbz
  have hbW := hs.size
  have hbz := hbz
  replace hb := Lib.hid hb; replace ho := Lib.hid ho; replace hk := Lib.hid hk; replace hd := Lib.hid hd; replace hs := Lib.hid hs; replace PUT := Lib.hid PUT
  go_enter Tryz.func126, Tryz.ntmps126
  go_upto_region 2 with (at_builtin; go_loud (refine wpList_append1 rfl (.tmp 5) (.tmp 7) 31 rfl base 3 i3 (.int .i64 0) 1 8 Tryz.underlying31 hi3 hi3z hi3s hi3b rfl (by decide) (by decide) a done.length c (codeC done) rfl (owns_same ho.out (by repeat (first | exact Fr.refl _ _ | apply Fr.alloc | apply Fr.drewN | apply Fr.drew | apply Fr.undrew | apply Fr.undrewN))) (by omega) W.heap.size [.int .i64 x] rfl rfl (heap_new _ _) (by simp [Value.oneCell']) (by simp; omega) ?_; intro a5 c5 w5 ho5 hG5; have P := PUT.out a5 c5 _ w5 (by repeat (first | exact Fr.refl _ _ | apply Fr.alloc | apply Fr.drewN | apply Fr.drew | apply Fr.undrew | apply Fr.undrewN)) ho5 hG5; have q0 := cell_at P.1 0; have q1 := free_at P.1 0; have P := P.2; replace P := Lib.hid P; clear ho5 hG5))
  all_goals
    generalize w5.setCell ⟨bl, 0, none⟩ (.slice a5 (done.length + 1) c5) = W2 at *
    have P' := P.out
    obtain ⟨⟨a6, c6, e6, p1, p2, p3, p4, p5, p7⟩, p6⟩ := P.out
    have d0 := cell_at p3 0
    have dl := lt_of_heap p3
    clear q0 q1 c0 p1 p2 p3 p4 p5 p6 p7 e6
    replace P' := Lib.hid P'
    go_wp2_with fail
    go_ret
    exact ⟨rfl, _, P'.out.1.same (by repeat (first | exact Fr.refl _ _ | apply Fr.alloc | apply Fr.drewN | apply Fr.drew | apply Fr.undrew | apply Fr.undrewN)), P'.out.2.trans (Grew.of_same _ (by repeat (first | exact Fr.refl _ _ | apply Fr.alloc | apply Fr.drewN | apply Fr.drew | apply Fr.undrew | apply Fr.undrewN)))⟩

theorem owns_mono {w : World} {base base' : Nat} {e : TypeId} {size : Nat} {v : Value} {n : Nat} {xs : List Value} (h : w.ownsRow base e size v n xs) (hb : base' ≤ base) : w.ownsRow base' e size v n xs :=
  ⟨h.1, h.2.imp id fun ⟨g, cap, cur, h1, h2, h3⟩ => ⟨g, cap, cur, h1, Nat.le_trans hb h2, h3⟩⟩
theorem runP_all (p : Nat → Bool) : ∀ (l done : List Nat), (runP (fun _ x => p x) done l).2 = l.all p ∧ (l.all p = true → (runP (fun _ x => p x) done l).1 = done ++ l)
  | [], done => by simp [runP]
  | x :: l, done => by
    have ih := runP_all p l (done ++ [x])
    rw [runP]
    by_cases h : p x = true
    · simpa [h] using ih
    · simp [h]

/-- What States returns: the numbers of the codes, if all of them are states. -/
def StRet (w : World) (l : List Nat) (E : Int) (e : Ending) (w' : World) : Prop :=
  Same w w' ∧ ((E ≠ 0 ∧ e = .returned (.tuple #[.slice none 0 0, .int .i64 E])) ∨ (E = 0 ∧ ∃ a c, e = .returned (.tuple #[.slice a l.length c, .int .i64 0]) ∧ w'.ownsRow w.heap.size 3 1 (.slice a l.length c) l.length (codeC l)))
set_option maxRecDepth 100000 in
set_option maxHeartbeats 1000000 in
theorem States_bad {n : Int} (hn : n < 0 ∨ 4096 < n) (d : Dg) (w : World) : Calls Tryz.prog 59 #[.int .i64 n, .agg #[.int .i64 d.n, .slice d.a d.L.length d.cap, .int .i64 d.r]] w (StRet w [] 2) := by
  have CC := fun W => cc_bad hn W
  replace CC := Lib.hid CC
  go_enter Tryz.func59, Tryz.ntmps59
  go_wp2_with fail
  refine (CC.out _).mono ?_
  rintro e w1 ⟨rfl, rfl⟩
  go_wp2_with fail
  go_ret2
  exact ⟨(by repeat (first | exact Fr.refl _ _ | apply Fr.alloc | apply Fr.drewN | apply Fr.drew | apply Fr.undrew | apply Fr.undrewN)), .inl ⟨by decide, rfl⟩⟩

set_option maxRecDepth 100000 in
set_option maxHeartbeats 2000000 in
theorem States_size {n : Nat} (hn : n ≤ 4096) (d : Dg) (m : Nat) (t : List Bool) (w : World) (hat : d.at w) (T : d.tab m t) (hm : m ≠ bitsF n) : Calls Tryz.prog 59 #[.int .i64 n, .agg #[.int .i64 d.n, .slice d.a d.L.length d.cap, .int .i64 d.r]] w (StRet w [] 4) := by
  have CC := fun W => cc_ok hn W
  have CK := fun W (hW : Same w W) => check_tab d m t W (SliceAt.same hat hW) T
  have BI := fun W => bits_any n W hn
  have e := T.1
  rw [Dg.v, e] at CK
  rw [e]
  clear T e hat
  generalize bitsF n = b at *
  have hmb : ((m : Int) == (b : Int)) = false := by simp; omega
  replace CC := Lib.hid CC; replace CK := Lib.hid CK; replace BI := Lib.hid BI
  go_enter Tryz.func59, Tryz.ntmps59
  go_wp2_with fail
  have kn := heap_old (heap_new w (.cells #[.int .i64 n] 3)) (.cells #[.int .i64 m, .slice d.a d.L.length d.cap, .int .i64 d.r] 54)
  have kb := heap_new (w.alloc (.cells #[.int .i64 n] 3)) (.cells #[.int .i64 m, .slice d.a d.L.length d.cap, .int .i64 d.r] 54)
  have hs : Same w ((w.alloc (.cells #[.int .i64 n] 3)).alloc (.cells #[.int .i64 m, .slice d.a d.L.length d.cap, .int .i64 d.r] 54)) := (by repeat (first | exact Fr.refl _ _ | apply Fr.alloc | apply Fr.drewN | apply Fr.drew | apply Fr.undrew | apply Fr.undrewN))
  have hz : (w.alloc (.cells #[.int .i64 n] 3)).heap.size = w.heap.size + 1 := by simp
  rw [hz] at kb
  generalize (w.alloc (.cells #[.int .i64 n] 3)).alloc (.cells #[.int .i64 m, .slice d.a d.L.length d.cap, .int .i64 d.r] 54) = W0 at *
  replace kn := Lib.hid kn; replace kb := Lib.hid kb; replace hs := Lib.hid hs
  obtain ⟨x0, x1, x2, xf0, xf1, xf2, xl⟩ := box_facts kb.out
  have xn := cell_at kn.out 0
  have xm := lt_of_heap kn.out
  refine (CC.out _).mono ?_
  rintro e w1 ⟨rfl, rfl⟩
  go_wp2_with fail
  refine (CK.out _ hs.out).mono ?_
  rintro e w2 ⟨rfl, hs2⟩
  replace kn := Lib.hid (hs2.at kn.out id); replace kb := Lib.hid (hs2.at kb.out id)
  have hs2 := hs.out.same hs2
  clear x0 x1 x2 xf0 xf1 xf2 xl xn xm
  obtain ⟨x0, x1, x2, xf0, xf1, xf2, xl⟩ := box_facts kb.out
  have xn := cell_at kn.out 0
  have xm := lt_of_heap kn.out
  replace hs2 := Lib.hid hs2
  go_upto_region 7 with fail
  refine wp_region_sched (fun k => k = w.heap.size ∨ k = w.heap.size + 1) [0, 1, 1, 2, 0] [0, 1, 2, 3, 4] (by kernel_rfl) (by kernel_rfl) ?_
  repeat (first | (refine sched_w rfl rfl (fun _ hK => ?_); go_simp; refine hK _ ?_; clear hK) | (refine sched_s rfl rfl (fun _ hK => ?_); go_simp; first | (refine hK _ ?_; clear hK) | (refine ⟨_, fun _ => rfl, hK _ ?_⟩; clear hK)))
  refine sched_g rfl rfl (fun _ hK => ?_)
  go_simp
  refine (BI.out _).mono ?_
  rintro e w3 ⟨rfl, hs3⟩
  refine hK _ _ (Kp.of_same hs3) ?_
  clear hK
  (try simp only [Act.put, List.setIfInBounds_toArray, List.set_cons_zero, List.set_cons_succ])
  repeat (first | (refine sched_w rfl rfl (fun _ hK => ?_); go_simp; refine hK _ ?_; clear hK) | (refine sched_s rfl rfl (fun _ hK => ?_); go_simp; first | (refine hK _ ?_; clear hK) | (refine ⟨_, fun _ => rfl, hK _ ?_⟩; clear hK)))
  refine sched_nil (NoPanic.normal ?_)
  have hs3 := hs2.out.same ((show Same w2 _ from (by repeat (first | exact Fr.refl _ _ | apply Fr.undrew | apply Fr.undrewN | apply Fr.drew | apply Fr.drewN | apply Fr.alloc))).same hs3)
  clear x0 x1 x2 xf0 xf1 xf2 xl xn xm
  go_wp2_with fail
  go_ret2
  exact ⟨hs3.same (by repeat (first | exact Fr.refl _ _ | apply Fr.alloc | apply Fr.drewN | apply Fr.drew | apply Fr.undrew | apply Fr.undrewN)), .inl ⟨by decide, rfl⟩⟩

set_option maxRecDepth 100000 in
set_option maxHeartbeats 2000000 in
theorem States_ok {n : Nat} (hn : n ≤ 4096) (d : Dg) (t : List Bool) (w : World) (hat : d.at w) (T : d.tab (bitsF n) t) :
    Calls Tryz.prog 59 #[.int .i64 n, .agg #[.int .i64 d.n, .slice d.a d.L.length d.cap, .int .i64 d.r]] w (StRet w (posT t 0) (if (posT t 0).all (fun x => decide (x < n)) then 0 else 2)) := by
  have CC := fun W => cc_ok hn W
  have CK := fun W (hW : Same w W) => check_tab d (bitsF n) t W (SliceAt.same hat hW) T
  have BI := fun W => bits_any n W hn
  obtain ⟨hO, hV, hTb⟩ := T.2.ord
  have hb12 := bitsF_12 hn
  have hp12 : 2 ^ bitsF n ≤ 2 ^ 12 := Nat.pow_le_pow_right (by omega) hb12
  have hbl : bitsF n ≤ 24 := by have := bitsF_is hn; omega
  have h0 := (topF_range hO.val hV).1
  have EA := fun (base bl kn : Nat) (w0 W : World) (hkn : kn < base) (hbl' : w0.heap.size ≤ bl) (hba : w0.heap.size ≤ base) (hJ : StJ d n base bl kn w0 [] (.slice none 0 0) W) =>
    each_any T hbl (F := 126) (cs := #[.pointer (some ⟨bl, 0, none⟩), .pointer (some ⟨kn, 0, none⟩)]) (P := fun _ x => decide ((x : Int) < n)) (bl := bl) (J := StJ d n base bl kn w0)
      ⟨enter_St1, fun done v x W hJ hx hl => states1 d n base bl kn w0 hkn hbl' hba done v x W hJ (by omega) hl, fun done v W W' h hs => h.same hs,
        fun done v W ⟨a, c, h1, h2, h3, h4, h5, h6, h7⟩ => ⟨lt_of_heap h2, fun k hk => by subst h1; obtain ⟨cur, hc⟩ := own_block h3 hk; exact lt_of_heap hc⟩,
        fun done v W ⟨a, c, h1, h2, h3, h4, h5, h6, h7⟩ => h5⟩ (bitsF n) 0 d.r 0 [] (.slice none 0 0) W (by omega) hV h0 (by simp) (by simp) hJ
  rw [show ((0 : Nat) : Int) = 0 from rfl, hTb, Nat.zero_mul] at EA
  have hR := runP_all (fun x => decide ((x : Int) < n)) (posT t 0) []
  have hdt : ∀ W, Same w W → d.at W := fun W hW => SliceAt.same hat hW
  have e := T.1
  rw [Dg.v, e] at CK
  rw [e] at EA ⊢
  have hcond : (posT t 0).all (fun x => decide (x < n)) = (posT t 0).all (fun x => decide ((x : Int) < n)) := by
    congr 1; funext x; simp
  rw [hcond]
  obtain ⟨bb, hbb⟩ : ∃ b, b = (posT t 0).all (fun x => decide ((x : Int) < n)) := ⟨_, rfl⟩
  rw [← hbb] at hR ⊢
  obtain ⟨E, hE⟩ : ∃ E : Int, E = if bb then 0 else 2 := ⟨_, rfl⟩
  rw [← hE]
  clear hbb
  clear T e hat hO hV hTb h0 hbl hcond
  generalize posT t 0 = l at *
  generalize bitsF n = b at *
  have hmb : ((b : Int) == (b : Int)) = true := by simp
  obtain ⟨a, ha⟩ : ∃ a, a = d.a := ⟨_, rfl⟩
  obtain ⟨cap, hcap⟩ : ∃ a, a = d.cap := ⟨_, rfl⟩
  obtain ⟨q, hq⟩ : ∃ a, a = d.L.length := ⟨_, rfl⟩
  obtain ⟨r, hr⟩ : ∃ a, a = d.r := ⟨_, rfl⟩
  rw [← ha, ← hcap, ← hq, ← hr] at CK EA ⊢
  clear ha hcap hq hr
  replace CC := Lib.hid CC; replace CK := Lib.hid CK; replace BI := Lib.hid BI; replace EA := Lib.hid EA; replace hR := Lib.hid hR; replace hdt := Lib.hid hdt; replace hE := Lib.hid hE
  go_enter Tryz.func59, Tryz.ntmps59
  go_wp2_with fail
  have kn := heap_old (heap_new w (.cells #[.int .i64 n] 3)) (.cells #[.int .i64 b, .slice a q cap, .int .i64 r] 54)
  have kb := heap_new (w.alloc (.cells #[.int .i64 n] 3)) (.cells #[.int .i64 b, .slice a q cap, .int .i64 r] 54)
  have hs : Same w ((w.alloc (.cells #[.int .i64 n] 3)).alloc (.cells #[.int .i64 b, .slice a q cap, .int .i64 r] 54)) := (by repeat (first | exact Fr.refl _ _ | apply Fr.alloc | apply Fr.drewN | apply Fr.drew | apply Fr.undrew | apply Fr.undrewN))
  have hz : (w.alloc (.cells #[.int .i64 n] 3)).heap.size = w.heap.size + 1 := by simp
  rw [hz] at kb
  generalize (w.alloc (.cells #[.int .i64 n] 3)).alloc (.cells #[.int .i64 b, .slice a q cap, .int .i64 r] 54) = W0 at *
  replace kn := Lib.hid kn; replace kb := Lib.hid kb; replace hs := Lib.hid hs
  obtain ⟨x0, x1, x2, xf0, xf1, xf2, xl⟩ := box_facts kb.out
  have xn := cell_at kn.out 0
  have xm := lt_of_heap kn.out
  refine (CC.out _).mono ?_
  rintro e w1 ⟨rfl, rfl⟩
  go_wp2_with fail
  refine (CK.out _ hs.out).mono ?_
  rintro e w2 ⟨rfl, hs2⟩
  replace kn := Lib.hid (hs2.at kn.out id); replace kb := Lib.hid (hs2.at kb.out id)
  have hs2 := hs.out.same hs2
  clear x0 x1 x2 xf0 xf1 xf2 xl xn xm
  obtain ⟨x0, x1, x2, xf0, xf1, xf2, xl⟩ := box_facts kb.out
  have xn := cell_at kn.out 0
  have xm := lt_of_heap kn.out
  replace hs2 := Lib.hid hs2
  go_upto_region 7 with fail
  refine wp_region_sched (fun k => k = w.heap.size ∨ k = w.heap.size + 1) [0, 1, 1, 2, 0] [0, 1, 2, 3, 4] (by kernel_rfl) (by kernel_rfl) ?_
  repeat (first | (refine sched_w rfl rfl (fun _ hK => ?_); go_simp; refine hK _ ?_; clear hK) | (refine sched_s rfl rfl (fun _ hK => ?_); go_simp; first | (refine hK _ ?_; clear hK) | (refine ⟨_, fun _ => rfl, hK _ ?_⟩; clear hK)))
  refine sched_g rfl rfl (fun _ hK => ?_)
  go_simp
  refine (BI.out _).mono ?_
  rintro e w3 ⟨rfl, hs3⟩
  refine hK _ _ (Kp.of_same hs3) ?_
  clear hK
  (try simp only [Act.put, List.setIfInBounds_toArray, List.set_cons_zero, List.set_cons_succ])
  repeat (first | (refine sched_w rfl rfl (fun _ hK => ?_); go_simp; refine hK _ ?_; clear hK) | (refine sched_s rfl rfl (fun _ hK => ?_); go_simp; first | (refine hK _ ?_; clear hK) | (refine ⟨_, fun _ => rfl, hK _ ?_⟩; clear hK)))
  refine sched_nil (NoPanic.normal ?_)
  have hs3 := (show Same w2 _ from (by repeat (first | exact Fr.refl _ _ | apply Fr.undrew | apply Fr.undrewN | apply Fr.drew | apply Fr.drewN | apply Fr.alloc))).same hs3
  replace kn := Lib.hid (hs3.at kn.out id); replace kb := Lib.hid (hs3.at kb.out id)
  have hs3 := hs2.out.same hs3
  clear x0 x1 x2 xf0 xf1 xf2 xl xn xm
  go_upto_region 10 with fail
  have kl := heap_new w3 (.cells #[.slice none 0 0] 31)
  have hs4 : Same w3 (w3.alloc (.cells #[.slice none 0 0] 31)) := (by repeat (first | exact Fr.refl _ _ | apply Fr.alloc | apply Fr.drewN | apply Fr.drew | apply Fr.undrew | apply Fr.undrewN))
  have hz4 : (w3.alloc (.cells #[.slice none 0 0] 31)).heap.size = w3.heap.size + 1 := by simp
  have hz3 := hs3.size
  have hzz : w.heap.size + 2 ≤ w3.heap.size := by have := lt_of_heap kb.out; omega
  replace kn := Lib.hid (hs4.at kn.out id); replace kb := Lib.hid (hs4.at kb.out id)
  have hs4 := hs3.same hs4
  generalize w3.alloc (.cells #[.slice none 0 0] 31) = W4 at *
  generalize w3.heap.size = bl at *
  have hJ : StJ d n w.heap.size.succ bl w.heap.size w [] (.slice none 0 0) W4 := ⟨none, 0, rfl, kl, World.ownsRow_nil _ _ _ _, kn.out, hdt.out _ hs4, hs4, by omega⟩
  replace kl := Lib.hid kl; replace hs4 := Lib.hid hs4; replace hJ := Lib.hid hJ; replace hs3 := Lib.hid hs3
  obtain ⟨x0, x1, x2, xf0, xf1, xf2, xl⟩ := box_facts kb.out
  have xn := cell_at kn.out 0
  have xm := lt_of_heap kn.out
  go_wp2_with fail
  refine (EA.out _ _ _ _ _ (Nat.lt_succ_self _) (by omega) (Nat.le_succ _) hJ.out).mono ?_
  rintro e w5 ⟨rfl, v5, ⟨a5, c5, rfl, k5, o5, n5, d5, s5, z5⟩, hG⟩
  rw [hR.out.1]
  clear x0 x1 x2 xf0 xf1 xf2 xl xn xm
  cases bb with
  | true =>
    have hl := hR.out.2 rfl
    rw [hl, List.nil_append] at k5 o5
    have o5 : w5.ownsRow w.heap.size 3 1 (.slice a5 l.length c5) l.length (codeC l) := owns_mono o5 (Nat.le_succ _)
    have y0 := cell_at k5 0
    have yl := lt_of_heap k5
    clear d5 n5 hG
    replace k5 := Lib.hid k5; replace o5 := Lib.hid o5; replace s5 := Lib.hid s5; replace hl := Lib.hid hl; replace hJ := Lib.hid hJ; replace kl := Lib.hid kl
    go_wp2_with fail
    go_ret2
    exact ⟨s5.out.same (by repeat (first | exact Fr.refl _ _ | apply Fr.alloc | apply Fr.drewN | apply Fr.drew | apply Fr.undrew | apply Fr.undrewN)), .inr ⟨hE.out, a5, c5, rfl, owns_same o5.out (by repeat (first | exact Fr.refl _ _ | apply Fr.alloc | apply Fr.drewN | apply Fr.drew | apply Fr.undrew | apply Fr.undrewN))⟩⟩
  | false =>
    have hE2 : E = 2 := hE.out
    clear d5 n5 hG k5 o5
    replace s5 := Lib.hid s5; replace hE2 := Lib.hid hE2
    go_wp2_with fail
    go_ret2
    obtain rfl := hE2.out
    exact ⟨s5.out.same (by repeat (first | exact Fr.refl _ _ | apply Fr.alloc | apply Fr.drewN | apply Fr.drew | apply Fr.undrew | apply Fr.undrewN)), .inl ⟨by decide, rfl⟩⟩
end Go.Proofs.YtknlkcfnfjchdaaGreat
namespace Go.Proofs.YtknlkcfnfjchdaaGreat
open Go.RowKit
set_option linter.unusedVariables false
set_option linter.unusedSimpArgs false

/-- DgN with its parts laid open. -/
theorem DgN.open {n : Nat} {t : List Bool} {w w' : World} {e : Ending} (h : DgN n t w e w') : ∃ a c L r, e = .returned (.tuple #[.agg #[.int .i64 n, .slice a L.length c, .int .i64 r], .int .i64 0]) ∧ Dg.at w' ⟨n, a, c, L, r⟩ ∧ IsTab n t L r ∧ Same w w' := by
  obtain ⟨⟨dn, a, c, L, r⟩, rfl, h1, h2, h3⟩ := h
  obtain rfl : dn = (n : Int) := h2.1
  exact ⟨a, c, L, r, rfl, h1, h2.2, h3⟩
def domT (b n : Nat) : List Bool := tbF (2 * b) (fun i => decide (ux b i < n) && decide (uy b i < n))
theorem setT_tb (b n : Nat) : tabS b 0 (List.range n) = tbF b (fun i => decide (i < n)) := List.map_congr_left (fun i _ => by simp)

set_option maxRecDepth 100000 in
set_option maxHeartbeats 2000000 in
theorem domain_any {n : Nat} (hn : n ≤ 64) (w : World) : Calls Tryz.prog 127 #[.int .i64 n] w (DgN (2 * bitsF n) (domT (bitsF n) n) w) := by
  have hb6 : bitsF n ≤ 6 := (bitsF_is (by omega)).bd hn
  have AL := fun W => all_any (n := n) (by omega) W
  rw [setT_tb] at AL
  have SP : ∀ (a : Option Addr) (c : Nat) (L : List Nd) (r : Int) (k : Nat) (W : World), k ≤ 1 → Dg.at W ⟨(bitsF n : Nat), a, c, L, r⟩ → IsTab (bitsF n) (tbF (bitsF n) (fun i => decide (i < n))) L r →
      Calls Tryz.prog 157 #[.agg #[.int .i64 (bitsF n : Nat), .slice a L.length c, .int .i64 r], .int .i64 2, .int .i64 k, .int .i64 ((2 * bitsF n : Nat) : Int)] W (DgN (2 * bitsF n) (tbF (2 * bitsF n) (fun i => decide ((if k = 0 then ux (bitsF n) i else uy (bitsF n) i) < n))) W) := by
    intro a c L r k W hk hd hT
    have := spread_any ⟨(bitsF n : Nat), a, c, L, r⟩ (bitsF n) (2 * bitsF n) 2 k _ W (by omega) (by omega) (by omega) (by omega) (fun i hi => by omega) hd ⟨rfl, hT⟩
    rw [tbF_ren] at this
    rcases (show k = 0 ∨ k = 1 by omega) with rfl | rfl
    · simp only [ux_all] at this; simpa using this
    · simp only [uy_all] at this; simpa using this
  have AN := fun (a a' : Option Addr) (c c' : Nat) (L L' : List Nd) (r r' : Int) (W : World) (h1 : Dg.at W ⟨((2 * bitsF n : Nat) : Int), a, c, L, r⟩) (h2 : Dg.at W ⟨((2 * bitsF n : Nat) : Int), a', c', L', r'⟩) (T1 : IsTab (2 * bitsF n) (tbF (2 * bitsF n) (fun i => decide (ux (bitsF n) i < n))) L r) (T2 : IsTab (2 * bitsF n) (tbF (2 * bitsF n) (fun i => decide (uy (bitsF n) i < n))) L' r') =>
    And_dg (by omega) h1 h2 ⟨rfl, T1⟩ ⟨rfl, T2⟩
  have hD : domT (bitsF n) n = tbF (2 * bitsF n) (fun i => decide (ux (bitsF n) i < n) && decide (uy (bitsF n) i < n)) := rfl
  simp only [Dg.v] at AN
  rw [← hD] at AN
  have SP0 := fun a c L r W h1 h2 => SP a c L r 0 W (by omega) h1 h2
  have SP1 := fun a c L r W h1 h2 => SP a c L r 1 W (by omega) h1 h2
  simp only [if_true, Nat.one_ne_zero, if_false] at SP0 SP1
  clear SP hD
  obtain ⟨m, hm⟩ : ∃ m, m = 2 * bitsF n := ⟨_, rfl⟩
  rw [← hm] at SP0 SP1 AN ⊢
  have hw : IntKind.i64.wrap (2 * ((bitsF n : Nat) : Int)) = (m : Int) := by rw [IntWalk.i64_in _ (by omega)]; omega
  generalize domT (bitsF n) n = T at *
  generalize tbF m (fun i => decide (ux (bitsF n) i < n)) = T0 at *
  generalize tbF m (fun i => decide (uy (bitsF n) i < n)) = T1 at *
  generalize tbF (bitsF n) (fun i => decide (i < n)) = TS at *
  generalize bitsF n = b at *
  replace AL := Lib.hid AL; replace SP0 := Lib.hid SP0; replace SP1 := Lib.hid SP1; replace AN := Lib.hid AN; replace hm := Lib.hid hm
  go_enter Tryz.func127, Tryz.ntmps127
  go_wp2_with fail
  have kr := heap_new w (.cells #[.int .i64 0, .slice none 0 0, .int .i64 0] 54)
  have hs : Same w (w.alloc (.cells #[.int .i64 0, .slice none 0 0, .int .i64 0] 54)) := (by repeat (first | exact Fr.refl _ _ | apply Fr.alloc | apply Fr.drewN | apply Fr.drew | apply Fr.undrew | apply Fr.undrewN))
  have hlr := lt_of_heap kr
  generalize w.alloc (.cells #[.int .i64 0, .slice none 0 0, .int .i64 0] 54) = W0 at *
  replace kr := Lib.hid kr; replace hs := Lib.hid hs
  refine (AL.out _).mono ?_
  intro e w1 hM
  obtain ⟨a1, c1, L1, r1, rfl, d1, t1, s1⟩ := hM.open
  replace kr := Lib.hid (s1.at kr.out id)
  have hs1 := hs.out.same s1
  replace d1 := Lib.hid d1; replace t1 := Lib.hid t1; replace hs1 := Lib.hid hs1
  clear hM s1
  go_upto_region 2 with fail
  have k1 := heap_new w1 (.cells #[.int .i64 b, .slice a1 L1.length c1, .int .i64 r1] 54)
  have s2 : Same w1 (w1.alloc (.cells #[.int .i64 b, .slice a1 L1.length c1, .int .i64 r1] 54)) := (by repeat (first | exact Fr.refl _ _ | apply Fr.alloc | apply Fr.drewN | apply Fr.drew | apply Fr.undrew | apply Fr.undrewN))
  generalize w1.alloc (.cells #[.int .i64 b, .slice a1 L1.length c1, .int .i64 r1] 54) = W1 at *
  replace d1 := Lib.hid (d1.out.same s2); replace kr := Lib.hid (s2.at kr.out id)
  have hs2 := hs1.out.same s2
  replace k1 := Lib.hid k1; replace hs2 := Lib.hid hs2
  have x0 := cell_at k1.out 0
  have x1 := cell_at k1.out 1
  have x2 := cell_at k1.out 2
  have xl := lt_of_heap k1.out
  go_upto_region 4 with fail
  go_wp2_with fail
  refine (SP0.out _ _ _ _ _ d1.out t1.out).mono ?_
  intro e w3 hM
  obtain ⟨a2, c2, L2, r2, rfl, d2, t2, s3⟩ := hM.open
  clear x0 x1 x2 xl
  replace d1 := Lib.hid (d1.out.same s3); replace kr := Lib.hid (s3.at kr.out id); replace k1 := Lib.hid (s3.at k1.out id)
  have hs3 := hs2.out.same s3
  replace d2 := Lib.hid d2; replace t2 := Lib.hid t2; replace hs3 := Lib.hid hs3
  clear hM s3
  go_upto_region 5 with fail
  have k2 := heap_new w3 (.cells #[.int .i64 m, .slice a2 L2.length c2, .int .i64 r2] 54)
  have s4 : Same w3 (w3.alloc (.cells #[.int .i64 m, .slice a2 L2.length c2, .int .i64 r2] 54)) := (by repeat (first | exact Fr.refl _ _ | apply Fr.alloc | apply Fr.drewN | apply Fr.drew | apply Fr.undrew | apply Fr.undrewN))
  generalize w3.alloc (.cells #[.int .i64 m, .slice a2 L2.length c2, .int .i64 r2] 54) = W3 at *
  replace d1 := Lib.hid (d1.out.same s4); replace d2 := Lib.hid (d2.out.same s4); replace kr := Lib.hid (s4.at kr.out id); replace k1 := Lib.hid (s4.at k1.out id)
  have hs4 := hs3.out.same s4
  replace k2 := Lib.hid k2; replace hs4 := Lib.hid hs4
  have x0 := cell_at k1.out 0
  have x1 := cell_at k1.out 1
  have x2 := cell_at k1.out 2
  have xl := lt_of_heap k1.out
  go_upto_region 7 with fail
  go_wp2_with fail
  refine (SP1.out _ _ _ _ _ d1.out t1.out).mono ?_
  intro e w5 hM
  obtain ⟨a3, c3, L3, r3, rfl, d3, t3, s5⟩ := hM.open
  clear x0 x1 x2 xl
  replace d1 := Lib.hid (d1.out.same s5); replace d2 := Lib.hid (d2.out.same s5); replace kr := Lib.hid (s5.at kr.out id); replace k1 := Lib.hid (s5.at k1.out id); replace k2 := Lib.hid (s5.at k2.out id)
  have hs5 := hs4.out.same s5
  replace d3 := Lib.hid d3; replace t3 := Lib.hid t3; replace hs5 := Lib.hid hs5
  clear hM s5
  go_upto_region 8 with fail
  have k3 := heap_new w5 (.cells #[.int .i64 m, .slice a3 L3.length c3, .int .i64 r3] 54)
  have s6 : Same w5 (w5.alloc (.cells #[.int .i64 m, .slice a3 L3.length c3, .int .i64 r3] 54)) := (by repeat (first | exact Fr.refl _ _ | apply Fr.alloc | apply Fr.drewN | apply Fr.drew | apply Fr.undrew | apply Fr.undrewN))
  generalize w5.alloc (.cells #[.int .i64 m, .slice a3 L3.length c3, .int .i64 r3] 54) = W5 at *
  replace d2 := Lib.hid (d2.out.same s6); replace d3 := Lib.hid (d3.out.same s6); replace kr := Lib.hid (s6.at kr.out id); replace k2 := Lib.hid (s6.at k2.out id)
  have hs6 := hs5.out.same s6
  replace k3 := Lib.hid k3; replace hs6 := Lib.hid hs6
  have x0 := cell_at k2.out 0
  have x1 := cell_at k2.out 1
  have x2 := cell_at k2.out 2
  have xl := lt_of_heap k2.out
  have y0 := cell_at k3.out 0
  have y1 := cell_at k3.out 1
  have y2 := cell_at k3.out 2
  have yl := lt_of_heap k3.out
  go_upto_region 10 with fail
  go_wp2_with fail
  refine (AN.out _ _ _ _ _ _ _ _ _ d2.out d3.out t2.out t3.out).mono ?_
  intro e w7 hM
  obtain ⟨a4, c4, L4, r4, rfl, d4, t4, s7⟩ := hM.open
  clear x0 x1 x2 xl
  clear y0 y1 y2 yl
  replace kr := Lib.hid (s7.at kr.out id)
  have hs7 := hs6.out.same s7
  replace d4 := Lib.hid d4; replace t4 := Lib.hid t4; replace hs7 := Lib.hid hs7
  clear hM s7
  obtain ⟨x0, x1, x2, z0, z1, z2, xl⟩ := box_facts kr.out
  go_wp2_with fail
  obtain ⟨d0, d1, d2, hdF, hsF⟩ := dg_stored hs7.out (Nat.le_refl _) d4.out kr.out
  refine bodyPost_ret (v := .tuple #[.agg #[.int .i64 (⟨(m : Int), a4, c4, L4, r4⟩ : Dg).n, .slice (⟨(m : Int), a4, c4, L4, r4⟩ : Dg).a (⟨(m : Int), a4, c4, L4, r4⟩ : Dg).L.length (⟨(m : Int), a4, c4, L4, r4⟩ : Dg).cap, .int .i64 (⟨(m : Int), a4, c4, L4, r4⟩ : Dg).r], .int .i64 0]) (by simp [results, Tryz.results127, go_sem, d0, d1, d2]) rfl ?_
  exact ⟨_, rfl, hdF, ⟨rfl, t4.out⟩, hsF⟩
end Go.Proofs.YtknlkcfnfjchdaaGreat
namespace Go.Proofs.YtknlkcfnfjchdaaGreat
open Go.RowKit
set_option linter.unusedVariables false
set_option linter.unusedSimpArgs false

/-- Pairs as cells. -/
def prC : List (Nat × Nat) → List Value
  | [] => []
  | p :: l => .int .i64 p.1 :: .int .i64 p.2 :: prC l
theorem infoP : (Tryz.prog.info? 72).map (fun i => (i.zero, i.size, i.bytes)) = some (some (.agg #[.int .i64 0, .int .i64 0]), 2, 16) := by kernel_rfl
theorem prC_append : ∀ (l m : List (Nat × Nat)), prC (l ++ m) = prC l ++ prC m
  | [], m => rfl
  | p :: l, m => by simp [prC, prC_append l m]
theorem prC_len : ∀ l, (prC l).length = l.length * 2
  | [] => rfl
  | p :: l => by simp [prC, prC_len l]; omega
def prD (b : Nat) (l : List Nat) : List Value := prC (l.map fun i => (ux b i, uy b i))
/-- The two states of a code, gathered bit by bit. -/
def pS (b c : Nat) : Nat → Nat × Nat
  | 0 => (0, 0)
  | k + 1 => if k % 2 = 0 then (2 * (pS b c k).1 + c / 2 ^ (2 * b - 1 - k) % 2, (pS b c k).2) else ((pS b c k).1, 2 * (pS b c k).2 + c / 2 ^ (2 * b - 1 - k) % 2)
theorem pS_lt (b c : Nat) : ∀ k, (pS b c k).1 < 2 ^ k ∧ (pS b c k).2 < 2 ^ k
  | 0 => by simp [pS]
  | k + 1 => by
    have := pS_lt b c k
    have h2 := Nat.mod_lt (c / 2 ^ (2 * b - 1 - k)) (show 2 > 0 by omega)
    rw [pS, Nat.pow_succ]
    split <;> simp only <;> omega
theorem pS_bit (b c v : Nat) : (if bitF (2 * b) c v then 1 else 0) = c / 2 ^ (2 * b - 1 - v) % 2 := by
  unfold bitF
  rcases (show c / 2 ^ (2 * b - 1 - v) % 2 = 0 ∨ c / 2 ^ (2 * b - 1 - v) % 2 = 1 by omega) with h | h <;> simp [h]
theorem pS_from (b c : Nat) : ∀ d, pS b c (2 * d) = (fromF (fun k => ((2 * k + 0 : Nat) : Int)) (2 * b) c d, fromF (fun k => ((2 * k + 1 : Nat) : Int)) (2 * b) c d)
  | 0 => by simp [pS, fromF, placeF]
  | d + 1 => by
    have ih := pS_from b c d
    rw [show 2 * (d + 1) = (2 * d + 1) + 1 by omega, pS, if_neg (by omega), pS, if_pos (by omega), ih, fromF_succ, fromF_succ]
    simp only [Int.toNat_natCast, Nat.add_zero, pS_bit]
theorem pS_all (b c : Nat) : pS b c (2 * b) = (ux b c, uy b c) := by rw [pS_from, ux_all, uy_all]
/-- What the closure of Pairs keeps: its list in box bl. -/
def PrJ (d : Dg) (b : Nat) (base bl kn : Nat) (w0 : World) (done : List Nat) (v : Value) (W : World) : Prop :=
  ∃ a c, v = .slice a done.length c ∧ W.heap[bl]? = some (.cells #[.slice a done.length c] 101 (0, 0)) ∧ W.ownsRow base 72 2 (.slice a done.length c) done.length (prD b done) ∧
    W.heap[kn]? = some (.cells #[.int .i64 b] 3 (0, 0)) ∧ d.at W ∧ Same w0 W ∧ base ≤ W.heap.size
theorem PrJ.same {d : Dg} {b : Nat} {base bl kn : Nat} {w0 W W' : World} {done : List Nat} {v : Value} (h : PrJ d b base bl kn w0 done v W) (hs : Same W W') : PrJ d b base bl kn w0 done v W' := by
  obtain ⟨a, c, h1, h2, h3, h4, h5, h6, h7⟩ := h
  exact ⟨a, c, h1, hs.at h2 id, owns_same h3 hs, hs.at h4 id, SliceAt.same h5 hs, h6.same hs, Nat.le_trans h7 hs.size⟩
theorem enter_Pr1 (args : Array Value) (W : World) : (callFunc 128 args).run Tryz.prog W = .ok (.enter 128 args) W := by kernel_rfl

/-- The row of a closure's list, stored in its box behind an append. -/
theorem Pr_put {d : Dg} {b : Nat} {base bl kn : Nat} {w0 W w5 : World} {done : List Nat} {x : Nat} {a a5 : Option Addr} {c c5 : Nat} (hkn : kn < base) (hbl : w0.heap.size ≤ bl) (hba : w0.heap.size ≤ base)
    (hb : W.heap[bl]? = some (.cells #[.slice a done.length c] 101 (0, 0))) (ho : W.ownsRow base 72 2 (.slice a done.length c) done.length (prD b done)) (hk : W.heap[kn]? = some (.cells #[.int .i64 b] 3 (0, 0))) (hd : d.at W) (hs : Same w0 W) (hbz : base ≤ W.heap.size)
    {W1 : World} (hW : Same W W1) (ho5 : w5.ownsRow base 72 2 (.slice a5 (done.length + 1) c5) (done.length + 1) (prD b done ++ [.int .i64 (ux b x : Nat), .int .i64 (uy b x : Nat)])) (hG : Grew (fun _ => False) W1 w5 (.slice a done.length c) (.slice a5 (done.length + 1) c5)) :
    w5.heap[bl]? = some (.cells #[.slice a done.length c] 101 (0, 0)) ∧
    (PrJ d b base bl kn w0 (done ++ [x]) (.slice a5 (done.length + 1) c5) (w5.setCell ⟨bl, 0, none⟩ (.slice a5 (done.length + 1) c5)) ∧
     Grew (fun k => k = bl) W (w5.setCell ⟨bl, 0, none⟩ (.slice a5 (done.length + 1) c5)) (.slice a done.length c) (.slice a5 (done.length + 1) c5)) := by
  have ne1 : ¬ ((Value.slice a done.length c).ownBlock = some bl ∨ False) := by
    rintro (h | h)
    · obtain ⟨cur, hc⟩ := own_block ho h
      rw [hb] at hc
      simp at hc
    · exact h
  have ne2 : ¬ ((Value.slice a done.length c).ownBlock = some kn ∨ False) := by
    rintro (h | h)
    · have := (ho.lt _ h).1; omega
    · exact h
  have hb5 := hG.1.at (hW.at hb id) ne1
  have hk5 := hG.1.at (hW.at hk id) ne2
  have hbk : bl ≠ kn := by
    intro h; subst h
    rw [hb] at hk
    simp at hk
  have hS : Fr (fun k => k = bl) w5 (w5.setCell ⟨bl, 0, none⟩ (.slice a5 (done.length + 1) c5)) := (Fr.refl _ _).setCell _ _ (fun _ => rfl)
  have ho6 := owns_fr ho5 hS (fun k hk' e => by
    subst e
    obtain ⟨cur, hc⟩ := own_block ho5 hk'
    rw [hb5] at hc
    simp at hc)
  have hd1 : d.at W1 := SliceAt.same hd hW
  have hd5 : d.at w5 := SliceAt.fr hd1 hG.1 (fun k cur hk' h => by
    rcases h with h | h
    · obtain ⟨cur', hc⟩ := own_block (owns_same ho hW) h
      rw [hk'] at hc
      simp at hc
    · exact h)
  have hd6 : d.at (w5.setCell ⟨bl, 0, none⟩ (.slice a5 (done.length + 1) c5)) := SliceAt.fr hd5 hS (fun k cur hk' e => by
    rw [show k = bl from e, hb5] at hk'
    simp at hk')
  have hs5 : Same w0 w5 := grew_fresh (hs.same hW) hG (fun k hk' => by have := (ho.lt _ hk').1; omega)
  refine ⟨hb5, ⟨a5, c5, by simp, ?_, ?_, hS.at hk5 (fun e => hbk e.symm), hd6, hs5.trans hS (fun i hi e => by have : i = bl := e; omega), Nat.le_trans hbz (Nat.le_trans hW.size (Nat.le_trans hG.1.size hS.size))⟩, ?_⟩
  · rw [heap_setCell_same hb5]; simp
  · simpa [prD, prC_append, prC] using ho6
  · have g1 : Grew (fun k => k = bl) W1 w5 (.slice a done.length c) (.slice a5 (done.length + 1) c5) := ⟨hG.1.mono (fun i _ h => h.imp id (fun f => f.elim)), hG.2⟩
    have g2 := (Grew.of_same (S := fun k => k = bl) (.slice a done.length c) hW).trans g1
    exact ⟨g2.1.trans hS (fun i _ e => .inr e), g2.2⟩


set_option maxRecDepth 100000 in
set_option maxHeartbeats 2000000 in
theorem pairs1 (d : Dg) (b : Nat) (base bl kn : Nat) (w0 : World) (hb6 : b ≤ 6) (hkn : kn < base) (hbl : w0.heap.size ≤ bl) (hba : w0.heap.size ≤ base) (done : List Nat) (v : Value) (x : Nat) (W : World) (h : PrJ d b base bl kn w0 done v W) (hx : x < 100000) (hl : done.length ≤ x) :
    Calls Tryz.prog 128 #[.int .i64 x, .pointer (some ⟨kn, 0, none⟩), .pointer (some ⟨bl, 0, none⟩)] W fun e W' => e = .returned (.bool (decide ((done.length : Int) + 1 ≤ 1024))) ∧ ∃ v', PrJ d b base bl kn w0 (done ++ [x]) v' W' ∧ Grew (fun k => k = bl) W W' v v' := by
  obtain ⟨a, c, rfl, hb, ho, hk, hd, hs, hbz⟩ := h
  obtain ⟨i3, hi3, hi3z, hi3s, hi3b⟩ := info_parts infoP
  have bll := lt_of_heap hb
  have knl := lt_of_heap hk
  have k0 := cell_at hk 0
  have ln : (prD b done).length = done.length * 2 := by simp [prD, prC_len]
  have PUT := fun (a5 : Option Addr) (c5 : Nat) (W1 w5 : World) => Pr_put (x := x) (a5 := a5) (c5 := c5) (w5 := w5) (W1 := W1) hkn hbl hba hb ho hk hd hs hbz
  have hbW := hs.size
  have hw1 : IntKind.i64.wrap (2 * (b : Int)) = ((2 * b : Nat) : Int) := by rw [IntWalk.i64_in _ (by omega)]; omega
  have hw2 : IntKind.i64.wrap (((2 * b : Nat) : Int) - 1) = ((2 * b : Nat) : Int) - 1 := IntWalk.i64_in _ (by omega)
  have hp12 : ∀ k, k ≤ 2 * b → 2 ^ k ≤ 2 ^ 12 := fun k hk => Nat.pow_le_pow_right (by omega) (by omega)
  have hall := pS_all b x
  obtain ⟨q, hq⟩ : ∃ q, q = 2 * b := ⟨_, rfl⟩
  rw [← hq] at hw1 hw2 hp12 hall
  have hq12 : q ≤ 12 := by omega
  replace hb := Lib.hid hb; replace ho := Lib.hid ho; replace hk := Lib.hid hk; replace hd := Lib.hid hd; replace hs := Lib.hid hs; replace PUT := Lib.hid PUT; replace hp12 := Lib.hid hp12; replace hall := Lib.hid hall; replace hq := Lib.hid hq
  go_enter Tryz.func128, Tryz.ntmps128
  go_wp2_with fail
  go_loopw [9] (fun i wr => ∃ k : Nat, i = .int .i64 k ∧ k ≤ q ∧ wr.heap[W.heap.size]? = some (.cells #[.int .i64 (pS b x k).1, .int .i64 (pS b x k).2] 72 (0, 0)) ∧ Same W wr) (fun i _ => q - (intOf i).toNat)
  case atStart => exact ⟨0, rfl, by omega, by have := heap_new W (.cells #[.int .i64 0, .int .i64 0] 72); simpa [pS] using this, (by repeat (first | exact Fr.refl _ _ | apply Fr.alloc | apply Fr.drewN | apply Fr.drew | apply Fr.undrew | apply Fr.undrewN))⟩
  case round =>
    obtain ⟨k, rfl, hkq, kx, hs1⟩ := hrel
    have hws := hs1.size
    by_cases hlt : k < q
    · have hlt' := pS_lt b x k
      have hpw := hp12.out k (by omega)
      have hrec : pS b x (k + 1) = if k % 2 = 0 then (2 * (pS b x k).1 + x / 2 ^ (2 * b - 1 - k) % 2, (pS b x k).2) else ((pS b x k).1, 2 * (pS b x k).2 + x / 2 ^ (2 * b - 1 - k) % 2) := rfl
      obtain ⟨⟨x0, y0⟩, hxy⟩ : ∃ p, p = pS b x k := ⟨_, rfl⟩
      rw [← hxy] at kx hlt' hrec
      simp only at kx hlt' hrec
      obtain ⟨m, hm⟩ : ∃ m, m = q - 1 - k := ⟨_, rfl⟩
      rw [← hq.out, ← hm] at hrec
      have hwm : IntKind.i64.wrap ((q : Int) - 1 - k) = (m : Int) := by rw [IntWalk.i64_in _ (by omega)]; omega
      have hm0 : (0 : Int) ≤ m := by omega
      have hmin : min m 64 = m := by omega
      have hbit : bits .and .i64 ((x : Int) / 2 ^ m) 1 = ((x / 2 ^ m % 2 : Nat) : Int) := by
        rw [show ((x : Int) / 2 ^ m) = ((x / 2 ^ m : Nat) : Int) by simp, and1g]
      have hb2 : x / 2 ^ m % 2 < 2 := Nat.mod_lt _ (by omega)
      generalize x / 2 ^ m % 2 = u at *
      have c0 := cell_at kx 0
      have c1 := cell_at kx 1
      have f0 := free_at kx 0
      have f1 := free_at kx 1
      have cl := lt_of_heap kx
      have k0' : wr.cell? ⟨kn, 0, none⟩ = some (.int .i64 b) := cell_at (hs1.at hk.out id) 0
      have knl' : kn < wr.heap.size := by omega
      have hx1 : IntKind.i64.wrap (2 * (x0 : Int)) = 2 * (x0 : Int) := IntWalk.i64_in _ (by omega)
      have hx2 : IntKind.i64.wrap (2 * (y0 : Int)) = 2 * (y0 : Int) := IntWalk.i64_in _ (by omega)
      have hx3 : IntKind.i64.wrap (2 * (x0 : Int) + (u : Int)) = 2 * (x0 : Int) + (u : Int) := IntWalk.i64_in _ (by omega)
      have hx4 : IntKind.i64.wrap (2 * (y0 : Int) + (u : Int)) = 2 * (y0 : Int) + (u : Int) := IntWalk.i64_in _ (by omega)
      have hwk : IntKind.i64.wrap ((k : Int) + 1) = ((k + 1 : Nat) : Int) := by rw [IntWalk.i64_in _ (by omega)]; omega
      have hst := fun (j : Nat) (z : Value) => hs1.trans ((Fr.refl (fun i => i = W.heap.size) wr).setCell ⟨W.heap.size, j, none⟩ z (fun _ => rfl)) (fun i hi e => by have : i = W.heap.size := e; omega)
      by_cases hpar : k % 2 = 0
      · have ht : ((k : Nat) : Int).tmod 2 = 0 := by rw [Int.tmod_eq_emod_of_nonneg (by omega)]; omega
        rw [if_pos hpar] at hrec
        have hnew := fun z => heap_setCell_same (u := z) kx 0
        replace kx := Lib.hid kx; replace hs1 := Lib.hid hs1; replace hrec := Lib.hid hrec; replace hxy := Lib.hid hxy; replace hst := Lib.hid hst; replace hm := Lib.hid hm; replace hnew := Lib.hid hnew
        go_upto_region 5 with fail
        refine wp_region_sched (fun k => k = W.heap.size ∨ k = kn) [0, 0, 0, 0, 0, 1, 0, 0, 1, 0, 0, 0, 0, 0, 0, 0, 0, 3] [0, 1, 2, 3, 4, 7, 11, 5, 6, 8, 9, 10, 12, 13, 14, 15, 16, 17] (by kernel_rfl) (by kernel_rfl) ?_
        repeat (first | (refine sched_w rfl rfl (fun _ hK => ?_); go_simp; refine hK _ ?_; clear hK) | (refine sched_s rfl rfl (fun _ hK => ?_); go_simp; first | (refine hK _ ?_; clear hK) | (refine ⟨_, fun _ => rfl, hK _ ?_⟩; clear hK)))
        refine sched_l rfl (by decide) (fun _ hK => ?_); go_simp
        refine hK _ _ ?_; clear hK; try simp only [Act.put, List.setIfInBounds_toArray, List.set_cons_zero, List.set_cons_succ]
        refine sched_nil (NoPanic.normal ?_)
        clear c0 c1 f0 f1
        go_wp2_with fail
        go_roundw
        case rel =>
          exact ⟨k + 1, by simp, by omega, by rw [hrec.out]; have := hnew.out (.int .i64 (2 * (x0 : Int) + u)); simpa [World.drew] using this, (hst.out _ _).same (by repeat (first | exact Fr.refl _ _ | apply Fr.alloc | apply Fr.drewN | apply Fr.drew | apply Fr.undrew | apply Fr.undrewN))⟩
        case measure => simp [intOf]; omega
      · have ht : ((k : Nat) : Int).tmod 2 = 1 := by rw [Int.tmod_eq_emod_of_nonneg (by omega)]; omega
        rw [if_neg hpar] at hrec
        have hnew := fun z => heap_setCell_same (u := z) kx 1
        replace kx := Lib.hid kx; replace hs1 := Lib.hid hs1; replace hrec := Lib.hid hrec; replace hxy := Lib.hid hxy; replace hst := Lib.hid hst; replace hm := Lib.hid hm; replace hnew := Lib.hid hnew
        go_upto_region 5 with fail
        refine wp_region_sched (fun k => k = W.heap.size ∨ k = kn) [0, 0, 0, 0, 0, 1, 0, 0, 1, 0, 0, 0, 0, 0, 0, 0, 0, 3] [0, 1, 2, 3, 4, 7, 11, 5, 6, 8, 9, 10, 12, 13, 14, 15, 16, 17] (by kernel_rfl) (by kernel_rfl) ?_
        repeat (first | (refine sched_w rfl rfl (fun _ hK => ?_); go_simp; refine hK _ ?_; clear hK) | (refine sched_s rfl rfl (fun _ hK => ?_); go_simp; first | (refine hK _ ?_; clear hK) | (refine ⟨_, fun _ => rfl, hK _ ?_⟩; clear hK)))
        refine sched_l rfl (by decide) (fun _ hK => ?_); go_simp
        refine hK _ _ ?_; clear hK; try simp only [Act.put, List.setIfInBounds_toArray, List.set_cons_zero, List.set_cons_succ]
        refine sched_nil (NoPanic.normal ?_)
        clear c0 c1 f0 f1
        go_wp2_with fail
        go_roundw
        case rel =>
          exact ⟨k + 1, by simp, by omega, by rw [hrec.out]; have := hnew.out (.int .i64 (2 * (y0 : Int) + u)); simpa [World.drew] using this, (hst.out _ _).same (by repeat (first | exact Fr.refl _ _ | apply Fr.alloc | apply Fr.drewN | apply Fr.drew | apply Fr.undrew | apply Fr.undrewN))⟩
        case measure => simp [intOf]; omega
    · obtain rfl : k = q := by omega
      rw [hall.out] at kx
      have c0 := cell_at kx 0
      have c1 := cell_at kx 1
      have cl := lt_of_heap kx
      have b0 := cell_at (hs1.at hb.out id) 0
      have bll2 : bl < wr.heap.size := by omega
      have hP := fun a5 c5 W1 w5 h1 => PUT.out a5 c5 W1 w5 h1
      replace kx := Lib.hid kx; replace hs1 := Lib.hid hs1; replace hP := Lib.hid hP
      go_upto_region 8 with (at_builtin; go_loud (refine wpList_append1 rfl (.tmp 30) (.tmp 32) 101 rfl base 72 i3 (.agg #[.int .i64 0, .int .i64 0]) 2 16 Tryz.underlying101 hi3 hi3z hi3s hi3b rfl (by decide) (by decide) a done.length c (prD b done) rfl (owns_same ho.out (hs1.out.same (by repeat (first | exact Fr.refl _ _ | apply Fr.alloc | apply Fr.drewN | apply Fr.drew | apply Fr.undrew | apply Fr.undrewN)))) (by omega) wr.heap.size [.int .i64 (ux b x : Nat), .int .i64 (uy b x : Nat)] rfl rfl (heap_new _ _) (by simp [Value.oneCell']) (by simp; omega) ?_; intro a5 c5 w5 ho5 hG5; have P := hP.out a5 c5 _ w5 (hs1.out.same (by repeat (first | exact Fr.refl _ _ | apply Fr.alloc | apply Fr.drewN | apply Fr.drew | apply Fr.undrew | apply Fr.undrewN))) ho5 hG5; have q0 := cell_at P.1 0; have q1 := free_at P.1 0; have P := P.2; replace P := Lib.hid P; clear ho5 hG5))
      all_goals
        generalize w5.setCell ⟨bl, 0, none⟩ (.slice a5 (done.length + 1) c5) = W2 at *
        have P' := P.out
        obtain ⟨⟨a6, c6, e6, p1, p2, p3, p4, p5, p7⟩, p6⟩ := P.out
        have e7 := Value.slice.inj e6
        obtain ⟨rfl, hz9, rfl⟩ := e7
        clear hz9
        have d0 : W2.cell? ⟨bl, 0, none⟩ = some (.slice a5 (done.length + 1) c5) := by have := cell_at p1 0; simpa using this
        have dl := lt_of_heap p1
        clear q0 q1 c0 c1 b0 p1 p2 p3 p4 p5 p6 e6
        replace P' := Lib.hid P'
        go_wp2_with fail
        go_ret
        exact ⟨rfl, _, P'.out.1.same (by repeat (first | exact Fr.refl _ _ | apply Fr.alloc | apply Fr.drewN | apply Fr.drew | apply Fr.undrew | apply Fr.undrewN)), P'.out.2.trans (Grew.of_same _ (by repeat (first | exact Fr.refl _ _ | apply Fr.alloc | apply Fr.drewN | apply Fr.drew | apply Fr.undrew | apply Fr.undrewN)))⟩
end Go.Proofs.YtknlkcfnfjchdaaGreat
namespace Go.Proofs.YtknlkcfnfjchdaaGreat
open Go.RowKit
set_option linter.unusedVariables false
set_option linter.unusedSimpArgs false

/-- Pairs of ints as cells. -/
def prI : List (Int × Int) → List Value
  | [] => []
  | p :: l => .int .i64 p.1 :: .int .i64 p.2 :: prI l
def ipr (p : Nat × Nat) : Int × Int := (p.1, p.2)
theorem prI_len : ∀ l, (prI l).length = l.length * 2
  | [] => rfl
  | p :: l => by simp [prI, prI_len l]; omega
theorem prI_nat : ∀ l : List (Nat × Nat), prI (l.map ipr) = prC l
  | [] => rfl
  | p :: l => by simp [prI, prC, ipr, prI_nat l]
theorem prI_get : ∀ (l : List (Int × Int)) (k : Nat) (h : k < l.length), (prI l)[k * 2]? = some (.int .i64 l[k].1) ∧ (prI l)[k * 2 + 1]? = some (.int .i64 l[k].2)
  | [], k, h => by simp at h
  | p :: l, 0, h => by simp [prI]
  | p :: l, k + 1, h => by
    have ih := prI_get l k (by simpa using h)
    rw [show (k + 1) * 2 = k * 2 + 1 + 1 by omega]
    simpa [prI] using ih
/-- The pairs of a slice that is only read. -/
theorem SliceAt.pair {w : World} {T : TypeId} {a : Option Addr} {cap m : Nat} {l : List (Int × Int)} (h : SliceAt w T 2 (.slice a m cap) m (prI l)) {k : Nat} (hk : k < l.length) (hm : l.length = m) :
    ∃ b off, a = some ⟨b, off, none⟩ ∧ b < w.heap.size ∧ w.cell? ⟨b, off + k * 2, none⟩ = some (.int .i64 l[k].1) ∧ w.cell? ⟨b, off + k * 2 + 1, none⟩ = some (.int .i64 l[k].2) := by
  obtain ⟨b, off, ha, hbl, hc⟩ := h.cell (by omega)
  have c2 := prI_get l k hk
  exact ⟨b, off, ha, hbl, hc _ _ c2.1, hc _ _ c2.2⟩

/-- The codes of pairs. -/
def cdL (b : Nat) (l : List (Nat × Nat)) : List Int := l.map fun p => ((wv b p.1 p.2 : Nat) : Int)
theorem cdL_take {b : Nat} {l : List (Nat × Nat)} {k : Nat} (h : k < l.length) : cdL b (l.take (k + 1)) = cdL b (l.take k) ++ [((wv b l[k].1 l[k].2 : Nat) : Int)] := by
  unfold cdL
  rw [List.take_add_one, List.getElem?_eq_getElem h, List.map_append]
  rfl
theorem cdL_len (b : Nat) (l : List (Nat × Nat)) : (cdL b l).length = l.length := by simp [cdL]
/-- The table of a list of pairs. -/
def relT (b : Nat) (l : List (Nat × Nat)) : List Bool := tabS (2 * b) 0 ((cdL b l).map Int.toNat)
theorem relT_len (b : Nat) (l : List (Nat × Nat)) : (relT b l).length = 2 ^ (2 * b) := tabS_len _ _ _
theorem relT_get {b : Nat} {l : List (Nat × Nat)} {x y : Nat} (hl : ∀ p ∈ l, p.1 < 2 ^ b ∧ p.2 < 2 ^ b) (hx : x < 2 ^ b) (hy : y < 2 ^ b) : (relT b l).getD (wv b x y) false = decide ((x, y) ∈ l) := by
  unfold relT
  rw [tabS_get _ _ _ (wv_lt b x y), decide_eq_decide, Nat.zero_add]
  simp only [cdL, List.map_map, List.mem_map, Function.comp, Int.toNat_natCast]
  constructor
  · rintro ⟨⟨x', y'⟩, hm, e⟩
    obtain ⟨h1, h2⟩ := hl _ hm
    simp only at h1 h2 e
    have e1 := congrArg (ux b) e
    have e2 := congrArg (uy b) e
    rw [ux_wv _ _ _ h1, ux_wv _ _ _ hx] at e1
    rw [uy_wv _ _ _ h2, uy_wv _ _ _ hy] at e2
    rw [← e1, ← e2]
    exact hm
  · intro hm
    exact ⟨_, hm, rfl⟩
theorem relT_of {b : Nat} {l : List (Nat × Nat)} (hl : ∀ p ∈ l, p.1 < 2 ^ b ∧ p.2 < 2 ^ b) : relT b l = tbF (2 * b) fun i => decide ((ux b i, uy b i) ∈ l) := by
  refine ext_getD (relT_len b l) (tbF_len _ _) (fun i hi => ?_)
  rw [tbF_get _ _ hi]
  have := relT_get hl (ux_lt b i) (uy_lt b i)
  rw [wv_u b i hi] at this
  exact this
theorem wv_up (d x y : Nat) : 4 * wv d (x / 2) (y / 2) + 2 * (x % 2) + y % 2 = wv (d + 1) x y := rfl
theorem div_pow2 (x j : Nat) : x / 2 ^ j / 2 = x / 2 ^ (j + 1) := by rw [Nat.div_div_eq_div_mul, Nat.pow_succ]

set_option maxRecDepth 100000 in
set_option maxHeartbeats 4000000 in
theorem fromPairs_any {n : Nat} (hn : n ≤ 64) (l : List (Nat × Nat)) (a : Option Addr) (q cap : Nat) (w : World) (hq : l.length = q) (hq9 : q ≤ 100000) (hl : ∀ p ∈ l, p.1 < n ∧ p.2 < n) (hat : SliceAt w 72 2 (.slice a q cap) q (prC l)) :
    Calls Tryz.prog 163 #[.int .i64 n, .slice a q cap] w (DgN (2 * bitsF n) (relT (bitsF n) l) w) := by
  have hn4 : n ≤ 4096 := by omega
  have BI := fun W => bits_any n W hn4
  have hb6 : bitsF n ≤ 6 := (bitsF_is hn4).bd hn
  have hnb := (bitsF_is hn4).le
  have MD := fun base aC cC W (ho : W.ownsRow base 3 1 (.slice aC q cC) q (intCells (cdL (bitsF n) l))) => made_own (2 * bitsF n) (cdL (bitsF n) l) aC cC q base W (by omega) (by rw [cdL_len, hq]) (by omega) (fun x hx => by
    obtain ⟨p, hp, rfl⟩ := List.mem_map.1 hx
    have := wv_lt (bitsF n) p.1 p.2
    exact ⟨by omega, by omega⟩) ho
  rw [show tabS (2 * bitsF n) 0 ((cdL (bitsF n) l).map Int.toNat) = relT (bitsF n) l from rfl] at MD
  have hpr := fun (k : Nat) (h : k < l.length) W (hW : Same w W) => SliceAt.pair (l := l.map ipr) (by rw [prI_nat]; exact hat.same hW) (k := k) (by simpa using h) (by simpa using hq)
  have hlk := fun (k : Nat) (h : k < l.length) => hl _ (List.getElem_mem h)
  have hct := fun (k : Nat) (h : k < l.length) => cdL_take (b := bitsF n) h
  have hcl := fun (k : Nat) (h : k ≤ q) => show (cdL (bitsF n) (l.take k)).length = k by rw [cdL_len, List.length_take]; omega
  have hfull : cdL (bitsF n) (l.take q) = cdL (bitsF n) l := by rw [← hq, List.take_length]
  have hwb : ∀ k x y, wv k x y < 2 ^ (2 * k) := wv_lt
  obtain ⟨m, hm⟩ : ∃ m, m = 2 * bitsF n := ⟨_, rfl⟩
  rw [← hm] at MD ⊢
  have hw : IntKind.i64.wrap (2 * ((bitsF n : Nat) : Int)) = (m : Int) := by rw [IntWalk.i64_in _ (by omega)]; omega
  have hw1 : IntKind.i64.wrap (((bitsF n : Nat) : Int) - 1) = ((bitsF n : Nat) : Int) - 1 := IntWalk.i64_in _ (by omega)
  generalize bitsF n = b at *
  obtain ⟨i3, hi3, hi3z, hi3s, hi3b⟩ := info_parts info3
  have hL : l.length = q := hq
  replace BI := Lib.hid BI; replace MD := Lib.hid MD; replace hpr := Lib.hid hpr; replace hlk := Lib.hid hlk; replace hct := Lib.hid hct; replace hcl := Lib.hid hcl; replace hfull := Lib.hid hfull; replace hl := Lib.hid hl; replace hat := Lib.hid hat; replace hwb := Lib.hid hwb; replace hm := Lib.hid hm; replace hL := Lib.hid hL; replace hnb := Lib.hid hnb
  clear hq
  go_enter Tryz.func163, Tryz.ntmps163
  go_upto_region 1 with fail
  have kr := heap_new w (.cells #[.int .i64 0, .slice none 0 0, .int .i64 0] 54)
  have hs : Same w (w.alloc (.cells #[.int .i64 0, .slice none 0 0, .int .i64 0] 54)) := (by repeat (first | exact Fr.refl _ _ | apply Fr.alloc | apply Fr.drewN | apply Fr.drew | apply Fr.undrew | apply Fr.undrewN))
  have hlt := lt_of_heap kr
  generalize w.alloc (.cells #[.int .i64 0, .slice none 0 0, .int .i64 0] 54) = W0 at *
  replace kr := Lib.hid kr; replace hs := Lib.hid hs
  go_wp2_with fail
  refine (BI.out _).mono ?_
  rintro e w1 ⟨rfl, hs1⟩
  replace kr := Lib.hid (hs1.at kr.out id)
  have hs1 := hs.out.same hs1
  have hw01 := hs1.size
  have hlt1 := lt_of_heap kr.out
  replace hs1 := Lib.hid hs1
  go_wp2_with fail
  go_loopw [7, 16] (fun v i wr => ∃ (k c : Nat) (a : Option Addr), i = .int .i64 k ∧ k ≤ q ∧ v = .slice a k c ∧ wr.ownsRow w1.heap.size 3 1 (.slice a k c) k (intCells (cdL b (l.take k))) ∧ Same w1 wr) (fun _ i _ => q - (intOf i).toNat)
  case atStart => exact ⟨0, 0, none, rfl, by omega, rfl, World.ownsRow_nil _ _ _ _, Fr.refl _ _⟩
  case round =>
    obtain ⟨k, c, ak, rfl, hk, rfl, ho, hs2⟩ := hrel
    by_cases hkn : k < q
    · have hkl : k < l.length := by rw [hL.out]; exact hkn
      obtain ⟨bb, off, rfl, hbl, z0, z1⟩ := hpr.out k hkl wr (hs1.out.same hs2)
      have hxy := hlk.out k hkl
      have hstp := hct.out k hkl
      have hln := hcl.out k hk
      simp only [List.getElem_map, ipr] at z0 z1
      generalize l[k] = p at *
      obtain ⟨x, y⟩ := p
      simp only at z0 z1 hxy hstp
      generalize cdL b (l.take k) = C at *
      have hwr := hs2.size
      have hx64 : x < 64 := by omega
      have hy64 : y < 64 := by omega
      obtain ⟨wo, rfl⟩ : ∃ wo, wo = wr := ⟨_, rfl⟩
      replace ho := Lib.hid ho; replace hs2 := Lib.hid hs2; replace hstp := Lib.hid hstp; replace hxy := Lib.hid hxy; replace hln := Lib.hid hln
      go_upto_region 6 with fail
      have kx := heap_new wo (.cells #[.int .i64 x, .int .i64 y] 72)
      have s2 : Same wo (wo.alloc (.cells #[.int .i64 x, .int .i64 y] 72)) := (by repeat (first | exact Fr.refl _ _ | apply Fr.alloc | apply Fr.drewN | apply Fr.drew | apply Fr.undrew | apply Fr.undrewN))
      have ho := owns_same ho.out s2
      have hs3 := hs2.out.same s2
      have hxo : ∀ i, (Value.slice ak k c).ownBlock = some i → i ≠ wo.heap.size := fun i hi => by have := (ho.lt _ hi).2; simp at this; intro e; subst e; obtain ⟨cur, hc⟩ := own_block ho hi; rw [kx] at hc; simp at hc
      have hwz : (wo.alloc (.cells #[.int .i64 x, .int .i64 y] 72)).heap.size = wo.heap.size + 1 := by simp
      generalize wo.alloc (.cells #[.int .i64 x, .int .i64 y] 72) = W2 at *
      generalize wo.heap.size = bx at *
      clear s2 z0 z1 hs2 hbl
      have c0 := cell_at kx 0
      have c1 := cell_at kx 1
      have cl := lt_of_heap kx
      replace kx := Lib.hid kx; replace ho := Lib.hid ho; replace hs3 := Lib.hid hs3; replace hxo := Lib.hid hxo
      go_wp2_with fail
      go_loopw [10, 11] (fun v i wr => ∃ (j : Nat) (iv : Int), i = .int .i64 iv ∧ iv = (j : Int) - 1 ∧ j ≤ b ∧ v = .int .i64 (wv (b - j) (x / 2 ^ j) (y / 2 ^ j) : Nat) ∧ Same W2 wr) (fun _ i _ => (intOf i + 1).toNat)
      case atStart => exact ⟨b, _, rfl, rfl, by omega, by simp [wv], Fr.refl _ _⟩
      case round =>
        obtain ⟨j, iv, rfl, hiv, hj, rfl, hsr⟩ := hrel
        by_cases hj0 : 0 < j
        · obtain ⟨i, rfl⟩ : ∃ i, j = i + 1 := ⟨j - 1, by omega⟩
          obtain rfl : iv = (i : Int) := by omega
          clear hiv
          have hi0 : (0 : Int) ≤ i := by omega
          have hmin : min i 64 = i := by omega
          have hbx : bits .and .i64 ((x : Int) / 2 ^ i) 1 = ((x / 2 ^ i % 2 : Nat) : Int) := by
            rw [show ((x : Int) / 2 ^ i) = ((x / 2 ^ i : Nat) : Int) by simp, and1g]
          have hby : bits .and .i64 ((y : Int) / 2 ^ i) 1 = ((y / 2 ^ i % 2 : Nat) : Int) := by
            rw [show ((y : Int) / 2 ^ i) = ((y / 2 ^ i : Nat) : Int) by simp, and1g]
          have hup := wv_up (b - (i + 1)) (x / 2 ^ i) (y / 2 ^ i)
          rw [div_pow2, div_pow2, show b - (i + 1) + 1 = b - i by omega] at hup
          have hb1 := hwb.out (b - (i + 1)) (x / 2 ^ (i + 1)) (y / 2 ^ (i + 1))
          have hb2 : 2 ^ (2 * (b - (i + 1))) ≤ 2 ^ 12 := Nat.pow_le_pow_right (by omega) (by omega)
          have hu2 : x / 2 ^ i % 2 < 2 := Nat.mod_lt _ (by omega)
          have hv2 : y / 2 ^ i % 2 < 2 := Nat.mod_lt _ (by omega)
          obtain ⟨V, hV⟩ : ∃ V, V = wv (b - i) (x / 2 ^ i) (y / 2 ^ i) := ⟨_, rfl⟩
          rw [← hV] at hup
          generalize wv (b - (i + 1)) (x / 2 ^ (i + 1)) (y / 2 ^ (i + 1)) = U at *
          generalize x / 2 ^ i % 2 = u at *
          generalize y / 2 ^ i % 2 = v at *
          have e1 : IntKind.i64.wrap (4 * (U : Int)) = 4 * (U : Int) := IntWalk.i64_in _ (by omega)
          have e2 : IntKind.i64.wrap (2 * (u : Int)) = 2 * (u : Int) := IntWalk.i64_in _ (by omega)
          have e3 : IntKind.i64.wrap (4 * (U : Int) + 2 * (u : Int)) = 4 * (U : Int) + 2 * (u : Int) := IntWalk.i64_in _ (by omega)
          have e4 : IntKind.i64.wrap (4 * (U : Int) + 2 * (u : Int) + (v : Int)) = (V : Int) := by rw [IntWalk.i64_in _ (by omega)]; omega
          have e5 : IntKind.i64.wrap ((i : Int) - 1) = (i : Int) - 1 := IntWalk.i64_in _ (by omega)
          have c0 : wr.cell? ⟨bx, 0, none⟩ = some (.int .i64 x) := cell_at (hsr.at kx.out id) 0
          have c1 : wr.cell? ⟨bx, 1, none⟩ = some (.int .i64 y) := cell_at (hsr.at kx.out id) 1
          have cl := lt_of_heap (hsr.at kx.out id)
          have kx' := hsr.at kx.out id
          replace hsr := Lib.hid hsr; replace hup := Lib.hid hup; replace kx' := Lib.hid kx'; replace hV := Lib.hid hV
          go_upto_region 10 with fail
          refine wp_region_sched (fun k => k = bx) [0, 0, 0, 1, 0, 0, 0, 0, 0, 0, 1, 0, 0, 0, 0, 0] [0, 1, 2, 4, 9, 11, 3, 5, 6, 7, 8, 10, 12, 13, 14, 15] (by kernel_rfl) (by kernel_rfl) ?_
          repeat (first | (refine sched_w rfl rfl (fun _ hK => ?_); go_simp; refine hK _ ?_; clear hK) | (refine sched_s rfl rfl (fun _ hK => ?_); go_simp; first | (refine hK _ ?_; clear hK) | (refine ⟨_, fun _ => rfl, hK _ ?_⟩; clear hK)))
          refine sched_nil (NoPanic.normal ?_)
          go_wp2_with fail
          go_roundw
          case rel => exact ⟨i, _, rfl, by first | rfl | omega, by omega, by rw [hV.out], hsr.out.same (by repeat (first | exact Fr.refl _ _ | apply Fr.alloc | apply Fr.drewN | apply Fr.drew | apply Fr.undrew | apply Fr.undrewN))⟩
          case measure => simp [intOf]
        · obtain rfl : j = 0 := by omega
          have hge : ((0 : Int) ≤ iv) = False := by simp; omega
          simp only [Nat.sub_zero, Nat.pow_zero, Nat.div_one]
          have ho3 := owns_same ho.out hsr
          have hs4 := hs3.out.same hsr
          have hwr4 := hs4.size
          replace ho3 := Lib.hid ho3; replace hs4 := Lib.hid hs4; replace hsr := Lib.hid hsr
          go_wp2_with (at_builtin; go_loud (refine wpList_append1 rfl (.tmp 41) (.tmp 43) 31 rfl w1.heap.size 3 i3 (.int .i64 0) 1 8 Tryz.underlying31 hi3 hi3z hi3s hi3b rfl (by decide) (by decide) ak k c (intCells C) rfl (owns_same ho3.out (by repeat (first | exact Fr.refl _ _ | apply Fr.alloc | apply Fr.drewN | apply Fr.drew | apply Fr.undrew | apply Fr.undrewN))) (by omega) wr.heap.size [.int .i64 (wv b x y : Nat)] rfl rfl (heap_new _ _) (by simp [Value.oneCell']) (by simp; omega) ?_; intro a5 c5 w5 ho5 hG5))
          have hs5 : Same w1 w5 := grew_fresh (hs4.out.same (by repeat (first | exact Fr.refl _ _ | apply Fr.alloc | apply Fr.drewN | apply Fr.drew | apply Fr.undrew | apply Fr.undrewN))) hG5 (fun k hk => (ho3.out.lt k hk).1)
          have ho5' : w5.ownsRow w1.heap.size 3 1 (.slice a5 (k + 1) c5) (k + 1) (intCells (cdL b (l.take (k + 1)))) := by
            rw [hstp.out]; have := ho5; simpa [intCells] using this
          clear ho5 hG5
          go_roundw
          case rel => exact ⟨k + 1, c5, a5, by go_num, by omega, rfl, ho5', hs5⟩
          case measure => simp [intOf]; omega
    · obtain rfl : k = q := by omega
      rw [hfull.out] at ho
      replace kr := Lib.hid (hs2.at kr.out id)
      have hs3 := hs1.out.same hs2
      replace ho := Lib.hid ho; replace hs3 := Lib.hid hs3
      go_wp2_with fail
      refine (MD.out _ _ _ _ ho.out).mono ?_
      intro e w5 hM
      obtain ⟨d, rfl, hd, ht, hF⟩ := hM
      have kr5 := hF.at kr.out (fun hk => by have := (ho.out.lt _ hk).1; omega)
      have hs5 : Same w w5 := hs3.out.trans hF (fun i hi hk => by have := (ho.out.lt _ hk).1; omega)
      replace hd := Lib.hid hd; replace ht := Lib.hid ht; replace kr5 := Lib.hid kr5; replace hs5 := Lib.hid hs5
      clear hF
      obtain ⟨x0, x1, x2, z0, z1, z2, xl⟩ := box_facts kr5.out
      go_wp2_with fail
      obtain ⟨d0, d1, d2, hdF, hsF⟩ := dg_stored hs5.out (Nat.le_refl _) hd.out kr5.out
      refine bodyPost_ret (v := .tuple #[.agg #[.int .i64 d.n, .slice d.a d.L.length d.cap, .int .i64 d.r], .int .i64 0]) (by simp [results, Tryz.results163, go_sem, d0, d1, d2]) rfl ?_
      exact ⟨d, rfl, hdF, ht.out, hsF⟩
end Go.Proofs.YtknlkcfnfjchdaaGreat
