/- NetworkOrders walked. NetworkOrders walked. NetworkUnions walked. -/
import Derived.Test.YtknlkcfnfjchdaaGreatOLNetE
import Derived.Test.YtknlkcfnfjchdaaGreatONwoP
import Derived.Test.YtknlkcfnfjchdaaGreatOAppR
namespace Go.Proofs.YtknlkcfnfjchdaaGreat
open Go.RowKit
set_option linter.unusedVariables false
set_option linter.unusedSimpArgs false

theorem wpList_load_row {P : Program} {w : World} {ops : Array Oper} {rest : List Oper} {o : Oper} {a : Act} {Q : Exit → Act → World → Prop} (hgd : o.guard = none) (ty : TypeId) (x : Operand) (ho : o.op = .load ty x) (b off : Nat) (hx : a.eval x = .pointer (some ⟨b, off, none⟩)) (cs : List Value) (d : TypeDesc)
    (hc : World.rangeAt w b off cs) (hu : P.underlying ty = some d) (hd : TypeDesc.isRow d = true) (hi : (P.info? ty).map (·.size) = some cs.length) (h : wpList P ops Q rest (a.put o.dst (.agg cs.toArray)) w) : wpList P ops Q (o :: rest) a w :=
  wpList_plain hgd fun K hK => by
    unfold Oper.wp execOp
    simp only [ho, hx, Instr.loadAt, Instr.sureAddr, Sem.run_bind, Sem.run_pure, Result.andThen_ok, run_loadVar_mid w b off ty cs d hc hu hd hi]
    exact hK _ _ h
theorem infoGp13 : (Tryz.prog.info? 30).map (·.size) = some 86 := by kernel_rfl
end Go.Proofs.YtknlkcfnfjchdaaGreat
namespace Go.Proofs.YtknlkcfnfjchdaaGreat
open Go.RowKit
set_option linter.unusedVariables false
set_option linter.unusedSimpArgs false

/-- The cells of the counts, as far as they are stored. -/
def cntL (C : Nat → Int) (q : Nat) : List Value := (List.range 6).map fun i => .int .i64 (if i < q then C (i % 3) else 0)
def rndL (R : Int) (q : Nat) : List Value := (List.range 2).map fun i => .int .i64 (if i < q then R else 0)
theorem cntL_set (C : Nat → Int) {k c : Nat} (hk : k < 2) (hc : c < 3) : (cntL C (k * 3 + c)).toArray.setIfInBounds (k * 3 + c) (.int .i64 (C c)) = (cntL C (k * 3 + (c + 1))).toArray := by
  rcases (show k = 0 ∨ k = 1 by omega) with rfl | rfl <;> rcases (show c = 0 ∨ c = 1 ∨ c = 2 by omega) with rfl | rfl | rfl <;> rfl
theorem rndL_set (R : Int) {k : Nat} (hk : k < 2) : (rndL R k).toArray.setIfInBounds k (.int .i64 R) = (rndL R (k + 1)).toArray := by
  rcases (show k = 0 ∨ k = 1 by omega) with rfl | rfl <;> rfl

/-- What is known of each of the two networks. -/
structure OrX (N : Nw) (R : Nat) (C : Nat → Int) (w : World) (m : Nat) (X : Nw) : Prop where
  len : X.As.length = m
  ol : X.o.length = m
  re : ∀ W, Same w W → Calls Tryz.prog 31 #[.agg #[.slice X.aA m X.cA, .slice X.aO m X.cO]] W fun e w' => ∃ a c L r, e = .returned (.tuple #[.agg #[.int .i64 X.all, .slice a (List.length L) c, .int .i64 r], .int .i64 R, .int .i64 0]) ∧ Dg.at w' ⟨X.all, a, c, L, r⟩ ∧ (∃ F, Sup X.ns F ∧ IsTab X.all (X.set F) L r ∧ ((X.set F).count true : Int) = C 0) ∧ Same W w'
  ma : ∀ W, Same w W → Calls Tryz.prog 32 #[.agg #[.slice X.aA m X.cA, .slice X.aO m X.cO]] W fun e w' => ∃ a c L r, e = .returned (.tuple #[.agg #[.int .i64 X.all, .slice a (List.length L) c, .int .i64 r], .int .i64 0]) ∧ Dg.at w' ⟨X.all, a, c, L, r⟩ ∧ (∃ F, Sup X.ns F ∧ IsTab X.all (X.set F) L r ∧ ((X.set F).count true : Int) = C 1) ∧ Same W w'
  bl : ∀ W, Same w W → Calls Tryz.prog 33 #[.agg #[.slice X.aA m X.cA, .slice X.aO m X.cO]] W fun e w' => ∃ a c L r, e = .returned (.tuple #[.agg #[.int .i64 X.all, .slice a (List.length L) c, .int .i64 r], .int .i64 0]) ∧ Dg.at w' ⟨X.all, a, c, L, r⟩ ∧ (∃ F, Sup X.ns F ∧ IsTab X.all (X.set F) L r ∧ ((X.set F).count true : Int) = C 2) ∧ Same W w'
  ct : ∀ (a : Option Addr) (c : Nat) (L : List Nd) (r : Int) (z : Nat) W, Same w W → Dg.at W ⟨X.all, a, c, L, r⟩ → (∃ F, Sup X.ns F ∧ IsTab X.all (X.set F) L r ∧ ((X.set F).count true : Int) = C z) → Calls Tryz.prog 34 #[.agg #[.slice X.aA m X.cA, .slice X.aO m X.cO], .agg #[.int .i64 X.all, .slice a L.length c, .int .i64 r]] W fun e w' => e = .returned (.tuple #[.int .i64 (C z), .int .i64 0]) ∧ Same W w'
theorem orX_of {N : Nw} (OKN : NetOk N) {R : Nat} {F B : List Nat → Bool} (hF : Sup N.ns F) (hB : Sup N.ns B)
    (H : ∀ X, NwOk X → SameAs N X →
      (∀ k, clI X.all 0 (X.rel (stepsB X.As (evsF X.As))) (X.set (N.chosen fun _ => [0])) (k + 1) = clI X.all 0 (X.rel (stepsB X.As (evsF X.As))) (X.set (N.chosen fun _ => [0])) k → (∀ j, j < k → clI X.all 0 (X.rel (stepsB X.As (evsF X.As))) (X.set (N.chosen fun _ => [0])) j ≠ clI X.all 0 (X.rel (stepsB X.As (evsF X.As))) (X.set (N.chosen fun _ => [0])) (j + 1)) →
        k = R ∧ clI X.all 0 (X.rel (stepsB X.As (evsF X.As))) (X.set (N.chosen fun _ => [0])) k = X.set F) ∧
      (∀ j k, clI X.all 0 (X.rel (stepsB X.As (evsF X.As))) (X.set (N.chosen fun _ => [0])) (j + 1) = clI X.all 0 (X.rel (stepsB X.As (evsF X.As))) (X.set (N.chosen fun _ => [0])) j → clI X.all 1 (X.rel (stepsB X.As (evsF X.As))) (X.set (N.chosen N.marks)) (k + 1) = clI X.all 1 (X.rel (stepsB X.As (evsF X.As))) (X.set (N.chosen N.marks)) k →
        blkT X.all (clI X.all 0 (X.rel (stepsB X.As (evsF X.As))) (X.set (N.chosen fun _ => [0])) j) (clI X.all 1 (X.rel (stepsB X.As (evsF X.As))) (X.set (N.chosen N.marks)) k) = X.set B))
    {X : Nw} (OK : NetOk X) (FI : Fits X) (hs : SameAs N X) {w : World} (hat : X.at w) {m : Nat} (hm : N.As.length = m) :
    OrX N R (fun i => if i = 0 then ((N.set F).count true : Nat) else if i = 1 then ((N.set (N.chosen N.marks)).count true : Nat) else ((N.set B).count true : Nat)) w m X := by
  obtain ⟨H1, H2⟩ := H X OK.ok hs
  have hl : X.As.length = m := by rw [← hs.len, hm]
  have ho : X.o.length = m := by rw [OK.ol, hl]
  have hmk := OKN.mark_sup
  have e1 : ∀ {Q : List Nat → Bool}, Sup N.ns Q → (X.set Q).count true = (N.set Q).count true := fun hQ => (cnt_same OKN.ok OK.ok hs.ns hQ).symm
  have c1 : X.chosen (fun _ => [0]) = N.chosen (fun _ => [0]) := (hs.chosen _).symm
  have c2 : X.chosen X.marks = N.chosen N.marks := by rw [← hs.marks, hs.chosen]
  refine ⟨hl, ho, fun W hW => ?_, fun W hW => ?_, fun W hW => ?_, fun a c L r z W hW hd hT => ?_⟩
  · have := Reached_net X OK FI W (hat.same hW)
    rw [hl, ho, c1] at this
    refine this.mono ?_
    rintro e w' ⟨d, k, rfl, hd, hT, h1, h2, hs'⟩
    obtain ⟨rfl, h4⟩ := H1 k h1 h2
    rw [h4] at hT
    obtain ⟨n, a, c, L, r⟩ := d
    obtain ⟨hn, hT⟩ := hT
    simp only at hn hT hd ⊢
    subst hn
    exact ⟨a, c, L, r, rfl, hd, ⟨F, hs.ns ▸ hF, hT, by rw [e1 hF]; rfl⟩, hs'⟩
  · have := Marked_any X OK W (hat.same hW)
    rw [hl, ho, c2] at this
    refine this.mono ?_
    intro e w' hM
    obtain ⟨a, c, L, r, rfl, hd, hT, hs'⟩ := hM.open
    exact ⟨a, c, L, r, rfl, hd, ⟨_, hs.ns ▸ hmk, hT, by rw [e1 hmk]; rfl⟩, hs'⟩
  · have := Blocked_net X OK FI W (hat.same hW)
    rw [hl, ho, c1, c2] at this
    refine this.mono ?_
    rintro e w' ⟨j, k, h1, h2, hM⟩
    rw [H2 j k h1 h2] at hM
    obtain ⟨a, c, L, r, rfl, hd, hT, hs'⟩ := hM.open
    exact ⟨a, c, L, r, rfl, hd, ⟨B, hs.ns ▸ hB, hT, by rw [e1 hB]; rfl⟩, hs'⟩
  · obtain ⟨Q, hQ, hT, hC⟩ := hT
    have := Count_net X OK ⟨X.all, a, c, L, r⟩ X.all (X.set Q) W (hat.same hW) hd ⟨rfl, hT⟩
    rw [if_pos (mErr_set hQ), mErr_set hQ, hl, ho, hC] at this
    exact this
/-- The same, by letters. -/
structure OrY (R : Nat) (C : Nat → Int) (w : World) (m nx : Nat) (aX : Option Addr) (cX : Nat) (aY : Option Addr) (cY : Nat) (TB : Nat → List Nd → Int → Prop) : Prop where
  re : ∀ W, Same w W → Calls Tryz.prog 31 #[.agg #[.slice aX m cX, .slice aY m cY]] W fun e w' => ∃ a c L r, e = .returned (.tuple #[.agg #[.int .i64 nx, .slice a (List.length L) c, .int .i64 r], .int .i64 R, .int .i64 0]) ∧ Dg.at w' ⟨nx, a, c, L, r⟩ ∧ TB 0 L r ∧ Same W w'
  ma : ∀ W, Same w W → Calls Tryz.prog 32 #[.agg #[.slice aX m cX, .slice aY m cY]] W fun e w' => ∃ a c L r, e = .returned (.tuple #[.agg #[.int .i64 nx, .slice a (List.length L) c, .int .i64 r], .int .i64 0]) ∧ Dg.at w' ⟨nx, a, c, L, r⟩ ∧ TB 1 L r ∧ Same W w'
  bl : ∀ W, Same w W → Calls Tryz.prog 33 #[.agg #[.slice aX m cX, .slice aY m cY]] W fun e w' => ∃ a c L r, e = .returned (.tuple #[.agg #[.int .i64 nx, .slice a (List.length L) c, .int .i64 r], .int .i64 0]) ∧ Dg.at w' ⟨nx, a, c, L, r⟩ ∧ TB 2 L r ∧ Same W w'
  ct : ∀ (a : Option Addr) (c : Nat) (L : List Nd) (r : Int) (z : Nat) W, Same w W → Dg.at W ⟨nx, a, c, L, r⟩ → TB z L r → Calls Tryz.prog 34 #[.agg #[.slice aX m cX, .slice aY m cY], .agg #[.int .i64 nx, .slice a L.length c, .int .i64 r]] W fun e w' => e = .returned (.tuple #[.int .i64 (C z), .int .i64 0]) ∧ Same W w'
theorem OrX.y {N : Nw} {R : Nat} {C : Nat → Int} {w : World} {m : Nat} {X : Nw} (h : OrX N R C w m X) : OrY R C w m X.all X.aA X.cA X.aO X.cO (fun z L r => ∃ F, Sup X.ns F ∧ IsTab X.all (X.set F) L r ∧ ((X.set F).count true : Int) = C z) := ⟨h.re, h.ma, h.bl, h.ct⟩
/-- A block stays where a block of another type changes. -/
theorem at_set {w : World} {b b' i : Nat} {c0 cs : Array Value} {T0 T : TypeId} {f0 f : Nat × Nat} {v : Value} (hb : w.heap[b]? = some (.cells c0 T0 f0)) (h : w.heap[b']? = some (.cells cs T f)) (hT : T ≠ T0) : (w.setCell ⟨b, i, none⟩ v).heap[b']? = some (.cells cs T f) :=
  ((Fr.refl (fun k => k = b) w).setCell ⟨b, i, none⟩ v (fun _ => rfl)).at h (fun e => by
    have e1 : b' = b := e
    rw [e1, hb] at h
    simp only [Option.some.injEq, Obj.cells.injEq] at h
    exact hT h.2.1.symm)
theorem sl_set {w : World} {b i : Nat} {c0 : Array Value} {T0 T : TypeId} {f0 : Nat × Nat} {v x : Value} {sz n : Nat} {cs : List Value} (hb : w.heap[b]? = some (.cells c0 T0 f0)) (h : SliceAt w T sz x n cs) (hT : T ≠ T0) : SliceAt (w.setCell ⟨b, i, none⟩ v) T sz x n cs :=
  h.fr ((Fr.refl (fun k => k = b) w).setCell ⟨b, i, none⟩ v (fun _ => rfl)) (fun k cur hk e => by
    rw [show k = b from e, hb] at hk
    simp only [Option.some.injEq, Obj.cells.injEq] at hk
    exact hT hk.2.1.symm)
end Go.Proofs.YtknlkcfnfjchdaaGreat
namespace Go.Proofs.YtknlkcfnfjchdaaGreat
open Go.RowKit
set_option linter.unusedVariables false
set_option linter.unusedSimpArgs false

theorem bytC_set (B : List Nat) (i y : Nat) : (bytC B).toArray.setIfInBounds i (.int .u8 (y : Int)) = (bytC (B.set i y)).toArray := by
  simp [bytC]

set_option maxRecDepth 100000 in
set_option maxHeartbeats 16000000 in
theorem orders_any (B : List Nat) (h86 : B.length = 86) (hB : ∀ y ∈ B, y < 256) (y : Int) (hy : 0 ≤ y ∧ y ≤ 255) (w : World) :
    Calls Tryz.prog 5 #[.agg (bytC B).toArray, .int .u8 y] w fun e w' => e = .returned (.bool true) ∧ Same w w' := by
  obtain ⟨y, rfl⟩ : ∃ k : Nat, y = k := ⟨y.toNat, by omega⟩
  have hy : y < 256 := by omega
  have KN := fun W => known13_any W
  have MK := fun W => Make13_ty B h86 hB 3 (by omega) W
  have MK2 := fun W => Make13_ty (B.set 85 y) (by rw [List.length_set, h86]) (fun z hz => by
    rcases List.mem_or_eq_of_mem_set hz with h | h
    · exact hB z h
    · omega) 3 (by omega) W
  have hset := bytC_set B 85 y
  obtain ⟨cs, hcs⟩ : ∃ cs, cs = (bytC B).toArray := ⟨_, rfl⟩
  obtain ⟨cs2, hcs2⟩ : ∃ cs, cs = (bytC (B.set 85 y)).toArray := ⟨_, rfl⟩
  have hsz : cs.size = 86 := by rw [hcs]; simp [bytC, h86]
  have hsz2 : cs2.size = 86 := by rw [hcs2]; simp [bytC, h86]
  rw [← hcs, ← hcs2] at hset
  rw [← hcs] at MK ⊢
  rw [← hcs2] at MK2
  clear hy hB
  replace KN := Lib.hid KN; replace MK := Lib.hid MK; replace MK2 := Lib.hid MK2; replace hsz := Lib.hid hsz; replace hsz2 := Lib.hid hsz2; replace hcs := Lib.hid hcs; replace hcs2 := Lib.hid hcs2; replace hset := Lib.hid hset
  go_enter Tryz.func5, Tryz.ntmps5
  go_upto_region 1 with fail
  have kg := heap_new w (.cells cs 30)
  have s0 : Same w (w.alloc (.cells cs 30)) := fs2
  generalize w.alloc (.cells cs 30) = W0 at *
  obtain ⟨bg, hbg⟩ : ∃ b, b = w.heap.size := ⟨_, rfl⟩
  rw [← hbg] at kg ⊢
  replace kg := Lib.hid kg; replace s0 := Lib.hid s0; replace hbg := Lib.hid hbg
  go_wp2_with fail
  refine (KN.out _).mono ?_
  rintro e w1 ⟨rfl, s1⟩
  replace kg := Lib.hid (s1.at kg.out id)
  have hs1 := s0.out.same s1
  clear s1 s0 KN
  replace hs1 := Lib.hid hs1
  go_upto_region 3 with fail
  refine wp_region_lit ?_
  refine wpList_load_row rfl 30 (.tmp 2) rfl bg 0 rfl cs.toList _ (by have := range_row kg.out 0 86; rw [List.drop_zero, List.take_of_length_le (by simp [hsz.out])] at this; exact this) Tryz.underlying30 rfl (by rw [infoGp13]; simp [hsz.out]) ?_
  (try simp only [Act.put, List.setIfInBounds_toArray, List.set_cons_zero, List.set_cons_succ])
  refine wpList_step (fun K hK => ?_)
  go_simp
  refine (MK.out _).mono ?_
  rintro e w2 ⟨N, rfl, hatN, hmdN, s2⟩
  replace kg := Lib.hid (s2.at kg.out id)
  have hs2 := hs1.out.same s2
  clear s2 hs1 MK
  refine hK _ _ ?_
  clear hK
  unfold Nw.v
  (try simp only [Act.put, List.setIfInBounds_toArray, List.set_cons_zero, List.set_cons_succ])
  replace hatN := Lib.hid hatN; replace hmdN := Lib.hid hmdN; replace hs2 := Lib.hid hs2
  go_upto_region 4 with fail
  have kn := heap_new w2 (.cells #[.slice N.aA N.As.length N.cA, .slice N.aO N.o.length N.cO] 36)
  have s3 : Same w2 (w2.alloc (.cells #[.slice N.aA N.As.length N.cA, .slice N.aO N.o.length N.cO] 36)) := fs2
  generalize w2.alloc (.cells #[.slice N.aA N.As.length N.cA, .slice N.aO N.o.length N.cO] 36) = W3 at *
  generalize w2.heap.size = bn at *
  replace kg := Lib.hid (s3.at kg.out id)
  have hs3 := hs2.out.same s3
  replace hatN := Lib.hid (hatN.out.same s3)
  clear s3 hs2
  replace kn := Lib.hid kn; replace hs3 := Lib.hid hs3
  have xl := lt_of_heap kg.out
  have x0 := cell_at kg.out 85
  have f0 := free_at kg.out 85
  rw [Array.getElem?_eq_getElem (by rw [hsz.out]; omega)] at x0
  go_upto_region 5 with fail
  clear x0 f0 xl
  have F4 : Fr (fun k => k = bg) W3 (W3.setCell ⟨bg, 85, none⟩ (.int .u8 y)) := (Fr.refl _ _).setCell _ _ (fun _ => rfl)
  have kg4 := heap_setCell_same kg.out 85 (.int .u8 y)
  rw [hset.out] at kg4
  have hatN4 : N.ty (W3.setCell ⟨bg, 85, none⟩ (.int .u8 y)) := hatN.out.fr F4 (fun T hT k cur hk e => by
    rw [show k = bg from e, kg.out] at hk
    simp only [Option.some.injEq, Obj.cells.injEq] at hk
    rcases hT with rfl | rfl | rfl <;> exact absurd hk.2.1 (by decide))
  have kn4 : (W3.setCell ⟨bg, 85, none⟩ (.int .u8 y)).heap[bn]? = _ := F4.at kn.out (fun e => by
    have e1 : bn = bg := e
    have h1 := kn.out
    rw [e1, kg.out] at h1
    simp at h1)
  have hs4 : Same w (W3.setCell ⟨bg, 85, none⟩ (.int .u8 y)) := hs3.out.trans F4 (fun i hi e => by have : i = bg := e; have := hbg.out; omega)
  clear kg kn hatN hs3
  generalize W3.setCell ⟨bg, 85, none⟩ (.int .u8 y) = W4 at *
  replace kg4 := Lib.hid kg4; replace hatN4 := Lib.hid hatN4; replace kn4 := Lib.hid kn4; replace hs4 := Lib.hid hs4
  refine wp_region_lit ?_
  refine wpList_load_row rfl 30 (.tmp 2) rfl bg 0 rfl cs2.toList _ (by have := range_row kg4.out 0 86; rw [List.drop_zero, List.take_of_length_le (by simp [hsz2.out])] at this; exact this) Tryz.underlying30 rfl (by rw [infoGp13]; simp [hsz2.out]) ?_
  (try simp only [Act.put, List.setIfInBounds_toArray, List.set_cons_zero, List.set_cons_succ])
  refine wpList_step (fun K hK => ?_)
  go_simp
  refine (MK2.out _).mono ?_
  rintro e w5 ⟨M, rfl, hatM, hmdM, s5⟩
  replace kn4 := Lib.hid (s5.at kn4.out id)
  have hs5 := hs4.out.same s5
  have hatN5 := hatN4.out.same s5
  clear s5 hs4 hatN4 MK2 kg4
  refine hK _ _ ?_
  clear hK
  unfold Nw.v
  (try simp only [Act.put, List.setIfInBounds_toArray, List.set_cons_zero, List.set_cons_succ])
  replace hatM := Lib.hid hatM; replace hmdM := Lib.hid hmdM; replace hs5 := Lib.hid hs5; replace hatN5 := Lib.hid hatN5
  go_upto_region 6 with fail
  have km := heap_new w5 (.cells #[.slice M.aA M.As.length M.cA, .slice M.aO M.o.length M.cO] 36)
  have s6 : Same w5 (w5.alloc (.cells #[.slice M.aA M.As.length M.cA, .slice M.aO M.o.length M.cO] 36)) := fs2
  generalize w5.alloc (.cells #[.slice M.aA M.As.length M.cA, .slice M.aO M.o.length M.cO] 36) = W5 at *
  generalize w5.heap.size = bm at *
  replace kn4 := Lib.hid (s6.at kn4.out id)
  have hs6 := hs5.out.same s6
  have aN := (hatN5.out.same s6).at
  have aM := (hatM.out.same s6).at
  have sNM : SameAs N M := made_same (by omega) hmdN.out hmdM.out
  have gN := hmdN.out.grp (by omega)
  have gM := hmdM.out.grp (by omega)
  obtain ⟨R, F, D, hF, hD, H⟩ := limits gN.ok' gN.net.ini_sup gN.net.mark_sup
  obtain ⟨C, hC⟩ : ∃ C : Nat → Int, C = (fun i => if i = 0 then ((N.set F).count true : Nat) else if i = 1 then ((N.set (N.chosen N.marks)).count true : Nat) else ((N.set D).count true : Nat) : Nat → Int) := ⟨_, rfl⟩
  have ON := orX_of gN.net hF hD H gN.net gN.grp.fits ⟨rfl⟩ aN rfl
  have OM := orX_of gN.net hF hD H gM.net gM.grp.fits sNM aM rfl
  rw [← hC] at ON OM
  clear aN aM hatN5 hatM s6 hs5 hmdN hmdM sNM gN gM hF hD H hC F D
  have lN := ON.ol
  have lM := OM.ol
  have lM2 := OM.len
  rw [lN] at kn4
  rw [lM, lM2] at km
  simp only [lN, lM, lM2]
  clear lN lM lM2
  generalize N.As.length = m at *
  replace kn4 := Lib.hid kn4; replace km := Lib.hid km; replace hs6 := Lib.hid hs6; replace ON := Lib.hid ON; replace OM := Lib.hid OM
  go_upto_region 8 with fail
  have kc := heap_old (heap_new W5 (.cells (cntL C 0).toArray 71)) (.cells (rndL R 0).toArray 72)
  have kr := heap_new (W5.alloc (.cells (cntL C 0).toArray 71)) (.cells (rndL R 0).toArray 72)
  have s7 : Same W5 ((W5.alloc (.cells (cntL C 0).toArray 71)).alloc (.cells (rndL R 0).toArray 72)) := fs2
  rw [← al1] at kr
  have e0 : (W5.alloc (.cells (cntL C 0).toArray 71)).alloc (.cells (rndL R 0).toArray 72) = (W5.alloc (.cells #[.int .i64 0, .int .i64 0, .int .i64 0, .int .i64 0, .int .i64 0, .int .i64 0] 71)).alloc (.cells #[.int .i64 0, .int .i64 0] 72) := rfl
  rw [← e0]
  clear e0
  generalize (W5.alloc (.cells (cntL C 0).toArray 71)).alloc (.cells (rndL R 0).toArray 72) = W7 at *
  obtain ⟨bc, hbc⟩ : ∃ b, b = W5.heap.size := ⟨_, rfl⟩
  rw [← hbc] at kc kr ⊢
  replace kn4 := Lib.hid (s7.at kn4.out id)
  replace km := Lib.hid (s7.at km.out id)
  replace kc := Lib.hid kc; replace kr := Lib.hid kr; replace s7 := Lib.hid s7; replace hbc := Lib.hid hbc
  have x0 := cell_at kn4.out 0
  have x1 := cell_at kn4.out 1
  have xl := lt_of_heap kn4.out
  have y0 := cell_at km.out 0
  have y1 := cell_at km.out 1
  have yl := lt_of_heap km.out
  go_wp2_with fail
  clear x0 x1 xl
  clear y0 y1 yl
  have kb := heap_new W7 (.cells #[.slice N.aA m N.cA, .slice N.aO m N.cO, .slice M.aA m M.cA, .slice M.aO m M.cO] 36)
  have s8 : Same W7 (W7.alloc (.cells #[.slice N.aA m N.cA, .slice N.aO m N.cO, .slice M.aA m M.cA, .slice M.aO m M.cO] 36)) := fs2
  have hbs : bc + 1 < W7.heap.size := lt_of_heap kr.out
  generalize W7.alloc (.cells #[.slice N.aA m N.cA, .slice N.aO m N.cO, .slice M.aA m M.cA, .slice M.aO m M.cO] 36) = W8 at *
  generalize W7.heap.size = bs at *
  replace kc := Lib.hid (s8.at kc.out id)
  replace kr := Lib.hid (s8.at kr.out id)
  have s9 := s7.out.same s8
  have hS : ∀ W, Fr (fun q => q = bc ∨ q = bc + 1) W8 W → Same W5 W := fun W hf => s9.trans hf (fun i hi e => by
    have h1 : i = bc ∨ i = bc + 1 := e
    have := hbc.out
    omega)
  clear s7 s8
  replace kb := Lib.hid kb; replace s9 := Lib.hid s9; replace hS := Lib.hid hS
  go_loopw [34] (fun i wr => ∃ k : Nat, i = .int .i64 k ∧ k ≤ 2 ∧ wr.heap[bc]? = some (.cells (cntL C (k * 3)).toArray 71 (0, 0)) ∧ wr.heap[bc + 1]? = some (.cells (rndL R k).toArray 72 (0, 0)) ∧ Fr (fun q => q = bc ∨ q = bc + 1) W8 wr) (fun i _ => 2 - (intOf i).toNat)
  case atStart => exact ⟨0, rfl, by omega, kc.out, kr.out, Fr.refl _ _⟩
  case round =>
    clear kc kr
    obtain ⟨k, rfl, hk, kc, kr, hf⟩ := hrel
    have hs5 := hS.out _ hf
    have kb2 := hf.at kb.out (fun e => by have h1 : bs = bc ∨ bs = bc + 1 := e; omega)
    have kbl := lt_of_heap kb2
    by_cases hk2 : k < 2
    · obtain ⟨nx, aX, cX, aY, cY, TB, OY, c0, c1⟩ : ∃ (nx : Nat) (aX : Option Addr) (cX : Nat) (aY : Option Addr) (cY : Nat) (TB : Nat → List Nd → Int → Prop), OrY R C W5 m nx aX cX aY cY TB ∧ wr.cell? ⟨bs, k * 2, none⟩ = some (.slice aX m cX) ∧ wr.cell? ⟨bs, k * 2 + 1, none⟩ = some (.slice aY m cY) := by
        rcases (show k = 0 ∨ k = 1 by omega) with rfl | rfl
        · exact ⟨_, _, _, _, _, _, ON.out.y, cell_at kb2 0, cell_at kb2 1⟩
        · exact ⟨_, _, _, _, _, _, OM.out.y, cell_at kb2 2, cell_at kb2 3⟩
      clear kb2
      have hk2i : (k : Int) < 2 := by omega
      replace kc := Lib.hid kc; replace kr := Lib.hid kr; replace hf := Lib.hid hf; replace hs5 := Lib.hid hs5; replace OY := Lib.hid OY
      go_upto_region 11 with fail
      clear c0 c1
      have kx := heap_new wr (.cells #[.slice aX m cX, .slice aY m cY] 36)
      have sP : Same wr (wr.alloc (.cells #[.slice aX m cX, .slice aY m cY] 36)) := fs2
      generalize wr.alloc (.cells #[.slice aX m cX, .slice aY m cY] 36) = U0 at *
      generalize wr.heap.size = bx at *
      replace kc := Lib.hid (sP.at kc.out id)
      replace kr := Lib.hid (sP.at kr.out id)
      replace hf := Lib.hid (hf.out.same sP)
      replace hs5 := Lib.hid (hs5.out.same sP)
      clear sP
      replace kx := Lib.hid kx
      have x0 := cell_at kx.out 0
      have x1 := cell_at kx.out 1
      have xl := lt_of_heap kx.out
      go_wp2_with fail
      refine (OY.out.re _ hs5.out).mono ?_
      rintro e v1 ⟨a1, c1, L1, r1, rfl, d1, z1, s1⟩
      clear x0 x1 xl
      go_upto_region 12 with fail
      have q1 := heap_new v1 (.cells #[.int .i64 nx, .slice a1 L1.length c1, .int .i64 r1] 54)
      have sP := s1.same (show Same v1 (v1.alloc (.cells #[.int .i64 nx, .slice a1 L1.length c1, .int .i64 r1] 54)) from fs2)
      replace d1 : Dg.at (v1.alloc (.cells #[.int .i64 nx, .slice a1 L1.length c1, .int .i64 r1] 54)) ⟨nx, a1, c1, L1, r1⟩ := SliceAt.same d1 fs2
      generalize v1.alloc (.cells #[.int .i64 nx, .slice a1 L1.length c1, .int .i64 r1] 54) = U1 at *
      generalize v1.heap.size = b1 at *
      clear s1
      replace kc := Lib.hid (sP.at kc.out id)
      replace kr := Lib.hid (sP.at kr.out id)
      replace kx := Lib.hid (sP.at kx.out id)
      replace hf := Lib.hid (hf.out.same sP)
      replace hs5 := Lib.hid (hs5.out.same sP)
      clear sP
      replace q1 := Lib.hid q1; replace d1 := Lib.hid d1; replace z1 := Lib.hid z1
      have x0 := cell_at kx.out 0
      have x1 := cell_at kx.out 1
      have xl := lt_of_heap kx.out
      go_wp2_with fail
      refine (OY.out.ma _ hs5.out).mono ?_
      rintro e v2 ⟨a2, c2, L2, r2, rfl, d2, z2, s2⟩
      clear x0 x1 xl
      go_upto_region 13 with fail
      have q2 := heap_new v2 (.cells #[.int .i64 nx, .slice a2 L2.length c2, .int .i64 r2] 54)
      have sP := s2.same (show Same v2 (v2.alloc (.cells #[.int .i64 nx, .slice a2 L2.length c2, .int .i64 r2] 54)) from fs2)
      replace d2 : Dg.at (v2.alloc (.cells #[.int .i64 nx, .slice a2 L2.length c2, .int .i64 r2] 54)) ⟨nx, a2, c2, L2, r2⟩ := SliceAt.same d2 fs2
      generalize v2.alloc (.cells #[.int .i64 nx, .slice a2 L2.length c2, .int .i64 r2] 54) = U2 at *
      generalize v2.heap.size = b2 at *
      clear s2
      replace kc := Lib.hid (sP.at kc.out id)
      replace kr := Lib.hid (sP.at kr.out id)
      replace kx := Lib.hid (sP.at kx.out id)
      replace q1 := Lib.hid (sP.at q1.out id)
      replace d1 := Lib.hid (SliceAt.same d1.out sP)
      replace hf := Lib.hid (hf.out.same sP)
      replace hs5 := Lib.hid (hs5.out.same sP)
      clear sP
      replace q2 := Lib.hid q2; replace d2 := Lib.hid d2; replace z2 := Lib.hid z2
      have x0 := cell_at kx.out 0
      have x1 := cell_at kx.out 1
      have xl := lt_of_heap kx.out
      go_wp2_with fail
      refine (OY.out.bl _ hs5.out).mono ?_
      rintro e v3 ⟨a3, c3, L3, r3, rfl, d3, z3, s3⟩
      clear x0 x1 xl
      go_upto_region 14 with fail
      have q3 := heap_new v3 (.cells #[.int .i64 nx, .slice a3 L3.length c3, .int .i64 r3] 54)
      have sP := s3.same (show Same v3 (v3.alloc (.cells #[.int .i64 nx, .slice a3 L3.length c3, .int .i64 r3] 54)) from fs2)
      replace d3 : Dg.at (v3.alloc (.cells #[.int .i64 nx, .slice a3 L3.length c3, .int .i64 r3] 54)) ⟨nx, a3, c3, L3, r3⟩ := SliceAt.same d3 fs2
      generalize v3.alloc (.cells #[.int .i64 nx, .slice a3 L3.length c3, .int .i64 r3] 54) = U3 at *
      generalize v3.heap.size = b3 at *
      clear s3
      replace kc := Lib.hid (sP.at kc.out id)
      replace kr := Lib.hid (sP.at kr.out id)
      replace kx := Lib.hid (sP.at kx.out id)
      replace q1 := Lib.hid (sP.at q1.out id)
      replace q2 := Lib.hid (sP.at q2.out id)
      replace d1 := Lib.hid (SliceAt.same d1.out sP)
      replace d2 := Lib.hid (SliceAt.same d2.out sP)
      replace hf := Lib.hid (hf.out.same sP)
      replace hs5 := Lib.hid (hs5.out.same sP)
      clear sP
      replace q3 := Lib.hid q3; replace d3 := Lib.hid d3; replace z3 := Lib.hid z3
      have y0 : U3.cell? ⟨bc + 1, k, none⟩ = some (.int .i64 0) := by
        rw [cell_at kr.out k]
        rcases (show k = 0 ∨ k = 1 by omega) with rfl | rfl <;> rfl
      have f0 := free_at kr.out k
      have yl := lt_of_heap kr.out
      go_upto_region 17 with fail
      clear y0 f0 yl
      have kr2 := heap_setCell_same kr.out k (.int .i64 R)
      rw [rndL_set _ hk2] at kr2
      have kc2 := at_set (i := k) (v := .int .i64 R) kr.out kc.out (by decide)
      have kx2 := at_set (i := k) (v := .int .i64 R) kr.out kx.out (by decide)
      have g1 := at_set (i := k) (v := .int .i64 R) kr.out q1.out (by decide)
      have g2 := at_set (i := k) (v := .int .i64 R) kr.out q2.out (by decide)
      have g3 := at_set (i := k) (v := .int .i64 R) kr.out q3.out (by decide)
      have e1 : Dg.at (U3.setCell ⟨bc + 1, k, none⟩ (.int .i64 R)) ⟨nx, a1, c1, L1, r1⟩ := sl_set kr.out d1.out (by decide)
      have e2 : Dg.at (U3.setCell ⟨bc + 1, k, none⟩ (.int .i64 R)) ⟨nx, a2, c2, L2, r2⟩ := sl_set kr.out d2.out (by decide)
      have e3 : Dg.at (U3.setCell ⟨bc + 1, k, none⟩ (.int .i64 R)) ⟨nx, a3, c3, L3, r3⟩ := sl_set kr.out d3.out (by decide)
      have hf2 : Fr (fun q => q = bc ∨ q = bc + 1) W8 (U3.setCell ⟨bc + 1, k, none⟩ (.int .i64 R)) := hf.out.setCell _ _ (fun _ => .inr rfl)
      have hs52 := hS.out _ hf2
      clear kr kc kx q1 q2 q3 d1 d2 d3 hf hs5
      generalize U3.setCell ⟨bc + 1, k, none⟩ (.int .i64 R) = U4 at *
      replace kr2 := Lib.hid kr2; replace kc2 := Lib.hid kc2; replace kx2 := Lib.hid kx2; replace g1 := Lib.hid g1; replace g2 := Lib.hid g2; replace g3 := Lib.hid g3; replace e1 := Lib.hid e1; replace e2 := Lib.hid e2; replace e3 := Lib.hid e3; replace hf2 := Lib.hid hf2; replace hs52 := Lib.hid hs52
      have x0 := cell_at g1.out 0
      have x1 := cell_at g1.out 1
      have x2 := cell_at g1.out 2
      have xl := lt_of_heap g1.out
      have y0 := cell_at g2.out 0
      have y1 := cell_at g2.out 1
      have y2 := cell_at g2.out 2
      have yl := lt_of_heap g2.out
      have v0 := cell_at g3.out 0
      have v1 := cell_at g3.out 1
      have v2 := cell_at g3.out 2
      have vl := lt_of_heap g3.out
      go_wp2_with fail
      clear x0 x1 x2 xl
      clear y0 y1 y2 yl
      clear v0 v1 v2 vl
      have k9 := heap_new U4 (.cells #[.int .i64 nx, .slice a1 L1.length c1, .int .i64 r1, .int .i64 nx, .slice a2 L2.length c2, .int .i64 r2, .int .i64 nx, .slice a3 L3.length c3, .int .i64 r3] 54)
      have sP : Same U4 (U4.alloc (.cells #[.int .i64 nx, .slice a1 L1.length c1, .int .i64 r1, .int .i64 nx, .slice a2 L2.length c2, .int .i64 r2, .int .i64 nx, .slice a3 L3.length c3, .int .i64 r3] 54)) := fs2
      generalize U4.alloc (.cells #[.int .i64 nx, .slice a1 L1.length c1, .int .i64 r1, .int .i64 nx, .slice a2 L2.length c2, .int .i64 r2, .int .i64 nx, .slice a3 L3.length c3, .int .i64 r3] 54) = U5 at *
      have hb9 : bc < U4.heap.size := lt_of_heap kc2.out
      have hb9' : bc + 1 < U4.heap.size := lt_of_heap kr2.out
      have hbx : bx < U4.heap.size := lt_of_heap kx2.out
      generalize U4.heap.size = b9 at *
      replace kr2 := Lib.hid (sP.at kr2.out id)
      replace kc2 := Lib.hid (sP.at kc2.out id)
      replace kx2 := Lib.hid (sP.at kx2.out id)
      replace e1 := Lib.hid (SliceAt.same e1.out sP)
      replace e2 := Lib.hid (SliceAt.same e2.out sP)
      replace e3 := Lib.hid (SliceAt.same e3.out sP)
      replace hf2 := Lib.hid (hf2.out.same sP)
      clear sP g1 g2 g3 hs52
      replace k9 := Lib.hid k9
      go_loopw [73] (fun i wr => ∃ c : Nat, i = .int .i64 c ∧ c ≤ 3 ∧ wr.heap[bc]? = some (.cells (cntL C (k * 3 + c)).toArray 71 (0, 0)) ∧ Fr (fun q => q = bc) U5 wr) (fun i _ => 3 - (intOf i).toNat)
      case atStart => exact ⟨0, rfl, by omega, kc2.out, Fr.refl _ _⟩
      case round =>
        obtain ⟨c, rfl, hc, kc, hg⟩ := hrel
        have hfr : Fr (fun q => q = bc ∨ q = bc + 1) W8 wr := hf2.out.trans hg (fun i _ e => .inl e)
        have hs5 := hS.out _ hfr
        have kx := hg.at kx2.out (fun e => by
          have e1 : bx = bc := e
          have h1 := kx2.out
          rw [e1, kc2.out] at h1
          simp at h1)
        have kr := hg.at kr2.out (fun e => by have e1 : bc + 1 = bc := e; omega)
        have k9' := hg.at k9.out (fun e => by have e1 : b9 = bc := e; omega)
        have k9l := lt_of_heap k9'
        have sl : ∀ {a : Option Addr} {cc : Nat} {L : List Nd} {r : Int}, Dg.at U5 ⟨nx, a, cc, L, r⟩ → Dg.at wr ⟨nx, a, cc, L, r⟩ := fun h => SliceAt.fr h hg (fun q cur hq e => by
          rw [show q = bc from e, kc2.out] at hq
          simp at hq)
        by_cases hc3 : c < 3
        · obtain ⟨a, cc, L, r, x0, x1, x2, dd, tt⟩ : ∃ (a : Option Addr) (cc : Nat) (L : List Nd) (r : Int), wr.cell? ⟨b9, c * 3, none⟩ = some (.int .i64 nx) ∧ wr.cell? ⟨b9, c * 3 + 1, none⟩ = some (.slice a L.length cc) ∧ wr.cell? ⟨b9, c * 3 + 2, none⟩ = some (.int .i64 r) ∧ Dg.at wr ⟨nx, a, cc, L, r⟩ ∧ TB c L r := by
            rcases (show c = 0 ∨ c = 1 ∨ c = 2 by omega) with rfl | rfl | rfl
            · exact ⟨a1, c1, L1, r1, cell_at k9' 0, cell_at k9' 1, cell_at k9' 2, sl e1.out, z1.out⟩
            · exact ⟨a2, c2, L2, r2, cell_at k9' 3, cell_at k9' 4, cell_at k9' 5, sl e2.out, z2.out⟩
            · exact ⟨a3, c3, L3, r3, cell_at k9' 6, cell_at k9' 7, cell_at k9' 8, sl e3.out, z3.out⟩
          have hc3i : (c : Int) < 3 := by omega
          clear k9' sl hfr
          replace kc := Lib.hid kc; replace kx := Lib.hid kx; replace kr := Lib.hid kr; replace hg := Lib.hid hg; replace hs5 := Lib.hid hs5; replace dd := Lib.hid dd; replace tt := Lib.hid tt
          go_upto_region 20 with fail
          have kd := heap_new wr (.cells #[.int .i64 nx, .slice a L.length cc, .int .i64 r] 54)
          have sP : Same wr (wr.alloc (.cells #[.int .i64 nx, .slice a L.length cc, .int .i64 r] 54)) := fs2
          clear x0 x1 x2
          generalize wr.alloc (.cells #[.int .i64 nx, .slice a L.length cc, .int .i64 r] 54) = V0 at *
          generalize wr.heap.size = bd at *
          replace kc := Lib.hid (sP.at kc.out id)
          replace kx := Lib.hid (sP.at kx.out id)
          replace hg := Lib.hid (hg.out.same sP)
          replace hs5 := Lib.hid (hs5.out.same sP)
          replace dd := Lib.hid (SliceAt.same dd.out sP)
          clear sP
          replace kd := Lib.hid kd
          have x0 := cell_at kx.out 0
          have x1 := cell_at kx.out 1
          have xl := lt_of_heap kx.out
          have y0 := cell_at kd.out 0
          have y1 := cell_at kd.out 1
          have y2 := cell_at kd.out 2
          have yl := lt_of_heap kd.out
          go_wp2_with fail
          refine (OY.out.ct a cc L r c _ hs5.out dd.out tt.out).mono ?_
          rintro e v9 ⟨rfl, s10⟩
          clear x0 x1 xl
          clear y0 y1 y2 yl
          replace kc := Lib.hid (s10.at kc.out id)
          replace hg := Lib.hid (hg.out.same s10)
          clear s10 dd tt kd kx hs5
          have y0 : v9.cell? ⟨bc, k * 3 + c, none⟩ = some (.int .i64 0) := by
            rw [cell_at kc.out (k * 3 + c)]
            rcases (show k = 0 ∨ k = 1 by omega) with rfl | rfl <;> rcases (show c = 0 ∨ c = 1 ∨ c = 2 by omega) with rfl | rfl | rfl <;> rfl
          have f0 := free_at kc.out (k * 3 + c)
          have yl := lt_of_heap kc.out
          go_wp2_with fail
          have kc3 := heap_setCell_same kc.out (k * 3 + c) (.int .i64 (C c))
          rw [cntL_set _ hk2 hc3] at kc3
          have hg3 : Fr (fun q => q = bc) U5 (v9.setCell ⟨bc, k * 3 + c, none⟩ (.int .i64 (C c))) := hg.out.setCell _ _ (fun _ => rfl)
          clear y0 f0 yl kc hg
          generalize v9.setCell ⟨bc, k * 3 + c, none⟩ (.int .i64 (C c)) = V1 at *
          replace kc3 := Lib.hid kc3; replace hg3 := Lib.hid hg3
          go_roundw
          case rel => exact ⟨c + 1, by go_num, by omega, kc3.out, hg3.out⟩
          case measure => simp [intOf]; omega
        · obtain rfl : c = 3 := by omega
          have kc9 : wr.heap[bc]? = some (.cells (cntL C ((k + 1) * 3)).toArray 71 (0, 0)) := by rw [Nat.add_mul]; exact kc
          clear k9' sl kx hs5
          replace kc := Lib.hid kc; replace kr := Lib.hid kr; replace hfr := Lib.hid hfr; replace kc9 := Lib.hid kc9; replace hg := Lib.hid hg
          go_wp2_with fail
          go_roundw
          case rel => exact ⟨k + 1, by go_num, by omega, kc9.out, kr.out, hfr.out⟩
          case measure => simp [intOf]; omega
    · obtain rfl : k = 2 := by omega
      have hsw := hs6.out.same hs5
      have x0 : wr.cell? ⟨bc, 0, none⟩ = some (.int .i64 (C 0)) := cell_at kc 0
      have x1 : wr.cell? ⟨bc, 1, none⟩ = some (.int .i64 (C 1)) := cell_at kc 1
      have x2 : wr.cell? ⟨bc, 2, none⟩ = some (.int .i64 (C 2)) := cell_at kc 2
      have x3 : wr.cell? ⟨bc, 3, none⟩ = some (.int .i64 (C 0)) := cell_at kc 3
      have x4 : wr.cell? ⟨bc, 4, none⟩ = some (.int .i64 (C 1)) := cell_at kc 4
      have x5 : wr.cell? ⟨bc, 5, none⟩ = some (.int .i64 (C 2)) := cell_at kc 5
      have y0 : wr.cell? ⟨bc + 1, 0, none⟩ = some (.int .i64 R) := cell_at kr 0
      have y1 : wr.cell? ⟨bc + 1, 1, none⟩ = some (.int .i64 R) := cell_at kr 1
      have xl := lt_of_heap kc
      have yl := lt_of_heap kr
      replace kc := Lib.hid kc; replace kr := Lib.hid kr; replace hf := Lib.hid hf; replace hs5 := Lib.hid hs5; replace hsw := Lib.hid hsw
      go_wp2_with fail
      have hq : ∀ W, (Op.equalIn 10000 70 (.agg #[.int .i64 (C 0), .int .i64 (C 1), .int .i64 (C 2)]) (.agg #[.int .i64 (C 0), .int .i64 (C 1), .int .i64 (C 2)])).run Tryz.prog W = .ok true W := fun W => by
        have := equalIn_arr 9998 (C 0) (C 1) (C 2) (C 0) (C 1) (C 2) W
        rw [this]
        simp [nde]
      go_wp2_with fail
      rw [hq]
      simp only [Result.andThen_ok]
      go_wp2_with fail
      go_ret
      exact ⟨rfl, hsw.out⟩
end Go.Proofs.YtknlkcfnfjchdaaGreat
