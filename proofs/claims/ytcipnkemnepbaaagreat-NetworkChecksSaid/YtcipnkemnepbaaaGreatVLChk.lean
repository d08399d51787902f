/- NetworkChecks walked. NetworkEnables walked. The law of package network: step walked. NetworkUnions walked. -/
import Derived.Test.YtcipnkemnepbaaaGreatVLNetE
import Derived.Test.YtcipnkemnepbaaaGreatVLNew
import Derived.Test.YtcipnkemnepbaaaGreatVAppR
import Derived.Test.YtcipnkemnepbaaaGreatVNChk
import Derived.Test.YtcipnkemnepbaaaGreatVOrdM
import Derived.Test.YtcipnkemnepbaaaGreatVNetT
import Derived.Test.YtcipnkemnepbaaaGreatVGrpP
import Derived.Test.YtcipnkemnepbaaaGreatVRestr
import Derived.Test.YtcipnkemnepbaaaGreatVChgP
import Derived.Test.YtcipnkemnepbaaaGreatVAny
import Derived.Test.YtcipnkemnepbaaaGreatVMade
import Derived.Test.YtcipnkemnepbaaaGreatVFrom
import Derived.Test.YtcipnkemnepbaaaGreatVRowAt
import Derived.Test.YtcipnkemnepbaaaGreatVOpsR
import Derived.Test.YtcipnkemnepbaaaGreatVLNetC
namespace Go.Proofs.YtcipnkemnepbaaaGreat
open Go.RowKit
set_option linter.unusedVariables false
set_option linter.unusedSimpArgs false

theorem wpList_load_row {P : Program} {w : World} {ops : Array Oper} {rest : List Oper} {o : Oper} {a : Act} {Q : Exit → Act → World → Prop} (hgd : o.guard = none) (ty : TypeId) (x : Operand) (ho : o.op = .load ty x) (b off : Nat) (hx : a.eval x = .pointer (some ⟨b, off, none⟩)) (cs : List Value) (d : TypeDesc)
    (hc : World.rangeAt w b off cs) (hu : P.underlying ty = some d) (hd : TypeDesc.isRow d = true) (hi : (P.info? ty).map (·.size) = some cs.length) (h : wpList P ops Q rest (a.put o.dst (.agg cs.toArray)) w) : wpList P ops Q (o :: rest) a w :=
  wpList_plain hgd fun K hK => by
    unfold Oper.wp execOp
    simp only [ho, hx, Instr.loadAt, Instr.sureAddr, Sem.run_bind, Sem.run_pure, Result.andThen_ok, run_loadVar_mid w b off ty cs d hc hu hd hi]
    exact hK _ _ h
theorem infoGp13 : (Tryz.prog.info? 30).map (·.size) = some 86 := by kernel_rfl

theorem OwnI.set {w : World} {base g cap : Nat} {l : List Int} (h : OwnI w base g cap l) {k : Nat} (hk : k < l.length) (v : Int) : OwnI (w.setCell ⟨g, k, none⟩ (.int .i64 v)) base g cap (l.set k v) := by
  obtain ⟨h1, cur, h2, h3, h4, h5, h6⟩ := h
  refine ⟨h1, cur.setIfInBounds k (.int .i64 v), heap_setCell_same h2 k _, by simpa using h3, h4, by simpa using h5, ?_⟩
  have e : (cur.setIfInBounds k (.int .i64 v)).toList = cur.toList.set k (.int .i64 v) := by simp
  rw [e, List.length_set, List.take_set, h6]
  simp [intCells, List.map_set]

theorem GrpN.tl {N : Nw} (h : GrpN N) : ∀ i, i ≤ N.As.length → (tupsF (N.ns.take i)).length ≤ 100000 := fun i _ => by
  have h1 := tups_len (N.ns.take i) 5 (fun n hn => by
    have hm := List.mem_of_mem_take hn
    obtain ⟨j, hj, rfl⟩ := List.mem_iff_getElem.1 hm
    have := h.grp.ns j
    simpa [List.getD, hj] using this)
  have h2 : (N.ns.take i).length ≤ 3 := by rw [List.length_take, N.ns_len]; have := h.m3; omega
  have h3 : 5 ^ (N.ns.take i).length ≤ 5 ^ 3 := Nat.pow_le_pow_right (by omega) h2
  have : (5 : Nat) ^ 3 = 125 := by decide
  omega

theorem GrpN.small {N : Nw} (h : GrpN N) : ∀ A ∈ N.As, A.small := h.net.sm
/-- New's answer as one network. -/
theorem NewE.net {k n : Nat} {w w' : World} {e : Ending} (hk : k ≤ 12) (hn : n ≤ 4096) (h : NewE k n w e w') : ∃ Z : Nw, e = .returned (.tuple #[.agg #[.slice Z.aA Z.As.length Z.cA, .slice Z.aO Z.o.length Z.cO], .int .i64 (bareN k n none 0 none 0).err]) ∧ Z.at w' ∧ Same w w' ∧ (∀ A ∈ Z.As, A.small) ∧ (∀ A ∈ Z.As, 0 ≤ A.n ∧ A.n ≤ 4096) ∧ Z.As.length ≤ 12 ∧ Z.o.length ≤ 12 ∧
    (((bareN k n none 0 none 0).err = 0 ∧ Z.As.length = k ∧ Z.o = natI (List.range k)) ∨ ((bareN k n none 0 none 0).err ≠ 0 ∧ Z.As.length = 0 ∧ Z.o.length = 0)) := by
  rcases h with ⟨h0, rfl, hs⟩ | ⟨h0, aA, cA, aO, cO, rfl, hat, hs⟩
  · refine ⟨⟨[], [], none, 0, none, 0⟩, rfl, ?_, hs, fun A hA => by simp at hA, fun A hA => by simp at hA, by simp, by simp, Or.inr ⟨h0, rfl, rfl⟩⟩
    exact (show Nw.ty ⟨[], [], none, 0, none, 0⟩ w' from ⟨SliceAt.nil _ _ _, SliceAt.nil _ _ _, fun A hA => by simp at hA⟩).at
  · have e1 : (bareN k n aA cA aO cO).As.length = k := List.length_replicate
    have e2 : (bareN k n aA cA aO cO).o.length = k := by simp [bareN, natI]
    refine ⟨bareN k n aA cA aO cO, by rw [e1, e2, h0]; rfl, hat, hs, fun A hA => ?_, fun A hA => ?_, by omega, by omega, Or.inl ⟨h0, e1, rfl⟩⟩
    · rw [List.eq_of_mem_replicate hA]; exact ⟨by simp [bareA], by simp [bareA], by simp [bareA]⟩
    · rw [List.eq_of_mem_replicate hA]; exact ⟨by simp [bareA], by simp only [bareA]; omega⟩
theorem row8 {W : World} {b : Nat} {T : TypeId} (h : W.heap[b]? = some (.cells #[.int .i64 0, .int .i64 1, .int .i64 2, .int .i64 3, .int .i64 4, .int .i64 5, .int .i64 6, .int .i64 7] T (0, 0))) {j : Nat} (hj : j < 8) : RowAt W (.slice (some ⟨b, 0, none⟩) j 8) j (intCells (natI (List.range j))) := by
  have hl : (intCells (natI (List.range j))).length = j := by simp [natI, intCells]
  refine SliceAt.row (T := T) ⟨by rw [hl, Nat.mul_one], some ⟨b, 0, none⟩, 8, rfl, by omega, by unfold maxLen; omega, by simp, fun _ => ⟨b, 0, _, rfl, h, ?_⟩⟩
  have : j = 0 ∨ j = 1 ∨ j = 2 ∨ j = 3 ∨ j = 4 ∨ j = 5 ∨ j = 6 ∨ j = 7 := by omega
  rcases this with rfl | rfl | rfl | rfl | rfl | rfl | rfl | rfl <;> rfl
theorem check_bare (j n : Nat) (hj : j ≤ 12) (hn : n ≤ 4096) (a : Option Addr) (c : Nat) (g : Nat) (W : World) (hA : AusAt W a c (List.replicate j (bareA n))) (hR : RowAt W (.slice (some ⟨g, 0, none⟩) j 8) j (intCells (natI (List.range j)))) :
    Calls Tryz.prog 11 #[.agg #[.slice a j c, .slice (some ⟨g, 0, none⟩) j 8]] W fun e w' => e = .returned (.int .i64 (bareN j n none 0 none 0).err) ∧ Same W w' := by
  have e1 : (bareN j n a c (some ⟨g, 0, none⟩) 8).As.length = j := List.length_replicate
  have e2 : (bareN j n a c (some ⟨g, 0, none⟩) 8).o.length = j := by simp [bareN, natI]
  have LC := lcheck13 (bareN j n a c (some ⟨g, 0, none⟩) 8) W ⟨hA, by rw [e2]; exact hR⟩ (fun A hA => by
      rw [List.eq_of_mem_replicate hA]; exact ⟨by simp [bareA], by simp [bareA], by simp [bareA]⟩) (by rw [e1]; omega) (by rw [e2]; omega) (fun A hA => by
      rw [List.eq_of_mem_replicate hA]; exact ⟨by simp [bareA], by simp only [bareA]; omega⟩)
  rw [e1, e2] at LC
  exact LC
/-- What the law asks of a network's number of bits. -/
theorem chk_all {N : Nw} (h : N.err = 0) : N.all = sumB N.bs (List.range N.As.length) := by
  unfold Nw.err at h
  split at h
  · next h1 => exact absurd h h1
  · next h1 =>
    split at h
    · next h2 => exact absurd h h2
    · next h2 => exact (NwOk.of (by simpa using h1) (by simpa using h2)).all_range

set_option maxRecDepth 100000 in
set_option maxHeartbeats 16000000 in
theorem nchecks_any (B : List Nat) (h86 : B.length = 86) (hB : ∀ y ∈ B, y < 256) (Y : List Int) (aY : Option Addr) (cY : Nat) (b0 b1 : Nat) (hb0 : b0 < 256) (hb1 : b1 < 256) (w : World) (hY : RowAt w (.slice aY Y.length cY) Y.length (intCells Y)) :
    Calls Tryz.prog 3 #[.agg (bytC B).toArray, .slice aY Y.length cY, .agg #[.int .u8 b0, .int .u8 b1]] w fun e w' => e = .returned (.bool true) ∧ Same w w' := by
  obtain ⟨v3, hv3, hv3z, hv3s, hv3b⟩ := info_parts infoAu13
  have KN := fun W => known13_any W
  have MK := fun W => Make13_any B h86 hB 3 (by omega) W
  obtain ⟨cs, hcs⟩ : ∃ cs, cs = (bytC B).toArray := ⟨_, rfl⟩
  have hsz : cs.size = 86 := by rw [hcs]; simp [bytC, h86]
  rw [← hcs] at MK ⊢
  clear hB
  obtain ⟨qY, hqY⟩ : ∃ q, q = Y.length := ⟨_, rfl⟩
  rw [← hqY] at hY ⊢
  have hqY9 : qY ≤ maxLen := by obtain ⟨_, a9, c9, he9, h8, h9, _⟩ := hY; omega
  unfold maxLen at hqY9
  replace KN := Lib.hid KN; replace MK := Lib.hid MK; replace hsz := Lib.hid hsz; replace hcs := Lib.hid hcs; replace hY := Lib.hid hY; replace hqY := Lib.hid hqY
  go_enter Tryz.func3, Tryz.ntmps3
  go_upto_region 1 with fail
  have kg := heap_old (heap_new w (.cells cs 30)) (.cells #[.int .u8 b0, .int .u8 b1] 32)
  have kl := heap_new (w.alloc (.cells cs 30)) (.cells #[.int .u8 b0, .int .u8 b1] 32)
  rw [← al1] at kl
  have s0 : Same w ((w.alloc (.cells cs 30)).alloc (.cells #[.int .u8 b0, .int .u8 b1] 32)) := fs2
  generalize (w.alloc (.cells cs 30)).alloc (.cells #[.int .u8 b0, .int .u8 b1] 32) = W0 at *
  obtain ⟨bg, hbg⟩ : ∃ b, b = w.heap.size := ⟨_, rfl⟩
  rw [← hbg] at kg kl ⊢
  obtain ⟨bl, hbl⟩ : ∃ b, b = bg + 1 := ⟨_, rfl⟩
  rw [← hbl] at kl ⊢
  clear hbg hbl
  replace kg := Lib.hid kg; replace kl := Lib.hid kl; replace s0 := Lib.hid s0
  go_wp2_with fail
  refine (KN.out _).mono ?_
  rintro e w1 ⟨rfl, s1⟩
  replace kg := Lib.hid (s1.at kg.out id)
  replace kl := Lib.hid (s1.at kl.out id)
  have hs1 := s0.out.same s1
  clear s1 s0
  replace hs1 := Lib.hid hs1
  by_cases h8 : 5 < qY
  · have h8i : (5 : Int) < qY := by omega
    go_wp2_with fail
    refine (KN.out _).mono ?_
    rintro e w2 ⟨rfl, s2⟩
    have hs2 := hs1.out.same s2
    clear s2
    replace hs2 := Lib.hid hs2
    go_wp2_with fail
    go_ret
    exact ⟨rfl, hs2.out⟩
  have h8i : ((5 : Int) < qY) = False := by simp; omega
  go_upto_region 3 with fail
  clear h8i
  refine wp_region_lit ?_
  refine wpList_load_row rfl 30 (.tmp 3) rfl bg 0 rfl cs.toList _ (by have := range_row kg.out 0 86; rw [List.drop_zero, List.take_of_length_le (by simp [hsz.out])] at this; exact this) Tryz.underlying30 rfl (by rw [infoGp13]; simp [hsz.out]) ?_
  (try simp only [Act.put, List.setIfInBounds_toArray, List.set_cons_zero, List.set_cons_succ])
  refine wpList_step (fun K hK => ?_)
  go_simp
  refine (MK.out _).mono ?_
  rintro e w2 ⟨N, rfl, hat, hmd, s2⟩
  have hG := hmd.grp (by omega)
  replace kl := Lib.hid (s2.at kl.out id)
  have hsx := hs1.out.same s2
  have hY2 := hY.out.same hsx
  clear s2 hs1 MK hmd kg hY
  refine hK _ _ ?_
  clear hK
  unfold Nw.v
  (try simp only [Act.put, List.setIfInBounds_toArray, List.set_cons_zero, List.set_cons_succ])
  have OK := hG.net
  have h9 : N.all ≤ 9 := hG.grp.all
  have hm3 := hG.m3
  have hn4 : ∀ A ∈ N.As, 0 ≤ A.n ∧ A.n ≤ 4096 := fun A hA => ⟨(OK.ok.au A hA).n0, (OK.ok.au A hA).n4⟩
  have AL := fun W (hW : Same w2 W) => lall13 N W (hat.same hW) hn4 (by have := OK.ok.m12; omega)
  rw [← OK.ok.all_range] at AL
  have BT := fun W (hW : Same w2 W) => Bits_any N W (hat.same hW) hG.small (by omega) (by have := OK.ok.len; unfold Nw.on at this; simp at this; omega)
  have herr : N.err = 0 := OK.err
  rw [herr] at BT
  simp only [if_pos] at BT
  obtain ⟨X, hX⟩ : ∃ X : Nw, X = ⟨N.As, Y, N.aA, N.cA, aY, cY⟩ := ⟨_, rfl⟩
  have hXat : X.at w2 := by rw [hX]; exact ⟨hat.au, by rw [← hqY.out]; exact hY2⟩
  have hXl : X.As.length = N.As.length := by rw [hX]
  have hXo : X.o.length = qY := by rw [hX]; exact hqY.out.symm
  have hXv : X.aA = N.aA ∧ X.cA = N.cA ∧ X.aO = aY ∧ X.cO = cY := by rw [hX]; exact ⟨rfl, rfl, rfl, rfl⟩
  have hXz : ∀ A ∈ X.As, A.small := by rw [hX]; exact hG.small
  have hXn : ∀ A ∈ X.As, 0 ≤ A.n ∧ A.n ≤ 4096 := by rw [hX]; exact hn4
  clear hX
  have hl9 : N.As.length ≤ 3 := hm3
  generalize N.all = n0 at *
  clear OK hat hG hn4 herr hY2
  obtain ⟨aA, hAA⟩ : ∃ q, q = N.aA := ⟨_, rfl⟩
  obtain ⟨cA, hCA⟩ : ∃ q, q = N.cA := ⟨_, rfl⟩
  obtain ⟨m, hmm⟩ : ∃ q, q = N.As.length := ⟨_, rfl⟩
  simp only [← hAA, ← hCA, ← hmm] at AL BT hXl hXv hl9 ⊢
  clear hAA hCA hmm hm3
  generalize N.o.length = qo at *
  generalize N.aO = aO at *
  generalize N.cO = cO at *
  replace AL := Lib.hid AL; replace BT := Lib.hid BT; replace hXat := Lib.hid hXat; replace hXl := Lib.hid hXl; replace hXo := Lib.hid hXo; replace hXv := Lib.hid hXv; replace hXz := Lib.hid hXz; replace hXn := Lib.hid hXn; replace hsx := Lib.hid hsx
  go_upto_region 4 with fail
  have kn := heap_new w2 (.cells #[.slice aA m cA, .slice aO qo cO] 36)
  have hs : Same w2 (w2.alloc (.cells #[.slice aA m cA, .slice aO qo cO] 36)) := fs2
  generalize w2.alloc (.cells #[.slice aA m cA, .slice aO qo cO] 36) = WA at *
  generalize w2.heap.size = bn at *
  replace kl := Lib.hid (hs.at kl.out id)
  replace kn := Lib.hid kn; replace hs := Lib.hid hs
  have x0 := cell_at kn.out 0
  have x1 := cell_at kn.out 1
  have xl := lt_of_heap kn.out
  go_wp2_with fail
  refine (BT.out _ hs.out).mono ?_
  rintro e w3 ⟨rfl, sP⟩
  clear x0 x1 xl
  replace kn := Lib.hid (sP.at kn.out id)
  replace kl := Lib.hid (sP.at kl.out id)
  replace hs := Lib.hid (hs.out.same sP)
  clear sP
  have x0 := cell_at kn.out 0
  have x1 := cell_at kn.out 1
  have xl := lt_of_heap kn.out
  go_wp2_with fail
  refine (AL.out _ hs.out).mono ?_
  rintro e w4 ⟨rfl, sP⟩
  clear x0 x1 xl
  replace kn := Lib.hid (sP.at kn.out id)
  replace kl := Lib.hid (sP.at kl.out id)
  replace hs := Lib.hid (hs.out.same sP)
  clear sP
  have x0 := cell_at kn.out 0
  have x1 := cell_at kn.out 1
  have xl := lt_of_heap kn.out
  go_upto_region 8 with fail
  have km := heap_new w4 (.cells #[.slice aA m cA, .slice aY qY cY] 36)
  have sP : Same w4 (w4.alloc (.cells #[.slice aA m cA, .slice aY qY cY] 36)) := fs2
  generalize w4.alloc (.cells #[.slice aA m cA, .slice aY qY cY] 36) = W4 at *
  generalize w4.heap.size = bm at *
  clear x0 x1 xl
  replace kl := Lib.hid (sP.at kl.out id)
  replace hs := Lib.hid (hs.out.same sP)
  clear sP kn
  replace km := Lib.hid km
  have x0 := cell_at kl.out 0
  have x1 := cell_at kl.out 1
  have xl := lt_of_heap kl.out
  obtain ⟨k8, hk8⟩ : ∃ k, k = b0 % 8 := ⟨_, rfl⟩
  have hk8l : k8 < 8 := by omega
  have e1 : ((b0 : Nat) : Int).tmod 8 = (k8 : Int) := by rw [Int.tmod_eq_emod_of_nonneg (by omega)]; omega
  have e2 : IntKind.u8.wrap (k8 : Int) = k8 := by unfold IntKind.wrap; simp [IntKind.bits, IntKind.signed]; omega
  obtain ⟨n1, hn1⟩ : ∃ n, n = 1 + b1 % 40 := ⟨_, rfl⟩
  have hn1l : n1 ≤ 40 := by omega
  obtain ⟨r1, hr1⟩ : ∃ r, r = b1 % 40 := ⟨_, rfl⟩
  have e3 : ((b1 : Nat) : Int).tmod 40 = (r1 : Int) := by rw [Int.tmod_eq_emod_of_nonneg (by omega)]; omega
  have e4 : IntKind.i64.wrap (b1 : Int) = b1 := IntWalk.i64_in _ (by omega)
  have e5 : IntKind.i64.wrap (r1 : Int) = r1 := IntWalk.i64_in _ (by omega)
  have e6 : IntKind.i64.wrap (1 + (r1 : Int)) = (n1 : Int) := by rw [IntWalk.i64_in _ (by omega)]; omega
  clear hk8 hn1 hr1
  go_wp2_with fail
  go_loopw [11, 50] (fun l i wr => ∃ (j c : Nat) (a : Option Addr), i = .int .u8 j ∧ j ≤ k8 ∧ l = .slice a j c ∧ wr.ownsRow W4.heap.size 44 4 (.slice a j c) j (auCells (List.replicate j (bareA n1))) ∧ Same W4 wr) (fun _ i _ => k8 - (intOf i).toNat)
  case atStart => exact ⟨0, 0, none, rfl, by omega, rfl, World.ownsRow_nil _ _ _ _, Fr.refl _ _⟩
  case round =>
    obtain ⟨j, c, a, rfl, hj, rfl, ho, hf⟩ := hrel
    by_cases hjk : j < k8
    · replace kl := Lib.hid (hf.at kl.out id)
      clear x0 x1 xl
      replace ho := Lib.hid ho; replace hf := Lib.hid hf
      have x0 := cell_at kl.out 0
      have x1 := cell_at kl.out 1
      have xl := lt_of_heap kl.out
      have hz4 : W4.heap.size ≤ wr.heap.size := hf.out.size
      go_wp2_with (at_builtin; refine wpList_append1 rfl (.tmp 52) (.tmp 59) 34 rfl W4.heap.size 44 v3 (.agg #[.slice none 0 0, .int .i64 0, .slice none 0 0, .slice none 0 0]) 4 80 Tryz.underlying34 hv3 hv3z hv3s hv3b rfl (by decide) (by decide) a j c (auCells (List.replicate j (bareA n1))) rfl (owns_same ho.out fs2) (by omega) wr.heap.size [.slice none 0 0, .int .i64 n1, .slice none 0 0, .slice none 0 0] rfl rfl (heap_new _ _) (by simp [Value.oneCell']) (by simp; omega) ?_; intro a5 c5 w5 ho5 hG5)
      have hA5 : auCells (List.replicate (j + 1) (bareA n1)) = auCells (List.replicate j (bareA n1)) ++ [.slice none 0 0, .int .i64 n1, .slice none 0 0, .slice none 0 0] := by rw [List.replicate_succ', auCells_append]; rfl
      have hs5 : Same W4 w5 := grew_fresh (hf.out.same fs2) hG5 (fun k hk => (ho.out.lt k hk).1)
      exact ⟨⟨j + 1, c5, a5, by simp, by omega, rfl, by rw [hA5]; exact ho5, hs5⟩, by simp [intOf]; omega⟩
    · obtain rfl : j = k8 := by omega
      have hAu : AusAt wr a c (List.replicate j (bareA n1)) := aus_of List.length_replicate (SliceAt.of_owns ho) (fun A hA => by rw [List.eq_of_mem_replicate hA]; exact (bareA_ty n1 wr).at)
      replace km := Lib.hid (hf.at km.out id)
      replace hs := Lib.hid (hs.out.same hf)
      clear hf ho e1 e2 e3 e4 e5 e6
      clear x0 x1 xl
      replace hAu := Lib.hid hAu
      go_wp2_with fail
      refine (New_bare j n1 (by omega) (by omega) a c wr hAu.out).mono ?_
      intro e w6 hNw
      obtain ⟨Z, rfl, hZat, sP, hZz, hZn, hZl, hZo, hZc⟩ := hNw.net (by omega) (by omega)
      generalize hEr : (bareN j n1 none 0 none 0).err = er at *
      replace km := Lib.hid (sP.at km.out id)
      have hAu6 := hAu.out.same sP
      replace hs := Lib.hid (hs.out.same sP)
      clear sP hNw hAu
      obtain ⟨zA, hzA⟩ : ∃ q, q = Z.As.length := ⟨_, rfl⟩
      obtain ⟨zO, hzO⟩ : ∃ q, q = Z.o.length := ⟨_, rfl⟩
      rw [← hzA, ← hzO]
      replace hZat := Lib.hid hZat; replace hZz := Lib.hid hZz; replace hZn := Lib.hid hZn; replace hZl := Lib.hid hZl; replace hZo := Lib.hid hZo; replace hZc := Lib.hid hZc; replace hAu6 := Lib.hid hAu6; replace hzA := Lib.hid hzA; replace hzO := Lib.hid hzO
      go_upto_region 14 with fail
      have kz := heap_new w6 (.cells #[.slice Z.aA zA Z.cA, .slice Z.aO zO Z.cO] 36)
      have sP : Same w6 (w6.alloc (.cells #[.slice Z.aA zA Z.cA, .slice Z.aO zO Z.cO] 36)) := fs2
      generalize w6.alloc (.cells #[.slice Z.aA zA Z.cA, .slice Z.aO zO Z.cO] 36) = W6 at *
      generalize w6.heap.size = bz at *
      replace km := Lib.hid (sP.at km.out id)
      replace hs := Lib.hid (hs.out.same sP)
      replace hZat := Lib.hid (hZat.out.same sP)
      replace hAu6 := Lib.hid (hAu6.out.same sP)
      clear sP
      replace kz := Lib.hid kz; replace hEr := Lib.hid hEr
      have x0 := cell_at km.out 0
      have x1 := cell_at km.out 1
      have xl := lt_of_heap km.out
      have y0 := cell_at kz.out 0
      have y1 := cell_at kz.out 1
      have yl := lt_of_heap kz.out
      go_upto_region 15 with fail
      have kw := heap_new W6 (.cells #[.slice aA m cA, .slice aY qY cY, .slice Z.aA zA Z.cA, .slice Z.aO zO Z.cO] 36)
      have sP : Same W6 (W6.alloc (.cells #[.slice aA m cA, .slice aY qY cY, .slice Z.aA zA Z.cA, .slice Z.aO zO Z.cO] 36)) := fs2
      generalize W6.alloc (.cells #[.slice aA m cA, .slice aY qY cY, .slice Z.aA zA Z.cA, .slice Z.aO zO Z.cO] 36) = W7 at *
      generalize W6.heap.size = bw at *
      clear x0 x1 xl
      clear y0 y1 yl
      replace kz := Lib.hid (sP.at kz.out id)
      replace hs := Lib.hid (hs.out.same sP)
      replace hZat := Lib.hid (hZat.out.same sP)
      replace hAu6 := Lib.hid (hAu6.out.same sP)
      clear sP km
      replace kw := Lib.hid kw
      go_loopw [71] (fun i wr => ∃ t : Nat, i = .int .i64 t ∧ t ≤ 2 ∧ Same W7 wr) (fun i _ => 2 - (intOf i).toNat)
      case atStart => exact ⟨0, rfl, by omega, Fr.refl _ _⟩
      case round =>
        obtain ⟨t, rfl, ht, hf⟩ := hrel
        by_cases ht2 : t < 2
        · have hsf := hs.out.same hf
          have hM : ∃ M : Nw, wr.cell? ⟨bw, t * 2, none⟩ = some (.slice M.aA M.As.length M.cA) ∧ wr.cell? ⟨bw, t * 2 + 1, none⟩ = some (.slice M.aO M.o.length M.cO) ∧ M.at wr ∧ (∀ A ∈ M.As, A.small) ∧ (∀ A ∈ M.As, 0 ≤ A.n ∧ A.n ≤ 4096) ∧ M.As.length ≤ 1000 ∧ M.o.length ≤ 1000 := by
            have k' := hf.at kw.out id
            have ev := hXv.out
            rcases (show t = 0 ∨ t = 1 by omega) with rfl | rfl
            · exact ⟨X, by rw [ev.1, ev.2.1, hXl.out]; exact cell_at k' 0, by rw [ev.2.2.1, ev.2.2.2, hXo.out]; exact cell_at k' 1, hXat.out.same hsf, hXz.out, hXn.out, by rw [hXl.out]; omega, by rw [hXo.out]; omega⟩
            · exact ⟨Z, by rw [← hzA.out]; exact cell_at k' 2, by rw [← hzO.out]; exact cell_at k' 3, hZat.out.same hf, hZz.out, hZn.out, by have := hZl.out; omega, by have := hZo.out; omega⟩
          obtain ⟨M, m0, m1, hMat, hMz, hMn, hMl, hMo⟩ := hM
          have CK := fun W (hW : Same wr W) => Check_any M W (hMat.same hW) hMz hMl hMo
          have BK := fun W (hW : Same wr W) => Bits_any M W (hMat.same hW) hMz hMl hMo
          have LK := fun W (hW : Same wr W) => lcheck13 M W (hMat.same hW) hMz hMl hMo hMn
          have AK := fun W (hW : Same wr W) => lall13 M W (hMat.same hW) hMn hMl
          have hall : M.err = 0 → sumB M.bs (List.range M.As.length) = M.all := fun h => (chk_all h).symm
          generalize sumB M.bs (List.range M.As.length) = al at *
          generalize M.all = al2 at *
          clear hMat hMz hMn hMl hMo hsf
          generalize M.err = er1 at *
          generalize M.aA = mA at *
          generalize M.cA = mcA at *
          generalize M.aO = mO at *
          generalize M.cO = mcO at *
          generalize M.As.length = mk at *
          generalize M.o.length = mq at *
          have kl' := lt_of_heap (hf.at kw.out id)
          obtain ⟨R, hR⟩ : ∃ R, R = (if er1 = 0 then al2 else 0) := ⟨_, rfl⟩
          rw [← hR] at BK
          replace CK := Lib.hid CK; replace BK := Lib.hid BK; replace LK := Lib.hid LK; replace AK := Lib.hid AK; replace hall := Lib.hid hall; replace hf := Lib.hid hf; replace hR := Lib.hid hR
          go_upto_region 17 with fail
          have kx := heap_new wr (.cells #[.slice mA mk mcA, .slice mO mq mcO] 36)
          have hr : Same wr (wr.alloc (.cells #[.slice mA mk mcA, .slice mO mq mcO] 36)) := fs2
          generalize wr.alloc (.cells #[.slice mA mk mcA, .slice mO mq mcO] 36) = V0 at *
          generalize wr.heap.size = bx at *
          clear m0 m1 kl'
          replace kx := Lib.hid kx; replace hr := Lib.hid hr
          have y0 := cell_at kx.out 0
          have y1 := cell_at kx.out 1
          have yl := lt_of_heap kx.out
          go_wp2_with fail
          refine (LK.out _ hr.out).mono ?_
          rintro e V1 ⟨rfl, sP⟩
          clear y0 y1 yl
          replace kx := Lib.hid (sP.at kx.out id)
          replace hr := Lib.hid (hr.out.same sP)
          clear sP
          have y0 := cell_at kx.out 0
          have y1 := cell_at kx.out 1
          have yl := lt_of_heap kx.out
          go_wp2_with fail
          refine (BK.out _ hr.out).mono ?_
          rintro e V2 ⟨rfl, sP⟩
          clear y0 y1 yl
          replace kx := Lib.hid (sP.at kx.out id)
          replace hr := Lib.hid (hr.out.same sP)
          clear sP
          have y0 := cell_at kx.out 0
          have y1 := cell_at kx.out 1
          have yl := lt_of_heap kx.out
          go_wp2_with fail
          refine (CK.out _ hr.out).mono ?_
          rintro e V3 ⟨rfl, sP⟩
          clear y0 y1 yl
          replace kx := Lib.hid (sP.at kx.out id)
          replace hr := Lib.hid (hr.out.same sP)
          clear sP
          have y0 := cell_at kx.out 0
          have y1 := cell_at kx.out 1
          have yl := lt_of_heap kx.out
          have hrs := hf.out.same hr.out
          by_cases h0 : er1 = 0
          · subst h0
            have hRa : R = al2 := by rw [hR.out, if_pos rfl]
            subst hRa
            have hal := hall.out rfl
            subst hal
            clear hR hall
            replace hrs := Lib.hid hrs
            go_wp2_with fail
            refine (AK.out _ hr.out).mono ?_
            rintro e V4 ⟨rfl, sP⟩
            clear y0 y1 yl
            replace hrs := Lib.hid (hrs.out.same sP)
            clear sP
            go_wp2_with fail
            go_roundw
            case rel => exact ⟨t + 1, by go_num, by omega, hrs.out⟩
            case measure => simp [intOf]; omega
          · have hRa : R = 0 := by rw [hR.out, if_neg h0]
            subst hRa
            clear hR hall
            have h0' : (er1 == 0) = false := by simpa using h0
            replace hrs := Lib.hid hrs
            go_wp2_with fail
            go_roundw
            case rel => exact ⟨t + 1, by go_num, by omega, hrs.out⟩
            case measure => simp [intOf]; omega
        · obtain rfl : t = 2 := by omega
          replace hs := Lib.hid (hs.out.same hf)
          replace kz := Lib.hid (hf.at kz.out id)
          have hAu7 := hAu6.out.same hf
          have hZat7 := hZat.out.same hf
          clear hf
          replace hAu7 := Lib.hid hAu7; replace hZat7 := Lib.hid hZat7
          go_upto_region 22 with fail
          go_wp2_with fail
          have k8 := heap_new wr (.cells #[.int .i64 0, .int .i64 1, .int .i64 2, .int .i64 3, .int .i64 4, .int .i64 5, .int .i64 6, .int .i64 7] 3)
          have s8 : Same wr (wr.alloc (.cells #[.int .i64 0, .int .i64 1, .int .i64 2, .int .i64 3, .int .i64 4, .int .i64 5, .int .i64 6, .int .i64 7] 3)) := fs2
          refine (check_bare j n1 (by omega) (by omega) a c _ _ (hAu7.out.same s8) (row8 k8 hk8l)).mono ?_
          rintro e V1 ⟨rfl, sP⟩
          have s9 := s8.same sP
          replace kz := Lib.hid (s9.at kz.out id)
          have hZ9 := hZat7.out.same s9
          replace hs := Lib.hid (hs.out.same s9)
          clear sP s8 k8 s9 hAu7 hZat7
          rw [hEr.out]
          replace hZ9 := Lib.hid hZ9
          go_upto_region 23 with fail
          have x0 := cell_at kz.out 0
          have x1 := cell_at kz.out 1
          have xl := lt_of_heap kz.out
          refine wp_region_sched (fun k => k = bz) [0, 0, 0, 0, 0, 0, 0, 0, 1, 0, 0, 1, 0, 0, 0, 0, 0, 0, 0, 0, 0, 1, 0, 0, 0, 0, 0, 0, 0, 1, 2, 0, 0, 0, 3, 0, 0, 0, 0] [0, 1, 2, 3, 4, 5, 6, 7, 10, 8, 9, 11, 12, 13, 14, 15, 16, 17, 18, 19, 20, 23, 24, 21, 22, 25, 26, 27, 28, 31, 32, 29, 30, 33, 34, 35, 36, 37, 38] (by kernel_rfl) (by kernel_rfl) ?_
          rcases hZc.out with ⟨h0, z1, z2⟩ | ⟨h0, z1, z2⟩
          · obtain rfl : zA = j := by rw [hzA.out, z1]
            obtain rfl : zO = zA := by rw [hzO.out, z2]; simp [natI]
            subst h0
            repeat (first | (refine sched_w rfl rfl (fun _ hK => ?_); go_simp; refine hK _ ?_; clear hK) | (refine sched_s rfl rfl (fun _ hK => ?_); go_simp; first | (refine hK _ ?_; clear hK) | (refine ⟨_, fun _ => rfl, hK _ ?_⟩; clear hK)))
            refine sched_g rfl rfl (fun _ hK => ?_); go_simp; refine hK _ _ (Kp.of_same fs3) ?_; clear hK
            (try simp only [Act.put, List.setIfInBounds_toArray, List.set_cons_zero, List.set_cons_succ])
            have p1 : (zO : Int) ≤ 8 := by omega
            have p2 : zO ≤ 8 := by omega
            have p3 : 0 ≤ (zO : Int) := by omega
            repeat (first | (refine sched_w rfl rfl (fun _ hK => ?_); go_simp; refine hK _ ?_; clear hK) | (refine sched_s rfl rfl (fun _ hK => ?_); go_simp; first | (refine hK _ ?_; clear hK) | (refine ⟨_, fun _ => rfl, hK _ ?_⟩; clear hK)))
            have k8 := heap_new V1.drew (.cells #[.int .i64 0, .int .i64 1, .int .i64 2, .int .i64 3, .int .i64 4, .int .i64 5, .int .i64 6, .int .i64 7] 3)
            have s8 : Same V1 (V1.drew.alloc (.cells #[.int .i64 0, .int .i64 1, .int .i64 2, .int .i64 3, .int .i64 4, .int .i64 5, .int .i64 6, .int .i64 7] 3)) := fs3
            have hZr := (hZ9.out.same s8).o
            rw [← hzO.out, z2] at hZr
            have hrl : (natI (List.range zO)).length = zO := by simp [natI]
            refine sched_l rfl (by decide) (fun _ hK => ?_)
            go_simp
            refine (equalI_any _ _ _ _ _ _ _ _ _ hrl hrl hZr (row8 k8 hk8l) (by omega)).mono ?_
            rintro e V2 ⟨rfl, sP⟩
            have hsE := hs.out.same (s8.same sP)
            simp only [decide_true]
            refine hK _ _ ?_; clear hK; try simp only [Act.put, List.setIfInBounds_toArray, List.set_cons_zero, List.set_cons_succ]
            repeat (first | (refine sched_w rfl rfl (fun _ hK => ?_); go_simp; refine hK _ ?_; clear hK) | (refine sched_s rfl rfl (fun _ hK => ?_); go_simp; first | (refine hK _ ?_; clear hK) | (refine ⟨_, fun _ => rfl, hK _ ?_⟩; clear hK)))
            refine sched_nil (NoPanic.normal ?_)
            go_wp2_with fail
            go_ret
            exact ⟨rfl, hsx.out.same hsE⟩
          · obtain rfl : zA = 0 := by rw [hzA.out, z1]
            obtain rfl : zO = 0 := by rw [hzO.out, z2]
            have h0' : (er == 0) = false := by simpa using h0
            have w00 : IntKind.i64.wrap 0 = 0 := by decide
            repeat (first | (refine sched_w rfl rfl (fun _ hK => ?_); go_simp; refine hK _ ?_; clear hK) | (refine sched_s rfl rfl (fun _ hK => ?_); go_simp; first | (refine hK _ ?_; clear hK) | (refine ⟨_, fun _ => rfl, hK _ ?_⟩; clear hK)))
            refine sched_g rfl rfl (fun _ hK => ?_); go_simp; refine hK _ _ (Kp.of_same fs3) ?_; clear hK
            (try simp only [Act.put, List.setIfInBounds_toArray, List.set_cons_zero, List.set_cons_succ])
            repeat (first | (refine sched_w rfl rfl (fun _ hK => ?_); go_simp; refine hK _ ?_; clear hK) | (refine sched_s rfl rfl (fun _ hK => ?_); go_simp; first | (refine hK _ ?_; clear hK) | (refine ⟨_, fun _ => rfl, hK _ ?_⟩; clear hK)))
            refine sched_l rfl (by decide) (fun _ hK => ?_); go_simp
            refine hK _ _ ?_; clear hK; try simp only [Act.put, List.setIfInBounds_toArray, List.set_cons_zero, List.set_cons_succ]
            repeat (first | (refine sched_w rfl rfl (fun _ hK => ?_); go_simp; refine hK _ ?_; clear hK) | (refine sched_s rfl rfl (fun _ hK => ?_); go_simp; first | (refine hK _ ?_; clear hK) | (refine ⟨_, fun _ => rfl, hK _ ?_⟩; clear hK)))
            refine sched_nil (NoPanic.normal ?_)
            go_wp2_with fail
            go_ret
            exact ⟨rfl, (hsx.out.same hs.out).same fs3⟩
theorem nchecks_row (B : List Nat) (h86 : B.length = 86) (hB : ∀ y ∈ B, y < 256) (Y : List Int) (aY : Option Addr) (cY : Nat) (x y : Int) (hx : 0 ≤ x ∧ x ≤ 255) (hy : 0 ≤ y ∧ y ≤ 255) (w : World) (hY : RowAt w (.slice aY Y.length cY) Y.length (intCells Y)) :
    Calls Tryz.prog 3 #[.agg (bytC B).toArray, .slice aY Y.length cY, .agg #[.int .u8 x, .int .u8 y]] w fun e w' => e = .returned (.bool true) ∧ Same w w' := by
  obtain ⟨b0, rfl⟩ : ∃ n : Nat, x = n := ⟨x.toNat, by omega⟩
  obtain ⟨b1, rfl⟩ : ∃ n : Nat, y = n := ⟨y.toNat, by omega⟩
  exact nchecks_any B h86 hB Y aY cY b0 b1 (by omega) (by omega) w hY
end Go.Proofs.YtcipnkemnepbaaaGreat
