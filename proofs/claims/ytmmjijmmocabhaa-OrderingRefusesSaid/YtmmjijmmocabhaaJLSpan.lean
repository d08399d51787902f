/- OrderingSpans walked. -/
import Derived.Test.YtmmjijmmocabhaaJGrpR
import Derived.Test.YtmmjijmmocabhaaJKnwW
import Derived.Test.YtmmjijmmocabhaaJLawK
namespace Go.Proofs.Ytmmjijmmocabhaa
open Go.RowKit
set_option linter.unusedVariables false
set_option linter.unusedSimpArgs false

theorem groups_ord {gs : List (List Int)} {o : List Int} (h : ordErr o.length o ≠ 0) : groupsErr gs o = ordErr o.length o := by unfold groupsErr; rw [if_pos h]
theorem groups_gs {gs : List (List Int)} {o : List Int} (h : ordErr o.length o = 0) : groupsErr gs o = gsErr o.length gs := by unfold groupsErr; rw [if_neg (by simp [h])]
theorem row_max {w : World} {a : Option Addr} {n cap : Nat} {cells : List Value} (h : RowAt w (.slice a n cap) n cells) : n ≤ 9223372036854775807 := by
  obtain ⟨_, a', c', e, h1, h2, _⟩ := h
  cases e; unfold maxLen at h2; omega

/-- make of 65 slices of slices. -/
theorem madeG (m : Nat) : madeCells (Value.slice none 0 0).cells m = (List.replicate m (Value.slice none 0 0)).toArray := by
  rw [← Array.toList_inj]
  exact toList_madeCells_one (Value.slice none 0 0) m
theorem wpList_mkG {P : Program} (w : World) {ops : Array Oper} {rest : List Oper} {o : Oper} {a : Act} {Q : Exit → Act → World → Prop}
    (hg : o.guard = none) (l c : Operand) (t : TypeId) (hop : o.op = Op.makeSlice t l c)
    (e : TypeId) (i : TypeInfo) (h1 : P.underlying t = some (.slice e)) (h2 : P.info? e = some i) (h3 : i.zero = some (.slice none 0 0)) (h4 : i.size = 1) (h5 : i.bytes = 24)
    (n : Nat) (hl : a.eval l = .int .i64 n) (hc : a.eval c = .int .i64 n) (b3 : n ≤ 1000000)
    (hK : wpList P ops Q rest (a.put o.dst (.slice (some ⟨w.heap.size, 0, none⟩) n n)) (w.alloc (.cells (List.replicate n (Value.slice none 0 0)).toArray e))) :
    wpList P ops Q (o :: rest) a w := by
  refine wpList_plain hg fun K hK' => ?_
  have hrun := run_make (P := P) w t e i (.slice none 0 0) h1 h2 h3 .i64 .i64 n n (by omega) (by omega) (by rw [h5]; omega) (by omega)
  have hm : madeCells (Value.slice none 0 0).cells ((n : Int).toNat * i.size) = (List.replicate n (Value.slice none 0 0)).toArray := by
    rw [h4, Int.toNat_natCast, Nat.mul_one]; exact madeG n
  rw [hm] at hrun
  unfold Oper.wp
  simp [execOp, hop, hl, hc, hrun, Result.andThen]
  exact hK' _ _ (by simpa using hK)
theorem info23 : (Try.prog.info? 23).map (fun i => (i.zero, i.size, i.bytes)) = some (some (.slice none 0 0), 1, 24) := by kernel_rfl
def nils (n : Nat) : List Grp := List.replicate n ⟨none, 0, []⟩
theorem nils_at {w : World} {n : Nat} (hn : 0 < n ∧ n ≤ 1000) {T : TypeId} {b : Nat} (h : w.heap[b]? = some (.cells (List.replicate n (Value.slice none 0 0)).toArray T (0, 0))) : GsAt w (.slice (some ⟨b, 0, none⟩) n n) n (nils n) := by
  refine grp_lit (T := T) ?_ (by simp [nils]) hn.2 ?_
  · rw [h]; simp [nils, Grp.v]
  · intro g hg
    obtain rfl : g = ⟨none, 0, []⟩ := by simpa [nils] using (List.mem_replicate.1 hg).2
    exact RowAt.nil _
theorem nils_err {o : List Int} (h : ordErr o.length o = 0) : groupsErr (lst (nils 65)) o = 3 := by
  rw [groups_gs h]
  unfold gsErr
  rw [if_pos (by rw [lst_len]; simp [nils])]

set_option maxRecDepth 100000 in
set_option maxHeartbeats 4000000 in
/-- Too many groups, or elements, or a long order. -/
theorem spans_far (gs : List Grp) (a ao : Option Addr) (cap co k q : Nat) (w : World) (hG : GsAt w (.slice a k cap) k gs) (hq : q ≤ 9223372036854775807) (h : fewF gs = false ∨ (fewF gs = true ∧ 8 < q)) :
    Calls Try.prog 6 #[.slice a k cap, .slice ao q co] w fun e w' => e = .returned (.bool true) ∧ Same w w' := by
  have KN := fun W => known_any W
  have FW := fun W (hW : Same w W) => few_any gs a cap k W (hG.same hW)
  rcases h with hf | ⟨hf, h8⟩
  · rw [hf] at FW
    replace KN := Lib.hid KN; replace FW := Lib.hid FW; replace hG := Lib.hid hG
    go_enter Try.func6, Try.ntmps6
    go_wp2_with fail
    refine (KN.out _).mono ?_
    rintro e w1 ⟨rfl, hs1⟩
    have hs1 : Same w w1 := hs1
    replace hs1 := Lib.hid hs1
    go_wp2_with fail
    refine (FW.out _ hs1.out).mono ?_
    rintro e w2 ⟨rfl, hs2⟩
    have hs2 := hs1.out.same hs2
    replace hs2 := Lib.hid hs2
    go_wp2_with fail
    refine (KN.out _).mono ?_
    rintro e w3 ⟨rfl, hs3⟩
    have hs3 := hs2.out.same hs3
    replace hs3 := Lib.hid hs3
    go_wp2_with fail
    go_ret
    exact ⟨rfl, hs3.out⟩
  · rw [hf] at FW
    have h8' : (8 : Int) < q := by omega
    replace KN := Lib.hid KN; replace FW := Lib.hid FW; replace hG := Lib.hid hG
    go_enter Try.func6, Try.ntmps6
    go_wp2_with fail
    refine (KN.out _).mono ?_
    rintro e w1 ⟨rfl, hs1⟩
    have hs1 : Same w w1 := hs1
    replace hs1 := Lib.hid hs1
    go_wp2_with fail
    refine (FW.out _ hs1.out).mono ?_
    rintro e w2 ⟨rfl, hs2⟩
    have hs2 := hs1.out.same hs2
    replace hs2 := Lib.hid hs2
    go_wp2_with fail
    refine (KN.out _).mono ?_
    rintro e w3 ⟨rfl, hs3⟩
    have hs3 := hs2.out.same hs3
    replace hs3 := Lib.hid hs3
    go_wp2_with fail
    go_ret
    exact ⟨rfl, hs3.out⟩

set_option maxRecDepth 100000 in
set_option maxHeartbeats 8000000 in
theorem spans_near (gs : List Grp) (o : List Int) (a ao : Option Addr) (cap co k q : Nat) (w : World) (hG : GsAt w (.slice a k cap) k gs) (hq : o.length = q) (hO : RowAt w (.slice ao q co) q (intCells o)) (hf : fewF gs = true) (h8 : ¬ 8 < q) :
    Calls Try.prog 6 #[.slice a k cap, .slice ao q co] w fun e w' => e = .returned (.bool true) ∧ Same w w' := by
  have KN := fun W => known_any W
  have FW := fun W (hW : Same w W) => few_any gs a cap k W (hG.same hW)
  rw [hf] at FW
  have h8' : ¬ (8 : Int) < q := by omega
  have SP := fun W (hW : Same w W) => Span_any gs o a ao cap co k q W (hG.same hW) hq (hO.same hW) (by omega)
  have WD := fun W (hW : Same w W) => Width_any gs o a ao cap co k q W (hG.same hW) hq (hO.same hW) (by omega)
  have CK := fun W (hW : Same w W) => lcheck_any o q ao co q W hq (hO.same hW) (by omega)
  have CG := fun W (hW : Same w W) => lcheckGroups_any gs q a cap k W (hG.same hW)
  by_cases he : groupsErr (lst gs) o = 0
  · have he0 : ordErr o.length o = 0 := by
      unfold groupsErr at he
      split at he
      · omega
      · rename_i h; simpa using h
    have hgs := he
    rw [groups_gs he0] at hgs
    obtain ⟨ho, h64, hgr⟩ := groups_zero he
    rw [hq] at ho hgr he0 hgs
    rw [lst_len, hG.len] at h64
    rw [if_pos he, he] at SP WD
    rw [he0] at CK
    rw [hgs] at CG
    have hql := rev_ord ho
    have LSP := fun W (hW : Same w W) => lspan_any ho gs hgr a ao cap co k W h64 (hG.same hW) (hO.same hW)
    have LWD := fun W (hW : Same w W) => lwidth_any ho gs hgr a ao cap co k W h64 (hG.same hW) (hO.same hW)
    have her : groupsErr (lst gs) o.reverse = 0 := rev_groups he
    have SPR := fun W aB cB (hW : Same w W) (hB : RowAt W (.slice aB q cB) q (intCells o.reverse)) => Span_any gs o.reverse a aB cap cB k q W (hG.same hW) (by rw [List.length_reverse]; exact hq) hB (by omega)
    have WDR := fun W aB cB (hW : Same w W) (hB : RowAt W (.slice aB q cB) q (intCells o.reverse)) => Width_any gs o.reverse a aB cap cB k q W (hG.same hW) (by rw [List.length_reverse]; exact hq) hB (by omega)
    have e65 := nils_err (o := o) (by rw [hq]; exact he0)
    have SPN := fun W b (hW : Same w W) (hB : W.heap[b]? = some (.cells (List.replicate 65 (Value.slice none 0 0)).toArray 23 (0, 0))) => Span_any (nils 65) o (some ⟨b, 0, none⟩) ao 65 co 65 q W (nils_at (by omega) hB) hq (hO.same hW) (by omega)
    rw [if_neg (by rw [e65]; simp), e65] at SPN
    rw [if_pos her, her, rev_span ho _ hgr] at SPR
    rw [if_pos her, her, rev_width ho _ hgr] at WDR
    generalize spanF (posA o) (lst gs) = S at *
    generalize widthF (posA o) (lst gs) = D at *
    obtain ⟨i3, hi3, hi3z, hi3s, hi3b⟩ := info_parts info3
    obtain ⟨j3, hj3, hj3z, hj3s, hj3b⟩ := info_parts info23
    replace KN := Lib.hid KN; replace FW := Lib.hid FW; replace hG := Lib.hid hG; replace hO := Lib.hid hO; replace SP := Lib.hid SP; replace WD := Lib.hid WD; replace CK := Lib.hid CK; replace CG := Lib.hid CG; replace LSP := Lib.hid LSP; replace LWD := Lib.hid LWD; replace SPR := Lib.hid SPR; replace WDR := Lib.hid WDR; replace SPN := Lib.hid SPN; replace hq := Lib.hid hq; replace ho := Lib.hid ho; replace hgr := Lib.hid hgr; replace hgs := Lib.hid hgs; replace hql := Lib.hid hql; replace he := Lib.hid he; replace he0 := Lib.hid he0; replace her := Lib.hid her; replace e65 := Lib.hid e65
    go_enter Try.func6, Try.ntmps6
    go_wp2_with fail
    refine (KN.out _).mono ?_
    rintro e w1 ⟨rfl, hs1⟩
    have hs1 : Same w w1 := hs1
    replace hs1 := Lib.hid hs1
    go_wp2_with fail
    refine (FW.out _ hs1.out).mono ?_
    rintro e w2 ⟨rfl, hs2⟩
    have hs2 := hs1.out.same hs2
    replace hs2 := Lib.hid hs2
    go_wp2_with fail
    refine (SP.out _ hs2.out).mono ?_
    rintro e w3 ⟨rfl, hs3⟩
    have hs3 := hs2.out.same hs3
    replace hs3 := Lib.hid hs3
    go_wp2_with fail
    refine (WD.out _ hs3.out).mono ?_
    rintro e w4 ⟨rfl, hs4⟩
    have hs4 := hs3.out.same hs4
    replace hs4 := Lib.hid hs4
    go_wp2_with fail
    refine (CK.out _ hs4.out).mono ?_
    rintro e w5 ⟨rfl, hs5⟩
    have hs5 := hs4.out.same hs5
    replace hs5 := Lib.hid hs5
    go_wp2_with fail
    refine (CG.out _ hs5.out).mono ?_
    rintro e w6 ⟨rfl, hs6⟩
    have hs6 := hs5.out.same hs6
    replace hs6 := Lib.hid hs6
    go_wp2_with fail
    have hwr : IntKind.i64.wrap ((q : Int) - 1) = (q : Int) - 1 := IntWalk.i64_in _ (by omega)
    go_loopw [10, 11] (fun x i wr => ∃ (j c : Nat) (a : Option Addr), i = .int .i64 ((q : Int) - 1 - j) ∧ j ≤ q ∧ x = .slice a j c ∧ wr.ownsRow w.heap.size 3 1 (.slice a j c) j (intCells (o.reverse.take j)) ∧ Same w wr) (fun _ i _ => (intOf i + 1).toNat)
    case atStart => exact ⟨0, 0, none, by simp, by omega, rfl, World.ownsRow_nil _ _ _ _, hs6.out⟩
    case round =>
      clear hs1 hs2 hs3 hs4 hs5 hs6
      obtain ⟨j, c, aB, rfl, hj, rfl, hB, hs⟩ := hrel
      have hws := hs.size
      by_cases hlt : j < q
      · have hkl : q - 1 - j < o.length := by rw [hq.out]; omega
        obtain ⟨bo, off, rfl, hb', c0⟩ := int_cell (hO.out.same hs) (k := q - 1 - j) hkl hq.out
        have hds : o.reverse.take (j + 1) = o.reverse.take j ++ [o[q - 1 - j]] := by
          rw [List.take_succ_eq_append_getElem (by rw [List.length_reverse, hq.out]; exact hlt)]
          simp [hq.out]
        generalize o[q - 1 - j] = x at *
        obtain ⟨m, hm⟩ : ∃ m, m = q - 1 - j := ⟨_, rfl⟩
        rw [← hm] at c0
        have hmi : (q : Int) - 1 - j = m := by omega
        rw [hmi]
        have hmq : m < q := by omega
        have hm0 : (0 : Int) ≤ m := by omega
        have hwr2 : IntKind.i64.wrap ((m : Int) - 1) = (m : Int) - 1 := IntWalk.i64_in _ (by omega)
        replace hB := Lib.hid hB; replace hs := Lib.hid hs; replace hds := Lib.hid hds; replace hm := Lib.hid hm; replace hmi := Lib.hid hmi; replace hwr := Lib.hid hwr
        go_wp2_with (at_builtin; refine wpList_append1 rfl (.tmp 76) (.tmp 81) 23 rfl w.heap.size 3 i3 (.int .i64 0) 1 8 Try.underlying23 hi3 hi3z hi3s hi3b rfl (by decide) (by decide) aB j c (intCells (o.reverse.take j)) rfl (owns_same hB.out (by repeat (first | exact Fr.refl _ _ | apply Fr.alloc | apply Fr.drewN | apply Fr.drew | apply Fr.undrew | apply Fr.undrewN))) (by omega) wr.heap.size [.int .i64 x] rfl rfl (heap_new _ _) (by simp [Value.oneCell']) (by simp; omega) ?_; intro a5 c5 w5 ho5 hG5)
        have hs5 : Same w w5 := grew_fresh (hs.out.same (by repeat (first | exact Fr.refl _ _ | apply Fr.alloc | apply Fr.drewN | apply Fr.drew | apply Fr.undrew | apply Fr.undrewN))) hG5 (fun k hk => (hB.out.lt k hk).1)
        have ho5' : w5.ownsRow w.heap.size 3 1 (.slice a5 (j + 1) c5) (j + 1) (intCells (o.reverse.take (j + 1))) := by
          rw [hds.out]; have := ho5; simpa [intCells] using this
        clear ho5 hG5
        go_roundw
        case rel => exact ⟨j + 1, c5, a5, by have := hmi.out; congr 1; omega, by omega, rfl, ho5', hs5⟩
        case measure => simp [intOf] <;> omega
      · obtain rfl : j = q := by omega
        rw [List.take_of_length_le (by rw [List.length_reverse, hq.out]; exact Nat.le_refl _)] at hB
        have hneg : ¬ (0 : Int) ≤ (j : Int) - 1 - j := by omega
        have hR := (SliceAt.of_owns hB).row
        replace hB := Lib.hid hB; replace hs := Lib.hid hs; replace hR := Lib.hid hR
        go_wp2_with fail
        refine (SPR.out _ _ _ hs.out hR.out).mono ?_
        rintro e w7 ⟨rfl, hs7⟩
        have hR7 := hR.out.same hs7
        have hs7 := hs.out.same hs7
        replace hs7 := Lib.hid hs7; replace hR7 := Lib.hid hR7
        go_wp2_with fail
        refine (WDR.out _ _ _ hs7.out hR7.out).mono ?_
        rintro e w8 ⟨rfl, hs8⟩
        have hs8 := hs7.out.same hs8
        replace hs8 := Lib.hid hs8
        have hs9 : Same w (w8.alloc (.cells (List.replicate 65 (Value.slice none 0 0)).toArray 23)) := hs8.out.alloc _
        have hN := heap_new w8 (.cells (List.replicate 65 (Value.slice none 0 0)).toArray 23)
        replace hs9 := Lib.hid hs9; replace hN := Lib.hid hN
        go_wp2_with (at_make; refine wpList_mkG _ rfl (.const (.int .i64 65)) (.const (.int .i64 65)) 22 rfl 23 j3 Try.underlying22 hj3 hj3z hj3s hj3b 65 rfl rfl (by omega) ?_)
        refine (SPN.out _ _ hs9.out hN.out).mono ?_
        rintro e w10 ⟨rfl, hs10⟩
        have hs10 := hs9.out.same hs10
        replace hs10 := Lib.hid hs10
        go_wp2_with fail
        refine (LSP.out _ hs10.out).mono ?_
        rintro e w11 ⟨rfl, hs11⟩
        have hs11 := hs10.out.same hs11
        replace hs11 := Lib.hid hs11
        go_wp2_with fail
        refine (LWD.out _ hs11.out).mono ?_
        rintro e w12 ⟨rfl, hs12⟩
        have hs12 := hs11.out.same hs12
        replace hs12 := Lib.hid hs12
        go_wp2_with fail
        go_ret
        exact ⟨by simp, hs12.out⟩
  · rw [if_neg he] at SP WD
    by_cases he0 : ordErr o.length o = 0
    · have hgs := groups_gs (gs := lst gs) he0
      rw [hgs] at SP WD he
      rw [hq] at SP WD he he0
      rw [he0] at CK
      generalize gsErr (q : Int) (lst gs) = E at *
      replace KN := Lib.hid KN; replace FW := Lib.hid FW; replace hG := Lib.hid hG; replace hO := Lib.hid hO; replace SP := Lib.hid SP; replace WD := Lib.hid WD; replace CK := Lib.hid CK; replace CG := Lib.hid CG; replace hq := Lib.hid hq; replace hgs := Lib.hid hgs; replace he0 := Lib.hid he0
      go_enter Try.func6, Try.ntmps6
      go_wp2_with fail
      refine (KN.out _).mono ?_
      rintro e w1 ⟨rfl, hs1⟩
      have hs1 : Same w w1 := hs1
      replace hs1 := Lib.hid hs1
      go_wp2_with fail
      refine (FW.out _ hs1.out).mono ?_
      rintro e w2 ⟨rfl, hs2⟩
      have hs2 := hs1.out.same hs2
      replace hs2 := Lib.hid hs2
      go_wp2_with fail
      refine (SP.out _ hs2.out).mono ?_
      rintro e w3 ⟨rfl, hs3⟩
      have hs3 := hs2.out.same hs3
      replace hs3 := Lib.hid hs3
      go_wp2_with fail
      refine (WD.out _ hs3.out).mono ?_
      rintro e w4 ⟨rfl, hs4⟩
      have hs4 := hs3.out.same hs4
      replace hs4 := Lib.hid hs4
      go_wp2_with fail
      refine (CK.out _ hs4.out).mono ?_
      rintro e w5 ⟨rfl, hs5⟩
      have hs5 := hs4.out.same hs5
      replace hs5 := Lib.hid hs5
      go_wp2_with fail
      refine (CG.out _ hs5.out).mono ?_
      rintro e w6 ⟨rfl, hs6⟩
      have hs6 := hs5.out.same hs6
      replace hs6 := Lib.hid hs6
      go_wp2_with fail
      go_ret
      exact ⟨by simp, hs6.out⟩
    · have hgs := groups_ord (gs := lst gs) he0
      rw [hgs] at SP WD he
      rw [hq] at SP WD he he0
      generalize ordErr (q : Int) o = E at *
      replace KN := Lib.hid KN; replace FW := Lib.hid FW; replace hG := Lib.hid hG; replace hO := Lib.hid hO; replace SP := Lib.hid SP; replace WD := Lib.hid WD; replace CK := Lib.hid CK; replace CG := Lib.hid CG; replace hq := Lib.hid hq; replace hgs := Lib.hid hgs
      go_enter Try.func6, Try.ntmps6
      go_wp2_with fail
      refine (KN.out _).mono ?_
      rintro e w1 ⟨rfl, hs1⟩
      have hs1 : Same w w1 := hs1
      replace hs1 := Lib.hid hs1
      go_wp2_with fail
      refine (FW.out _ hs1.out).mono ?_
      rintro e w2 ⟨rfl, hs2⟩
      have hs2 := hs1.out.same hs2
      replace hs2 := Lib.hid hs2
      go_wp2_with fail
      refine (SP.out _ hs2.out).mono ?_
      rintro e w3 ⟨rfl, hs3⟩
      have hs3 := hs2.out.same hs3
      replace hs3 := Lib.hid hs3
      go_wp2_with fail
      refine (WD.out _ hs3.out).mono ?_
      rintro e w4 ⟨rfl, hs4⟩
      have hs4 := hs3.out.same hs4
      replace hs4 := Lib.hid hs4
      go_wp2_with fail
      refine (CK.out _ hs4.out).mono ?_
      rintro e w5 ⟨rfl, hs5⟩
      have hs5 := hs4.out.same hs5
      replace hs5 := Lib.hid hs5
      go_wp2_with fail
      go_ret
      exact ⟨by simp, hs5.out⟩
theorem orderingSpans_any (gs : List Grp) (a : Option Addr) (cap : Nat) (o : List Int) (ao : Option Addr) (co : Nat) (w : World) (hG : GsAt w (.slice a gs.length cap) gs.length gs) (hO : RowAt w (.slice ao o.length co) o.length (intCells o)) :
    Calls Try.prog 6 #[.slice a gs.length cap, .slice ao o.length co] w fun e w' => e = .returned (.bool true) ∧ Same w w' := by
  by_cases hf : fewF gs = true
  · by_cases h8 : 8 < o.length
    · exact spans_far gs a ao cap co _ _ w hG (row_max hO) (.inr ⟨hf, h8⟩)
    · exact spans_near gs o a ao cap co _ _ w hG rfl hO hf h8
  · exact spans_far gs a ao cap co _ _ w hG (row_max hO) (.inl (by simpa using hf))
end Go.Proofs.Ytmmjijmmocabhaa
