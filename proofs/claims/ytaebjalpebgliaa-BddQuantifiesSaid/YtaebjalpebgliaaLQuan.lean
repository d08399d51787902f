/- BddQuantifies: the law's walk. -/
import Derived.Test.YtaebjalpebgliaaQuanW
import Derived.Test.YtaebjalpebgliaaKnown
import Derived.Test.YtaebjalpebgliaaLSame
namespace Go.Proofs.Ytaebjalpebgliaa
open Go.RowKit
set_option linter.unusedVariables false
set_option linter.unusedSimpArgs false

theorem one_abs {w : World} {A : Obj} {P : World → Prop} (h : ∀ W3, (W3.heap[w.heap.size]? = some A ∧ Same w W3) → P W3) : P (w.alloc A) := h _ ⟨heap_new _ _, (Fr.refl _ _).alloc _⟩

/-- What Restrict returns, at any variable. -/
def RAny (n : Nat) (u : Int) (b : Bool) (t : List Bool) (w : World) (e : Ending) (w' : World) : Prop :=
  if u < 0 ∨ (n : Int) ≤ u then DErr w 2 e w' else DRet w n (tableF n [] 0 (oneT (pickB b) n u.toNat t)).1 (tableF n [] 0 (oneT (pickB b) n u.toNat t)).2 e w'

theorem restrict_any (d : Dg) (n : Nat) (t : List Bool) (u : Int) (b : Bool) (w : World) (hn : n ≤ 10) (hat : d.at w) (T : d.tab n t) :
    Calls Try.prog 37 #[d.v, .int .i64 u, .bool b] w (RAny n u b t w) := by
  unfold RAny
  by_cases h : u < 0 ∨ (n : Int) ≤ u
  · simp only [if_pos h]
    exact restrict_bad d n t u b w hat T h
  · simp only [if_neg h]
    obtain ⟨k, rfl⟩ : ∃ k : Nat, u = k := ⟨u.toNat, by omega⟩
    exact restrict_ok d n t k b w hn hat T (by omega)

theorem one_pick (b : Bool) (n u : Nat) (t : List Bool) : oneT (pickB b) n u t = colF (fun j => t.getD (withF n j u b) false) (2 ^ n) := by
  unfold oneT colF
  congr 1
  funext j
  cases b <;> rfl

set_option maxRecDepth 100000 in
set_option maxHeartbeats 8000000 in
theorem bddQuantifies_any (v b : Int) (hv : 0 ≤ v ∧ v ≤ 255) (hb : 0 ≤ b ∧ b ≤ 4294967295) (u : Int) (hu : -9223372036854775808 ≤ u ∧ u ≤ 9223372036854775807) (qs : List Int) (aQ : Option Addr) (capQ : Nat) (w : World) (hQ : RowAt w (.slice aQ qs.length capQ) qs.length (intCells qs)) :
    Calls Try.prog 8 #[.agg #[.int .u8 v, .int .u32 b], .int .i64 u, .slice aQ qs.length capQ] w fun e w' => e = .returned (.bool true) ∧ Same w w' := by
  obtain ⟨n, hn⟩ : ∃ n : Nat, (n : Int) = v % 6 := ⟨(v % 6).toNat, by omega⟩
  have hn5 : n ≤ 5 := by omega
  have hnt : (v % 6).toNat = n := by omega
  obtain ⟨q, hq⟩ : ∃ q, q = qs.length := ⟨_, rfl⟩
  rw [← hq] at hQ ⊢
  replace hQ := Lib.hid hQ; replace hq := Lib.hid hq
  by_cases hlen : 8 < q
  · have hl2 : (8 : Int) < q := by omega
    clear hn hnt
    go_enter Try.func8, Try.ntmps8
    go_wp2_with fail
    refine (known_true _).mono ?_
    rintro e w1 ⟨rfl, hs1⟩
    have hw1 := (show Same w _ from (by repeat (first | exact Fr.refl _ _ | apply Fr.alloc | apply Fr.drewN | apply Fr.drew | apply Fr.undrew | apply Fr.undrewN))).same hs1
    replace hs1 := Lib.hid hs1; replace hw1 := Lib.hid hw1
    go_wp2_with fail
    refine (known_true _).mono ?_
    rintro e w2 ⟨rfl, hs2⟩
    have hw2 := hw1.out.same hs2
    replace hs2 := Lib.hid hs2; replace hw2 := Lib.hid hw2
    go_wp2_with fail
    go_ret
    exact ⟨rfl, hw2.out⟩
  · have hl2 : ¬ (8 : Int) < q := by omega
    have hTAB := fun W => ltable_any v b W hv.1 hv.2 hb.1 hb.2
    rw [hnt] at hTAB
    clear hnt
    obtain ⟨i3, hi3, hi3z, hi3s, hi3b⟩ := info_parts info4
    replace hTAB := Lib.hid hTAB; replace hn := Lib.hid hn; replace hv := Lib.hid hv; replace hb := Lib.hid hb
    go_enter Try.func8, Try.ntmps8
    go_wp2_with fail
    refine (known_true _).mono ?_
    rintro e w1 ⟨rfl, hs1⟩
    have hw1 := (show Same w _ from (by repeat (first | exact Fr.refl _ _ | apply Fr.alloc | apply Fr.drewN | apply Fr.drew | apply Fr.undrew | apply Fr.undrewN))).same hs1
    have kb := hs1.at (heap_new w _) id
    have x0 := cell_at kb 0
    have x1 := cell_at kb 1
    have xb := lt_of_heap kb
    replace hs1 := Lib.hid hs1; replace hw1 := Lib.hid hw1; replace kb := Lib.hid kb
    go_wp2_with fail
    refine (hTAB.out _).mono ?_
    rintro e w2 ⟨t, bT, ht, rfl, hB2, hbT, hs2⟩
    have hw2 := hw1.out.same hs2
    have ht32 : t.length ≤ 32 := by rw [ht]; exact Nat.pow_le_pow_right (by omega) hn5
    have hT2 := (hB2.slice (by omega)).row
    clear x0 x1 xb
    replace hs2 := Lib.hid hs2; replace hw2 := Lib.hid hw2; replace hB2 := Lib.hid hB2; replace hbT := Lib.hid hbT; replace ht := Lib.hid ht; replace hT2 := Lib.hid hT2
    go_wp2_with fail
    refine (ldiagram_row n _ _ t w2 (by omega) ht.out hT2.out).mono ?_
    rintro e w3 ⟨a3, c3, rfl, hO3, hs3⟩
    have hw3 := hw2.out.same hs3
    have T3 := IsTab.of (n := n) (t := t) (by omega) ht.out
    obtain ⟨O, r, hOr⟩ : ∃ O r, tableF n [] 0 t = (O, r) := ⟨_, _, rfl⟩
    rw [hOr] at hO3 T3 ⊢
    simp only at hO3 T3 ⊢
    have hB3 := hB2.out.fr hs3 id
    have hT3 := hT2.out.same hs3
    have hQ3 := hQ.out.same hw3
    replace hs3 := Lib.hid hs3; replace hw3 := Lib.hid hw3; replace hO3 := Lib.hid hO3; replace T3 := Lib.hid T3; replace hOr := Lib.hid hOr; replace hQ3 := Lib.hid hQ3; replace hB3 := Lib.hid hB3; replace hT3 := Lib.hid hT3
    go_wp2_with fail
    go_loopw [10] (fun i wr => ∃ k : Nat, i = .int .i64 k ∧ k ≤ 2 ∧ Same w3 wr ∧ wr.heap[w3.heap.size]? = some (.cells #[.int .i64 n, .slice a3 O.length c3, .int .i64 r] 31 (0, 0))) (fun i _ => 2 - (intOf i).toNat)
    case atStart => exact ⟨0, rfl, by omega, (by repeat (first | exact Fr.refl _ _ | apply Fr.alloc | apply Fr.drewN | apply Fr.drew | apply Fr.undrew | apply Fr.undrewN)), heap_new _ _⟩
    case round =>
      obtain ⟨k, rfl, hk, hs3r, kg⟩ := hrel
      obtain ⟨wo, rfl⟩ : ∃ wo : World, wo = wr := ⟨_, rfl⟩
      have hwr := hw3.out.same hs3r
      have hOr3 := hO3.out.same hs3r
      have hTr := hT3.out.same hs3r
      have hQr := hQ3.out.same hs3r
      have x0 := cell_at kg 0; have x1 := cell_at kg 1; have x2 := cell_at kg 2
      have xb := lt_of_heap kg
      by_cases hlt : k < 2
      · obtain ⟨c, hc⟩ : ∃ c : Bool, c = ((k : Int) == 1) := ⟨_, rfl⟩
        replace hc := Lib.hid hc
        have RES := fun W (hW : Same wo W) => restrict_any ⟨n, a3, c3, O, r⟩ n t u c W (by omega) (hOr3.same hW) ⟨rfl, T3.out⟩
        unfold RAny at RES
        simp only [Dg.v] at RES
        by_cases hr : u < 0 ∨ (n : Int) ≤ u
        · simp only [if_pos hr] at RES
          replace kg := Lib.hid kg; replace hs3r := Lib.hid hs3r; replace hwr := Lib.hid hwr; replace hOr3 := Lib.hid hOr3; replace hTr := Lib.hid hTr; replace hQr := Lib.hid hQr; replace RES := Lib.hid RES
          rcases hr with hr | hr
          · go_wp2_with fail
            rw [← hc.out]
            refine (RES.out _ (by repeat (first | exact Fr.refl _ _ | apply Fr.alloc | apply Fr.drewN | apply Fr.drew | apply Fr.undrew | apply Fr.undrewN))).mono ?_
            rintro e w5 ⟨rfl, hs5⟩
            have h35 : Same w3 w5 := hs3r.out.same ((show Same wo _ from (by repeat (first | exact Fr.refl _ _ | apply Fr.alloc | apply Fr.drewN | apply Fr.drew | apply Fr.undrew | apply Fr.undrewN))).same hs5)
            have kg5 := (show Same wo w5 from (show Same wo _ from (by repeat (first | exact Fr.refl _ _ | apply Fr.alloc | apply Fr.drewN | apply Fr.drew | apply Fr.undrew | apply Fr.undrewN))).same hs5).at kg.out id
            have NO := fun W (hW : Same w5 W) => none_true none 0 W (SliceAt.nil _ _ _)
            clear x0 x1 x2 xb
            replace hs5 := Lib.hid hs5; replace h35 := Lib.hid h35; replace kg5 := Lib.hid kg5; replace NO := Lib.hid NO
            go_wp2_with fail
            refine (NO.out _ (by repeat (first | exact Fr.refl _ _ | apply Fr.alloc | apply Fr.drewN | apply Fr.drew | apply Fr.undrew | apply Fr.undrewN))).mono ?_
            rintro e w6 ⟨rfl, hs6⟩
            have h36 : Same w3 w6 := h35.out.same ((show Same w5 _ from (by repeat (first | exact Fr.refl _ _ | apply Fr.alloc | apply Fr.drewN | apply Fr.drew | apply Fr.undrew | apply Fr.undrewN))).same hs6)
            have kg6 := (show Same w5 w6 from (show Same w5 _ from (by repeat (first | exact Fr.refl _ _ | apply Fr.alloc | apply Fr.drewN | apply Fr.drew | apply Fr.undrew | apply Fr.undrewN))).same hs6).at kg5.out id
            replace hs6 := Lib.hid hs6; replace h36 := Lib.hid h36; replace kg6 := Lib.hid kg6
            go_wp2_with fail
            go_roundw
            case rel => exact ⟨k + 1, by go_num, by omega, h36.out, kg6.out⟩
            case measure => simp [intOf]; omega
          · have hr0 : ¬ u < 0 := by omega
            go_wp2_with fail
            rw [← hc.out]
            refine (RES.out _ (by repeat (first | exact Fr.refl _ _ | apply Fr.alloc | apply Fr.drewN | apply Fr.drew | apply Fr.undrew | apply Fr.undrewN))).mono ?_
            rintro e w5 ⟨rfl, hs5⟩
            have h35 : Same w3 w5 := hs3r.out.same ((show Same wo _ from (by repeat (first | exact Fr.refl _ _ | apply Fr.alloc | apply Fr.drewN | apply Fr.drew | apply Fr.undrew | apply Fr.undrewN))).same hs5)
            have kg5 := (show Same wo w5 from (show Same wo _ from (by repeat (first | exact Fr.refl _ _ | apply Fr.alloc | apply Fr.drewN | apply Fr.drew | apply Fr.undrew | apply Fr.undrewN))).same hs5).at kg.out id
            have NO := fun W (hW : Same w5 W) => none_true none 0 W (SliceAt.nil _ _ _)
            clear x0 x1 x2 xb
            replace hs5 := Lib.hid hs5; replace h35 := Lib.hid h35; replace kg5 := Lib.hid kg5; replace NO := Lib.hid NO
            go_wp2_with fail
            refine (NO.out _ (by repeat (first | exact Fr.refl _ _ | apply Fr.alloc | apply Fr.drewN | apply Fr.drew | apply Fr.undrew | apply Fr.undrewN))).mono ?_
            rintro e w6 ⟨rfl, hs6⟩
            have h36 : Same w3 w6 := h35.out.same ((show Same w5 _ from (by repeat (first | exact Fr.refl _ _ | apply Fr.alloc | apply Fr.drewN | apply Fr.drew | apply Fr.undrew | apply Fr.undrewN))).same hs6)
            have kg6 := (show Same w5 w6 from (show Same w5 _ from (by repeat (first | exact Fr.refl _ _ | apply Fr.alloc | apply Fr.drewN | apply Fr.drew | apply Fr.undrew | apply Fr.undrewN))).same hs6).at kg5.out id
            replace hs6 := Lib.hid hs6; replace h36 := Lib.hid h36; replace kg6 := Lib.hid kg6
            go_wp2_with fail
            go_roundw
            case rel => exact ⟨k + 1, by go_num, by omega, h36.out, kg6.out⟩
            case measure => simp [intOf]; omega
        · simp only [if_neg hr] at RES
          obtain ⟨un, rfl⟩ : ∃ k : Nat, u = k := ⟨u.toNat, by omega⟩
          have hun : un < n := by omega
          have hr1 : ¬ (n : Int) ≤ un := by omega
          have hr2 : ¬ (un : Int) < 0 := by omega
          have hr3 : ¬ n ≤ un := by omega
          have hr4 : un < n := hun
          have e1 : ((un : Int).toNat) = un := rfl
          rw [e1] at RES
          clear hr e1
          have hRl := oneT_length (pickB c) n un t
          have hRc := one_pick c n un t
          rw [← ht.out] at hRl hRc
          have hwl := fun j (hj : j < t.length) => with_lt n j un c (by rw [← ht.out]; exact hj) hun
          rw [← ht.out] at hwl
          have WI := fun j W (hj : j < t.length) => with_any n j un c W hun (by omega) (by rw [← ht.out]; exact hj)
          obtain ⟨R, hR⟩ : ∃ R, R = oneT (pickB c) n un t := ⟨_, rfl⟩
          rw [← hR] at RES hRl hRc
          obtain ⟨O5, r5, hO5r⟩ : ∃ O5 r5, tableF n [] 0 R = (O5, r5) := ⟨_, _, rfl⟩
          rw [hO5r] at RES
          simp only at RES
          have IS := fun W a5 c5 aw cw (h1 : RowAt W (.slice aw R.length cw) R.length (boolCells R)) (h2 : SliceAt W 80 3 (.slice a5 O5.length c5) O5.length (ndCells O5)) => is_row n R a5 aw c5 cw W (by omega) (by rw [hRl, ht.out]) h1 (by rw [hO5r]; exact h2)
          rw [hO5r, hRl] at IS
          simp only at IS
          replace kg := Lib.hid kg; replace hs3r := Lib.hid hs3r; replace hwr := Lib.hid hwr; replace hOr3 := Lib.hid hOr3; replace hTr := Lib.hid hTr; replace hQr := Lib.hid hQr; replace RES := Lib.hid RES; replace hRl := Lib.hid hRl; replace hRc := Lib.hid hRc; replace hwl := Lib.hid hwl; replace WI := Lib.hid WI; replace hR := Lib.hid hR; replace hO5r := Lib.hid hO5r; replace IS := Lib.hid IS; replace hun := Lib.hid hun
          go_wp2_with fail
          rw [← hc.out]
          refine (RES.out _ (by repeat (first | exact Fr.refl _ _ | apply Fr.alloc | apply Fr.drewN | apply Fr.drew | apply Fr.undrew | apply Fr.undrewN))).mono ?_
          rintro e w5 ⟨a5, c5, rfl, hO5, hs5⟩
          have h35 : Same w3 w5 := hs3r.out.same ((show Same wo _ from (by repeat (first | exact Fr.refl _ _ | apply Fr.alloc | apply Fr.drewN | apply Fr.drew | apply Fr.undrew | apply Fr.undrewN))).same hs5)
          have kg5 := (show Same wo w5 from (show Same wo _ from (by repeat (first | exact Fr.refl _ _ | apply Fr.alloc | apply Fr.drewN | apply Fr.drew | apply Fr.undrew | apply Fr.undrewN))).same hs5).at kg.out id
          clear x0 x1 x2 xb
          replace hs5 := Lib.hid hs5; replace h35 := Lib.hid h35; replace kg5 := Lib.hid kg5; replace hO5 := Lib.hid hO5
          go_wp2_with fail
          refine one_abs (fun W6 h6 => ?_)
          obtain ⟨k6, hs6⟩ := h6
          have h36 := h35.out.same hs6
          have kg6 := hs6.at kg5.out id
          have hO6 := hO5.out.same hs6
          have hB6 := hB3.out.fr h36 id
          replace k6 := Lib.hid k6; replace hs6 := Lib.hid hs6; replace h36 := Lib.hid h36; replace kg6 := Lib.hid kg6; replace hO6 := Lib.hid hO6; replace hB6 := Lib.hid hB6
          go_loopw [13, 14] (fun o i wr => ∃ (j : Nat) (aw : Option Addr) (cw : Nat), i = .int .i64 j ∧ o = .slice aw j cw ∧ j ≤ t.length ∧ wr.ownsRow W6.heap.size 4 1 (.slice aw j cw) j (boolCells (colF (fun j => t.getD (withF n j un c) false) j)) ∧ Same W6 wr) (fun _ i _ => t.length - (intOf i).toNat)
          case atStart => exact ⟨0, none, 0, rfl, rfl, by omega, World.ownsRow_nil _ _ _ _, Fr.refl _ _⟩
          case round =>
            obtain ⟨j, aw, cw, rfl, rfl, hj, hown, hsw⟩ := hrel
            by_cases hjl : j < t.length
            · have hBw := hB6.out.fr hsw id
              have hp := hwl.out j hjl
              have WIj := fun W => WI.out j W hjl
              obtain ⟨p, hp'⟩ : ∃ p, p = withF n j un c := ⟨_, rfl⟩
              rw [← hp'] at hp WIj
              have cp := hBw.cell hp
              have lb := hBw.lt
              obtain ⟨y, hy⟩ : ∃ y, y = t[p] := ⟨_, rfl⟩
              rw [← hy] at cp
              have hfy : t.getD (withF n j un c) false = y := by rw [← hp', hy]; simp [List.getD, hp]
              replace hown := Lib.hid hown; replace hsw := Lib.hid hsw; replace hBw := Lib.hid hBw; replace WIj := Lib.hid WIj; replace hp' := Lib.hid hp'; replace hy := Lib.hid hy; replace hfy := Lib.hid hfy
              go_wp2_with fail
              rw [← hc.out]
              refine (WIj.out _).mono ?_
              rintro e w7 ⟨rfl, rfl⟩
              go_wp2_with (at_builtin; refine wpList_append1 rfl (.tmp 69) (.tmp 79) 26 rfl W6.heap.size 4 i3 (.bool false) 1 1 Try.underlying26 hi3 hi3z hi3s hi3b rfl (by decide) (by decide) aw j cw (boolCells (colF (fun j => t.getD (withF n j un c) false) j)) rfl (owns_same hown.out (by repeat (first | exact Fr.refl _ _ | apply Fr.undrew | apply Fr.undrewN | apply Fr.drew | apply Fr.drewN | apply Fr.alloc))) (by omega) wr.heap.size [.bool y] rfl rfl (heap_new_at (by simp) _) (by simp [Value.oneCell']) (by have := hsw.out.size; simp; omega) ?_; intro an cn w8 ho8 hG8; have hs8 : Same W6 w8 := grew_fresh (hsw.out.same (by repeat (first | exact Fr.refl _ _ | apply Fr.undrew | apply Fr.undrewN | apply Fr.drew | apply Fr.drewN | apply Fr.alloc))) hG8 (fun k hk => (hown.out.lt k hk).1); replace ho8 := Lib.hid ho8; replace hs8 := Lib.hid hs8; clear hG8)
              go_roundw
              case rel =>
                refine ⟨j + 1, an, cn, by go_num, rfl, by omega, ?_, hs8.out⟩
                rw [colF_succ, hfy.out]
                simpa [boolCells] using ho8.out
              case measure => simp [intOf]; omega
            · have hjt : j = t.length := by omega
              subst hjt
              rw [← hRc.out] at hown
              have hRow := (SliceAt.of_owns hown).row
              have k7 := hsw.at k6.out id
              have x0 := cell_at k7 0; have x1 := cell_at k7 1; have x2 := cell_at k7 2
              have xb := lt_of_heap k7
              have ISj := IS.out wr a5 c5 aw cw hRow (hO6.out.same hsw)
              have hs37 := h36.out.same hsw
              have kg7 := hsw.at kg6.out id
              replace hown := Lib.hid hown; replace hRow := Lib.hid hRow; replace k7 := Lib.hid k7; replace ISj := Lib.hid ISj; replace hs37 := Lib.hid hs37; replace kg7 := Lib.hid kg7; replace hsw := Lib.hid hsw
              go_wp2_with fail
              refine ISj.out.mono ?_
              rintro e w8 ⟨rfl, hs8⟩
              have h38 := hs37.out.same hs8
              have kg8 := hs8.at kg7.out id
              replace hs8 := Lib.hid hs8; replace h38 := Lib.hid h38; replace kg8 := Lib.hid kg8
              go_wp2_with fail
              go_roundw
              case rel => exact ⟨k + 1, by go_num, by omega, h38.out, kg8.out⟩
              case measure => simp [intOf]; omega
      · have hk2 : k = 2 := by omega
        clear hk2
        obtain ⟨E, hE⟩ : ∃ E, E = renErr n qs q 0 := ⟨_, rfl⟩
        have EX := fun W (hW : Same w3 W) => exists_any ⟨n, a3, c3, O, r⟩ n t qs aQ capQ W (by omega) (hO3.out.same hW) ⟨rfl, T3.out⟩ (by rw [← hq.out]; omega) (by rw [← hq.out]; exact hQ3.out.same hW)
        have FA := fun W (hW : Same w3 W) => forall_any ⟨n, a3, c3, O, r⟩ n t qs aQ capQ W (by omega) (hO3.out.same hW) ⟨rfl, T3.out⟩ (by rw [← hq.out]; omega) (by rw [← hq.out]; exact hQ3.out.same hW)
        rw [← hq.out, ← hE] at EX FA
        simp only [Dg.v] at EX FA
        clear x0 x1 x2 xb
        replace EX := Lib.hid EX; replace FA := Lib.hid FA; replace hE := Lib.hid hE; replace hs3r := Lib.hid hs3r; replace kg := Lib.hid kg; replace hwr := Lib.hid hwr; replace hOr3 := Lib.hid hOr3; replace hTr := Lib.hid hTr; replace hQr := Lib.hid hQr
        go_wp2_with fail
        go_loopw [15, 16] (fun X i wr => ∃ (x : Int) (j : Nat), X = .int .i64 x ∧ i = .int .i64 j ∧ j ≤ q ∧ ((x = 0 ∧ renErr n qs (q - j) j = E) ∨ (x ≠ 0 ∧ x = E)) ∧ Same w3 wr ∧ wr.heap[w3.heap.size]? = some (.cells #[.int .i64 n, .slice a3 O.length c3, .int .i64 r] 31 (0, 0))) (fun _ i _ => q - (intOf i).toNat)
        case atStart => exact ⟨0, 0, rfl, rfl, by omega, .inl ⟨rfl, hE.out.symm⟩, hs3r.out, kg.out⟩
        case round =>
          obtain ⟨x, j, rfl, rfl, hj, hx, hsw4, kg4⟩ := hrel
          have hsw := hw3.out.same hsw4
          rcases hx with ⟨rfl, hrE⟩ | ⟨hx0, rfl⟩
          · by_cases hlt : j < q
            · replace hsw4 := Lib.hid hsw4
              replace hsw := Lib.hid hsw
              replace kg4 := Lib.hid kg4
              rw [hq.out, renErr_at n qs j (by rw [← hq.out]; exact hlt), ← hq.out] at hrE
              obtain ⟨bq, oq, rfl, hbq, hcq⟩ := ints_row (l := qs) (by rw [← hq.out]; exact hQ.out.same hsw.out) (by rw [← hq.out]; omega)
              have ck := hcq j (by rw [← hq.out]; exact hlt)
              have cp : 0 < j → wr.cell? ⟨bq, oq + (j - 1), none⟩ = some (.int .i64 (toF qs (j - 1))) := fun h => hcq (j - 1) (by rw [← hq.out]; omega)
              clear hcq
              obtain ⟨z, hz⟩ : ∃ z, z = toF qs j := ⟨_, rfl⟩
              rw [← hz] at hrE ck
              replace hz := Lib.hid hz
              by_cases c1 : z < 0 ∨ (n : Int) ≤ z
              · rw [if_pos c1] at hrE
                replace hrE := Lib.hid hrE
                clear cp
                rcases c1 with c1 | c1
                · go_wp2_with fail
                  go_roundw
                  case rel => exact ⟨2, j + 1, rfl, by go_num, by omega, .inr ⟨by omega, hrE.out⟩, hsw4.out, kg4.out⟩
                  case measure => simp [intOf]; omega
                · have c2 : ¬ z < 0 := by omega
                  go_wp2_with fail
                  go_roundw
                  case rel => exact ⟨2, j + 1, rfl, by go_num, by omega, .inr ⟨by omega, hrE.out⟩, hsw4.out, kg4.out⟩
                  case measure => simp [intOf]; omega
              · rw [if_neg c1] at hrE
                have c2 : 0 ≤ z := by omega
                have c3 : z < n := by omega
                clear c1
                by_cases c4 : 0 < j
                · have cp' := cp c4
                  obtain ⟨j', rfl⟩ : ∃ j', j = j' + 1 := ⟨j - 1, by omega⟩
                  rw [Nat.add_sub_cancel] at cp'
                  simp only [Nat.add_sub_cancel] at hrE
                  obtain ⟨y, hy⟩ : ∃ y, y = toF qs j' := ⟨_, rfl⟩
                  rw [← hy] at hrE cp'
                  clear cp
                  replace hy := Lib.hid hy
                  have hjl : j' < q := by omega
                  have hwr1 : IntKind.i64.wrap ((j' : Int) + 1 - 1) = (j' : Int) := by rw [Int.add_sub_cancel]; exact IntWalk.i64_in _ (by omega)
                  have hwr2 : IntKind.i64.wrap (j' : Int) = (j' : Int) := IntWalk.i64_in _ (by omega)
                  by_cases c5 : z ≤ y
                  · rw [if_pos ⟨c4, c5⟩] at hrE
                    replace hrE := Lib.hid hrE
                    go_wp2_with fail
                    refine wp_region_sched (fun _ => True) [0, 0, 0, 0, 0, 0, 1, 0, 0, 0, 0, 1, 0, 0] [0, 1, 2, 3, 4, 5, 7, 8, 9, 10, 6, 11, 12, 13] (by kernel_rfl) (by kernel_rfl) ?_
                    repeat (first | (refine sched_w rfl rfl (fun _ hK => ?_); go_simp; refine hK _ ?_; clear hK) | (refine sched_s rfl rfl (fun _ hK => ?_); go_simp; first | (refine hK _ ?_; clear hK) | (refine ⟨_, fun _ => rfl, hK _ ?_⟩; clear hK)))
                    refine sched_nil (NoPanic.normal ?_)
                    go_wp2_with fail
                    go_roundw
                    case rel => exact ⟨5, j' + 1 + 1, rfl, by go_num, by omega, .inr ⟨by omega, hrE.out⟩, hsw4.out.same (by repeat (first | exact Fr.refl _ _ | apply Fr.alloc | apply Fr.drewN | apply Fr.drew | apply Fr.undrew | apply Fr.undrewN)), kg4.out⟩
                    case measure => simp [intOf]; omega
                  · rw [if_neg (fun h => c5 h.2)] at hrE
                    have c6 : y < z := by omega
                    replace hrE := Lib.hid hrE
                    go_wp2_with fail
                    refine wp_region_sched (fun _ => True) [0, 0, 0, 0, 0, 0, 1, 0, 0, 0, 0, 1, 0, 0] [0, 1, 2, 3, 4, 5, 7, 8, 9, 10, 6, 11, 12, 13] (by kernel_rfl) (by kernel_rfl) ?_
                    repeat (first | (refine sched_w rfl rfl (fun _ hK => ?_); go_simp; refine hK _ ?_; clear hK) | (refine sched_s rfl rfl (fun _ hK => ?_); go_simp; first | (refine hK _ ?_; clear hK) | (refine ⟨_, fun _ => rfl, hK _ ?_⟩; clear hK)))
                    refine sched_nil (NoPanic.normal ?_)
                    go_wp2_with fail
                    go_roundw
                    case rel => exact ⟨0, j' + 1 + 1, rfl, by go_num, by omega, .inl ⟨rfl, hrE.out⟩, hsw4.out.same (by repeat (first | exact Fr.refl _ _ | apply Fr.alloc | apply Fr.drewN | apply Fr.drew | apply Fr.undrew | apply Fr.undrewN)), kg4.out⟩
                    case measure => simp [intOf]; omega
                · rw [if_neg (fun h => c4 h.1)] at hrE
                  replace hrE := Lib.hid hrE
                  clear cp
                  go_wp2_with fail
                  refine wp_region_sched (fun _ => True) [0, 0, 0, 0, 0, 0, 1, 0, 0, 0, 0, 1, 0, 0] [0, 1, 2, 3, 4, 5, 7, 8, 9, 10, 6, 11, 12, 13] (by kernel_rfl) (by kernel_rfl) ?_
                  repeat (first | (refine sched_w rfl rfl (fun _ hK => ?_); go_simp; refine hK _ ?_; clear hK) | (refine sched_s rfl rfl (fun _ hK => ?_); go_simp; first | (refine hK _ ?_; clear hK) | (refine ⟨_, fun _ => rfl, hK _ ?_⟩; clear hK)))
                  refine sched_nil (NoPanic.normal ?_)
                  go_wp2_with fail
                  go_roundw
                  case rel => exact ⟨0, j + 1, rfl, by go_num, by omega, .inl ⟨rfl, hrE.out⟩, hsw4.out.same (by repeat (first | exact Fr.refl _ _ | apply Fr.alloc | apply Fr.drewN | apply Fr.drew | apply Fr.undrew | apply Fr.undrewN)), kg4.out⟩
                  case measure => simp [intOf]; omega
            · have hjq : j = q := by omega
              subst hjq
              rw [Nat.sub_self, renErr] at hrE
              subst hrE
              have x0 := cell_at kg4 0; have x1 := cell_at kg4 1; have x2 := cell_at kg4 2
              have xb := lt_of_heap kg4
              replace kg4 := Lib.hid kg4; replace hsw := Lib.hid hsw; replace hsw4 := Lib.hid hsw4
              go_wp2_with fail
              refine (EX.out _ (hsw4.out.same (by repeat (first | exact Fr.refl _ _ | apply Fr.undrew | apply Fr.undrewN | apply Fr.drew | apply Fr.drewN | apply Fr.alloc)))).mono ?_
              rintro e w5 ⟨gm, ga, gL, gc, gr, rfl, hG5, hs5, hbad5, hgood5⟩
              have h35 : Same w3 w5 := (hsw4.out.same (by repeat (first | exact Fr.refl _ _ | apply Fr.undrew | apply Fr.undrewN | apply Fr.drew | apply Fr.drewN | apply Fr.alloc))).same hs5
              have kg5 : w5.heap[w3.heap.size]? = _ := hs5.at kg4.out id
              clear x0 x1 x2 xb
              have x0 := cell_at kg5 0; have x1 := cell_at kg5 1; have x2 := cell_at kg5 2
              have xb := lt_of_heap kg5
              replace hG5 := Lib.hid hG5; replace hs5 := Lib.hid hs5; replace h35 := Lib.hid h35; replace kg5 := Lib.hid kg5; replace hbad5 := Lib.hid hbad5; replace hgood5 := Lib.hid hgood5
              go_wp2_with fail
              refine (FA.out _ (h35.out.same (by repeat (first | exact Fr.refl _ _ | apply Fr.undrew | apply Fr.undrewN | apply Fr.drew | apply Fr.drewN | apply Fr.alloc)))).mono ?_
              rintro e w6 ⟨km, ka, kL, kc, kr, rfl, hG6, hs6, hbad6, hgood6⟩
              have h36 : Same w3 w6 := (h35.out.same (by repeat (first | exact Fr.refl _ _ | apply Fr.undrew | apply Fr.undrewN | apply Fr.drew | apply Fr.drewN | apply Fr.alloc))).same hs6
              have k17 := hs6.at (heap_new w5 _) id
              have hG5' := hG5.out.same ((show Same w5 _ from (by repeat (first | exact Fr.refl _ _ | apply Fr.undrew | apply Fr.undrewN | apply Fr.drew | apply Fr.drewN | apply Fr.alloc))).same hs6)
              clear x0 x1 x2 xb
              obtain ⟨rfl, rfl, rfl⟩ := hgood5.out (by simp)
              obtain ⟨rfl, rfl, rfl⟩ := hgood6 (by simp)
              have hu' : ∀ i : Nat, i < qs.length → 0 ≤ toF qs i ∧ toF qs i < n := fun i hi => by
                have := renErr_up qs.length 0 (by rw [← hq.out]; exact hE.out.symm) i (by omega) (by omega)
                exact ⟨this.1, this.2.1⟩
              have RQ := fun all W (hW : Same w3 W) => rquant_any n all t qs (some ⟨bT, 0, none⟩) aQ t.length capQ W (by omega) ht.out (by rw [← hq.out]; omega) (hT3.out.same hW) (by rw [← hq.out]; exact hQ3.out.same hW) hu'
              rw [← hq.out] at RQ
              have hR5 := quantT_length (qOp false) n (qs.map Int.toNat) t ht.out
              have hR6 := quantT_length (qOp true) n (qs.map Int.toNat) t ht.out
              have RQ5 := RQ false
              have RQ6 := RQ true
              clear RQ
              obtain ⟨R5, hR5e⟩ : ∃ R, R = quantT (qOp false) n (qs.map Int.toNat) t := ⟨_, rfl⟩
              obtain ⟨R6, hR6e⟩ : ∃ R, R = quantT (qOp true) n (qs.map Int.toNat) t := ⟨_, rfl⟩
              rw [← hR5e] at RQ5 hR5 hG5' k17
              rw [← hR6e] at RQ6 hR6 hG6
              have IS5 := fun W aX cX (h1 : RowAt W (.slice aX R5.length cX) R5.length (boolCells R5)) (h2 : SliceAt W 80 3 (.slice ga (tableF n [] 0 R5).1.length gc) (tableF n [] 0 R5).1.length (ndCells (tableF n [] 0 R5).1)) => is_row n R5 ga aX gc cX W (by omega) hR5 h1 h2
              have IS6 := fun W aX cX (h1 : RowAt W (.slice aX R6.length cX) R6.length (boolCells R6)) (h2 : SliceAt W 80 3 (.slice ka (tableF n [] 0 R6).1.length kc) (tableF n [] 0 R6).1.length (ndCells (tableF n [] 0 R6).1)) => is_row n R6 ka aX kc cX W (by omega) hR6 h1 h2
              rw [hR5] at IS5
              rw [hR6] at IS6
              rw [← hR5e, ← hR6e]
              obtain ⟨P5, hP5⟩ : ∃ P, P = tableF n [] 0 R5 := ⟨_, rfl⟩
              obtain ⟨P6, hP6⟩ : ∃ P, P = tableF n [] 0 R6 := ⟨_, rfl⟩
              rw [← hP5] at IS5 hG5' k17 ⊢
              rw [← hP6] at IS6 hG6 ⊢
              obtain ⟨M, hM⟩ : ∃ M, M = 2 ^ n := ⟨_, rfl⟩
              rw [← hM] at RQ5 RQ6 IS5 IS6
              clear hbad6
              replace hG6 := Lib.hid hG6; replace hs6 := Lib.hid hs6; replace h36 := Lib.hid h36; replace k17 := Lib.hid k17; replace hG5' := Lib.hid hG5'; replace hu' := Lib.hid hu'; replace hR5 := Lib.hid hR5; replace hR6 := Lib.hid hR6; replace RQ5 := Lib.hid RQ5; replace RQ6 := Lib.hid RQ6; replace hR5e := Lib.hid hR5e; replace hR6e := Lib.hid hR6e; replace IS5 := Lib.hid IS5; replace IS6 := Lib.hid IS6; replace hP5 := Lib.hid hP5; replace hP6 := Lib.hid hP6; replace hM := Lib.hid hM; replace hE := Lib.hid hE
              go_wp2_with fail
              refine one_abs (fun W7 h7 => ?_)
              obtain ⟨k19, hs7⟩ := h7
              have k17' := hs7.at k17.out id
              have h37 := h36.out.same hs7
              have hG5'' := hG5'.out.same hs7
              have hG6' := hG6.out.same hs7
              have x0 := cell_at k17' 0; have x1 := cell_at k17' 1; have x2 := cell_at k17' 2
              have xb := lt_of_heap k17'
              replace k19 := Lib.hid k19; replace hs7 := Lib.hid hs7; replace k17' := Lib.hid k17'; replace h37 := Lib.hid h37; replace hG5'' := Lib.hid hG5''; replace hG6' := Lib.hid hG6'
              refine wp_region_sched (L2 w5.heap.size w6.heap.size) [1, 0, 0, 0, 0, 0, 2, 2, 0, 1, 0, 0, 0, 0, 0, 2, 2, 0, 0] [1, 2, 3, 4, 5, 0, 6, 7, 8, 10, 11, 12, 13, 14, 9, 15, 16, 17, 18] (by kernel_rfl) (by kernel_rfl) ?_
              repeat (first | (refine sched_w rfl rfl (fun _ hK => ?_); go_simp; refine hK _ ?_; clear hK) | (refine sched_s rfl rfl (fun _ hK => ?_); go_simp; first | (refine hK _ ?_; clear hK) | (refine ⟨_, fun _ => rfl, hK _ ?_⟩; clear hK)))
              refine sched_g rfl rfl (fun _ hK => ?_)
              go_simp
              refine (RQ5.out _ (h37.out.same (by repeat (first | exact Fr.refl _ _ | apply Fr.undrew | apply Fr.undrewN | apply Fr.drew | apply Fr.drewN | apply Fr.alloc)))).mono ?_
              rintro e w8 ⟨aX, cX, rfl, hRX, hs8⟩
              have h78 : Same W7 w8 := (show Same W7 _ from (by repeat (first | exact Fr.refl _ _ | apply Fr.undrew | apply Fr.undrewN | apply Fr.drew | apply Fr.drewN | apply Fr.alloc))).same hs8
              replace hRX := Lib.hid hRX; replace h78 := Lib.hid h78
              refine hK _ _ (Kp.of_same hs8) ?_
              clear hK
              try simp only [Act.put, List.setIfInBounds_toArray, List.set_cons_zero, List.set_cons_succ]
              clear hs8
              repeat (first | (refine sched_w rfl rfl (fun _ hK => ?_); go_simp; refine hK _ ?_; clear hK) | (refine sched_s rfl rfl (fun _ hK => ?_); go_simp; first | (refine hK _ ?_; clear hK) | (refine ⟨_, fun _ => rfl, hK _ ?_⟩; clear hK)))
              refine sched_g rfl rfl (fun _ hK => ?_)
              go_simp
              refine (IS5.out w8 aX cX hRX.out (hG5''.out.same h78.out)).mono ?_
              rintro e w9 ⟨rfl, hs9⟩
              have h79 : Same W7 w9 := h78.out.same hs9
              have k19' := h79.at k19.out id
              clear x0 x1 x2 xb
              have x0 := cell_at k19' 0; have x1 := cell_at k19' 1; have x2 := cell_at k19' 2
              have xb := lt_of_heap k19'
              replace h79 := Lib.hid h79; replace k19' := Lib.hid k19'
              refine hK _ _ (Kp.of_same hs9) ?_
              clear hK
              try simp only [Act.put, List.setIfInBounds_toArray, List.set_cons_zero, List.set_cons_succ]
              clear hs9
              repeat (first | (refine sched_w rfl rfl (fun _ hK => ?_); go_simp; refine hK _ ?_; clear hK) | (refine sched_s rfl rfl (fun _ hK => ?_); go_simp; first | (refine hK _ ?_; clear hK) | (refine ⟨_, fun _ => rfl, hK _ ?_⟩; clear hK)))
              refine sched_g rfl rfl (fun _ hK => ?_)
              go_simp
              refine (RQ6.out _ (h37.out.same h79.out)).mono ?_
              rintro e w10 ⟨aY, cY, rfl, hRY, hs10⟩
              have h710 : Same W7 w10 := h79.out.same hs10
              replace hRY := Lib.hid hRY; replace h710 := Lib.hid h710
              refine hK _ _ (Kp.of_same hs10) ?_
              clear hK
              try simp only [Act.put, List.setIfInBounds_toArray, List.set_cons_zero, List.set_cons_succ]
              clear hs10
              repeat (first | (refine sched_w rfl rfl (fun _ hK => ?_); go_simp; refine hK _ ?_; clear hK) | (refine sched_s rfl rfl (fun _ hK => ?_); go_simp; first | (refine hK _ ?_; clear hK) | (refine ⟨_, fun _ => rfl, hK _ ?_⟩; clear hK)))
              refine sched_g rfl rfl (fun _ hK => ?_)
              go_simp
              refine (IS6.out w10 aY cY hRY.out (hG6'.out.same h710.out)).mono ?_
              rintro e w11 ⟨rfl, hs11⟩
              have hw11 : Same w w11 := (hw3.out.same h37.out).same (h710.out.same hs11)
              replace hw11 := Lib.hid hw11
              refine hK _ _ (Kp.of_same hs11) ?_
              clear hK
              try simp only [Act.put, List.setIfInBounds_toArray, List.set_cons_zero, List.set_cons_succ]
              repeat (first | (refine sched_w rfl rfl (fun _ hK => ?_); go_simp; refine hK _ ?_; clear hK) | (refine sched_s rfl rfl (fun _ hK => ?_); go_simp; first | (refine hK _ ?_; clear hK) | (refine ⟨_, fun _ => rfl, hK _ ?_⟩; clear hK)))
              refine sched_nil (NoPanic.normal ?_)
              go_wp2_with fail
              go_ret
              exact ⟨(by first | rfl | simp), hw11.out⟩
          · have hx1 : (x != 0) = true := by simpa using hx0
            have hx2 : (x == 0) = false := by simpa using hx0
            have x0 := cell_at kg4 0; have x1 := cell_at kg4 1; have x2 := cell_at kg4 2
            have xb := lt_of_heap kg4
            replace kg4 := Lib.hid kg4; replace hsw := Lib.hid hsw; replace hsw4 := Lib.hid hsw4
            go_wp2_with fail
            all_goals
              refine (EX.out _ (hsw4.out.same (by repeat (first | exact Fr.refl _ _ | apply Fr.undrew | apply Fr.undrewN | apply Fr.drew | apply Fr.drewN | apply Fr.alloc)))).mono ?_
              rintro e w5 ⟨gm, ga, gL, gc, gr, rfl, hG5, hs5, hbad5, hgood5⟩
              have h35 : Same w3 w5 := (hsw4.out.same (by repeat (first | exact Fr.refl _ _ | apply Fr.undrew | apply Fr.undrewN | apply Fr.drew | apply Fr.drewN | apply Fr.alloc))).same hs5
              have kg5 : w5.heap[w3.heap.size]? = _ := hs5.at kg4.out id
              clear x0 x1 x2 xb
              have x0 := cell_at kg5 0; have x1 := cell_at kg5 1; have x2 := cell_at kg5 2
              have xb := lt_of_heap kg5
              replace hG5 := Lib.hid hG5; replace hs5 := Lib.hid hs5; replace h35 := Lib.hid h35; replace kg5 := Lib.hid kg5; replace hbad5 := Lib.hid hbad5; replace hgood5 := Lib.hid hgood5
              go_wp2_with fail
              refine (FA.out _ (h35.out.same (by repeat (first | exact Fr.refl _ _ | apply Fr.undrew | apply Fr.undrewN | apply Fr.drew | apply Fr.drewN | apply Fr.alloc)))).mono ?_
              rintro e w6 ⟨km, ka, kL, kc, kr, rfl, hG6, hs6, hbad6, hgood6⟩
              have h36 : Same w3 w6 := (h35.out.same (by repeat (first | exact Fr.refl _ _ | apply Fr.undrew | apply Fr.undrewN | apply Fr.drew | apply Fr.drewN | apply Fr.alloc))).same hs6
              have k17 := hs6.at (heap_new w5 _) id
              have hG5' := hG5.out.same ((show Same w5 _ from (by repeat (first | exact Fr.refl _ _ | apply Fr.undrew | apply Fr.undrewN | apply Fr.drew | apply Fr.drewN | apply Fr.alloc))).same hs6)
              clear x0 x1 x2 xb
              obtain ⟨rfl, rfl, rfl⟩ := hbad5.out hx0
              obtain ⟨rfl, rfl, rfl⟩ := hbad6 hx0
              simp only [List.length_nil] at hG5' hG6 k17 ⊢
              have N5 := fun W (hW : Same w6 W) => none_true ga gc W (hG5'.same hW)
              have N6 := fun W (hW : Same w6 W) => none_true ka kc W (hG6.same hW)
              have x0 := cell_at k17 0; have x1 := cell_at k17 1; have x2 := cell_at k17 2
              have xb := lt_of_heap k17
              clear hgood6
              replace hG6 := Lib.hid hG6; replace hs6 := Lib.hid hs6; replace h36 := Lib.hid h36; replace k17 := Lib.hid k17; replace hG5' := Lib.hid hG5'; replace N5 := Lib.hid N5; replace N6 := Lib.hid N6
              go_wp2_with fail
              refine (N5.out _ (by repeat (first | exact Fr.refl _ _ | apply Fr.undrew | apply Fr.undrewN | apply Fr.drew | apply Fr.drewN | apply Fr.alloc))).mono ?_
              rintro e w7 ⟨rfl, hs7⟩
              have h67 : Same w6 w7 := (show Same w6 _ from (by repeat (first | exact Fr.refl _ _ | apply Fr.undrew | apply Fr.undrewN | apply Fr.drew | apply Fr.drewN | apply Fr.alloc))).same hs7
              have k19 := hs7.at (heap_new w6 _) id
              clear x0 x1 x2 xb
              have x0 := cell_at k19 0; have x1 := cell_at k19 1; have x2 := cell_at k19 2
              have xb := lt_of_heap k19
              replace hs7 := Lib.hid hs7; replace h67 := Lib.hid h67; replace k19 := Lib.hid k19
              go_wp2_with fail
              refine (N6.out _ h67.out).mono ?_
              rintro e w8 ⟨rfl, hs8⟩
              have hw8 : Same w w8 := (hw3.out.same h36.out).same (h67.out.same hs8)
              replace hs8 := Lib.hid hs8; replace hw8 := Lib.hid hw8
              go_wp2_with fail
              go_ret
              exact ⟨(by first | rfl | simp), hw8.out⟩
end Go.Proofs.Ytaebjalpebgliaa
