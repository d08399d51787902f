/- BddCounts: the law's walk. -/
import Derived.Test.YtaebjalpebgliaaSup
import Derived.Test.YtaebjalpebgliaaAll
import Derived.Test.YtaebjalpebgliaaValue
import Derived.Test.YtaebjalpebgliaaLSame
import Derived.Test.YtaebjalpebgliaaRenP
namespace Go.Proofs.Ytaebjalpebgliaa
open Go.RowKit
set_option linter.unusedVariables false
set_option linter.unusedSimpArgs false

theorem RowsIs.get {W : World} {n : Nat} : ∀ {vs : List Value} {rs : List (List Bool)} {k : Nat} (h : RowsIs W n vs rs) {r : List Bool}, rs[k]? = some r → ∃ a c, vs[k]? = some (.slice a n c) ∧ r.length = n ∧ SliceAt W 4 1 (.slice a n c) n (boolCells r)
  | [], [], k, _, r, hr => by simp at hr
  | v :: vs, s :: rs, 0, h, r, hr => by
    simp at hr
    subst hr
    obtain ⟨a, c, rfl, _⟩ := h.1.2.form
    exact ⟨a, c, rfl, h.1.1, h.1.2⟩
  | v :: vs, s :: rs, k + 1, h, r, hr => RowsIs.get (k := k) h.2 (by simpa using hr)

/-- What Value returns. -/
def ValC (n q : Nat) (V : Bool) (w : World) (e : Ending) (w' : World) : Prop :=
  ∃ b E, e = .returned (.tuple #[.bool b, .int .i64 E]) ∧ ((q ≠ n ∧ b = false ∧ E = 4) ∨ (q = n ∧ b = V ∧ E = 0)) ∧ Same w w'

theorem valC_any (d : Dg) (n : Nat) (t : List Bool) (ab : Option Addr) (cb : Nat) (bits : List Bool) (w : World) (hat : d.at w) (T : d.tab n t) (hB : RowAt w (.slice ab bits.length cb) bits.length (boolCells bits)) :
    Calls Try.prog 36 #[d.v, .slice ab bits.length cb] w (ValC n bits.length (t.getD (placeF (fun u => bits.getD u false) n 0) false) w) := by
  by_cases h : bits.length = n
  · obtain ⟨ho, hr, ht⟩ := T.2.ord
    have he : ev d.L d.r (fun u => bits.getD u false) = t.getD (placeF (fun u => bits.getD u false) n 0) false := by
      rw [← ht]
      exact (tab_ev ho (fun u => bits.getD u false) n 0 d.r (by omega) hr (topF_range ho.val hr).1).symm
    rw [h] at hB ⊢
    refine (valueP_ok d n t ab cb bits w hat T h hB).mono ?_
    rintro e w' ⟨rfl, hs⟩
    exact ⟨_, 0, rfl, .inr ⟨rfl, he, rfl⟩, hs⟩
  · refine (valueP_size d n t ab cb _ w hat T h).mono ?_
    rintro e w' ⟨rfl, hs⟩
    exact ⟨false, 4, rfl, .inl ⟨h, rfl, rfl⟩, hs⟩

/-- What Any returns. -/
def AnyC (n : Nat) (L : List Nd) (r : Int) (w : World) (e : Ending) (w' : World) : Prop :=
  ∃ a len c b, e = .returned (.tuple #[.slice a len c, .bool b, .int .i64 0]) ∧ ((r = 0 ∧ len = 0 ∧ b = false) ∨ (r ≠ 0 ∧ len = n ∧ b = true ∧ SliceAt w' 4 1 (.slice a n c) n (boolCells (anyF L r.toNat r (List.replicate n false))))) ∧ Same w w'

theorem anyC_any (d : Dg) (n : Nat) (t : List Bool) (w : World) (hat : d.at w) (T : d.tab n t) :
    Calls Try.prog 35 #[d.v] w (AnyC n d.L d.r w) := by
  by_cases h : d.r = 0
  · refine (any_none d n t w hat T h).mono ?_
    rintro e w' ⟨rfl, hs⟩
    exact ⟨none, 0, 0, false, rfl, .inl ⟨h, rfl, rfl⟩, hs⟩
  · refine (any_some d n t w hat T h).mono ?_
    rintro e w' ⟨b, rfl, hl, hB, _, hs⟩
    have := hB.slice (by rw [hl]; have := T.2.n40; omega)
    rw [hl] at this
    exact ⟨_, n, n, true, rfl, .inr ⟨h, rfl, rfl, this⟩, hs⟩

set_option maxRecDepth 100000 in
set_option maxHeartbeats 16000000 in
theorem bddCounts_any (v b : Int) (hv : 0 ≤ v ∧ v ≤ 255) (hb : 0 ≤ b ∧ b ≤ 4294967295) (bits : List Bool) (aQ : Option Addr) (capQ : Nat) (w : World) (hQ : RowAt w (.slice aQ bits.length capQ) bits.length (boolCells bits)) :
    Calls Try.prog 10 #[.agg #[.int .u8 v, .int .u32 b], .slice aQ bits.length capQ] w fun e w' => e = .returned (.bool true) ∧ Same w w' := by
  obtain ⟨n, hn⟩ : ∃ n : Nat, (n : Int) = v % 6 := ⟨(v % 6).toNat, by omega⟩
  have hn5 : n ≤ 5 := by omega
  have hnt : (v % 6).toNat = n := by omega
  obtain ⟨q, hq⟩ : ∃ q, q = bits.length := ⟨_, rfl⟩
  have VC := fun (d : Dg) (t : List Bool) (W : World) (hat : d.at W) (T : d.tab n t) (hW : Same w W) => valC_any d n t aQ capQ bits W hat T (hQ.same hW)
  rw [← hq] at hQ VC ⊢
  replace hQ := Lib.hid hQ; replace hq := Lib.hid hq; replace VC := Lib.hid VC
  by_cases hlen : 7 < q
  · have hl2 : (7 : Int) < q := by omega
    clear hn hnt
    go_enter Try.func10, Try.ntmps10
    go_wp2_with fail
    refine (known_true _).mono ?_
    rintro e w1 ⟨rfl, hs1⟩
    have hw1 := (show Same w _ from (by repeat (first | exact Fr.refl _ _ | apply Fr.alloc | apply Fr.drewN | apply Fr.drew | apply Fr.undrew | apply Fr.undrewN))).same hs1
    replace hs1 := Lib.hid hs1; replace hw1 := Lib.hid hw1
    go_wp2_with fail
    refine (known_true _).mono ?_
    rintro e w2 ⟨rfl, hs2⟩
    have hw2 := hw1.out.same hs2
    replace hs2 := Lib.hid hs2; replace hw2 := Lib.hid hw2
    go_wp2_with fail
    go_ret
    exact ⟨rfl, hw2.out⟩
  · have hl2 : ¬ (7 : Int) < q := by omega
    have hTAB := fun W => ltable_any v b W hv.1 hv.2 hb.1 hb.2
    rw [hnt] at hTAB
    clear hnt
    obtain ⟨i3, hi3, hi3z, hi3s, hi3b⟩ := info_parts info3
    replace hTAB := Lib.hid hTAB; replace hn := Lib.hid hn; replace hv := Lib.hid hv; replace hb := Lib.hid hb
    go_enter Try.func10, Try.ntmps10
    go_wp2_with fail
    refine (known_true _).mono ?_
    rintro e w1 ⟨rfl, hs1⟩
    have hw1 := (show Same w _ from (by repeat (first | exact Fr.refl _ _ | apply Fr.alloc | apply Fr.drewN | apply Fr.drew | apply Fr.undrew | apply Fr.undrewN))).same hs1
    have kb := hs1.at (heap_new w _) id
    have x0 := cell_at kb 0
    have x1 := cell_at kb 1
    have xb := lt_of_heap kb
    replace hs1 := Lib.hid hs1; replace hw1 := Lib.hid hw1; replace kb := Lib.hid kb
    go_wp2_with fail
    refine (hTAB.out _).mono ?_
    rintro e w2 ⟨t, bT, ht, rfl, hB2, hbT, hs2⟩
    have hw2 := hw1.out.same hs2
    obtain ⟨M, hM⟩ : ∃ M, M = t.length := ⟨_, rfl⟩
    have hM32 : M ≤ 32 := by rw [hM, ht]; exact Nat.pow_le_pow_right (by omega) hn5
    have hT2 := (hB2.slice (by omega)).row
    have LD := fun W (hT : RowAt W (.slice (some ⟨bT, 0, none⟩) t.length t.length) t.length (boolCells t)) => ldiagram_row n (some ⟨bT, 0, none⟩) t.length t W (by omega) ht hT
    have DEP := fun u W (hu : u < n) (hT : RowAt W (.slice (some ⟨bT, 0, none⟩) t.length t.length) t.length (boolCells t)) => depends_any n u t (some ⟨bT, 0, none⟩) t.length W hu (by omega) ht hT
    have T3 := IsTab.of (n := n) (t := t) (by omega) ht
    rw [← hM] at hT2 LD DEP ⊢
    clear x0 x1 xb
    replace hs2 := Lib.hid hs2; replace hw2 := Lib.hid hw2; replace hB2 := Lib.hid hB2; replace hbT := Lib.hid hbT; replace ht := Lib.hid ht; replace hT2 := Lib.hid hT2; replace LD := Lib.hid LD; replace DEP := Lib.hid DEP; replace hM := Lib.hid hM; replace T3 := Lib.hid T3
    go_wp2_with fail
    refine (LD.out w2 hT2.out).mono ?_
    rintro e w3 ⟨a3, c3, rfl, hO3, hs3⟩
    have hw3 := hw2.out.same hs3
    obtain ⟨O, r, hOr⟩ : ∃ O r, tableF n [] 0 t = (O, r) := ⟨_, _, rfl⟩
    have T := T3.out
    rw [hOr] at hO3 T ⊢
    simp only at hO3 T ⊢
    clear T3
    have hT3 := hT2.out.same hs3
    have TT : (⟨n, a3, c3, O, r⟩ : Dg).tab n t := ⟨rfl, T⟩
    have VAL := fun W (hW : Same w3 W) => VC.out ⟨n, a3, c3, O, r⟩ t W (SliceAt.same hO3 hW) TT (hw3.same hW)
    have CNT := fun W (hW : Same w3 W) => count_tab ⟨n, a3, c3, O, r⟩ n t W (SliceAt.same hO3 hW) TT
    have ANY := fun W (hW : Same w3 W) => anyC_any ⟨n, a3, c3, O, r⟩ n t W (SliceAt.same hO3 hW) TT
    have hcl : t.count true ≤ 1024 := by have := List.count_le_length (a := true) (l := t); have := hM.out; omega
    have ALL := fun W (hW : Same w3 W) => all_rows ⟨n, a3, c3, O, r⟩ n t W (SliceAt.same hO3 hW) TT hcl
    have SUP := fun W (hW : Same w3 W) => support_ok ⟨n, a3, c3, O, r⟩ n t W (SliceAt.same hO3 hW) TT
    have hall := rowsL_all T
    have hsup := supF_deps T
    have hfirst := fun h0 => any_first T h0
    obtain ⟨ho, hr, htab⟩ := T.ord
    have hrl := rowsL_length ho n 0 r [] (by omega) hr (topF_range ho.val hr).1
    have e0 : ((0 : Nat) : Int) = 0 := rfl
    rw [e0, htab] at hrl
    have hz0 : r = 0 → rowsL O n 0 r [] = [] := fun h => by rw [h]; cases n <;> simp [rowsL]
    simp only [Dg.v] at VAL CNT ANY ALL SUP
    unfold SupRet at SUP
    obtain ⟨RS, hRS⟩ : ∃ RS, RS = rowsL O n 0 r [] := ⟨_, rfl⟩
    rw [← hRS] at ALL hall hfirst hrl hz0
    obtain ⟨BS, hBS⟩ : ∃ BS, BS = anyF O r.toNat r (List.replicate n false) := ⟨_, rfl⟩
    rw [← hBS] at hfirst
    unfold AnyC at ANY
    rw [← hBS] at ANY
    obtain ⟨SU, hSU⟩ : ∃ SU, SU = supF O := ⟨_, rfl⟩
    rw [← hSU] at SUP hsup
    obtain ⟨C, hC⟩ : ∃ C, C = t.count true := ⟨_, rfl⟩
    rw [← hC] at CNT hrl
    obtain ⟨R, hR⟩ : ∃ R, R = RS.length := ⟨_, rfl⟩
    rw [← hR] at ALL hrl
    obtain ⟨S, hS⟩ : ∃ S, S = SU.length := ⟨_, rfl⟩
    rw [← hS] at SUP
    subst hrl
    obtain ⟨V, hV⟩ : ∃ V, V = t.getD (placeF (fun u => bits.getD u false) n 0) false := ⟨_, rfl⟩
    unfold ValC at VAL
    rw [← hV] at VAL
    have hR32 : R ≤ 32 := by
      have h1 := List.count_le_length (a := true) (l := t)
      have h2 := hM.out
      omega
    have hO3w := hO3
    clear hcl e0 TT ho hr htab VC
    replace hs3 := Lib.hid hs3; replace hw3 := Lib.hid hw3; replace hO3 := Lib.hid hO3; replace T := Lib.hid T; replace hOr := Lib.hid hOr; replace hT3 := Lib.hid hT3; replace VAL := Lib.hid VAL; replace CNT := Lib.hid CNT; replace ANY := Lib.hid ANY; replace ALL := Lib.hid ALL; replace SUP := Lib.hid SUP; replace hall := Lib.hid hall; replace hsup := Lib.hid hsup; replace hfirst := Lib.hid hfirst; replace hz0 := Lib.hid hz0; replace hRS := Lib.hid hRS; replace hBS := Lib.hid hBS; replace hSU := Lib.hid hSU; replace hC := Lib.hid hC; replace hR := Lib.hid hR; replace hS := Lib.hid hS; replace hV := Lib.hid hV
    clear hO3w
    go_wp2_with fail
    refine (VAL.out _ (by repeat (first | exact Fr.refl _ _ | apply Fr.alloc | apply Fr.drewN | apply Fr.drew | apply Fr.undrew | apply Fr.undrewN))).mono ?_
    rintro e w4 ⟨b4, E4, rfl, h4, hs4⟩
    have h34 := (show Same w3 _ from (by repeat (first | exact Fr.refl _ _ | apply Fr.alloc | apply Fr.drewN | apply Fr.drew | apply Fr.undrew | apply Fr.undrewN))).same hs4
    have kd4 := hs4.at (heap_new w3 _) id
    replace h4 := Lib.hid h4; replace hs4 := Lib.hid hs4; replace h34 := Lib.hid h34; replace kd4 := Lib.hid kd4
    go_wp2_with fail
    go_loopw [10, 11] (fun o i wr => ∃ k : Nat, i = .int .i64 k ∧ o = .int .i64 (placeF (fun u => bits.getD u false) k 0 : Nat) ∧ k ≤ q ∧ Same w4 wr) (fun _ i _ => q - (intOf i).toNat)
    case atStart => exact ⟨0, rfl, rfl, by omega, (by repeat (first | exact Fr.refl _ _ | apply Fr.alloc | apply Fr.drewN | apply Fr.drew | apply Fr.undrew | apply Fr.undrewN))⟩
    case round =>
      obtain ⟨k, rfl, rfl, hk, hsr⟩ := hrel
      have hpl := placeF_lt (fun u => bits.getD u false) k 0
      have hp2 : 2 ^ k ≤ 2 ^ 7 := Nat.pow_le_pow_right (by omega) (by omega)
      have hsn := placeF_snoc (fun u => bits.getD u false) k 0
      simp only [Nat.zero_add] at hsn
      obtain ⟨p, hp⟩ : ∃ p, p = placeF (fun u => bits.getD u false) k 0 := ⟨_, rfl⟩
      rw [← hp] at hpl hsn ⊢
      have hp128 : p < 128 := by omega
      clear hpl hp2
      by_cases hlt : k < q
      · obtain ⟨bq, oq, ha, hbq, hcq⟩ := (hQ.out.same (hw3.out.same (h34.out.same hsr))).cell (by omega)
        subst ha
        have hkb : k < bits.length := by rw [← hq.out]; exact hlt
        have cq := hcq k _ (boolCells_get bits k hkb)
        have hg : bits.getD k false = bits[k] := by simp [List.getD, hkb]
        rw [hg] at hsn
        obtain ⟨x, hx⟩ : ∃ x, x = bits[k] := ⟨_, rfl⟩
        rw [← hx] at cq hsn
        clear hcq hg
        replace hsr := Lib.hid hsr; replace hsn := Lib.hid hsn; replace hp := Lib.hid hp; replace hx := Lib.hid hx
        cases x
        · go_wp2_with fail
          go_roundw
          case rel => exact ⟨k + 1, by go_num, by rw [hsn.out]; simp, by omega, hsr.out⟩
          case measure => simp [intOf]; omega
        · go_wp2_with fail
          go_roundw
          case rel => exact ⟨k + 1, by go_num, by rw [hsn.out]; simp, by omega, hsr.out⟩
          case measure => simp [intOf]; omega
      · have hkq : k = q := by omega
        subst hkq
        obtain ⟨wa, rfl⟩ : ∃ wa : World, wa = wr := ⟨_, rfl⟩
        clear hsn
        have h3r := h34.out.same hsr
        have kdr := hsr.at kd4.out id
        have x0 := cell_at kdr 0; have x1 := cell_at kdr 1; have x2 := cell_at kdr 2
        have xb := lt_of_heap kdr
        have hV2 : k = n → V = t.getD p false := fun h => by rw [hV.out, hp, h]
        have hpn : k = n → p < t.length := fun h => by
          have := placeF_lt (fun u => bits.getD u false) k 0
          rw [← hp] at this
          rw [ht.out, ← h]
          exact this
        replace hsr := Lib.hid hsr; replace hp := Lib.hid hp; replace h3r := Lib.hid h3r; replace kdr := Lib.hid kdr; replace hV2 := Lib.hid hV2; replace hpn := Lib.hid hpn
        have hcases : (((k : Int) != (n : Int)) = true ∧ ((k : Int) == (n : Int)) = false ∧ b4 = false ∧ E4 = 4) ∨ (((k : Int) != (n : Int)) = false ∧ ((k : Int) == (n : Int)) = true ∧ b4 = V ∧ E4 = 0 ∧ p < M ∧ wa.cell? ⟨bT, p, none⟩ = some (.bool V) ∧ bT < wa.heap.size) := by
          rcases h4.out with ⟨hne, h5, h6⟩ | ⟨hkn, h5, h6⟩
          · exact .inl ⟨by simp; omega, by simp; omega, h5, h6⟩
          · have hpt := hpn.out hkn
            have hVt := hV2.out hkn
            obtain ⟨bt, ot, hat, hbt, hct⟩ := (hT3.out.same h3r.out).cell (by have := hM.out; omega)
            simp only [Option.some.injEq, Addr.mk.injEq, and_true] at hat
            obtain ⟨rfl, rfl⟩ := hat
            have cp := hct p _ (boolCells_get t p hpt)
            have hg : t.getD p false = t[p] := by simp [List.getD, hpt]
            rw [← hg, ← hVt, Nat.zero_add] at cp
            exact .inr ⟨by simp; omega, by simp; omega, h5, h6, by have := hM.out; omega, cp, hbt⟩
        clear h4 hV2 hpn
        rcases hcases with ⟨hq1, hq2, rfl, rfl⟩ | ⟨hq1, hq2, rfl, rfl, hpM, hcp, hbtl⟩
        all_goals
          go_wp2_with fail
          refine (CNT.out _ h3r.out).mono ?_
          rintro e w5 ⟨rfl, hs5⟩
          have h35 := h3r.out.same hs5
          have k5 := hs5.at kdr.out id
          clear hq1 hq2 x0 x1 x2 xb
          have x0 := cell_at k5 0; have x1 := cell_at k5 1; have x2 := cell_at k5 2
          have xb := lt_of_heap k5
          replace hs5 := Lib.hid hs5; replace h35 := Lib.hid h35; replace k5 := Lib.hid k5
          go_wp2_with fail
          refine (ANY.out _ h35.out).mono ?_
          rintro e w6 ⟨a6, l6, c6, f6, rfl, h6, hs6⟩
          have h36 := h35.out.same hs6
          have k6 := hs6.at k5.out id
          clear x0 x1 x2 xb
          have x0 := cell_at k6 0; have x1 := cell_at k6 1; have x2 := cell_at k6 2
          have xb := lt_of_heap k6
          replace hs6 := Lib.hid hs6; replace h36 := Lib.hid h36; replace k6 := Lib.hid k6; replace h6 := Lib.hid h6
          go_wp2_with fail
          refine (ALL.out _ h36.out).mono ?_
          rintro e w7 ⟨a7, c7, vals, rfl, ho7, hr7, hs7⟩
          have h37 := h36.out.same hs7
          have h67 := hs7
          have k7 := hs7.at k6.out id
          have hA7 := SliceAt.of_owns ho7
          clear x0 x1 x2 xb
          have x0 := cell_at k7 0; have x1 := cell_at k7 1; have x2 := cell_at k7 2
          have xb := lt_of_heap k7
          replace hs7 := Lib.hid hs7; replace h37 := Lib.hid h37; replace k7 := Lib.hid k7; replace ho7 := Lib.hid ho7; replace hr7 := Lib.hid hr7; replace h67 := Lib.hid h67; replace hA7 := Lib.hid hA7
          go_wp2_with fail
          refine (SUP.out _ h37.out).mono ?_
          rintro e w8 ⟨a8, c8, rfl, ho8, hs8⟩
          have h38 := h37.out.same hs8
          have h68 := h67.out.same hs8
          have hA8 := hA7.out.same hs8
          have hr8 := hr7.out.same hs8
          have hT8 := hT3.out.same h38
          have hU8 := SliceAt.of_owns ho8
          clear x0 x1 x2 xb
          have hRlen : vals.length = R := by have := hr7.out.len; have := hR.out; omega
          replace hs8 := Lib.hid hs8; replace h38 := Lib.hid h38; replace h68 := Lib.hid h68; replace hA8 := Lib.hid hA8; replace hr8 := Lib.hid hr8; replace ho8 := Lib.hid ho8; replace hT8 := Lib.hid hT8; replace hU8 := Lib.hid hU8; replace hRlen := Lib.hid hRlen
          go_wp2_with fail
          go_loopw [21, 22] (fun o i wr => ∃ u : Nat, i = .int .i64 u ∧ o = .int .i64 ((truesF t u).length : Nat) ∧ u ≤ M ∧ Same w8 wr) (fun _ i _ => M - (intOf i).toNat)
          case atStart => exact ⟨0, rfl, rfl, by omega, (by repeat (first | exact Fr.refl _ _ | apply Fr.alloc | apply Fr.drewN | apply Fr.drew | apply Fr.undrew | apply Fr.undrewN))⟩
          case round =>
            obtain ⟨u, rfl, rfl, hu, hs⟩ := hrel
            have htl := truesF_len t u
            have hts := truesF_succ t u
            obtain ⟨K, hK⟩ : ∃ K, K = (truesF t u).length := ⟨_, rfl⟩
            rw [← hK] at htl ⊢
            by_cases hlt : u < M
            · have hut : u < t.length := by rw [← hM.out]; exact hlt
              have hu2 : u < 2 ^ n := by rw [← ht.out]; exact hut
              obtain ⟨bt, ot, hat, hbt, hct⟩ := (hT8.out.same hs).cell (by omega)
              simp only [Option.some.injEq, Addr.mk.injEq, and_true] at hat
              obtain ⟨rfl, rfl⟩ := hat
              have cp := hct u _ (boolCells_get t u hut)
              rw [Nat.zero_add] at cp
              have hg : t.getD u false = t[u] := by simp [List.getD, hut]
              obtain ⟨x, hx⟩ : ∃ x, x = t[u] := ⟨_, rfl⟩
              rw [← hx] at cp hg
              have hat2 := truesF_at t (2 ^ n) u hu2
              rw [hg] at hts hat2
              rw [← hK] at hat2
              clear hct hg hu2
              replace hs := Lib.hid hs; replace hx := Lib.hid hx; replace hts := Lib.hid hts; replace hat2 := Lib.hid hat2; replace hK := Lib.hid hK
              cases x
              · go_wp2_with fail
                go_roundw
                case rel => exact ⟨u + 1, by go_num, by rw [hts.out, hK.out]; simp, by omega, hs.out⟩
                case measure => simp [intOf]; omega
              · have hrow : RS[K]? = some (bitsF n u) := by rw [hall.out, List.getElem?_map, hat2.out rfl]; rfl
                obtain ⟨ar, cr, hvk, hrl, hrs⟩ := RowsIs.get (hr8.out.same hs) hrow
                have hKR : K < R := by have := (List.getElem?_eq_some_iff.1 hrow).1; have := hR.out; omega
                obtain ⟨ball, oall, rfl, hball, hcall⟩ := (hA8.out.same hs).cell (by omega)
                have ck := hcall K _ hvk
                clear hcall hrow
                obtain ⟨wo, rfl⟩ : ∃ wo : World, wo = wr := ⟨_, rfl⟩
                have hn2 : ((n : Int) != (n : Int)) = false := by simp
                replace hvk := Lib.hid hvk; replace hrl := Lib.hid hrl; replace hrs := Lib.hid hrs
                go_wp2_with fail
                go_loopw [23] (fun i wr => ∃ y : Nat, i = .int .i64 y ∧ y ≤ n ∧ Same wo wr) (fun i _ => n - (intOf i).toNat)
                case atStart => exact ⟨0, rfl, by omega, Fr.refl _ _⟩
                case round =>
                  obtain ⟨y, rfl, hy, hsy⟩ := hrel
                  by_cases hyl : y < n
                  · obtain ⟨br, orr, rfl, hbr, hcr⟩ := (hrs.out.same hsy).cell (by omega)
                    have cy := hcr y (.bool (bitF n u y)) (by rw [boolCells, List.getElem?_map, bitsF_get n u y hyl]; rfl)
                    have BIT := fun W => bit_any n u y W hyl (by omega) (by rw [← ht.out]; exact hut)
                    obtain ⟨z, hz⟩ : ∃ z, z = bitF n u y := ⟨_, rfl⟩
                    rw [← hz] at cy BIT
                    have ck2 : wr.cell? ⟨ball, oall + K, none⟩ = some (.slice (some ⟨br, orr, none⟩) n cr) := by rw [← ck]; exact World.cell?_of_block (a := ⟨ball, oall + K, none⟩) (hsy.block _ hball id)
                    have lball : ball < wr.heap.size := Nat.lt_of_lt_of_le hball hsy.size
                    obtain ⟨wi, rfl⟩ : ∃ wi : World, wi = wr := ⟨_, rfl⟩
                    clear hcr
                    replace hsy := Lib.hid hsy; replace BIT := Lib.hid BIT; replace hz := Lib.hid hz
                    go_wp2_with fail
                    refine wp_region_sched (L2 ball br) [0, 0, 0, 1, 0, 0, 1, 0, 0, 0, 2, 0] [0, 1, 2, 4, 7, 8, 9, 3, 5, 6, 10, 11] (by kernel_rfl) (by kernel_rfl) ?_
                    repeat (first | (refine sched_w rfl rfl (fun _ hK => ?_); go_simp; refine hK _ ?_; clear hK) | (refine sched_s rfl rfl (fun _ hK => ?_); go_simp; first | (refine hK _ ?_; clear hK) | (refine ⟨_, fun _ => rfl, hK _ ?_⟩; clear hK)))
                    refine sched_g rfl rfl (fun _ hK => ?_)
                    go_simp
                    refine (BIT.out _).mono ?_
                    rintro e w9 ⟨rfl, rfl⟩
                    refine hK _ _ (Kp.of_same (by repeat (first | exact Fr.refl _ _ | apply Fr.undrew | apply Fr.undrewN | apply Fr.drew | apply Fr.drewN | apply Fr.alloc))) ?_
                    clear hK
                    try simp only [Act.put, List.setIfInBounds_toArray, List.set_cons_zero, List.set_cons_succ]
                    repeat (first | (refine sched_w rfl rfl (fun _ hK => ?_); go_simp; refine hK _ ?_; clear hK) | (refine sched_s rfl rfl (fun _ hK => ?_); go_simp; first | (refine hK _ ?_; clear hK) | (refine ⟨_, fun _ => rfl, hK _ ?_⟩; clear hK)))
                    refine sched_nil (NoPanic.normal ?_)
                    have hsy2 : Same wo wi.drew := hsy.out.drew
                    replace hsy2 := Lib.hid hsy2
                    cases z
                    all_goals
                      go_wp2_with fail
                      go_roundw
                      case rel => exact ⟨y + 1, by go_num, by omega, hsy2.out⟩
                      case measure => simp [intOf]; omega
                  · have hso := hs.out.same hsy
                    replace hsy := Lib.hid hsy; replace hso := Lib.hid hso
                    go_wp2_with fail
                    go_roundw
                    case rel => exact ⟨u + 1, by go_num, by rw [hts.out, List.length_append, ← hK.out]; go_num, by omega, hso.out⟩
                    case measure => simp [intOf]; omega
            · have huM : u = M := by omega
              have hKR : K = R := by
                rw [hK, huM, hM.out, ht.out, hR.out, hall.out, List.length_map]
              rw [hKR]
              clear htl hts huM hKR
              obtain ⟨wb, rfl⟩ : ∃ wb : World, wb = wr := ⟨_, rfl⟩
              replace hs := Lib.hid hs; replace hK := Lib.hid hK
              go_wp2_with fail
              go_loopw [24, 25] (fun o i wr => ∃ (y : Nat) (ao : Option Addr) (co : Nat), i = .int .i64 y ∧ o = .slice ao (depsF n t y).length co ∧ y ≤ n ∧ wr.ownsRow wb.heap.size 3 1 (.slice ao (depsF n t y).length co) (depsF n t y).length (intCells (depsF n t y)) ∧ Same wb wr) (fun _ i _ => n - (intOf i).toNat)
              case atStart => exact ⟨0, none, 0, rfl, rfl, by omega, World.ownsRow_nil _ _ _ _, (by repeat (first | exact Fr.refl _ _ | apply Fr.alloc | apply Fr.drewN | apply Fr.drew | apply Fr.undrew | apply Fr.undrewN))⟩
              case round =>
                obtain ⟨y, ao, co, rfl, rfl, hy, hoy, hsy⟩ := hrel
                have hdl : (depsF n t y).length ≤ y := by
                  have := List.length_filter_le (depF n t) (List.range y)
                  simpa [depsF] using this
                have hds := depsF_succ n t y
                obtain ⟨D, hD⟩ : ∃ D, D = depsF n t y := ⟨_, rfl⟩
                rw [← hD] at hoy hdl hds ⊢
                obtain ⟨dl, hdl'⟩ : ∃ dl, dl = D.length := ⟨_, rfl⟩
                rw [← hdl'] at hoy hdl ⊢
                by_cases hyl : y < n
                · have DE := fun W (hW : Same wr W) => DEP.out y W hyl ((hT8.out.same (hs.out.same hsy)).same hW)
                  obtain ⟨z, hz⟩ : ∃ z, z = depF n t y := ⟨_, rfl⟩
                  rw [← hz] at DE hds
                  obtain ⟨wo, rfl⟩ : ∃ wo : World, wo = wr := ⟨_, rfl⟩
                  replace hoy := Lib.hid hoy; replace hsy := Lib.hid hsy; replace DE := Lib.hid DE; replace hz := Lib.hid hz; replace hds := Lib.hid hds; replace hD := Lib.hid hD; replace hdl' := Lib.hid hdl'
                  go_wp2_with fail
                  refine (DE.out _ (by repeat (first | exact Fr.refl _ _ | apply Fr.alloc | apply Fr.drewN | apply Fr.drew | apply Fr.undrew | apply Fr.undrewN))).mono ?_
                  rintro e w9 ⟨rfl, hs9⟩
                  have hsy9 := hsy.out.same ((show Same wo _ from (by repeat (first | exact Fr.refl _ _ | apply Fr.alloc | apply Fr.drewN | apply Fr.drew | apply Fr.undrew | apply Fr.undrewN))).same hs9)
                  have hoy9 := owns_same hoy.out ((show Same wo _ from (by repeat (first | exact Fr.refl _ _ | apply Fr.alloc | apply Fr.drewN | apply Fr.drew | apply Fr.undrew | apply Fr.undrewN))).same hs9)
                  replace hs9 := Lib.hid hs9; replace hsy9 := Lib.hid hsy9; replace hoy9 := Lib.hid hoy9
                  cases z
                  · go_wp2_with fail
                    go_roundw
                    case rel =>
                      have e1 : depsF n t (y + 1) = D := by rw [hds.out]; simp
                      refine ⟨y + 1, ao, co, by go_num, by rw [e1, ← hdl'.out], by omega, by rw [e1, ← hdl'.out]; exact hoy9.out, hsy9.out⟩
                    case measure => simp [intOf]; omega
                  · go_wp2_with (at_builtin; refine wpList_append1 rfl (.tmp 165) (.tmp 167) 42 rfl wb.heap.size 3 i3 (.int .i64 0) 1 8 Try.underlying42 hi3 hi3z hi3s hi3b rfl (by decide) (by decide) ao dl co (intCells D) rfl (owns_same hoy9.out (by repeat (first | exact Fr.refl _ _ | apply Fr.undrew | apply Fr.undrewN | apply Fr.drew | apply Fr.drewN | apply Fr.alloc))) (by omega) w9.heap.size [.int .i64 y] rfl rfl (heap_new_at (by simp) _) (by simp [Value.oneCell']) (by have := hsy9.out.size; simp; omega) ?_; intro an cn w10 ho10 hG10; have h10 : Same wb w10 := grew_fresh (hsy9.out.same (by repeat (first | exact Fr.refl _ _ | apply Fr.undrew | apply Fr.undrewN | apply Fr.drew | apply Fr.drewN | apply Fr.alloc))) hG10 (fun k hk => (hoy9.out.lt k hk).1); replace ho10 := Lib.hid ho10; replace h10 := Lib.hid h10; clear hG10)
                    go_roundw
                    case rel =>
                      have e1 : depsF n t (y + 1) = D ++ [(y : Int)] := by rw [hds.out]; simp
                      have e2 : (D ++ [(y : Int)]).length = dl + 1 := by rw [List.length_append, hdl'.out]; rfl
                      refine ⟨y + 1, an, cn, by go_num, by rw [e1, e2], by omega, ?_, h10.out⟩
                      rw [e1, e2]
                      simpa [intCells] using ho10.out
                    case measure => simp [intOf]; omega
                · have hyn : y = n := by omega
                  have hdS : dl = S := by rw [hdl', hD, hyn, hS.out, hsup.out]
                  have hDU : D = SU := by rw [hD, hyn, hsup.out]
                  clear hds hyn
                  obtain rfl : S = dl := hdS.symm
                  have hWy := SliceAt.of_owns hoy
                  rw [hDU] at hWy
                  have h8y := hs.out.same hsy
                  have hU9 := hU8.out.same h8y
                  have hA9 := hA8.out.same h8y
                  have hr9 := hr8.out.same h8y
                  have hwy : Same w wr := (hw3.out.same (h38.out.same h8y))
                  have hF9 : ∀ a c, SliceAt w6 4 1 (.slice a n c) n (boolCells BS) → SliceAt wr 4 1 (.slice a n c) n (boolCells BS) := fun a c h => (h.same h68.out).same h8y
                  obtain ⟨wc, rfl⟩ : ∃ wc : World, wc = wr := ⟨_, rfl⟩
                  have hU2 : S ≤ 1000 := by omega
                  clear hoy hsy
                  replace hWy := Lib.hid hWy; replace h8y := Lib.hid h8y; replace hU9 := Lib.hid hU9; replace hA9 := Lib.hid hA9; replace hr9 := Lib.hid hr9; replace hF9 := Lib.hid hF9; replace hDU := Lib.hid hDU; replace hD := Lib.hid hD; replace hdl' := Lib.hid hdl'; replace hwy := Lib.hid hwy
                  rcases h6.out with ⟨h61, rfl, rfl⟩ | ⟨h61, hl6, rfl, h64⟩
                  · have h1 := hz0.out h61
                    have h2 := hR.out
                    rw [h1] at h2
                    simp only [List.length_nil] at h2
                    clear h1
                    subst h2
                    replace h61 := Lib.hid h61
                    go_wp2_with fail
                    go_loopw [26] (fun i wr => ∃ y : Nat, i = .int .i64 y ∧ y ≤ S ∧ Same wc wr) (fun i _ => S - (intOf i).toNat)
                    case atStart => exact ⟨0, rfl, by omega, Fr.refl _ _⟩
                    case round =>
                      obtain ⟨j, rfl, hj, hsj⟩ := hrel
                      by_cases hjl : j < S
                      · obtain ⟨bs, os, rfl, hbs, hcs⟩ := (hU9.out.same hsj).cell (by omega)
                        obtain ⟨bw, ow, rfl, hbw, hcw⟩ := (hWy.out.same hsj).cell (by omega)
                        have hjs : j < SU.length := by rw [← hS.out]; exact hjl
                        have cs := hcs j _ (intCells_get SU j hjs)
                        have cw := hcw j _ (intCells_get SU j hjs)
                        obtain ⟨x, hx⟩ : ∃ x, x = SU.getD j 0 := ⟨_, rfl⟩
                        rw [← hx] at cs cw
                        obtain ⟨wi, rfl⟩ : ∃ wi : World, wi = wr := ⟨_, rfl⟩
                        clear hcs hcw
                        replace hsj := Lib.hid hsj; replace hx := Lib.hid hx
                        go_wp2_with fail
                        refine wp_region_sched (L2 bs bw) [0, 0, 0, 1, 0, 0, 0, 1, 0] [0, 1, 2, 4, 5, 6, 3, 7, 8] (by kernel_rfl) (by kernel_rfl) ?_
                        repeat (first | (refine sched_w rfl rfl (fun _ hK => ?_); go_simp; refine hK _ ?_; clear hK) | (refine sched_s rfl rfl (fun _ hK => ?_); go_simp; first | (refine hK _ ?_; clear hK) | (refine ⟨_, fun _ => rfl, hK _ ?_⟩; clear hK)))
                        refine sched_nil (NoPanic.normal ?_)
                        have hsj2 : Same wc wi.drew := hsj.out.drew
                        replace hsj2 := Lib.hid hsj2
                        go_wp2_with fail
                        go_roundw
                        case rel => exact ⟨j + 1, by go_num, by omega, hsj2.out⟩
                        case measure => simp [intOf]; omega
                      · have hfin := hwy.out.same hsj
                        obtain ⟨wz, rfl⟩ : ∃ wz : World, wz = wr := ⟨_, rfl⟩
                        replace hsj := Lib.hid hsj; replace hfin := Lib.hid hfin
                        go_wp2_with fail
                        go_ret
                        exact ⟨rfl, hfin.out⟩
                  · have hl7 := hl6.symm
                    subst hl7
                    have h1 := hfirst.out h61
                    have hRpos : 0 < R := by have := (List.getElem?_eq_some_iff.1 h1).1; have := hR.out; omega
                    have hRpos2 : (0 : Int) < R := by omega
                    have hF := hF9.out _ _ h64
                    replace hF := Lib.hid hF
                    replace h61 := Lib.hid h61
                    replace h1 := Lib.hid h1
                    replace h64 := Lib.hid h64
                    go_wp2_with fail
                    go_loopw [26] (fun i wr => ∃ y : Nat, i = .int .i64 y ∧ y ≤ S ∧ Same wc wr) (fun i _ => S - (intOf i).toNat)
                    case atStart => exact ⟨0, rfl, by omega, Fr.refl _ _⟩
                    case round =>
                      obtain ⟨j, rfl, hj, hsj⟩ := hrel
                      by_cases hjl : j < S
                      · obtain ⟨bs, os, rfl, hbs, hcs⟩ := (hU9.out.same hsj).cell (by omega)
                        obtain ⟨bw, ow, rfl, hbw, hcw⟩ := (hWy.out.same hsj).cell (by omega)
                        have hjs : j < SU.length := by rw [← hS.out]; exact hjl
                        have cs := hcs j _ (intCells_get SU j hjs)
                        have cw := hcw j _ (intCells_get SU j hjs)
                        obtain ⟨x, hx⟩ : ∃ x, x = SU.getD j 0 := ⟨_, rfl⟩
                        rw [← hx] at cs cw
                        obtain ⟨wi, rfl⟩ : ∃ wi : World, wi = wr := ⟨_, rfl⟩
                        clear hcs hcw
                        replace hsj := Lib.hid hsj; replace hx := Lib.hid hx
                        go_wp2_with fail
                        refine wp_region_sched (L2 bs bw) [0, 0, 0, 1, 0, 0, 0, 1, 0] [0, 1, 2, 4, 5, 6, 3, 7, 8] (by kernel_rfl) (by kernel_rfl) ?_
                        repeat (first | (refine sched_w rfl rfl (fun _ hK => ?_); go_simp; refine hK _ ?_; clear hK) | (refine sched_s rfl rfl (fun _ hK => ?_); go_simp; first | (refine hK _ ?_; clear hK) | (refine ⟨_, fun _ => rfl, hK _ ?_⟩; clear hK)))
                        refine sched_nil (NoPanic.normal ?_)
                        have hsj2 : Same wc wi.drew := hsj.out.drew
                        replace hsj2 := Lib.hid hsj2
                        go_wp2_with fail
                        go_roundw
                        case rel => exact ⟨j + 1, by go_num, by omega, hsj2.out⟩
                        case measure => simp [intOf]; omega
                      · have hfin := hwy.out.same hsj
                        obtain ⟨wz, rfl⟩ : ∃ wz : World, wz = wr := ⟨_, rfl⟩
                        replace hsj := Lib.hid hsj; replace hfin := Lib.hid hfin
                        obtain ⟨ar, cr, hvk, hrl, hrs⟩ := RowsIs.get (hr9.out.same hsj.out) h1.out
                        obtain ⟨ball, oall, rfl, hball, hcall⟩ := (hA9.out.same hsj.out).cell hRpos
                        have ck := hcall 0 _ hvk
                        have SA := fun W (hW : Same wz W) => rsame_true a6 ar c6 cr BS W (by rw [hrl]; exact (hF.out.same hsj.out).same hW) (by rw [hrl]; exact hrs.same hW) (by rw [hrl]; omega)
                        rw [hrl] at SA
                        rw [Nat.add_zero] at ck
                        clear hcall
                        replace hvk := Lib.hid hvk; replace hrl := Lib.hid hrl; replace hrs := Lib.hid hrs; replace SA := Lib.hid SA
                        go_wp2_with fail
                        refine (SA.out _ (by repeat (first | exact Fr.refl _ _ | apply Fr.alloc | apply Fr.drewN | apply Fr.drew | apply Fr.undrew | apply Fr.undrewN))).mono ?_
                        rintro e w11 ⟨rfl, hs11⟩
                        have hfin2 := hfin.out.same ((show Same wz _ from (by repeat (first | exact Fr.refl _ _ | apply Fr.alloc | apply Fr.drewN | apply Fr.drew | apply Fr.undrew | apply Fr.undrewN))).same hs11)
                        replace hfin2 := Lib.hid hfin2
                        replace hs11 := Lib.hid hs11
                        go_wp2_with fail
                        go_ret
                        exact ⟨rfl, hfin2.out⟩
end Go.Proofs.Ytaebjalpebgliaa
