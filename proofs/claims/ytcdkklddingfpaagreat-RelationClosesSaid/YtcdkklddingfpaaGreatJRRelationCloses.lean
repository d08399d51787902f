/- RelationCloses: the given statement. Printed by wip/mkrow.py. RelationCloses walked. Printed by wip/mkrel.py. -/
import Derived.Test.YtcdkklddingfpaaGreatJRlN
import Derived.Test.YtcdkklddingfpaaGreatJRowL
namespace Go.Proofs.YtcdkklddingfpaaGreat
open Go.RowKit
set_option linter.unusedVariables false
set_option linter.unusedSimpArgs false

theorem clo_facts {b n s : Nat} (hs : s < 2) {l : List (Nat × Nat)} {u : List Bool} {p : Nat → Bool} (hn : n ≤ 2 ^ b) (hl : ∀ p ∈ l, p.1 < n ∧ p.2 < n) (h : SetIs b n u (filF p n)) {j : Nat} (h1 : clI b s (relT b l) u (j + 1) = clI b s (relT b l) u j) (h2 : ∀ i, i < j → clI b s (relT b l) u i ≠ clI b s (relT b l) u (i + 1)) :
    (∀ c, c < j → (haveF (decide (s = 1)) l (filF p n) n (c + 1)).length ≠ (haveF (decide (s = 1)) l (filF p n) n c).length) ∧ (haveF (decide (s = 1)) l (filF p n) n (j + 1)).length = (haveF (decide (s = 1)) l (filF p n) n j).length := by
  constructor
  · intro c hc he
    have e1 := h.have hs hn hl c
    have e2 := h.have hs hn hl (c + 1)
    have : haveF (decide (s = 1)) l (filF p n) n c = haveF (decide (s = 1)) l (filF p n) n (c + 1) := by
      obtain ⟨q, hq⟩ := have_fil (back := decide (s = 1)) (l := l) (p := p) (n := n) c
      rw [show haveF (decide (s = 1)) l (filF p n) n (c + 1) = uniF (haveF (decide (s = 1)) l (filF p n) n c) (stepF (decide (s = 1)) l (haveF (decide (s = 1)) l (filF p n) n c) n) n from rfl] at he ⊢
      rw [hq] at he ⊢
      exact uni_len.2 he.symm
    rw [← this] at e2
    exact h2 c hc (e1.inj e2)
  · have e1 := h.have hs hn hl j
    have e2 := h.have hs hn hl (j + 1)
    rw [h1] at e2
    rw [e2.uniq e1]
theorem have_len {back : Bool} {l : List (Nat × Nat)} {p : Nat → Bool} {n : Nat} (k : Nat) : (haveF back l (filF p n) n k).length ≤ n := by
  obtain ⟨q, hq⟩ := have_fil (back := back) (l := l) (p := p) (n := n) k
  rw [hq]; exact filF_len _ _
/-- A closure's return, opened; a closed set is closed in 0 rounds. -/
theorem clo_open {E : Int} {b s : Nat} {r u : List Bool} {w w' : World} {e : Ending} (h : ClE E b s r u w e w') (h0 : E = 0) : ∃ (k : Nat) (a : Option Addr) (c : Nat) (L : List Nd) (q : Int), e = .returned (.tuple #[.agg #[.int .i64 b, .slice a L.length c, .int .i64 q], .int .i64 k, .int .i64 0]) ∧ Dg.at w' ⟨b, a, c, L, q⟩ ∧ IsTab b (clI b s r u k) L q ∧ clI b s r u (k + 1) = clI b s r u k ∧ (∀ j, j < k → clI b s r u j ≠ clI b s r u (j + 1)) ∧ Same w w' := (ClE.ok h h0).open
theorem clo_again {E : Int} {b s : Nat} {r u : List Bool} {w w' : World} {e : Ending} {j : Nat} (h : ClE E b s r (clI b s r u j) w e w') (h0 : E = 0) (hj : clI b s r u (j + 1) = clI b s r u j) : ∃ (a : Option Addr) (c : Nat) (L : List Nd) (q : Int), e = .returned (.tuple #[.agg #[.int .i64 b, .slice a L.length c, .int .i64 q], .int .i64 0, .int .i64 0]) ∧ Dg.at w' ⟨b, a, c, L, q⟩ ∧ IsTab b (clI b s r u j) L q ∧ Same w w' := by
  obtain ⟨k, a, c, L, q, he, hd, ht, h1, h2, hs⟩ := (ClE.ok h h0).open
  have hk : k = 0 := cl_uniq h1 h2 (show clI b s r (clI b s r u j) (0 + 1) = clI b s r (clI b s r u j) 0 from hj) (fun i hi => by omega)
  subst hk
  exact ⟨a, c, L, q, he, hd, ht, hs⟩
set_option maxRecDepth 100000 in
set_option maxHeartbeats 16000000 in
theorem rcloses_any (x : Int) (hx : 0 ≤ x ∧ x ≤ 255) (lk : List Nat) (h20 : lk.length = 20) (hlk : ∀ y ∈ lk, y < 256) (s : Int) (hs16 : 0 ≤ s ∧ s ≤ 65535) (w : World) :
    Calls Tryz.prog 4 #[.int .u8 x, .agg (bytC lk).toArray, .int .u16 s] w fun e w' => e = .returned (.bool true) ∧ Same w w' := by
  obtain ⟨k, hk⟩ : ∃ k : Nat, k = x.toNat % 13 := ⟨_, rfl⟩
  have hk12 : k ≤ 12 := by omega
  have h1 : x.tmod 13 = (k : Int) := by rw [Int.tmod_eq_emod_of_nonneg hx.1]; omega
  have h2 : IntKind.u8.wrap (k : Int) = k := by unfold IntKind.wrap; simp [IntKind.bits, IntKind.signed]; omega
  have h3 : wrap64 (k : Int) = k := by unfold wrap64; omega
  have h4 : IntKind.i64.wrap (k : Int) = k := IntWalk.i64_in _ (by omega)
  have hkb : k ≤ 2 ^ bitsF k := (bitsF_is (n := k) (by omega)).1
  have hb4 : bitsF k ≤ 4 := (bitsF_is (n := k) (by omega)).bd (by omega)
  have KN := fun W => known_any W
  clear hk hx
  have PR := fun W => lpairs_any lk k W h20 hlk (by omega)
  have hP := lkP_lt lk k 10
  have hPl := lkP_len lk k 10
  obtain ⟨P, hPd⟩ : ∃ P, P = lkP lk k 10 := ⟨_, rfl⟩
  rw [← hPd] at PR hP hPl
  have hcs : (bytC lk).toArray.size = 20 := by simp [bytC, h20]
  generalize (bytC lk).toArray = cs at *
  clear h20 hlk hPd
  have ME := fun W => members_any k s W (by omega)
  obtain ⟨b, hb⟩ : ∃ b, b = bitsF k := ⟨_, rfl⟩
  rw [← hb] at hkb hb4
  obtain ⟨m, hm⟩ : ∃ m, m = 2 * b := ⟨_, rfl⟩
  have FP := fun a cap W h => fromP (k := k) (by omega) hb P hP a cap W (by omega) h
  have SE := fun a cap W h => setP (k := k) (by omega) hb (memP s) a cap W h
  have hS := SetIs.tabS (p := memP s) hkb
  have FW := fun (dr df : Dg) (t u : List Bool) (W : World) (h1 : dr.at W) (h2 : df.at W) (h3 : dr.tab m t) (h4 : df.tab b u) => Forward_any (m := m) (b := b) (fun _ => by omega) dr df t u W h1 h2 h3 h4
  have BW := fun (dr df : Dg) (t u : List Bool) (W : World) (h1 : dr.at W) (h2 : df.at W) (h3 : dr.tab m t) (h4 : df.tab b u) => Backward_any (m := m) (b := b) (fun _ => by omega) dr df t u W h1 h2 h3 h4
  simp only [if_pos hm] at FW BW
  have H0 := fun c => hS.have (s := 0) (by omega) hkb hP c
  have H1 := fun c => hS.have (s := 1) (by omega) hkb hP c
  have C0 := fun j h1 h2 => clo_facts (s := 0) (by omega) hkb hP hS (j := j) h1 h2
  have C1 := fun j h1 h2 => clo_facts (s := 1) (by omega) hkb hP hS (j := j) h1 h2
  have hl0 := fun c => have_len (back := false) (l := P) (p := memP s) (n := k) c
  have hl1 := fun c => have_len (back := true) (l := P) (p := memP s) (n := k) c
  simp only [show decide (0 = 1) = false from rfl] at H0 C0
  simp only [show decide (1 = 1) = true from rfl, decide_true] at H1 C1
  have hMl := filF_len (memP s) k
  generalize filF (memP s) k = M at *
  generalize tabS b 0 M = tM at *
  generalize relT b P = tR at *
  have ST := fun (S : List Nat) (t : List Bool) (h : SetIs b k t S) => stP (k := k) (by omega) hb hkb h
  have L0 := fun S a1 c1 a2 c2 W (hl : S.length ≤ 100) h1 h2 => lstep_false P S k a1 a2 P.length c1 S.length c2 W (by omega) rfl rfl h1 h2 (by omega) (by omega)
  have L1 := fun S a1 c1 a2 c2 W (hl : S.length ≤ 100) h1 h2 => lstep_true P S k a1 a2 P.length c1 S.length c2 W (by omega) rfl rfl h1 h2 (by omega) (by omega)
  have hsl := fun back S => show (stepF back P S k).length ≤ k from filF_len _ _
  have UN := fun S S' a1 c1 a2 c2 W (hl : S.length ≤ 100) (hl' : S'.length ≤ 100) h1 h2 => union_any S S' k a1 a2 S.length S'.length c1 c2 W (by omega) h1 h2 rfl rfl (by omega) (by omega)
  have hst : ∀ back c, uniF (haveF back P M k c) (stepF back P (haveF back P M k c) k) k = haveF back P M k (c + 1) := fun _ _ => rfl
  have hv0 : ∀ back, haveF back P M k 0 = M := fun _ => rfl
  have SI := fun (S : List Nat) a1 c1 a2 c2 W (hl : S.length ≤ 100) h1 h2 => sameInts_any (natI S) (natI S) a1 a2 S.length S.length c1 c2 W (natI_len _) (natI_len _) h1 h2 (by omega)
  simp only [decide_true] at SI
  simp only [← hm] at FP
  have CB := fun (s j : Nat) (h : ∀ i, i < j → clI b s tR tM i ≠ clI b s tR tM (i + 1)) => Nat.le_trans (clI_bound hS.len h) (show 2 ^ b ≤ 2 ^ 4 from Nat.pow_le_pow_right (by omega) hb4)
  replace KN := Lib.hid KN; replace PR := Lib.hid PR; replace hP := Lib.hid hP; replace hPl := Lib.hid hPl; replace ME := Lib.hid ME; replace FP := Lib.hid FP; replace SE := Lib.hid SE; replace hS := Lib.hid hS; replace ST := Lib.hid ST; replace L0 := Lib.hid L0; replace L1 := Lib.hid L1; replace hm := Lib.hid hm; replace hb := Lib.hid hb; replace FW := Lib.hid FW; replace BW := Lib.hid BW; replace H0 := Lib.hid H0; replace H1 := Lib.hid H1; replace C0 := Lib.hid C0; replace C1 := Lib.hid C1; replace hl0 := Lib.hid hl0; replace hl1 := Lib.hid hl1; replace hsl := Lib.hid hsl; replace UN := Lib.hid UN; replace hst := Lib.hid hst; replace hv0 := Lib.hid hv0; replace SI := Lib.hid SI; replace CB := Lib.hid CB
  go_enter Tryz.func4, Tryz.ntmps4
  go_wp2_with fail
  have kb := heap_new w (.cells cs 48)
  refine (KN.out _).mono ?_
  rintro e w1 ⟨rfl, hs1⟩
  replace kb := Lib.hid (hs1.at kb id)
  have hs1 : Same w w1 := (show Same w _ from (by repeat (first | exact Fr.refl _ _ | apply Fr.alloc | apply Fr.drewN | apply Fr.drew | apply Fr.undrew | apply Fr.undrewN))).same hs1
  replace hs1 := Lib.hid hs1
  go_upto_region 4 with fail
  refine wp_region_lit ?_
  refine wpList_load_row rfl 48 (.tmp 4) rfl w.heap.size rfl 48 cs (0, 0) _ (kb.out) Tryz.underlying48 rfl (by rw [infoL, hcs]) ?_
  (try simp only [Act.put, List.setIfInBounds_toArray, List.set_cons_zero, List.set_cons_succ])
  go_wp2_with fail
  refine (PR.out _).mono ?_
  rintro e w2 ⟨aP, cP, rfl, hpr, s2⟩
  have hP' := SliceAt.of_owns hpr
  have hw := hs1.out.same s2
  clear hpr s2
  replace hP' := Lib.hid hP'; replace hw := Lib.hid hw
  go_wp2_with fail
  refine (ME.out _).mono ?_
  rintro e w3 ⟨aM, cM, rfl, hme, s3⟩
  have hM' := (SliceAt.of_owns hme).row
  replace hw := Lib.hid (hw.out.same s3); replace hP' := Lib.hid (hP'.out.same s3)
  clear hme s3 kb hs1 KN PR ME
  replace hM' := Lib.hid hM'
  go_upto_region 5 with fail
  have C5 := FP.out _ _ _ hP'.out
  replace C5 := Lib.hid C5
  go_wp2_with fail
  refine (C5.out).mono ?_
  intro e v5 hM
  obtain ⟨a5, c5, L5, r5, rfl, d5, z5, s5⟩ := hM.open
  clear hM
  
  go_upto_region 6 with fail
  have q5 : Bx (v5.alloc (.cells #[.int .i64 m, .slice a5 L5.length c5, .int .i64 r5] 29)) v5.heap.size m _ a5 c5 L5 r5 := ⟨heap_new _ _, SliceAt.same d5 (by repeat (first | exact Fr.refl _ _ | apply Fr.alloc | apply Fr.drewN | apply Fr.drew | apply Fr.undrew | apply Fr.undrewN)), z5⟩
  have s5 := s5.same (show Same v5 (v5.alloc (.cells #[.int .i64 m, .slice a5 L5.length c5, .int .i64 r5] 29)) from (by repeat (first | exact Fr.refl _ _ | apply Fr.alloc | apply Fr.drewN | apply Fr.drew | apply Fr.undrew | apply Fr.undrewN)))
  clear d5 z5
  generalize v5.alloc (.cells #[.int .i64 m, .slice a5 L5.length c5, .int .i64 r5] 29) = w5 at *
  generalize v5.heap.size = b5 at *
  replace hw := Lib.hid (hw.out.same s5); replace hP' := Lib.hid (hP'.out.same s5); replace hM' := Lib.hid (hM'.out.same s5)
  replace q5 := Lib.hid q5; replace s5 := Lib.hid s5
  clear C5 s5
  have C6 := SE.out _ _ _ hM'.out
  replace C6 := Lib.hid C6
  go_wp2_with fail
  refine (C6.out).mono ?_
  intro e v6 hM
  obtain ⟨a6, c6, L6, r6, rfl, d6, z6, s6⟩ := hM.open
  clear hM
  
  go_upto_region 7 with fail
  have q6 : Bx (v6.alloc (.cells #[.int .i64 b, .slice a6 L6.length c6, .int .i64 r6] 29)) v6.heap.size b _ a6 c6 L6 r6 := ⟨heap_new _ _, SliceAt.same d6 (by repeat (first | exact Fr.refl _ _ | apply Fr.alloc | apply Fr.drewN | apply Fr.drew | apply Fr.undrew | apply Fr.undrewN)), z6⟩
  have s6 := s6.same (show Same v6 (v6.alloc (.cells #[.int .i64 b, .slice a6 L6.length c6, .int .i64 r6] 29)) from (by repeat (first | exact Fr.refl _ _ | apply Fr.alloc | apply Fr.drewN | apply Fr.drew | apply Fr.undrew | apply Fr.undrewN)))
  clear d6 z6
  generalize v6.alloc (.cells #[.int .i64 b, .slice a6 L6.length c6, .int .i64 r6] 29) = w6 at *
  generalize v6.heap.size = b6 at *
  replace hw := Lib.hid (hw.out.same s6); replace hP' := Lib.hid (hP'.out.same s6); replace hM' := Lib.hid (hM'.out.same s6); replace q5 := Lib.hid (q5.out.same s6)
  replace q6 := Lib.hid q6; replace s6 := Lib.hid s6
  clear C6 s6
  clear FP SE
  go_wp2_with fail
  go_loopw [14] (fun i wr => ∃ k : Nat, i = .int .i64 k ∧ k ≤ 2 ∧ Same w6 wr) (fun i _ => 2 - (intOf i).toNat)
  case atStart => exact ⟨0, rfl, by omega, Fr.refl _ _⟩
  case round =>
    obtain ⟨i, rfl, hi, hs⟩ := hrel
    have hz6 := hs.size
    by_cases hi2 : i < 2
    · have q5r := q5.out.same hs
      have q6r := q6.out.same hs
      obtain ⟨w7, rfl⟩ : ∃ W, W = wr := ⟨_, rfl⟩
      replace q5r := Lib.hid q5r; replace q6r := Lib.hid q6r; replace hs := Lib.hid hs
      have x0 := cell_at q5r.out.heap 0
      have x1 := cell_at q5r.out.heap 1
      have x2 := cell_at q5r.out.heap 2
      have xl := lt_of_heap q5r.out.heap
      have y0 := cell_at q6r.out.heap 0
      have y1 := cell_at q6r.out.heap 1
      have y2 := cell_at q6r.out.heap 2
      have yl := lt_of_heap q6r.out.heap
      have F1 := FW.out ⟨m, a5, c5, L5, r5⟩ ⟨b, a6, c6, L6, r6⟩ _ _ w7 q5r.out.at' q6r.out.at' ⟨rfl, q5r.out.tab⟩ ⟨rfl, q6r.out.tab⟩
      replace F1 := Lib.hid F1
      go_wp2_with fail
      refine F1.out.mono ?_
      intro e v12 hM
      obtain ⟨j, a12, c12, L12, r12, rfl, d12, z12, hj1, hj2, s12⟩ := clo_open hM rfl
      have hjb : j ≤ 16 := CB.out 0 j hj2
      clear x0 x1 x2 xl
      clear y0 y1 y2 yl
      have hb12 := s12.size
      clear hM F1
      have hbb : w6.heap.size ≤ v12.heap.size := by omega
      go_upto_region 13 with fail
      have q12 : Bx (v12.alloc (.cells #[.int .i64 b, .slice a12 L12.length c12, .int .i64 r12] 29)) v12.heap.size b _ a12 c12 L12 r12 := ⟨heap_new _ _, SliceAt.same d12 (by repeat (first | exact Fr.refl _ _ | apply Fr.alloc | apply Fr.drewN | apply Fr.drew | apply Fr.undrew | apply Fr.undrewN)), z12⟩
      have s12 := s12.same (show Same v12 (v12.alloc (.cells #[.int .i64 b, .slice a12 L12.length c12, .int .i64 r12] 29)) from (by repeat (first | exact Fr.refl _ _ | apply Fr.alloc | apply Fr.drewN | apply Fr.drew | apply Fr.undrew | apply Fr.undrewN)))
      clear d12 z12
      generalize v12.alloc (.cells #[.int .i64 b, .slice a12 L12.length c12, .int .i64 r12] 29) = w12 at *
      generalize v12.heap.size = b12 at *
      replace hs := Lib.hid (hs.out.same s12); replace q5r := Lib.hid (q5r.out.same s12); replace q6r := Lib.hid (q6r.out.same s12)
      replace q12 := Lib.hid q12; replace s12 := Lib.hid s12
      have hz12 := lt_of_heap q12.out.heap
      clear s12 hb12
      have x0 := cell_at q5r.out.heap 0
      have x1 := cell_at q5r.out.heap 1
      have x2 := cell_at q5r.out.heap 2
      have xl := lt_of_heap q5r.out.heap
      have y0 := cell_at q12.out.heap 0
      have y1 := cell_at q12.out.heap 1
      have y2 := cell_at q12.out.heap 2
      have yl := lt_of_heap q12.out.heap
      have F1 := FW.out ⟨m, a5, c5, L5, r5⟩ ⟨b, a12, c12, L12, r12⟩ _ _ w12 q5r.out.at' q12.out.at' ⟨rfl, q5r.out.tab⟩ ⟨rfl, q12.out.tab⟩
      replace F1 := Lib.hid F1
      go_wp2_with fail
      refine F1.out.mono ?_
      intro e v13 hM
      obtain ⟨a13, c13, L13, r13, rfl, d13, z13, s13⟩ := clo_again hM rfl hj1
      clear x0 x1 x2 xl
      clear y0 y1 y2 yl
      have hb13 := s13.size
      have hbc : b12 < v13.heap.size := by omega
      clear hM F1
      go_upto_region 14 with fail
      have q13 : Bx (v13.alloc (.cells #[.int .i64 b, .slice a13 L13.length c13, .int .i64 r13] 29)) v13.heap.size b _ a13 c13 L13 r13 := ⟨heap_new _ _, SliceAt.same d13 (by repeat (first | exact Fr.refl _ _ | apply Fr.alloc | apply Fr.drewN | apply Fr.drew | apply Fr.undrew | apply Fr.undrewN)), z13⟩
      have s13 := s13.same (show Same v13 (v13.alloc (.cells #[.int .i64 b, .slice a13 L13.length c13, .int .i64 r13] 29)) from (by repeat (first | exact Fr.refl _ _ | apply Fr.alloc | apply Fr.drewN | apply Fr.drew | apply Fr.undrew | apply Fr.undrewN)))
      clear d13 z13
      generalize v13.alloc (.cells #[.int .i64 b, .slice a13 L13.length c13, .int .i64 r13] 29) = w13 at *
      generalize v13.heap.size = b13 at *
      replace hs := Lib.hid (hs.out.same s13); replace q5r := Lib.hid (q5r.out.same s13); replace q6r := Lib.hid (q6r.out.same s13); replace q12 := Lib.hid (q12.out.same s13)
      replace q13 := Lib.hid q13; replace s13 := Lib.hid s13
      clear s13 hb13 hz12
      rcases (show i = 0 ∨ i = 1 by omega) with hi0 | hi1
      · have ei : ((i : Int) == 1) = false := by simp; omega
        replace hi0 := Lib.hid hi0; replace hj1 := Lib.hid hj1; replace hj2 := Lib.hid hj2
        go_upto_region 17 with fail
        have CF := C0.out j hj1.out hj2.out
        have Hj := H0.out j
        have hPt := hP'.out.same hs.out
        have hMt := hM'.out.same hs.out
        have hwt := hw.out.same hs.out
        have hl := hl0.out
        have hv0' := hv0.out false
        have hst' := hst.out false
        have hsl' := hsl.out false
        have Ls := L0.out
        have hF0 : haveF false P M k 0 = M := hv0'
        obtain ⟨F, hF⟩ : ∃ F, F = fun c => haveF false P M k c := ⟨_, rfl⟩
        have hF' : ∀ c, haveF false P M k c = F c := fun c => by rw [hF]
        simp only [hF'] at CF Hj hl hst' hF0
        rw [← hF0] at hMt
        clear hF hF'
        obtain ⟨wt, rfl⟩ : ∃ X, X = w13 := ⟨_, rfl⟩
        replace CF := Lib.hid CF; replace Hj := Lib.hid Hj; replace hPt := Lib.hid hPt; replace hMt := Lib.hid hMt; replace hwt := Lib.hid hwt; replace hl := Lib.hid hl; replace hst' := Lib.hid hst'; replace Ls := Lib.hid Ls; replace hsl' := Lib.hid hsl'; replace hF0 := Lib.hid hF0
        go_wp2_with fail
        go_loopw [21, 22] (fun v n wr => ∃ (c cap : Nat) (a : Option Addr), v = .slice a (F c).length cap ∧ n = .int .i64 c ∧ c ≤ j ∧ RowAt wr (.slice a (F c).length cap) (F c).length (intCells (natI (F c))) ∧ Same wt wr) (fun _ n _ => j - (intOf n).toNat)
        case atStart => exact ⟨0, cM, aM, by rw [hF0.out], rfl, by omega, hMt.out, Fr.refl _ _⟩
        case round =>
          obtain ⟨c, cap, a, rfl, rfl, hc, hr, hsr⟩ := hrel
          have hlc := hl.out c
          have hlc1 := hl.out (c + 1)
          have hse := hst'.out c
          have hsc := hsl'.out (F c)
          have hPr := hPt.out.same hsr
          have Lc := Ls.out (F c)
          generalize stepF false P (F c) k = Sc at *
          replace hr := Lib.hid hr; replace hsr := Lib.hid hsr; replace hse := Lib.hid hse; replace hPr := Lib.hid hPr; replace Lc := Lib.hid Lc
          go_wp2_with fail
          refine (Lc.out _ _ _ _ _ (by omega) hPr.out hr.out).mono ?_
          rintro e w18 ⟨a18, c18, rfl, ho18, s18⟩
          have hr18 := (SliceAt.of_owns ho18).row
          replace hr := Lib.hid (hr.out.same s18); replace hsr := Lib.hid (hsr.out.same s18)
          clear s18 ho18
          replace hr18 := Lib.hid hr18
          go_wp2_with fail
          refine (UN.out _ _ _ _ _ _ _ (by omega) (by omega) hr.out hr18.out).mono ?_
          rintro e w19 ⟨a19, c19, rfl, ho19, s19⟩
          have hr19 := (SliceAt.of_owns ho19).row
          rw [hse.out] at hr19 ⊢
          replace hr := Lib.hid (hr.out.same s19); replace hsr := Lib.hid (hsr.out.same s19)
          clear s19 ho19 hr18 hse hPr
          replace hr19 := Lib.hid hr19
          by_cases hcj : c < j
          · have hne := CF.out.1 c hcj
            have hneb : (((F (c + 1)).length : Int) == ((F c).length : Int)) = false := by simp; omega
            replace hne := Lib.hid hne
            go_wp2_with fail
            go_roundw
            case rel => exact ⟨c + 1, c19, a19, rfl, by go_num, by omega, hr19.out, hsr.out.same (by repeat (first | exact Fr.refl _ _ | apply Fr.alloc | apply Fr.drewN | apply Fr.drew | apply Fr.undrew | apply Fr.undrewN))⟩
            case measure => simp [intOf]; omega
          · have hcj' : j = c := by omega
            subst hcj'
            have heq := CF.out.2
            have heqb : (((F (j + 1)).length : Int) == ((F j).length : Int)) = true := by simp; omega
            have hsx := hsr.out
            replace q12 := Lib.hid (q12.out.same hsx); replace q13 := Lib.hid (q13.out.same hsx); replace hwt := Lib.hid (hwt.out.same hsx); replace hs := Lib.hid (hs.out.same hsx)
            clear hsx hsr
            replace heq := Lib.hid heq
            go_upto_region 22 with fail
            have x0 := cell_at q12.out.heap 0
            have x1 := cell_at q12.out.heap 1
            have x2 := cell_at q12.out.heap 2
            have xl := lt_of_heap q12.out.heap
            have S22 := ST.out _ _ Hj.out ⟨b, a12, c12, L12, r12⟩ w19 q12.out.at' ⟨rfl, q12.out.tab⟩
            replace S22 := Lib.hid S22
            go_wp2_with fail
            refine S22.out.mono ?_
            rintro e w22 ⟨a22, c22, rfl, hr22, s22⟩
            clear x0 x1 x2 xl
            replace q12 := Lib.hid (q12.out.same s22); replace q13 := Lib.hid (q13.out.same s22); replace hwt := Lib.hid (hwt.out.same s22); replace hs := Lib.hid (hs.out.same s22); replace hr := Lib.hid (hr.out.same s22)
            clear s22 S22
            replace hr22 := Lib.hid hr22
            go_wp2_with fail
            refine (SI.out _ _ _ _ _ _ (by omega) hr22.out hr.out).mono ?_
            rintro e w23 ⟨rfl, s23⟩
            replace q12 := Lib.hid (q12.out.same s23); replace q13 := Lib.hid (q13.out.same s23); replace hwt := Lib.hid (hwt.out.same s23); replace hs := Lib.hid (hs.out.same s23)
            clear s23 hr22 hr
            have x0 := cell_at q12.out.heap 0
            have x1 := cell_at q12.out.heap 1
            have x2 := cell_at q12.out.heap 2
            have xl := lt_of_heap q12.out.heap
            have y0 := cell_at q13.out.heap 0
            have y1 := cell_at q13.out.heap 1
            have y2 := cell_at q13.out.heap 2
            have yl := lt_of_heap q13.out.heap
            have EQ := equal_dg (d := ⟨b, a13, c13, L13, r13⟩) (d' := ⟨b, a12, c12, L12, r12⟩) (w := w23) q13.out.at' q12.out.at' ⟨rfl, q13.out.tab⟩ ⟨rfl, q12.out.tab⟩
            simp only [decide_true] at EQ
            replace EQ := Lib.hid EQ
            go_wp2_with fail
            refine EQ.out.mono ?_
            rintro e w24 ⟨rfl, s24⟩
            clear x0 x1 x2 xl
            clear y0 y1 y2 yl
            replace hs := Lib.hid (hs.out.same s24)
            clear s24 EQ
            go_wp2_with fail
            go_roundw
            case rel => exact ⟨i + 1, by go_num, by omega, hs.out.same (by repeat (first | exact Fr.refl _ _ | apply Fr.alloc | apply Fr.drewN | apply Fr.drew | apply Fr.undrew | apply Fr.undrewN))⟩
            case measure => simp [intOf]; omega
      · have ei : ((i : Int) == 1) = true := by simp; omega
        replace hi1 := Lib.hid hi1
        clear hj1 hj2
        go_upto_region 15 with fail
        have x0 := cell_at q5r.out.heap 0
        have x1 := cell_at q5r.out.heap 1
        have x2 := cell_at q5r.out.heap 2
        have xl := lt_of_heap q5r.out.heap
        have y0 := cell_at q6r.out.heap 0
        have y1 := cell_at q6r.out.heap 1
        have y2 := cell_at q6r.out.heap 2
        have yl := lt_of_heap q6r.out.heap
        have F1 := BW.out ⟨m, a5, c5, L5, r5⟩ ⟨b, a6, c6, L6, r6⟩ _ _ w13 q5r.out.at' q6r.out.at' ⟨rfl, q5r.out.tab⟩ ⟨rfl, q6r.out.tab⟩
        replace F1 := Lib.hid F1
        go_wp2_with fail
        refine F1.out.mono ?_
        intro e v14 hM
        obtain ⟨j', a14, c14, L14, r14, rfl, d14, z14, hj1, hj2, s14⟩ := clo_open hM rfl
        have hjb' : j' ≤ 16 := CB.out 1 j' hj2
        clear x0 x1 x2 xl
        clear y0 y1 y2 yl
        have k12 := s14.at q12.out.heap id
        have k13 := s14.at q13.out.heap id
        have hs14 := hs.out.same s14
        clear hM F1 q12 q5r q6r hs s14
        obtain ⟨y0, y1, y2, yf0, yf1, yf2, yl⟩ := box_facts k12
        replace k12 := Lib.hid k12; replace k13 := Lib.hid k13; replace hs14 := Lib.hid hs14; replace hj1 := Lib.hid hj1; replace hj2 := Lib.hid hj2
        go_upto_region 16 with fail
        obtain ⟨k12', f14⟩ := box_dg (u0 := .int .i64 b) (u1 := .slice a14 L14.length c14) (u2 := .int .i64 r14) k12.out
        have d15 := SliceAt.fr d14 f14 (fun i cur hk' e => by rw [show i = b12 from e, k12.out] at hk'; simp at hk')
        have hs15 := hs14.out.trans f14 (fun i hi e => by have : i = b12 := e; omega)
        have k13' := f14.at k13.out (fun e => by have : b13 = b12 := e; omega)
        generalize ((v14.setCell ⟨b12, 0, none⟩ (.int .i64 b)).setCell ⟨b12, 1, none⟩ (.slice a14 L14.length c14)).setCell ⟨b12, 2, none⟩ (.int .i64 r14) = w15 at *
        have q12 : Bx w15 b12 b _ a14 c14 L14 r14 := ⟨k12', d15, z14⟩
        have q5r := q5.out.same hs15
        clear f14 k12 k13 hs14 y0 y1 y2 yf0 yf1 yf2 yl k12' d14 d15
        replace q12 := Lib.hid q12; replace q5r := Lib.hid q5r; replace hs15 := Lib.hid hs15; replace k13' := Lib.hid k13'
        have x0 := cell_at q5r.out.heap 0
        have x1 := cell_at q5r.out.heap 1
        have x2 := cell_at q5r.out.heap 2
        have xl := lt_of_heap q5r.out.heap
        have y0 := cell_at q12.out.heap 0
        have y1 := cell_at q12.out.heap 1
        have y2 := cell_at q12.out.heap 2
        have yl := lt_of_heap q12.out.heap
        have F1 := BW.out ⟨m, a5, c5, L5, r5⟩ ⟨b, a14, c14, L14, r14⟩ _ _ w15 q5r.out.at' q12.out.at' ⟨rfl, q5r.out.tab⟩ ⟨rfl, q12.out.tab⟩
        replace F1 := Lib.hid F1
        go_wp2_with fail
        refine F1.out.mono ?_
        intro e v16 hM
        obtain ⟨a16, c16, L16, r16, rfl, d16, z16, s16⟩ := clo_again hM rfl hj1.out
        clear x0 x1 x2 xl
        clear y0 y1 y2 yl
        have k13 := s16.at k13'.out id
        have q12b := q12.out.same s16
        have hs16 := hs15.out.same s16
        clear hM F1 q12 q5r hs15 s16 k13'
        obtain ⟨y0, y1, y2, yf0, yf1, yf2, yl⟩ := box_facts k13
        replace k13 := Lib.hid k13; replace hs16 := Lib.hid hs16; replace q12b := Lib.hid q12b
        go_upto_region 17 with fail
        obtain ⟨k13', f16⟩ := box_dg (u0 := .int .i64 b) (u1 := .slice a16 L16.length c16) (u2 := .int .i64 r16) k13.out
        have d17 := SliceAt.fr d16 f16 (fun i cur hk' e => by rw [show i = b13 from e, k13.out] at hk'; simp at hk')
        have hs17 := hs16.out.trans f16 (fun i hi e => by have : i = b13 := e; omega)
        have dx := SliceAt.fr q12b.out.at' f16 (fun i cur hk' e => by rw [show i = b13 from e, k13.out] at hk'; simp at hk')
        have kx := f16.at q12b.out.heap (fun e => by have : b12 = b13 := e; omega)
        generalize ((v16.setCell ⟨b13, 0, none⟩ (.int .i64 b)).setCell ⟨b13, 1, none⟩ (.slice a16 L16.length c16)).setCell ⟨b13, 2, none⟩ (.int .i64 r16) = w17 at *
        have q12 : Bx w17 b12 b _ a14 c14 L14 r14 := ⟨kx, dx, z14⟩
        have q13 : Bx w17 b13 b _ a16 c16 L16 r16 := ⟨k13', d17, z16⟩
        have hs := hs17
        clear f16 k13 hs16 y0 y1 y2 yf0 yf1 yf2 yl k13' d16 d17 dx kx q12b hs17
        replace q12 := Lib.hid q12; replace q13 := Lib.hid q13; replace hs := Lib.hid hs
        have CF := C1.out j' hj1.out hj2.out
        have Hj := H1.out j'
        have hPt := hP'.out.same hs.out
        have hMt := hM'.out.same hs.out
        have hwt := hw.out.same hs.out
        have hl := hl1.out
        have hv0' := hv0.out true
        have hst' := hst.out true
        have hsl' := hsl.out true
        have Ls := L1.out
        have hF0 : haveF true P M k 0 = M := hv0'
        obtain ⟨F, hF⟩ : ∃ F, F = fun c => haveF true P M k c := ⟨_, rfl⟩
        have hF' : ∀ c, haveF true P M k c = F c := fun c => by rw [hF]
        simp only [hF'] at CF Hj hl hst' hF0
        rw [← hF0] at hMt
        clear hF hF'
        obtain ⟨wt, rfl⟩ : ∃ X, X = w17 := ⟨_, rfl⟩
        replace CF := Lib.hid CF; replace Hj := Lib.hid Hj; replace hPt := Lib.hid hPt; replace hMt := Lib.hid hMt; replace hwt := Lib.hid hwt; replace hl := Lib.hid hl; replace hst' := Lib.hid hst'; replace Ls := Lib.hid Ls; replace hsl' := Lib.hid hsl'; replace hF0 := Lib.hid hF0
        go_wp2_with fail
        go_loopw [21, 22] (fun v n wr => ∃ (c cap : Nat) (a : Option Addr), v = .slice a (F c).length cap ∧ n = .int .i64 c ∧ c ≤ j' ∧ RowAt wr (.slice a (F c).length cap) (F c).length (intCells (natI (F c))) ∧ Same wt wr) (fun _ n _ => j' - (intOf n).toNat)
        case atStart => exact ⟨0, cM, aM, by rw [hF0.out], rfl, by omega, hMt.out, Fr.refl _ _⟩
        case round =>
          obtain ⟨c, cap, a, rfl, rfl, hc, hr, hsr⟩ := hrel
          have hlc := hl.out c
          have hlc1 := hl.out (c + 1)
          have hse := hst'.out c
          have hsc := hsl'.out (F c)
          have hPr := hPt.out.same hsr
          have Lc := Ls.out (F c)
          generalize stepF true P (F c) k = Sc at *
          replace hr := Lib.hid hr; replace hsr := Lib.hid hsr; replace hse := Lib.hid hse; replace hPr := Lib.hid hPr; replace Lc := Lib.hid Lc
          go_wp2_with fail
          refine (Lc.out _ _ _ _ _ (by omega) hPr.out hr.out).mono ?_
          rintro e w18 ⟨a18, c18, rfl, ho18, s18⟩
          have hr18 := (SliceAt.of_owns ho18).row
          replace hr := Lib.hid (hr.out.same s18); replace hsr := Lib.hid (hsr.out.same s18)
          clear s18 ho18
          replace hr18 := Lib.hid hr18
          go_wp2_with fail
          refine (UN.out _ _ _ _ _ _ _ (by omega) (by omega) hr.out hr18.out).mono ?_
          rintro e w19 ⟨a19, c19, rfl, ho19, s19⟩
          have hr19 := (SliceAt.of_owns ho19).row
          rw [hse.out] at hr19 ⊢
          replace hr := Lib.hid (hr.out.same s19); replace hsr := Lib.hid (hsr.out.same s19)
          clear s19 ho19 hr18 hse hPr
          replace hr19 := Lib.hid hr19
          by_cases hcj : c < j'
          · have hne := CF.out.1 c hcj
            have hneb : (((F (c + 1)).length : Int) == ((F c).length : Int)) = false := by simp; omega
            replace hne := Lib.hid hne
            go_wp2_with fail
            go_roundw
            case rel => exact ⟨c + 1, c19, a19, rfl, by go_num, by omega, hr19.out, hsr.out.same (by repeat (first | exact Fr.refl _ _ | apply Fr.alloc | apply Fr.drewN | apply Fr.drew | apply Fr.undrew | apply Fr.undrewN))⟩
            case measure => simp [intOf]; omega
          · have hcj' : j' = c := by omega
            subst hcj'
            have heq := CF.out.2
            have heqb : (((F (j' + 1)).length : Int) == ((F j').length : Int)) = true := by simp; omega
            have hsx := hsr.out
            replace q12 := Lib.hid (q12.out.same hsx); replace q13 := Lib.hid (q13.out.same hsx); replace hwt := Lib.hid (hwt.out.same hsx); replace hs := Lib.hid (hs.out.same hsx)
            clear hsx hsr
            replace heq := Lib.hid heq
            go_upto_region 22 with fail
            have x0 := cell_at q12.out.heap 0
            have x1 := cell_at q12.out.heap 1
            have x2 := cell_at q12.out.heap 2
            have xl := lt_of_heap q12.out.heap
            have S22 := ST.out _ _ Hj.out ⟨b, a14, c14, L14, r14⟩ w19 q12.out.at' ⟨rfl, q12.out.tab⟩
            replace S22 := Lib.hid S22
            go_wp2_with fail
            refine S22.out.mono ?_
            rintro e w22 ⟨a22, c22, rfl, hr22, s22⟩
            clear x0 x1 x2 xl
            replace q12 := Lib.hid (q12.out.same s22); replace q13 := Lib.hid (q13.out.same s22); replace hwt := Lib.hid (hwt.out.same s22); replace hs := Lib.hid (hs.out.same s22); replace hr := Lib.hid (hr.out.same s22)
            clear s22 S22
            replace hr22 := Lib.hid hr22
            go_wp2_with fail
            refine (SI.out _ _ _ _ _ _ (by omega) hr22.out hr.out).mono ?_
            rintro e w23 ⟨rfl, s23⟩
            replace q12 := Lib.hid (q12.out.same s23); replace q13 := Lib.hid (q13.out.same s23); replace hwt := Lib.hid (hwt.out.same s23); replace hs := Lib.hid (hs.out.same s23)
            clear s23 hr22 hr
            have x0 := cell_at q12.out.heap 0
            have x1 := cell_at q12.out.heap 1
            have x2 := cell_at q12.out.heap 2
            have xl := lt_of_heap q12.out.heap
            have y0 := cell_at q13.out.heap 0
            have y1 := cell_at q13.out.heap 1
            have y2 := cell_at q13.out.heap 2
            have yl := lt_of_heap q13.out.heap
            have EQ := equal_dg (d := ⟨b, a16, c16, L16, r16⟩) (d' := ⟨b, a14, c14, L14, r14⟩) (w := w23) q13.out.at' q12.out.at' ⟨rfl, q13.out.tab⟩ ⟨rfl, q12.out.tab⟩
            simp only [decide_true] at EQ
            replace EQ := Lib.hid EQ
            go_wp2_with fail
            refine EQ.out.mono ?_
            rintro e w24 ⟨rfl, s24⟩
            clear x0 x1 x2 xl
            clear y0 y1 y2 yl
            replace hs := Lib.hid (hs.out.same s24)
            clear s24 EQ
            go_wp2_with fail
            go_roundw
            case rel => exact ⟨i + 1, by go_num, by omega, hs.out.same (by repeat (first | exact Fr.refl _ _ | apply Fr.alloc | apply Fr.drewN | apply Fr.drew | apply Fr.undrew | apply Fr.undrewN))⟩
            case measure => simp [intOf]; omega
    · obtain rfl : i = 2 := by omega
      replace hw := Lib.hid (hw.out.same hs)
      clear hs
      go_wp2_with fail
      go_ret
      exact ⟨rfl, hw.out.same (by repeat (first | exact Fr.refl _ _ | apply Fr.alloc | apply Fr.drewN | apply Fr.drew | apply Fr.undrew | apply Fr.undrewN))⟩
end Go.Proofs.YtcdkklddingfpaaGreat
namespace Go.Proofs.YtcdkklddingfpaaGreat.relationCloses
open Go.ChangeShapes Go.WideShapes Go.ChangeAt Go.RowKit
set_option linter.unusedVariables false

theorem own : ownKnob Tryz.prog.godebug = none := by kernel_rfl

set_option maxRecDepth 100000 in
theorem lifted (os : Os) (started : os.Started) (H : Type) (enc : TypeId × Value → H) :
    ReturnsInHanded {} Tryz.checked os 4 .any (Rows.relationClosesSpec.pre6 enc Tryz.prog Tryz.f4 Rows.relationClosesRow.domain false) (Rows.relationClosesSpec.post enc Tryz.prog Tryz.f4 false true false false) := by
  refine returnsInHanded_of_change (C := Tryz.checked) own started (by kernel_rfl) Tryz.func4
    (ChangeSpec.witness6 (enc := enc) (C := Tryz.checked) false ⟨#[], #[.int .u8 0, .agg #[.int .u8 0, .int .u8 0, .int .u8 0, .int .u8 0, .int .u8 0, .int .u8 0, .int .u8 0, .int .u8 0, .int .u8 0, .int .u8 0, .int .u8 0, .int .u8 0, .int .u8 0, .int .u8 0, .int .u8 0, .int .u8 0, .int .u8 0, .int .u8 0, .int .u8 0, .int .u8 0], .int .u16 0], []⟩ 8 (by kernel_rfl) (by kernel_rfl) (by kernel_rfl) (by kernel_rfl)) ?_
  intro W base args ds gs before hval0 hW hcnd _
  have hval : ∀ (j : Nat) t v, Tryz.f4.params[j]? = some t → args[j]? = some v → Value.okWide Tryz.prog W .any base t v := hval0
  have hW' := hW
  obtain ⟨p, q, hA0, hV, rfl, hfz, hnd⟩ := hW
  have hA : DataW.TrodAll enc Tryz.prog W 0 (fun _ => true) true Tryz.f4.params.toList args.toList ds p := hA0
  rw [Tryz.params4] at hA hval
  obtain ⟨v0, vs0, d0, ds0, p0, q0, hargs, rfl, rfl, h0, r0⟩ := trodAll_cons hA
  obtain ⟨v1, vs1, d1, ds1, p1, q1, rfl, rfl, rfl, h1, r1⟩ := trodAll_cons r0
  obtain ⟨v2, vs2, d2, ds2, p2, q2, rfl, rfl, rfl, h2, r2⟩ := trodAll_cons r1
  obtain ⟨rfl, rfl, rfl⟩ := trodAll_nil r2
  obtain rfl : args = #[v0, v1, v2] := by cases args; simp_all
  obtain ⟨rfl, rfl⟩ := trodVars_none hV
  obtain ⟨a0, rfl, rfl, rfl, w0⟩ := open_int Tryz.underlying5 (hval 0 5 v0 rfl rfl) h0
  have k1 := h1
  obtain ⟨l1, rfl, L1, B1⟩ := open_links (hval 1 48 v1 rfl rfl) h1
  obtain ⟨a2, rfl, rfl, rfl, w2⟩ := open_int Tryz.underlying49 (hval 2 49 v2 rfl rfl) h2
  clear hA0 hval0
  simp only [List.append_nil] at hW'
  refine (rcloses_any a0 (u8_wf w0) l1 L1 B1 a2 (u16_wf w2) W).mono fun e W' ⟨he, hg⟩ => ?_
  subst he
  exact ⟨_, rfl, post_fr (pa := ([] ++ (p1 ++ ([] ++ [])))) (pv := []) hW' (fun _ _ _ => (trodAll_cons_mk (shut_bool Tryz.underlying4 _) trodAll_mk0)) (fun sp SP => (trodAll_cons_mk (shut_int Tryz.underlying5 w0) (trodAll_cons_mk (stays (by kernel_rfl) (of_decide_eq_true (by kernel_rfl)) k1 hg (fun x hx => hW'.lt x (by simp [hx])) (fun x hx => SP x (by simp [hx]))) (trodAll_cons_mk (shut_int Tryz.underlying49 w2) trodAll_mk0)))) (fun _ _ => rfl) (by simp) hg (ok_one (by kernel_rfl) rfl (okWide_bool_mk Tryz.underlying4 _))⟩

theorem over : Rows.relationClosesRow.holds Tryz.pinned (OpenSpec.ofChange Rows.relationClosesSpec) :=
  OpenClaim.holds_of_wide 4 Tryz.f4 rfl rfl rfl rfl rfl rfl rfl ⟨rfl, rfl, rfl, rfl, rfl⟩ rfl rfl rfl rfl rfl (by kernel_rfl) Tryz.func4 (by kernel_rfl)
    (of_decide_eq_true (by kernel_rfl)) (by unfold Func.isWrapper; first | (rw [if_pos (by decide +kernel)]; kernel_rfl) | (rw [if_neg (by decide +kernel)]; exact ⟨rfl, rfl⟩))
    (fun os started H enc _ => lifted os started H enc)
end Go.Proofs.YtcdkklddingfpaaGreat.relationCloses

namespace Go.Proofs.YtcdkklddingfpaaGreat
/-- The given statement. -/
theorem relationCloses_holds : Rows.RelationClosesSaid := relationCloses.over
#print axioms relationCloses_holds
end Go.Proofs.YtcdkklddingfpaaGreat
