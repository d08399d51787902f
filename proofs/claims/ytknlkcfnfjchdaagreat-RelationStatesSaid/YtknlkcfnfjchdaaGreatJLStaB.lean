/- RelationStates walked, case 2 of the switch. -/
import Derived.Test.YtknlkcfnfjchdaaGreatJLStaA
namespace Go.Proofs.YtknlkcfnfjchdaaGreat
open Go.RowKit
set_option linter.unusedVariables false
set_option linter.unusedSimpArgs false
set_option maxRecDepth 100000 in
set_option maxHeartbeats 16000000 in
theorem rstates_c1 (x : Int) (hx : 0 ≤ x ∧ x ≤ 255) (y : Int) (hy : 0 ≤ y ∧ y ≤ 255) (T : Int) (hT64 : 0 ≤ T ∧ T ≤ 18446744073709551615) (w : World) (hc : staC 1 (x.toNat % 21) (y.toNat % 7) (colF (fun (i : Nat) => bits .and .u64 (T / 2 ^ i) 1 == 1) (2 ^ (y.toNat % 7))))  :
    Calls Tryz.prog 10 #[.int .u8 x, .int .u8 y, .int .u64 T] w fun e w' => e = .returned (.bool true) ∧ Same w w' := by
  clear hT64
  obtain ⟨k, hk⟩ : ∃ k : Nat, k = x.toNat % 21 := ⟨_, rfl⟩
  rw [← hk] at hc
  have hk20 : k ≤ 20 := by omega
  have h1 := Lib.hid (show x.tmod 21 = (k : Int) by rw [Int.tmod_eq_emod_of_nonneg hx.1]; omega)
  clear hx hk
  obtain ⟨v, hv⟩ : ∃ v : Nat, v = y.toNat % 7 := ⟨_, rfl⟩
  rw [← hv] at hc
  have hv6 : v ≤ 6 := by omega
  have g1 := Lib.hid (show y.tmod 7 = (v : Int) by rw [Int.tmod_eq_emod_of_nonneg hy.1]; omega)
  clear hy hv
  have h2 : IntKind.u8.wrap (k : Int) = k := by unfold IntKind.wrap; simp [IntKind.bits, IntKind.signed]; omega
  have h3 : wrap64 (k : Int) = k := by unfold wrap64; omega
  have h4 : IntKind.i64.wrap (k : Int) = k := IntWalk.i64_in _ (by omega)
  have g2 : IntKind.u8.wrap (v : Int) = v := by unfold IntKind.wrap; simp [IntKind.bits, IntKind.signed]; omega
  have g3 : wrap64 (v : Int) = v := by unfold wrap64; omega
  have g4 : IntKind.i64.wrap (v : Int) = v := IntWalk.i64_in _ (by omega)
  obtain ⟨h, hh⟩ : ∃ h : Nat, h = v / 2 := ⟨_, rfl⟩
  have hh3 : h ≤ 3 := by omega
  have e1 := Lib.hid (show ((v : Nat) : Int).tdiv 2 = (h : Int) by rw [Int.tdiv_eq_ediv_of_nonneg (by omega)]; omega)
  have e2 : IntKind.i64.wrap (h : Int) = h := IntWalk.i64_in _ (by omega)
  have e3 : wrap64 (h : Int) = h := by unfold wrap64; omega
  have hkb : k ≤ 2 ^ bitsF k := (bitsF_is (n := k) (by omega)).1
  have hb5 : bitsF k ≤ 5 := (bitsF_is (n := k) (by omega)).bd (by omega)
  have KN := fun W => known_any W
  have LB := fun W => lbits_any k W (by omega)
  replace hkb := Lib.hid hkb
  replace hh := Lib.hid hh
  have n1 : min v 64 = v := Nat.min_eq_left (Nat.le_trans hv6 (by decide))
  have n2 : min h 64 = h := Nat.min_eq_left (Nat.le_trans hh3 (by decide))
  have hz1 : v ≤ 60 := Nat.le_trans hv6 (by decide)
  have hz2 : h ≤ 60 := Nat.le_trans hh3 (by decide)
  obtain ⟨m, hm⟩ : ∃ m, m = 2 ^ v := ⟨_, rfl⟩
  have hm64 : m ≤ 64 := by rw [hm]; exact Nat.le_trans (Nat.pow_le_pow_right Nat.zero_lt_two hv6) (by decide)
  have p1 : wrap64 (2 ^ v) = (m : Int) := by rw [wrap_pow v hz1, hm]
  have e5 : ((2 : Int) ^ v) = (m : Int) := by rw [hm]; simp
  replace hm := Lib.hid hm
  obtain ⟨mh, hmh⟩ : ∃ m, m = 2 ^ h := ⟨_, rfl⟩
  have hmh8 : mh ≤ 8 := by rw [hmh]; exact Nat.le_trans (Nat.pow_le_pow_right Nat.zero_lt_two hh3) (by decide)
  have p3 : wrap64 (2 ^ h) = (mh : Int) := by rw [wrap_pow h hz2, hmh]
  have e6 : ((2 : Int) ^ h) = (mh : Int) := by rw [hmh]; simp
  replace hmh := Lib.hid hmh
  have p2 : IntKind.i64.wrap ((2 : Int) ^ v) = (m : Int) := by rw [e5]; exact IntWalk.i64_in _ (by clear e5 e6 p1 p3; omega)
  have p4 : IntKind.i64.wrap ((2 : Int) ^ h) = (mh : Int) := by rw [e6]; exact IntWalk.i64_in _ (by clear e5 e6 p1 p2 p3; omega)
  clear e5 e6
  replace p1 := Lib.hid p1
  replace p2 := Lib.hid p2
  replace p3 := Lib.hid p3
  replace p4 := Lib.hid p4
  have n3 : ((v : Int) < 0) = False := by simp
  have n4 : ((h : Int) < 0) = False := by simp
  obtain ⟨G, hG⟩ : ∃ G : Nat → Bool, G = fun (i : Nat) => bits .and .u64 (T / 2 ^ i) 1 == 1 := ⟨_, rfl⟩
  have hGd : ∀ i : Nat, (bits .and .u64 (T / 2 ^ i) 1 == 1) = G i := fun i => by rw [hG]
  obtain ⟨t, htd⟩ : ∃ t, t = colF G m := ⟨_, rfl⟩
  replace hc : staC 1 k v t := by rw [htd, hG, hm.out]; exact hc
  replace hc := Lib.hid hc
  have htl : t.length = m := by rw [htd]; exact colF_length _ _
  have hcs := colF_succ G
  have hcl := colF_length G
  have FT := fun aT cT W (hT : RowAt W (.slice aT m cT) m (boolCells t)) => (show Calls Tryz.prog 58 #[.int .i64 v, .slice aT m cT] W (DgN v t W) by
    have := fromTable_row v t aT cT W (by omega) (by rw [htl, hm.out]) (by rw [htl]; exact hT)
    rw [htl] at this
    exact this.mono fun e w' h => DRet.dgN h (IsTab.of (by omega) (by rw [htl, hm.out])))
  have hpl : (posT t 0).length ≤ 1024 := Nat.le_trans (posT_len _ _) (by omega)
  have ST := fun (d : Dg) W (hat : d.at W) (T : d.tab v t) => st_all (k := k) (by omega) d W hat T
  have PA := fun (d : Dg) W (hat : d.at W) (T : d.tab v t) => pa_all (k := k) (by omega) hpl d W hat T
  have hpf := posT_filF t
  rw [htl] at hpf
  obtain ⟨p, hp⟩ : ∃ p : Nat → Bool, p = fun i => t.getD i false := ⟨_, rfl⟩
  rw [← hp] at hpf
  have hpg : ∀ i, p i = t.getD i false := fun i => by rw [hp]
  have hfl := filF_len p
  have hfy := fun i h => filF_yes (p := p) (k := i) h
  have hfn := fun i h => filF_no (p := p) (k := i) h
  obtain ⟨b, hb⟩ : ∃ b, b = bitsF k := ⟨_, rfl⟩
  simp only [← hb] at LB ST PA hb5
  replace hkb := Lib.hid (show k ≤ 2 ^ b by rw [hb]; exact hkb.out)
  obtain ⟨Q, hQd⟩ : ∃ Q : Nat → Nat → Bool, Q = fun i j => t.getD (wv h i j) false := ⟨_, rfl⟩
  have hQ : ∀ i j, Q i j = t.getD (wv h i j) false := fun i j => by rw [hQd]
  have hplQ := fun i j => ordP_len (n := mh) (k := i) (j := j) Q (Nat.le_trans hmh8 (by decide))
  have WV := fun i j (h1 : i < 100000) (h2 : j < 100000) W => woven_any i j h W (Nat.le_trans hh3 (by decide)) h1 h2
  have hrd := fun (i : Nat) (hi : i < t.length) a c W (hat : RowAt W (.slice a m c) m (boolCells t)) => hat.bool2 hi htl
  obtain ⟨B2, hB2⟩ : ∃ B2, B2 = 2 * b := ⟨_, rfl⟩
  have hmul2 : wrap64 (2 * (b : Int)) = (B2 : Int) := by clear h2 h3 h4 g2 g3 g4 e2 e3; unfold wrap64; omega
  obtain ⟨i1, hi1, hi1z, hi1s, hi1b⟩ := info_parts info4
  obtain ⟨i2, hi2, hi2z, hi2s, hi2b⟩ := info_parts info3
  obtain ⟨i3, hi3, hi3z, hi3s, hi3b⟩ := info_parts infoP
  have hw := Fr.refl (fun _ => False) w
  replace KN := Lib.hid KN; replace LB := Lib.hid LB; replace FT := Lib.hid FT; replace ST := Lib.hid ST; replace PA := Lib.hid PA; replace hcs := Lib.hid hcs; replace hcl := Lib.hid hcl; replace hpf := Lib.hid hpf; replace hpg := Lib.hid hpg; replace hfl := Lib.hid hfl; replace hfy := Lib.hid hfy; replace hfn := Lib.hid hfn; replace hb := Lib.hid hb; replace hQ := Lib.hid hQ; replace hplQ := Lib.hid hplQ; replace WV := Lib.hid WV; replace hrd := Lib.hid hrd; replace htl := Lib.hid htl; replace htd := Lib.hid htd; replace hw := Lib.hid hw; replace hGd := Lib.hid hGd
  replace h1 := h1.out
  replace g1 := g1.out
  have P1 := p1
  have N1 := Lib.hid n1
  have N3 := Lib.hid n3
  replace p1 := p1.out
  clear p2 p4 hG hp hQd
  replace e2 := Lib.hid e2; replace e3 := Lib.hid e3; replace hmul2 := Lib.hid hmul2; replace hB2 := Lib.hid hB2; replace n2 := Lib.hid n2; replace hz2 := Lib.hid hz2; replace hz1 := Lib.hid hz1; replace hv6 := Lib.hid hv6; replace hh3 := Lib.hid hh3; replace hk20 := Lib.hid hk20; replace hb5 := Lib.hid hb5; replace hmh8 := Lib.hid hmh8; replace hpl := Lib.hid hpl; replace n4 := Lib.hid n4
  go_enter Tryz.func10, Tryz.ntmps10
  go_wp2_with fail
  refine (KN.out _).mono ?_
  rintro e w1 ⟨rfl, s1⟩
  replace hw := Lib.hid (hw.out.same s1)
  clear s1
  go_wp2_with fail
  clear h1 g1 h2 h3 h4 g2 g3 g4
  go_loopw [9, 10] (fun x i wr => ∃ (j : Nat) (a : Option Addr) (c : Nat), i = .int .i64 j ∧ j ≤ m ∧ x = .slice a j c ∧ wr.ownsRow w1.heap.size 4 1 (.slice a j c) j (boolCells (colF G j)) ∧ Same w1 wr) (fun _ i _ => m - (intOf i).toNat)
  case atStart => exact ⟨0, none, 0, rfl, Nat.zero_le _, rfl, World.ownsRow_nil _ _ _ _, Fr.refl _ _⟩
  case round =>
    obtain ⟨j, a, c, rfl, hj, rfl, ho, hs⟩ := hrel
    have hws := hs.size
    by_cases hjm : j < m
    · as_aux_lemma =>
        have hmin : min j 64 = j := Nat.min_eq_left (Nat.le_trans (Nat.le_of_lt hjm) hm64)
        obtain ⟨gb, hgb⟩ : ∃ gb, gb = G j := ⟨_, rfl⟩
        have hgj := hGd.out j
        rw [← hgb] at hgj
        have hcj := hcs.out j
        rw [← hgb] at hcj
        have hj1 : j ≤ 1000 := Nat.le_trans hj (Nat.le_trans hm64 (by decide))
        replace ho := Lib.hid ho; replace hs := Lib.hid hs; replace hcj := Lib.hid hcj; replace hgj := Lib.hid hgj; replace hgb := Lib.hid hgb
        cases gb
        case' true =>
          have hb3 : (bits .and .u64 (T / 2 ^ j) 1 == 1) = true := hgj.out
          go_wp2_with (at_builtin; refine wpList_append1 rfl (.tmp 38) (.tmp 44) 65 rfl w1.heap.size 4 i1 (.bool false) 1 1 Tryz.underlying65 hi1 hi1z hi1s hi1b rfl (by decide) (by decide) a j c (boolCells (colF G j)) rfl (owns_same ho.out (by repeat (first | exact Fr.refl _ _ | apply Fr.alloc | apply Fr.drewN | apply Fr.drew | apply Fr.undrew | apply Fr.undrewN))) (Nat.le_trans hj1 (by decide)) wr.heap.size [.bool true] rfl rfl (heap_new _ _) (by simp [Value.oneCell']) (Nat.le_trans hws (by simp)) ?_; intro a5 c5 w5 ho5 hG5)
        case' false =>
          have hb3 : (bits .and .u64 (T / 2 ^ j) 1 == 1) = false := hgj.out
          go_wp2_with (at_builtin; refine wpList_append1 rfl (.tmp 38) (.tmp 44) 65 rfl w1.heap.size 4 i1 (.bool false) 1 1 Tryz.underlying65 hi1 hi1z hi1s hi1b rfl (by decide) (by decide) a j c (boolCells (colF G j)) rfl (owns_same ho.out (by repeat (first | exact Fr.refl _ _ | apply Fr.alloc | apply Fr.drewN | apply Fr.drew | apply Fr.undrew | apply Fr.undrewN))) (Nat.le_trans hj1 (by decide)) wr.heap.size [.bool false] rfl rfl (heap_new _ _) (by simp [Value.oneCell']) (Nat.le_trans hws (by simp)) ?_; intro a5 c5 w5 ho5 hG5)
        all_goals
          have hs5 : Same w1 w5 := grew_fresh (hs.out.same (by repeat (first | exact Fr.refl _ _ | apply Fr.alloc | apply Fr.drewN | apply Fr.drew | apply Fr.undrew | apply Fr.undrewN))) hG5 (fun k hk => (ho.out.lt k hk).1)
          have ho5' : w5.ownsRow w1.heap.size 4 1 (.slice a5 (j + 1) c5) (j + 1) (boolCells (colF G (j + 1))) := by
            rw [hcj.out]; simpa [boolCells] using ho5
          clear ho5 hG5 hb3
          go_roundw
          case rel => clear p1; exact ⟨j + 1, a5, c5, by go_num, hjm, rfl, ho5', hs5⟩
          case measure => clear p1; simp [intOf]; omega
    · obtain rfl : j = m := Nat.le_antisymm hj (Nat.le_of_not_lt hjm)
      rw [← htd.out] at ho
      have hT := (SliceAt.of_owns ho).row
      replace hw := Lib.hid (hw.out.same hs)
      clear ho hs
      have F5 := FT.out _ _ _ hT
      replace hT := Lib.hid hT; replace F5 := Lib.hid F5
      go_upto_region 9 with fail
      rw [p1]
      clear p1 n1 n3
      go_wp2_with fail
      refine (F5.out).mono ?_
      intro e v5 hM
      obtain ⟨a5, c5, L5, r5, rfl, d5, z5, s5⟩ := hM.open
      clear hM
      
      go_upto_region 10 with fail
      have q5 : Bx (v5.alloc (.cells #[.int .i64 v, .slice a5 L5.length c5, .int .i64 r5] 54)) v5.heap.size v _ a5 c5 L5 r5 := ⟨heap_new _ _, SliceAt.same d5 (by repeat (first | exact Fr.refl _ _ | apply Fr.alloc | apply Fr.drewN | apply Fr.drew | apply Fr.undrew | apply Fr.undrewN)), z5⟩
      have s5 := s5.same (show Same v5 (v5.alloc (.cells #[.int .i64 v, .slice a5 L5.length c5, .int .i64 r5] 54)) from (by repeat (first | exact Fr.refl _ _ | apply Fr.alloc | apply Fr.drewN | apply Fr.drew | apply Fr.undrew | apply Fr.undrewN)))
      clear d5 z5
      generalize v5.alloc (.cells #[.int .i64 v, .slice a5 L5.length c5, .int .i64 r5] 54) = w5 at *
      generalize v5.heap.size = b5 at *
      replace hw := Lib.hid (hw.out.same s5); replace hT := Lib.hid (hT.out.same s5)
      replace q5 := Lib.hid q5; replace s5 := Lib.hid s5
      clear s5 F5
      have x0 := cell_at q5.out.heap 0
      have x1 := cell_at q5.out.heap 1
      have x2 := cell_at q5.out.heap 2
      have xl := lt_of_heap q5.out.heap
      have S6 := ST.out ⟨v, a5, c5, L5, r5⟩ w5 q5.out.at' ⟨rfl, q5.out.tab⟩
      replace S6 := Lib.hid S6
      go_wp2_with fail
      refine S6.out.mono ?_
      rintro e w6 ⟨aSx, qSx, cSx, ESx, rfl, hSx, s6⟩
      clear x0 x1 x2 xl
      replace hw := Lib.hid (hw.out.same s6); replace hT := Lib.hid (hT.out.same s6); replace q5 := Lib.hid (q5.out.same s6)
      clear s6 S6
      replace hSx := Lib.hid hSx
      go_upto_region 13 with fail
      have x0 := cell_at q5.out.heap 0
      have x1 := cell_at q5.out.heap 1
      have x2 := cell_at q5.out.heap 2
      have xl := lt_of_heap q5.out.heap
      have S7 := PA.out ⟨v, a5, c5, L5, r5⟩ w6 q5.out.at' ⟨rfl, q5.out.tab⟩
      replace S7 := Lib.hid S7
      go_wp2_with fail
      refine S7.out.mono ?_
      rintro e w7 ⟨aPx, qPx, cPx, EPx, rfl, hPx, s7⟩
      clear x0 x1 x2 xl
      replace hw := Lib.hid (hw.out.same s7); replace hT := Lib.hid (hT.out.same s7); replace hSx := Lib.hid (hSx.out.same s7)
      clear s7 S7 q5
      replace hPx := Lib.hid hPx
      go_wp2_with fail
      go_loopw [17, 18, 19] (fun v17 v18 i wr => ∃ (i' q : Nat) (a : Option Addr) (c : Nat), i = .int .i64 i' ∧ i' ≤ j ∧ q = (filF p i').length ∧ v17 = .slice a q c ∧ v18 = .bool ((filF p i').any fun z => decide (k ≤ z)) ∧ wr.ownsRow w7.heap.size 3 1 (.slice a q c) q (intCells (natI (filF p i'))) ∧ Same w7 wr) (fun _ _ i _ => j - (intOf i).toNat)
      case atStart => exact ⟨0, 0, none, 0, rfl, by omega, rfl, rfl, rfl, World.ownsRow_nil _ _ _ _, Fr.refl _ _⟩
      case round =>
        obtain ⟨i, q, a, c, rfl, hi, hq, rfl, rfl, ho, hs⟩ := hrel
        have hws := hs.size
        have hqi := hfl.out i
        rw [← hq] at hqi
        have hq9 : q ≤ 1000000000 := by omega
        by_cases him : i < j
        · as_aux_lemma =>
            obtain ⟨bt, ot, rfl, hbt, z0⟩ := hrd.out i (by rw [htl.out]; exact him) _ _ _ (hT.out.same hs)
            have hpi := hpg.out i
            rw [show t.getD i false = t[i]'(by rw [htl.out]; exact him) by simp [List.getD, htl.out, him]] at hpi
            generalize t[i]'(by rw [htl.out]; exact him) = bv at *
            have hy1 := hfy.out i
            have hn1 := hfn.out i
            obtain ⟨bd, hbd⟩ : ∃ bd, bd = (filF p i).any fun z => decide (k ≤ z) := ⟨_, rfl⟩
            rw [← hbd]
            cases bv with
            | true =>
              have hst := hy1 hpi
              have hst2 : intCells (natI (filF p (i + 1))) = intCells (natI (filF p i)) ++ [.int .i64 i] := by rw [hst, natI_snoc]
              have hst3 : ((filF p (i + 1)).any fun z => decide (k ≤ z)) = (bd || decide (k ≤ i)) := by rw [hst, List.any_append, ← hbd]; simp
              clear hpi hy1 hn1
              replace ho := Lib.hid ho; replace hs := Lib.hid hs; replace hq := Lib.hid hq; replace hst := Lib.hid hst; replace hst2 := Lib.hid hst2; replace hst3 := Lib.hid hst3; replace hbd := Lib.hid hbd
              cases bd
              all_goals
                by_cases hki : k ≤ i
                all_goals
                  first
                    | (have hki' : ((k : Int) ≤ i) = True := by simp; omega
                       have hki2 : (k ≤ i) = True := by simp; omega)
                    | (have hki' : ((k : Int) ≤ i) = False := by simp; omega
                       have hki2 : (k ≤ i) = False := by simp; omega)
                  replace hki := Lib.hid hki
                  have p1 := P1.out
                  have n1 := N1.out
                  have n3 := N3.out
                  go_upto_region 21 with (at_builtin; refine wpList_append1 rfl (.tmp 76) (.tmp 78) 31 rfl w7.heap.size 3 i2 (.int .i64 0) 1 8 Tryz.underlying31 hi2 hi2z hi2s hi2b rfl (by decide) (by decide) a q c (intCells (natI (filF p i))) rfl (owns_same ho.out (by repeat (first | exact Fr.refl _ _ | apply Fr.alloc | apply Fr.drewN | apply Fr.drew | apply Fr.undrew | apply Fr.undrewN))) hq9 wr.heap.size [.int .i64 i] rfl rfl (heap_new _ _) (by simp [Value.oneCell']) (Nat.le_trans hws (by simp)) ?_; intro a9 c9 w9 ho9 hG9)
                  clear p1 n1 n3
                  have hs9 : Same w7 w9 := grew_fresh (hs.out.same (by repeat (first | exact Fr.refl _ _ | apply Fr.alloc | apply Fr.drewN | apply Fr.drew | apply Fr.undrew | apply Fr.undrewN))) hG9 (fun k hk => (ho.out.lt k hk).1)
                  have ho9' : w9.ownsRow w7.heap.size 3 1 (.slice a9 (q + 1) c9) (q + 1) (intCells (natI (filF p (i + 1)))) := by rw [hst2.out]; exact ho9
                  clear ho9 hG9
                  replace ho9' := Lib.hid ho9'; replace hs9 := Lib.hid hs9
                  clear z0 hbt
                  go_wp2_with fail
                  go_roundw
                  case rel => exact ⟨i + 1, q + 1, a9, c9, by go_num, by omega, by rw [hst.out, List.length_append, ← hq.out]; rfl, rfl, by rw [hst3.out]; first | (rw [decide_eq_true hki.out]; rfl) | (rw [decide_eq_false hki.out]; rfl), ho9'.out, hs9.out⟩
                  case measure => simp [intOf]; omega
            | false =>
              have hst := hn1 hpi
              clear hpi hy1 hn1
              replace ho := Lib.hid ho; replace hs := Lib.hid hs; replace hq := Lib.hid hq; replace hst := Lib.hid hst; replace hbd := Lib.hid hbd
              have p1 := P1.out
              have n1 := N1.out
              have n3 := N3.out
              go_upto_region 18 with fail
              clear p1 n1 n3 z0 hbt
              go_wp2_with fail
              go_roundw
              case rel => exact ⟨i + 1, q, a, c, by go_num, by omega, by rw [hst.out]; exact hq.out, rfl, by rw [hst.out, hbd.out], by rw [hst.out]; exact owns_same ho.out (by repeat (first | exact Fr.refl _ _ | apply Fr.alloc | apply Fr.drewN | apply Fr.drew | apply Fr.undrew | apply Fr.undrewN)), hs.out.same (by repeat (first | exact Fr.refl _ _ | apply Fr.alloc | apply Fr.drewN | apply Fr.drew | apply Fr.undrew | apply Fr.undrewN))⟩
              case measure => simp [intOf]; omega
        · obtain rfl : j = i := by omega
          rw [← hpf.out] at hq ho ⊢
          have hS := (SliceAt.of_owns ho).row
          replace hw := Lib.hid (hw.out.same hs); replace hT := Lib.hid (hT.out.same hs); replace hSx := Lib.hid (hSx.out.same hs); replace hPx := Lib.hid (hPx.out.same hs)
          clear ho hs
          obtain ⟨S, hSe⟩ : ∃ S, S = posT t 0 := ⟨_, rfl⟩
          rw [← hSe] at hq hS ⊢
          replace hSe := Lib.hid hSe
          subst hq
          obtain ⟨bd, hbd⟩ : ∃ bd, bd = (S.any fun z => decide (k ≤ z)) := ⟨_, rfl⟩
          rw [← hbd]
          have hSl : S.length ≤ 64 := by omega
          replace hS := Lib.hid hS; replace hbd := Lib.hid hbd
          have p1 := P1.out
          have n1 := N1.out
          have n3 := N3.out
          go_upto_region 22 with fail
          clear p1 n1 n3
          rcases hSx.out with ⟨hv1, rfl, rfl⟩ | ⟨hv1, hbad, rfl, rfl⟩ | ⟨hv1, hgood, rfl, hqs, hrs⟩
          · exact absurd (hc.out.1.trans hb.out.symm) hv1
          · rw [← hSe.out] at hbad
            have hvb : ((v : Int) == (b : Int)) = true := by rw [hv1]; simp
            have hbt : bd = true := by
              cases hbq : bd
              · refine absurd (fun x hx => ?_) hbad
                have h1 := hbd.out
                rw [hbq] at h1
                have h2 := List.any_eq_false.1 h1.symm x hx
                simp at h2
                exact h2
              · rfl
            subst hbt
            clear hSx hS
            replace hv1 := Lib.hid hv1; replace hbad := Lib.hid hbad
            go_wp2_with fail
            refine (LB.out _).mono ?_
            rintro e w20 ⟨rfl, s20⟩
            replace hw := Lib.hid (hw.out.same s20); replace hT := Lib.hid (hT.out.same s20); replace hPx := Lib.hid (hPx.out.same s20)
            clear s20
            go_wp2_with fail
            refine (LB.out _).mono ?_
            rintro e w30 ⟨rfl, s30⟩
            replace hw := Lib.hid (hw.out.same s30); replace hT := Lib.hid (hT.out.same s30); replace hPx := Lib.hid (hPx.out.same s30)
            clear s30
            as_aux_lemma =>
              by_cases hv2 : v = 2 * b
              · have hv2b : ((v : Int) == (B2 : Int)) = true := by rw [hv2, ← hB2.out]; simp
                have hhb : h = b := hh.out.trans (by rw [hv2]; exact Nat.mul_div_cancel_left b (by decide))
                have hL2v : t.length = 2 ^ (2 * b) := by rw [htl.out, hm.out, hv2]
                have hpe : prsT mh Q = prsT (2 ^ b) (fun x y => t.getD (wv b x y) false) := by
                  rw [hmh.out, hhb]
                  exact prsT_congr (fun x y _ _ => by rw [hQ.out, hhb])
                have hdom : inDom b k t = true ↔ ∀ p ∈ prsT mh Q, p.1 < k ∧ p.2 < k := by rw [hpe]; exact dom_all hL2v
                have hprs : inDom b k t = true → prsT mh Q = prsT k (fun x y => t.getD (wv b x y) false) := fun hd => by rw [hpe]; exact dom_prs hL2v hkb.out hd
                have hwl : ∀ i' j', wv h i' j' < j := fun i' j' => by rw [hm.out]; have := wv_lt h i' j'; rwa [show 2 * h = v by rw [hhb, hv2]] at this
                obtain ⟨wz, rfl⟩ : ∃ X, X = w30 := ⟨_, rfl⟩
                have hhb' := hhb
                replace hdom := Lib.hid hdom; replace hprs := Lib.hid hprs; replace hwl := Lib.hid hwl; replace hpe := Lib.hid hpe; replace hL2v := Lib.hid hL2v; replace hhb' := Lib.hid hhb'; replace hv2 := Lib.hid hv2
                clear hhb
                have f8 := hmul2.out
                go_wp2_with fail
                have hbn : ((v : Int) != (B2 : Int)) = false := by simp only [bne, hv2b]; rfl
                rw [hbn]
                clear hbn
                have hm8 := hmh8.out
                clear f8 hv2b
                as_aux_lemma =>
                  go_loopw [20, 21] (fun v i wr => ∃ (j q : Nat) (a : Option Addr) (c : Nat), i = .int .i64 j ∧ j ≤ mh ∧ q = (ordP mh Q j 0).length ∧ v = .slice a q c ∧ wr.ownsRow wz.heap.size 72 2 (.slice a q c) q (prC (ordP mh Q j 0)) ∧ Same wz wr) (fun _ i _ => mh - (intOf i).toNat)
                  case atStart => exact ⟨0, 0, none, 0, rfl, by omega, rfl, rfl, World.ownsRow_nil _ _ _ _, Fr.refl _ _⟩
                  case round =>
                    obtain ⟨i, q, a, c, rfl, hi, hq, rfl, ho, hs⟩ := hrel
                    by_cases him : i < mh
                    · as_aux_lemma =>
                        obtain ⟨wo, rfl⟩ : ∃ wo, wo = wr := ⟨_, rfl⟩
                        replace ho := Lib.hid ho; replace hs := Lib.hid hs; replace hq := Lib.hid hq
                        have C1 : ((i : Int) < wrap64 (2 ^ h)) = True := by rw [p3.out]; simp; omega
                        have f1 := e1.out
                        have f5 := n2.out
                        have f6 := n4.out
                        have f7 := hh3.out
                        go_upto_region 36 with fail
                        clear f1 f5 f6 f7 C1
                        go_wp2_with fail
                        go_loopw [20, 22] (fun v x wr => ∃ (j q : Nat) (a : Option Addr) (c : Nat), x = .int .i64 j ∧ j ≤ mh ∧ q = (ordP mh Q i j).length ∧ v = .slice a q c ∧ wr.ownsRow wz.heap.size 72 2 (.slice a q c) q (prC (ordP mh Q i j)) ∧ Same wz wr) (fun _ x _ => mh - (intOf x).toNat)
                        case atStart => exact ⟨0, q, a, c, rfl, by omega, hq.out, rfl, ho.out, hs.out⟩
                        case round =>
                          clear ho hs hq
                          obtain ⟨j, q, a, c, rfl, hj, hq, rfl, ho, hs⟩ := hrel
                          have hws := hs.size
                          have hmk := hplQ.out i j hi hj
                          rw [← hq] at hmk
                          by_cases hjm : j < mh
                          · as_aux_lemma =>
                              have W1 := WV.out i j (Nat.lt_of_lt_of_le him (Nat.le_trans hmh8.out (by decide))) (Nat.lt_of_lt_of_le hjm (Nat.le_trans hmh8.out (by decide)))
                              have hlt := hwl.out i j
                              have htr := hT.out.same hs
                              obtain ⟨bt, ot, rfl, hbt, z0⟩ := htr.bool2 (k := wv h i j) (by rw [htl.out]; exact hlt) htl.out
                              have hQd := hQ.out i j
                              have hg : t.getD (wv h i j) false = t[wv h i j]'(by rw [htl.out]; exact hlt) := by simp [List.getD, htl.out, hlt]
                              rw [hg] at hQd
                              generalize t[wv h i j]'(by rw [htl.out]; exact hlt) = bv at *
                              generalize wv h i j = z at *
                              have hyes := ordP_yes (n := mh) (k := i) (j := j) (p := Q)
                              have hno := ordP_no (n := mh) (k := i) (j := j) (p := Q)
                              clear hg
                              replace ho := Lib.hid ho; replace hs := Lib.hid hs; replace hq := Lib.hid hq; replace htr := Lib.hid htr; replace hQd := Lib.hid hQd; replace hyes := Lib.hid hyes; replace hno := Lib.hid hno; replace W1 := Lib.hid W1
                              have C1 : ((j : Int) < wrap64 (2 ^ h)) = True := by rw [p3.out]; simp; omega
                              have f1 := e1.out
                              have f5 := n2.out
                              have f6 := n4.out
                              have f7 := hh3.out
                              go_upto_region 39 with fail
                              clear C1 f5 f6
                              go_wp2_with fail
                              clear f1 f7
                              refine (W1.out _).mono ?_
                              rintro e w8 ⟨rfl, s8⟩
                              have z1 : w8.cell? ⟨bt, ot + z, none⟩ = some (.bool bv) := by rw [← z0]; exact World.cell?_of_block (a := ⟨bt, ot + z, none⟩) (s8.block bt hbt id)
                              have hbt8 : bt < w8.heap.size := Nat.lt_of_lt_of_le hbt s8.size
                              replace ho := Lib.hid (owns_same ho.out s8)
                              replace hs := Lib.hid (hs.out.same s8)
                              clear s8 z0 hbt htr
                              have hz8 := hs.out.size
                              cases bv with
                              | true =>
                                have hst := hyes.out hQd.out
                                have hst2 : prC (ordP mh Q i (j + 1)) = prC (ordP mh Q i j) ++ [.int .i64 i, .int .i64 j] := by rw [hst, prC_append]; rfl
                                replace hst := Lib.hid hst; replace hst2 := Lib.hid hst2
                                go_wp2_with (at_builtin; refine wpList_append1 rfl (.tmp 150) (.tmp 154) 101 rfl wz.heap.size 72 i3 (.agg #[.int .i64 0, .int .i64 0]) 2 16 Tryz.underlying101 hi3 hi3z hi3s hi3b rfl (by decide) (by decide) a q c (prC (ordP mh Q i j)) rfl (owns_same ho.out (by repeat (first | exact Fr.refl _ _ | apply Fr.alloc | apply Fr.drewN | apply Fr.drew | apply Fr.undrew | apply Fr.undrewN))) (Nat.le_trans hmk (by decide)) w8.heap.size [.int .i64 i, .int .i64 j] rfl rfl (heap_new _ _) (by simp [Value.oneCell']) (Nat.le_trans hz8 (by simp)) ?_; intro a5 c5 w9 ho5 hG5)
                                have hs9 : Same wz w9 := grew_fresh (hs.out.same (by repeat (first | exact Fr.refl _ _ | apply Fr.alloc | apply Fr.drewN | apply Fr.drew | apply Fr.undrew | apply Fr.undrewN))) hG5 (fun k hk => (ho.out.lt k hk).1)
                                have ho5' : w9.ownsRow wz.heap.size 72 2 (.slice a5 (q + 1) c5) (q + 1) (prC (ordP mh Q i (j + 1))) := by rw [hst2.out]; exact ho5
                                clear ho5 hG5
                                go_roundw
                                case rel => exact ⟨j + 1, q + 1, a5, c5, by go_num, by omega, by rw [hst.out, List.length_append, ← hq.out]; rfl, rfl, ho5', hs9⟩
                                case measure => simp [intOf]; omega
                              | false =>
                                have hst := hno.out hQd.out
                                replace hst := Lib.hid hst
                                go_wp2_with fail
                                go_roundw
                                case rel => exact ⟨j + 1, q, a, c, by go_num, by omega, by rw [hst.out, ← hq.out], rfl, by rw [hst.out]; exact owns_same ho.out (by repeat (first | exact Fr.refl _ _ | apply Fr.alloc | apply Fr.drewN | apply Fr.drew | apply Fr.undrew | apply Fr.undrewN)), hs.out.same (by repeat (first | exact Fr.refl _ _ | apply Fr.alloc | apply Fr.drewN | apply Fr.drew | apply Fr.undrew | apply Fr.undrewN))⟩
                                case measure => simp [intOf]; omega
                          · as_aux_lemma =>
                              obtain rfl : j = mh := by omega
                              rw [ordP_row] at hq ho
                              replace ho := Lib.hid ho; replace hs := Lib.hid hs; replace hq := Lib.hid hq
                              have C1 : ((j : Int) < wrap64 (2 ^ h)) = False := by rw [p3.out]; simp
                              have f1 := e1.out
                              have f5 := n2.out
                              have f6 := n4.out
                              have f7 := hh3.out
                              go_upto_region 35 with fail
                              clear f1 f5 f6 f7 C1
                              go_wp2_with fail
                              go_roundw
                              case rel => exact ⟨i + 1, q, a, c, by go_num, by omega, hq.out, rfl, ho.out, hs.out⟩
                              case measure => simp [intOf]; omega
                    · as_aux_lemma =>
                        obtain rfl : i = mh := by omega
                        rw [ordP_all] at hq ho
                        have hL2 := SliceAt.of_owns ho
                        replace hw := Lib.hid (hw.out.same hs)
                        replace hPx := Lib.hid (hPx.out.same hs)
                        clear ho
                        replace hL2 := Lib.hid hL2; replace hs := Lib.hid hs
                        obtain ⟨L2, hL2d⟩ : ∃ L, L = prsT i Q := ⟨_, rfl⟩
                        rw [← hL2d] at hL2 hq
                        subst hq
                        have hDA := hdom.out
                        rw [← hL2d] at hDA
                        have hl2 : L2.length ≤ 5000 := by have := hplQ.out i 0 hi (by omega); rw [ordP_all, ← hL2d] at this; exact this
                        have hpr := fun (n : Nat) (h : n < L2.length) W (hW : Same wr W) => SliceAt.pair (l := L2.map ipr) (by rw [prI_nat]; exact hL2.out.same hW) (k := n) (by simpa using h) (by simp)
                        replace hDA := Lib.hid hDA; replace hpr := Lib.hid hpr; replace hL2d := Lib.hid hL2d
                        have C1 : ((i : Int) < wrap64 (2 ^ h)) = False := by rw [p3.out]; simp
                        have f1 := e1.out
                        have f5 := n2.out
                        have f6 := n4.out
                        have f7 := hh3.out
                        go_upto_region 41 with fail
                        clear f1 f5 f6 f7 C1
                        go_wp2_with fail
                        obtain ⟨wy, rfl⟩ : ∃ X, X = wr := ⟨_, rfl⟩
                        go_loopw [23] (fun n wr => ∃ j : Nat, n = .int .i64 j ∧ j ≤ L2.length ∧ (∀ (y : Nat) (h : y < L2.length), y < j → L2[y].1 < k ∧ L2[y].2 < k) ∧ Same wy wr) (fun n _ => L2.length - (intOf n).toNat)
                        case atStart => exact ⟨0, rfl, by omega, fun _ _ h => by omega, Fr.refl _ _⟩
                        case round =>
                          obtain ⟨j, rfl, hj, hin, hs3⟩ := hrel
                          by_cases hjl : j < L2.length
                          · as_aux_lemma =>
                              obtain ⟨bp, op, rfl, hbp, y0, y1⟩ := hpr.out j hjl wr hs3
                              simp only [List.getElem_map, ipr] at y0 y1
                              have hin2 : L2[j].1 < k ∧ L2[j].2 < k → ∀ (y : Nat) (h : y < L2.length), y < j + 1 → L2[y].1 < k ∧ L2[y].2 < k := fun hx y h hy => by
                                by_cases e : y < j
                                · exact hin y h e
                                · have : y = j := by omega
                                  subst this; exact hx
                              have hmem : L2[j] ∈ L2 := List.getElem_mem hjl
                              generalize L2[j] = pp at *
                              obtain ⟨pa, pb⟩ := pp
                              simp only at y0 y1 hin2
                              replace hin := Lib.hid hin; replace hs3 := Lib.hid hs3; replace hin2 := Lib.hid hin2; replace hmem := Lib.hid hmem
                              by_cases g0 : k ≤ pa
                              · have g0' : ((k : Int) ≤ pa) = True := by simp; omega
                                rcases hPx.out with ⟨hv, rfl, rfl⟩ | ⟨hv, hd, rfl, rfl⟩ | ⟨hv, hd, rfl, hqq, hrp⟩
                                · exact absurd hv2.out hv
                                · replace g0 := Lib.hid g0
                                  go_wp2_with fail
                                  go_ret
                                  exact ⟨rfl, (hw.out.same hs3.out).same (by repeat (first | exact Fr.refl _ _ | apply Fr.alloc | apply Fr.drewN | apply Fr.drew | apply Fr.undrew | apply Fr.undrewN))⟩
                                · have := hDA.out.1 hd _ hmem.out
                                  simp only at this
                                  omega
                              · have g0' : ((k : Int) ≤ pa) = False := by simp; omega
                                by_cases g1 : k ≤ pb
                                · have g1' : ((k : Int) ≤ pb) = True := by simp; omega
                                  rcases hPx.out with ⟨hv, rfl, rfl⟩ | ⟨hv, hd, rfl, rfl⟩ | ⟨hv, hd, rfl, hqq, hrp⟩
                                  · exact absurd hv2.out hv
                                  · replace g0 := Lib.hid g0; replace g1 := Lib.hid g1
                                    go_wp2_with fail
                                    go_ret
                                    exact ⟨rfl, (hw.out.same hs3.out).same (by repeat (first | exact Fr.refl _ _ | apply Fr.alloc | apply Fr.drewN | apply Fr.drew | apply Fr.undrew | apply Fr.undrewN))⟩
                                  · have := hDA.out.1 hd _ hmem.out
                                    simp only at this
                                    omega
                                · have g1' : ((k : Int) ≤ pb) = False := by simp; omega
                                  have hin3 := hin2.out ⟨by omega, by omega⟩
                                  replace g0 := Lib.hid g0; replace g1 := Lib.hid g1; replace hin3 := Lib.hid hin3
                                  go_wp2_with fail
                                  go_roundw
                                  case rel => exact ⟨j + 1, by go_num, by omega, hin3.out, hs3.out.same (by repeat (first | exact Fr.refl _ _ | apply Fr.alloc | apply Fr.drewN | apply Fr.drew | apply Fr.undrew | apply Fr.undrewN))⟩
                                  case measure => simp [intOf]; omega
                          · obtain rfl : j = L2.length := by omega
                            have hD1 : inDom b k t = true := hDA.out.2 (fun p hp => by
                              obtain ⟨y, hy, rfl⟩ := List.mem_iff_getElem.1 hp
                              exact hin y hy hy)
                            rcases hPx.out with ⟨hv, rfl, rfl⟩ | ⟨hv, hd, rfl, rfl⟩ | ⟨hv, hd, rfl, hqq, hrp⟩
                            · exact absurd hv2.out hv
                            · rw [hd] at hD1; simp at hD1
                            · have hLL := hprs.out hD1
                              rw [← hL2d.out] at hLL
                              rw [← hLL] at hrp hqq
                              subst hqq
                              have hrp3 := hrp.same hs3
                              have hL3 := hL2.out.same hs3
                              replace hw := Lib.hid (hw.out.same hs3)
                              clear hs3 hin
                              replace hrp3 := Lib.hid hrp3; replace hL3 := Lib.hid hL3; replace hLL := Lib.hid hLL
                              go_wp2_with fail
                              refine (samePairs_any L2 L2 aPx _ L2.length L2.length cPx _ _ rfl rfl hrp3.out hL3.out (by omega)).mono ?_
                              rintro e w12 ⟨rfl, s12⟩
                              simp only [decide_true]
                              replace hw := Lib.hid (hw.out.same s12)
                              clear s12
                              go_wp2_with fail
                              go_ret
                              exact ⟨rfl, hw.out⟩
              · as_aux_lemma =>
                  have hv2b : ((v : Int) == (B2 : Int)) = false := by
                    simp only [beq_eq_false_iff_ne, ne_eq]
                    exact fun h => hv2 ((Int.ofNat_inj.1 h).trans hB2.out)
                  rcases hPx.out with ⟨hv, rfl, rfl⟩ | ⟨hv, _⟩ | ⟨hv, _⟩
                  · replace hv2 := Lib.hid hv2; replace hv := Lib.hid hv
                    have f8 := hmul2.out
                    go_wp2_with fail
                    clear f8
                    go_ret
                    exact ⟨rfl, hw.out.same (by repeat (first | exact Fr.refl _ _ | apply Fr.alloc | apply Fr.drewN | apply Fr.drew | apply Fr.undrew | apply Fr.undrewN))⟩
                  · exact absurd hv hv2
                  · exact absurd hv hv2
          · exact absurd hgood hc.out.2
end Go.Proofs.YtknlkcfnfjchdaaGreat
