/- BddLarge: the law's walk. -/
import Derived.Test.YtaebjalpebgliaaAll
import Derived.Test.YtaebjalpebgliaaBigP
import Derived.Test.YtaebjalpebgliaaValue
import Derived.Test.YtaebjalpebgliaaLSame
namespace Go.Proofs.Ytaebjalpebgliaa
open Go.RowKit
set_option linter.unusedVariables false
set_option linter.unusedSimpArgs false

theorem anyF_chL {j : Nat} : ∀ (c : Nat), c ≤ j → ∀ (fuel : Nat) (bs : List Bool), c + 1 ≤ fuel → j ≤ bs.length → (∀ u, u < j - c → bs.getD u false = true) → ∀ u, u < j → (anyF (chL j) fuel ((c : Int) + 1) bs).getD u false = true := by
  intro c
  induction c with
  | zero =>
    intro _ fuel bs hf hl h u hu
    obtain ⟨f, rfl⟩ : ∃ f, fuel = f + 1 := ⟨fuel - 1, by omega⟩
    unfold anyF
    rw [if_pos (by omega)]
    exact h u (by omega)
  | succ c ih =>
    intro hc fuel bs hf hl h u hu
    obtain ⟨f, rfl⟩ : ∃ f, fuel = f + 1 := ⟨fuel - 1, by omega⟩
    have e : ((c + 1 : Nat) : Int) + 1 = (c : Int) + 2 := by omega
    rw [e]
    unfold anyF
    rw [if_neg (by omega), chL_node j c (by omega), if_pos rfl]
    simp only
    refine ih (by omega) f _ (by omega) (by simpa using hl) (fun v hv => ?_) u hu
    have en : ((j : Int) - 1 - c).toNat = j - 1 - c := by omega
    rw [en]
    by_cases hvj : v = j - 1 - c
    · subst hvj
      have : j - 1 - c < bs.length := by omega
      simp [List.getD, this]
    · have := h v (by omega)
      rw [List.getD, List.getElem?_set_ne (by omega)]
      exact this

theorem allV_true {ρ : Nat → Bool} : ∀ (c v : Nat), (∀ u, v ≤ u → u < v + c → ρ u = true) → allV ρ v c = true := by
  intro c
  induction c with
  | zero => intro v _; rfl
  | succ c ih =>
    intro v h
    rw [allV, h v (Nat.le_refl _) (by omega), ih (v + 1) (fun u h1 h2 => h u (by omega) (by omega))]
    rfl

theorem any_chL_true {j m : Nat} (hj : j ≤ m) (hm : m ≤ 40) : ev (chL j) ((j : Int) + 1) (fun u => (anyF (chL j) ((j : Int) + 1).toNat ((j : Int) + 1) (List.replicate m false)).getD u false) = true := by
  have h := chL_ev j (by omega) (fun u => (anyF (chL j) ((j : Int) + 1).toNat ((j : Int) + 1) (List.replicate m false)).getD u false) j (Nat.le_refl _)
  rw [h, Nat.sub_self]
  refine allV_true j 0 (fun u _ hu => ?_)
  exact anyF_chL j (Nat.le_refl _) _ _ (by omega) (by simpa using hj) (fun v hv => by omega) u (by omega)

/-- What All returns for a chain. -/
def AllBig (d P : Nat) (w : World) (e : Ending) (w' : World) : Prop :=
  ∃ a len c E, e = .returned (.tuple #[.slice a len c, .int .i64 E]) ∧ ((10 < d ∧ len = 0 ∧ E = 3) ∨ (d ≤ 10 ∧ len = P ∧ E = 0)) ∧ Same w w'

theorem all_big {m j : Nat} (hj : j ≤ m) (hm : m ≤ 40) (a : Option Addr) (c : Nat) (w : World) (hat : SliceAt w 80 3 (.slice a (chL j).length c) (chL j).length (ndCells (chL j))) :
    Calls Try.prog 34 #[(⟨m, a, c, chL j, (j : Int) + 1⟩ : Dg).v] w (AllBig (m - j) (2 ^ (m - j)) w) := by
  have T := chL_tab hj hm
  have hc := chT_count hj hm
  by_cases h : 10 < m - j
  · have h2 : 2 ^ 11 ≤ 2 ^ (m - j) := Nat.pow_le_pow_right (by omega) (by omega)
    refine (all_limit ⟨m, a, c, chL j, (j : Int) + 1⟩ m (chT' m j) w hat ⟨rfl, T⟩ (by rw [hc]; omega)).mono ?_
    rintro e w' ⟨rfl, hs⟩
    exact ⟨none, 0, 0, 3, rfl, .inl ⟨h, rfl, rfl⟩, hs⟩
  · have h2 : 2 ^ (m - j) ≤ 2 ^ 10 := Nat.pow_le_pow_right (by omega) (by omega)
    refine (all_rows ⟨m, a, c, chL j, (j : Int) + 1⟩ m (chT' m j) w hat ⟨rfl, T⟩ (by rw [hc]; omega)).mono ?_
    rintro e w' ⟨a', c', vals, rfl, ho, hr, hs⟩
    obtain ⟨hO, hv, ht⟩ := T.ord
    have hrl := rowsL_length hO m 0 ((j : Int) + 1) [] (by omega) hv (topF_range hO.val hv).1
    have e0 : ((0 : Nat) : Int) = 0 := rfl
    rw [e0, ht, hc] at hrl
    exact ⟨a', _, c', 0, rfl, .inr ⟨by omega, hrl, rfl⟩, hs⟩

set_option maxRecDepth 100000 in
set_option maxHeartbeats 8000000 in
theorem bddLarge_any (a : Int) (ha : 0 ≤ a ∧ a ≤ 255) (b : Int) (hb : 0 ≤ b ∧ b ≤ 255) (w : World) :
    Calls Try.prog 7 #[.int .u8 a, .int .u8 b] w fun e w' => e = .returned (.bool true) ∧ Same w w' := by
  obtain ⟨m, hm⟩ : ∃ m : Nat, (m : Int) = a % 41 := ⟨(a % 41).toNat, by omega⟩
  have hm40 : m ≤ 40 := by omega
  obtain ⟨k, rfl⟩ : ∃ k : Nat, b = k := ⟨b.toNat, by omega⟩
  obtain ⟨h1, h2⟩ := ha
  obtain ⟨h3, h4⟩ := hb
  have hk255 : k ≤ 255 := by omega
  have hm' : a % 41 = (m : Int) := hm.symm
  clear hm
  go_enter Try.func7, Try.ntmps7
  go_wp2_with fail
  refine (known_true _).mono ?_
  rintro e w1 ⟨rfl, hs1⟩
  have hw1 := (show Same w _ from (by repeat (first | exact Fr.refl _ _ | apply Fr.alloc | apply Fr.drewN | apply Fr.drew | apply Fr.undrew | apply Fr.undrewN))).same hs1
  replace hs1 := Lib.hid hs1; replace hw1 := Lib.hid hw1
  go_wp2_with fail
  refine (constant_ok m true _ (by omega)).mono ?_
  rintro e w2 ⟨a2, c2, rfl, hO2, hs2⟩
  have hw2 := hw1.out.same ((show Same w1 _ from (by repeat (first | exact Fr.refl _ _ | apply Fr.alloc | apply Fr.drewN | apply Fr.drew | apply Fr.undrew | apply Fr.undrewN))).same hs2)
  clear hm'
  replace hs2 := Lib.hid hs2; replace hw2 := Lib.hid hw2; replace hO2 := Lib.hid hO2
  go_wp2_with fail
  go_loopw [8, 9] (fun u i wr => ∃ (j : Nat) (af : Option Addr) (cf : Nat), u = .int .i64 j ∧ i = .int .i64 j ∧ j ≤ m ∧ j ≤ k ∧ BoxAt wr w2.heap.size m af (chL j) cf ((j : Int) + 1) ∧ Same w wr) (fun u _ _ => m - (intOf u).toNat)
  case atStart => exact ⟨0, a2, c2, rfl, rfl, by omega, by omega, ⟨heap_new w2 _, hO2.out.same (by repeat (first | exact Fr.refl _ _ | apply Fr.alloc | apply Fr.drewN | apply Fr.drew | apply Fr.undrew | apply Fr.undrewN))⟩, hw2.out.same (by repeat (first | exact Fr.refl _ _ | apply Fr.alloc | apply Fr.drewN | apply Fr.drew | apply Fr.undrew | apply Fr.undrewN))⟩
  case round =>
    obtain ⟨j, af, cf, rfl, rfl, hjm, hjk, kf, hs⟩ := hrel
    have hwz := hw2.out.size
    by_cases hgo : j < m ∧ j < k
    · obtain ⟨hg1, hg2⟩ := hgo
      have V := fun W => variable_ok m j W (by omega) (by omega)
      replace kf := Lib.hid kf; replace hs := Lib.hid hs; replace V := Lib.hid V
      go_wp2_with fail
      refine (V.out _).mono ?_
      rintro e w3 ⟨a3, c3, rfl, hO3, hs3⟩
      have kf3 := kf.out.same hs3
      have hsw := hs.out.same hs3
      have hk3 := kf3.1
      have x0 := cell_at hk3 0; have x1 := cell_at hk3 1; have x2 := cell_at hk3 2
      have xb := lt_of_heap hk3
      replace hs3 := Lib.hid hs3; replace kf3 := Lib.hid kf3; replace hsw := Lib.hid hsw; replace hk3 := Lib.hid hk3; replace hO3 := Lib.hid hO3
      go_wp2_with fail
      refine (and_big hg1 hm40 af a3 cf c3 _ (kf3.out.2.same (by repeat (first | exact Fr.refl _ _ | apply Fr.alloc | apply Fr.drewN | apply Fr.drew | apply Fr.undrew | apply Fr.undrewN))) (hO3.out.same (by repeat (first | exact Fr.refl _ _ | apply Fr.alloc | apply Fr.drewN | apply Fr.drew | apply Fr.undrew | apply Fr.undrewN)))).mono ?_
      rintro e w4 ⟨a4, c4, rfl, hO4, hs4⟩
      have h34 := (show Same w3 _ from (by repeat (first | exact Fr.refl _ _ | apply Fr.alloc | apply Fr.drewN | apply Fr.drew | apply Fr.undrew | apply Fr.undrewN))).same hs4
      have kf4 := kf3.out.same h34
      have hsw4 := hsw.out.same h34
      have hk4 := kf4.1
      clear x0 x1 x2 xb
      have y0 := cell_at hk4 0
      have y1 := cell_at hk4 1
      have y2 := cell_at hk4 2
      have z0 := free_at hk4 0
      have z1 := free_at hk4 1
      have z2 := free_at hk4 2
      have yb := lt_of_heap hk4
      replace hs4 := Lib.hid hs4; replace kf4 := Lib.hid kf4; replace hsw4 := Lib.hid hsw4; replace hk4 := Lib.hid hk4; replace hO4 := Lib.hid hO4; replace h34 := Lib.hid h34
      go_wp2_with fail
      go_roundw
      case rel =>
        have e2 : ((j + 1 : Nat) : Int) + 1 = (j : Int) + 2 := by omega
        refine ⟨j + 1, a4, c4, by go_num, by go_num, by omega, by omega, ⟨?_, ?_⟩, ?_⟩
        · rw [e2]; exact stored3 hk4.out
        · exact hO4.out.fr stored3_fr (fun q cur hq h => by subst h; rw [hk4.out] at hq; simp at hq)
        · exact hsw4.out.trans stored3_fr (fun i hi h => by subst h; omega)
      case measure => simp [intOf]; omega
    · have hstop : ¬ j < m ∨ (j < m ∧ ¬ j < k) := by omega
      clear hgo
      have T := chL_tab hjm hm40
      obtain ⟨d, hd⟩ : ∃ d : Nat, d = m - j := ⟨_, rfl⟩
      have hdi : ((m : Int) - j) = (d : Int) := by omega
      obtain ⟨P, hP⟩ : ∃ P : Nat, P = 2 ^ d := ⟨_, rfl⟩
      have CNT := fun W (hW : Same wr W) => count_tab ⟨m, af, cf, chL j, (j : Int) + 1⟩ m _ W (SliceAt.same kf.2 hW) ⟨rfl, T⟩
      have ALL := fun W (hW : Same wr W) => all_big hjm hm40 af cf W (SliceAt.same kf.2 hW)
      have ANY := fun W (hW : Same wr W) => any_some ⟨m, af, cf, chL j, (j : Int) + 1⟩ m _ W (SliceAt.same kf.2 hW) ⟨rfl, T⟩ (by simp only; omega)
      obtain ⟨BS, hBS⟩ : ∃ BS, BS = anyF (chL j) ((j : Int) + 1).toNat ((j : Int) + 1) (List.replicate m false) := ⟨_, rfl⟩
      have hev := any_chL_true hjm hm40
      have VAL := fun W ab (hW : Same wr W) (hb : BS.length = m) (hB : RowAt W (.slice ab m m) m (boolCells BS)) => valueP_ok ⟨m, af, cf, chL j, (j : Int) + 1⟩ m _ ab m BS W (SliceAt.same kf.2 hW) ⟨rfl, T⟩ hb hB
      have PW := fun W => power_nat d W (by omega)
      rw [chT_count hjm hm40, ← hd, ← hP] at CNT
      rw [← hd, ← hP] at ALL
      simp only at ANY VAL
      rw [← hBS] at ANY hev
      rw [hev] at VAL
      rw [← hP] at PW
      unfold AllBig at ALL
      unfold AnyRet at ANY
      simp only [Dg.v, chL_length] at CNT ALL ANY VAL
      have hP2 : P ≤ 2 ^ 40 := by rw [hP]; exact Nat.pow_le_pow_right (by omega) (by omega)
      have hkf := kf.1
      rw [chL_length] at hkf
      have x0 := cell_at hkf 0; have x1 := cell_at hkf 1; have x2 := cell_at hkf 2
      have xb := lt_of_heap hkf
      have hd40 : d ≤ 40 := by omega
      clear hBS hev hw2 hO2
      replace kf := Lib.hid kf; replace hs := Lib.hid hs; replace T := Lib.hid T; replace CNT := Lib.hid CNT; replace ALL := Lib.hid ALL; replace ANY := Lib.hid ANY; replace VAL := Lib.hid VAL; replace PW := Lib.hid PW; replace hP := Lib.hid hP; replace hd := Lib.hid hd; replace hkf := Lib.hid hkf
      rcases hstop with hst | ⟨hst, hst2⟩
      all_goals
        go_wp2_with fail
        refine (CNT.out _ (by repeat (first | exact Fr.refl _ _ | apply Fr.alloc | apply Fr.drewN | apply Fr.drew | apply Fr.undrew | apply Fr.undrewN))).mono ?_
        rintro e w3 ⟨rfl, hs3⟩
        have hr3 := (show Same wr _ from (by repeat (first | exact Fr.refl _ _ | apply Fr.alloc | apply Fr.drewN | apply Fr.drew | apply Fr.undrew | apply Fr.undrewN))).same hs3
        have hk3 := hr3.at hkf.out id
        clear x0 x1 x2 xb
        have x0 := cell_at hk3 0; have x1 := cell_at hk3 1; have x2 := cell_at hk3 2
        have xb := lt_of_heap hk3
        replace hs3 := Lib.hid hs3; replace hr3 := Lib.hid hr3; replace hk3 := Lib.hid hk3
        go_wp2_with fail
        refine (ALL.out _ hr3.out).mono ?_
        rintro e w4 ⟨a4, l4, c4, E4, rfl, h4, hs4⟩
        have hr4 := hr3.out.same hs4
        have hk4 := hr4.at hkf.out id
        clear x0 x1 x2 xb
        have x0 := cell_at hk4 0; have x1 := cell_at hk4 1; have x2 := cell_at hk4 2
        have xb := lt_of_heap hk4
        replace hs4 := Lib.hid hs4; replace hr4 := Lib.hid hr4; replace hk4 := Lib.hid hk4; replace h4 := Lib.hid h4
        go_wp2_with fail
        refine (ANY.out _ hr4.out).mono ?_
        rintro e w5 ⟨b5, rfl, hb5, hB5, hle5, hs5⟩
        have hr5 := hr4.out.same hs5
        have hk5 := hr5.at hkf.out id
        clear x0 x1 x2 xb
        have x0 := cell_at hk5 0; have x1 := cell_at hk5 1; have x2 := cell_at hk5 2
        have xb := lt_of_heap hk5
        have hRow := (hB5.slice (by rw [hb5]; omega)).row
        rw [hb5] at hRow
        replace hs5 := Lib.hid hs5; replace hr5 := Lib.hid hr5; replace hk5 := Lib.hid hk5; replace hb5 := Lib.hid hb5; replace hB5 := Lib.hid hB5; replace hle5 := Lib.hid hle5; replace hRow := Lib.hid hRow
        go_wp2_with fail
        refine (VAL.out _ _ hr5.out hb5.out hRow.out).mono ?_
        rintro e w6 ⟨rfl, hs6⟩
        have hr6 := hr5.out.same hs6
        have hk6 := hr6.at hkf.out id
        clear x0 x1 x2 xb
        have x0 := cell_at hk6 0; have x1 := cell_at hk6 1; have x2 := cell_at hk6 2
        have xb := lt_of_heap hk6
        replace hs6 := Lib.hid hs6; replace hr6 := Lib.hid hr6; replace hk6 := Lib.hid hk6
        go_wp2_with fail
        refine (PW.out _).mono ?_
        rintro e w7 ⟨rfl, rfl⟩
        have hfin := hs.out.same hr6.out
        replace hfin := Lib.hid hfin
        rcases h4.out with ⟨hdl, rfl, rfl⟩ | ⟨hdl, rfl, rfl⟩
        · first
            | (exfalso; have := hd.out; omega)
            | (go_wp2_with fail
               go_ret
               exact ⟨rfl, hfin.out⟩)
        · go_wp2_with fail
          refine (PW.out _).mono ?_
          rintro e w7 ⟨rfl, rfl⟩
          go_wp2_with fail
          go_ret
          exact ⟨rfl, hfin.out⟩
end Go.Proofs.Ytaebjalpebgliaa
