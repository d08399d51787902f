/- Table of a canonical diagram. -/
import Derived.Test.YtaebjalpebgliaaValue
namespace Go.Proofs.Ytaebjalpebgliaa
open Go.RowKit
set_option linter.unusedVariables false
set_option linter.unusedSimpArgs false

theorem and_one (x : Nat) : (bits BinOp.and IntKind.i64 (x : Int) 1 == 1) = decide (x % 2 = 1) := by
  unfold bits
  simp
  have h : x % 2 ^ IntKind.i64.bits &&& 1 % 2 ^ IntKind.i64.bits = x % 2 := by
    have e : IntKind.i64.bits = 64 := rfl
    rw [e, show 1 % 2 ^ 64 = 1 from rfl, Nat.and_one_is_mod]
    omega
  rw [h]
  rcases Nat.mod_two_eq_zero_or_one x with hx | hx <;> rw [hx] <;> rfl

theorem and_bit (n j u : Nat) (h : u < n) : (bits BinOp.and IntKind.i64 ((j : Int) / 2 ^ (n - 1 - u)) 1 == 1) = bitF n j u := by
  have e : ((j : Int) / 2 ^ (n - 1 - u)) = ((j / 2 ^ (n - 1 - u) : Nat) : Int) := by simp
  rw [e, and_one]
  rfl

set_option maxRecDepth 100000 in
set_option maxHeartbeats 2000000 in
theorem table_tab (d : Dg) (n : Nat) (t : List Bool) (w : World) (hn : n ≤ 10) (hat : d.at w) (T : d.tab n t) :
    Calls Try.prog 26 #[d.v] w fun e w' => ∃ b, e = .returned (.tuple #[.slice (some ⟨b, 0, none⟩) t.length t.length, .int .i64 0]) ∧ BoolsAt w' b t ∧ w.heap.size ≤ b ∧ Same w w' := by
  have C := fun W (hW : Same w W) => check_tab d n t W (SliceAt.same hat hW) T
  obtain ⟨ho, hv, ht⟩ := T.2.ord
  have e := T.1
  have hlen := T.2.len
  have hsh := T.2.short
  rw [Dg.v, e] at C ⊢
  unfold Dg.at at hat
  generalize d.L = L at *
  generalize d.r = r at *
  generalize d.a = a at *
  generalize d.cap = cap at *
  have VAL := fun ab cb bits W (hW : Same w W) (hb : bits.length = n) hB => value_any n r a ab cap cb L bits W (hat.same hW) (by omega) ho hv hb hB
  have VT : ∀ i, i < 2 ^ n → ∀ bits : List Bool, bits.length = n → (∀ q, q < n → bits.getD q false = bitF n i q) → ev L r (fun u => bits.getD u false) = t.getD i false := by
    intro i hi bits hb hq
    have h1 := tab_bit ho hv hi
    rw [ht] at h1
    have h2 := tab_ev ho (fun u => bits.getD u false) n 0 r (by omega) hv (topF_range ho.val hv).1
    have hp : placeF (fun u => bits.getD u false) n 0 = i := by
      rw [← Nat.mod_eq_of_lt hi, ← bit_place n 0 n i (by omega)]
      exact placeF_congr (fun u hu => hq u (by omega))
    rw [hp] at h2
    have : ((0 : Nat) : Int) = 0 := rfl
    rw [this, ht] at h2
    exact h2.symm
  obtain ⟨i3, hi3, hi3z, hi3s, hi3b⟩ := info_parts info4
  obtain ⟨m, hm⟩ : ∃ m, m = 2 ^ n := ⟨_, rfl⟩
  have hm2 : m ≤ 1024 := by rw [hm]; exact Nat.pow_le_pow_right (by omega) hn
  have hsl : wrap64 (2 ^ n) = (m : Int) := by rw [wrap_pow n (by omega), hm]
  have hsl2 : IntKind.i64.wrap ((2 : Int) ^ n) = (m : Int) := by
    have e : ((2 : Int) ^ n) = ((2 ^ n : Nat) : Int) := by simp
    rw [e, ← hm]
    exact IntWalk.i64_in _ (by omega)
  rw [hlen, ← hm]
  rw [← hm] at VT
  have h10 : (n : Int) ≤ 10 := by omega
  replace C := Lib.hid C; replace VAL := Lib.hid VAL; replace VT := Lib.hid VT; replace hat := Lib.hid hat; replace ho := Lib.hid ho; replace hv := Lib.hid hv; replace ht := Lib.hid ht; replace hlen := Lib.hid hlen; replace hm := Lib.hid hm; replace T := Lib.hid T; replace e := Lib.hid e
  go_enter Try.func26, Try.ntmps26
  go_wp2_with fail
  refine (C.out _ (by repeat (first | exact Fr.refl _ _ | apply Fr.alloc | apply Fr.drewN | apply Fr.drew | apply Fr.undrew | apply Fr.undrewN))).mono ?_
  rintro e w1 ⟨rfl, hs1⟩
  have kb := hs1.at (heap_new _ _) id
  have x0 := cell_at kb 0; have x1 := cell_at kb 1; have x2 := cell_at kb 2
  have xb := lt_of_heap kb
  have hw1 := (show Same w _ from (by repeat (first | exact Fr.refl _ _ | apply Fr.alloc | apply Fr.drewN | apply Fr.drew | apply Fr.undrew | apply Fr.undrewN))).same hs1
  have hsz1 := hw1.size
  replace kb := Lib.hid kb; replace hs1 := Lib.hid hs1; replace hw1 := Lib.hid hw1
  go_upto_region 7 with (first | (at_make; refine wpList_mkb _ rfl (.tmp 19) (.tmp 19) 26 rfl 4 i3 Try.underlying26 hi3 hi3z hi3s hi3b m rfl rfl (by omega) ?_))
  go_wp2_with (first | (at_make; refine wpList_mkb _ rfl (.tmp 22) (.tmp 22) 26 rfl 4 i3 Try.underlying26 hi3 hi3z hi3s hi3b n rfl rfl (by omega) ?_))
  go_loopw [26] (fun i wr => ∃ (j : Nat) (os bs : List Bool), i = .int .i64 j ∧ j ≤ m ∧ os.length = m ∧ bs.length = n ∧ (∀ q, q < j → os.getD q false = t.getD q false) ∧ BoolsAt wr w1.heap.size os ∧ BoolsAt wr (w1.heap.size + 1) bs ∧ wr.heap[w.heap.size]? = some (.cells #[.int .i64 n, .slice a L.length cap, .int .i64 r] 31 (0, 0)) ∧ Same w wr) (fun i _ => m - (intOf i).toNat)
  case atStart =>
    exact ⟨0, List.replicate m false, List.replicate n false, rfl, by omega, by simp, by simp, fun q h => by omega, heap_old (heap_new _ _) _, heap_new_at (by simp) _, heap_old (heap_old kb.out _) _, (hw1.out.alloc _).alloc _⟩
  case round =>
    obtain ⟨j, os, bs, rfl, hj, hos, hbs, hgood, hO, hBs, hbx, hs⟩ := hrel
    obtain ⟨wo, rfl⟩ : ∃ wo : World, wo = wr := ⟨_, rfl⟩
    clear x0 x1 x2
    by_cases hlt : j < m
    · replace hos := Lib.hid hos; replace hbs := Lib.hid hbs; replace hgood := Lib.hid hgood; replace hO := Lib.hid hO; replace hBs := Lib.hid hBs; replace hbx := Lib.hid hbx; replace hs := Lib.hid hs; replace hj := Lib.hid hj
      go_wp2_with fail
      go_loopw [31] (fun i wr => ∃ (u : Nat) (bs : List Bool), i = .int .i64 u ∧ u ≤ n ∧ bs.length = n ∧ (∀ q, q < u → bs.getD q false = bitF n j q) ∧ BoolsAt wr w1.heap.size os ∧ BoolsAt wr (w1.heap.size + 1) bs ∧ wr.heap[w.heap.size]? = some (.cells #[.int .i64 n, .slice a L.length cap, .int .i64 r] 31 (0, 0)) ∧ Same w wr) (fun i _ => n - (intOf i).toNat)
      case atStart => exact ⟨0, bs, rfl, by omega, hbs.out, fun q h => by omega, hO.out, hBs.out, hbx.out, hs.out⟩
      case round =>
        obtain ⟨u, bs', rfl, hu, hbs', hgood', hO', hBs', hbx', hs'⟩ := hrel
        have y0 := cell_at hbx' 0
        have y1 := cell_at hbx' 1
        have y2 := cell_at hbx' 2
        have yb := lt_of_heap hbx'
        have lo := hO'.lt
        have lb := hBs'.lt
        by_cases hul : u < n
        · have cb := hBs'.cell (k := u) (by omega)
          have fb := hBs'.free u
          have hle1 : u + 1 ≤ n := hul
          replace hbs' := Lib.hid hbs'; replace hgood' := Lib.hid hgood'; replace hO' := Lib.hid hO'; replace hBs' := Lib.hid hBs'; replace hbx' := Lib.hid hbx'; replace hs' := Lib.hid hs'; replace hu := Lib.hid hu
          go_wp2_with fail
          go_roundw
          case rel =>
            refine ⟨u + 1, _, by go_num, by omega, ?_, ?_, ?_, hBs'.out.set u _, ?_, hs'.out.setCell _ _ (fun h => by simp only at h; omega)⟩
            · simp [hbs'.out]
            · intro q hq
              have e1 : (bits BinOp.and IntKind.i64 ((j : Int) / 2 ^ (n - 1 - u)) 1 == 1) = bitF n j u := and_bit n j u (by omega)
              rw [e1]
              by_cases hqu : q = u
              · subst hqu
                simp [List.getD, hbs'.out, hul]
              · have h1 := hgood'.out q (by omega)
                rw [← h1]
                simp only [List.getD_eq_getElem?_getD]
                rw [List.getElem?_set_ne (by omega)]
            · exact hO'.out.fr (S := fun k => k = w1.heap.size + 1) ((Fr.refl _ _).setCell _ _ (fun _ => rfl)) (by omega)
            · rw [heap_setCell_other (by simp only; omega)]; exact hbx'.out
          case measure => simp [intOf]; omega
        · have hun : u = n := by omega
          subst hun
          have hv := VT.out j hlt bs' hbs' (fun q hq => hgood' q hq)
          have co := hO'.cell (k := j) (by have := hos.out; omega)
          have fo := hO'.free j
          have hsl := hBs'.slice (by omega)
          rw [hbs'] at hsl
          have V := VAL.out (some ⟨w1.heap.size + 1, 0, none⟩) u bs' wr hs' hbs' hsl
          rw [hv] at V
          replace V := Lib.hid V; replace hv := Lib.hid hv; replace hsl := Lib.hid hsl; replace hbs' := Lib.hid hbs'; replace hgood' := Lib.hid hgood'; replace hO' := Lib.hid hO'; replace hBs' := Lib.hid hBs'; replace hbx' := Lib.hid hbx'; replace hs' := Lib.hid hs'
          go_wp2_with fail
          refine V.out.mono ?_
          rintro e w3 ⟨rfl, hs3⟩
          have hO3 := hO'.out.fr hs3 id
          have c3 := hO3.cell (k := j) (by have := hos.out; omega)
          have f3 := hO3.free j
          have l3 := hO3.lt
          replace hO3 := Lib.hid hO3; replace hs3 := Lib.hid hs3
          clear co fo y0 y1 y2 yb lo lb
          go_wp2_with fail
          go_roundw
          case rel =>
            refine ⟨j + 1, _, bs', by go_num, by omega, ?_, hbs'.out, ?_, hO3.out.set j _, ?_, ?_, (hs'.out.same hs3.out).setCell _ _ (fun h => by simp only at h; omega)⟩
            · simp [hos.out]
            · intro q hq
              by_cases hqj : q = j
              · subst hqj
                have : q < os.length := by rw [hos.out]; exact hlt
                simp [List.getD, this]
              · have h1 := hgood.out q (by omega)
                rw [← h1]
                simp only [List.getD_eq_getElem?_getD]
                rw [List.getElem?_set_ne (by omega)]
            · exact (hBs'.out.fr hs3.out id).fr (S := fun k => k = w1.heap.size) ((Fr.refl _ _).setCell _ _ (fun _ => rfl)) (by omega)
            · rw [heap_setCell_other (by simp only; omega)]; exact hs3.out.at hbx'.out id
          case measure => simp [intOf]; omega
    · have hjm : j = m := by omega
      subst hjm
      have hot : os = t := by
        refine List.ext_getElem (by rw [hos, hlen.out, hm.out]) (fun q h1 h2 => ?_)
        have := hgood q (by omega)
        simp only [List.getD_eq_getElem?_getD, List.getElem?_eq_getElem h1, List.getElem?_eq_getElem h2, Option.getD_some] at this
        exact this
      rw [hot] at hO
      replace hos := Lib.hid hos; replace hbs := Lib.hid hbs; replace hgood := Lib.hid hgood; replace hO := Lib.hid hO; replace hBs := Lib.hid hBs; replace hbx := Lib.hid hbx; replace hs := Lib.hid hs; replace hot := Lib.hid hot
      go_wp2_with fail
      go_ret2
      exact ⟨w1.heap.size, rfl, hO.out, hsz1, hs.out⟩
end Go.Proofs.Ytaebjalpebgliaa
