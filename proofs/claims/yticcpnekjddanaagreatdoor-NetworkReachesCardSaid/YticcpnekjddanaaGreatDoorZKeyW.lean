/-  -/
import Derived.Test.YticcpnekjddanaaGreatDoorZStrB
import Derived.Test.YticcpnekjddanaaGreatDoorZShelfB
import Derived.Test.YticcpnekjddanaaGreatDoorZKeyS
import Derived.Test.YticcpnekjddanaaGreatDoorZMchI
set_option maxRecDepth 100000
set_option maxHeartbeats 4000000
set_option linter.unusedVariables false
set_option linter.unusedSimpArgs false
namespace Go.Proofs.YticcpnekjddanaaGreatDoor
open Go.RowKit
theorem qor {x : List Nat} {k : Nat} (hk : k < x.length) : qe7 (x.take (k + 1)) = qe7 (x.take k) ++ Lib.decDigits (x.getD k 0) ++ [32] := by
 rw [List.take_add_one, List.getElem?_eq_getElem hk]
 simp only [Option.toList_some]
 rw [qoi, List.getD_eq_getElem?_getD, List.getElem?_eq_getElem hk]
 rfl
theorem qla : ∀ {x : List Nat}, (∀ n ∈ x, n < 100) → (qe7 x).length ≤ 3 * x.length
 | [], _ => by simp [qhI]
 | n :: x, h => by
  rw [qds, List.length_append, List.length_cons, List.length_cons]
  have h1 := qgl ⟨n, h n List.mem_cons_self⟩
  have h2 := qla (x := x) (fun k hk => h k (List.mem_cons_of_mem _ hk))
  simp only at h1
  omega
theorem key_any (x : List Nat) (hx : ∀ n ∈ x, n < 100) (m : Nat) (hm : x.length = m) (hl : m ≤ 1000) (a : Option Addr) (c : Nat) (w : World) (hX : qan w (.slice a m c) m (gw (qaz x))) :
 Calls Tryz.prog 27 #[.slice a m c] w fun e w' => e = .returned (qlZ (qe7 x)) ∧ qad w w' := by
 have hxr := fun (k : Nat) (hk : k < m) W (hW : qad w W) => (hX.same hW).nat (show k < m from hk)
 have hxb : ∀ k, k < m → x.getD k 0 < 100 := fun k hk => by
  rw [List.getD_eq_getElem?_getD, List.getElem?_eq_getElem (by omega)]
  exact hx _ (List.getElem_mem (by omega))
 obtain ⟨K, hK⟩ : ∃ K : Nat → List UInt8, K = fun k => qe7 (x.take k) := ⟨_, rfl⟩
 have hK0 : K 0 = [] := by rw [hK]; rfl
 have hKs : ∀ k, k < m → K (k + 1) = K k ++ Lib.decDigits (x.getD k 0) ++ [32] := fun k hk => by rw [hK]; exact qor (by omega)
 have hKm : qe7 x = K m := by rw [hK]; show qe7 x = qe7 (x.take m); rw [List.take_of_length_le (by omega)]
 have hKl : ∀ k, k ≤ m → (K k).length ≤ 3 * k := fun k hk => by
  rw [hK]
  have := qla (x := x.take k) (fun n hn => hx n (List.mem_of_mem_take hn))
  rw [List.length_take] at this
  simp only
  omega
 have IT := fun (i : Nat) (hi : i < 100) W => Tryz.strconv_Itoa_small i hi W
 have WS := fun (B b : Nat) (l : List UInt8) (s : List UInt8) W h h1 h2 => Tryz.sb_writeString B b (Lib.byteCells l) ⟨s.toArray⟩ W h h1 h2
 have WB := fun (B b : Nat) (l : List UInt8) W h h1 h2 => Tryz.sb_writeByte B b (Lib.byteCells l) 32 W h h1 h2
 have ST := fun (B b : Nat) (l : List UInt8) W h h2 => Tryz.sb_string B b l W h h2
 have hdl : ∀ i, i < 100 → (Lib.decDigits i).length ≤ 2 := fun i hi => qgl ⟨i, hi⟩
 rw [hKm]
 clear hX hx hK hm hKm
 replace hxr := gi hxr; replace hxb := gi hxb; replace hK0 := gi hK0; replace hKs := gi hKs; replace hKl := gi hKl; replace IT := gi IT; replace WS := gi WS; replace WB := gi WB; replace ST := gi ST; replace hdl := gi hdl
 go_enter Tryz.func27, Tryz.ntmps27
 go_upto_region 2 with fail
 have hB0 : Lib.IsBuilderF 107 5 w.heap.size w.heap.size (Lib.byteCells (K 0)) (w.alloc (.cells #[.pointer none, .slice none 0 0] 107)) := by
  rw [hK0.out]
  exact Lib.IsBuilderF.of (Lib.fresh_isBuilder _ _ _)
 have hb0 : Below w.heap.size w (w.alloc (.cells #[.pointer none, .slice none 0 0] 107)) := Fr.below (show qad w _ from fs2)
 have hz0 : w.heap.size < (w.alloc (.cells #[.pointer none, .slice none 0 0] 107)).heap.size := gu (gv w _)
 generalize w.alloc (.cells #[.pointer none, .slice none 0 0] 107) = W0 at *
 obtain ⟨B, hB⟩ : ∃ B, B = w.heap.size := ⟨_, rfl⟩
 rw [← hB] at hB0 hb0 hz0 ⊢
 replace hB0 := gi hB0; replace hb0 := gi hb0; replace hB := gi hB
 go_wp2_with fail
 go_loopw [8] (fun i wr => ∃ k : Nat, i = .int .i64 k ∧ k ≤ m ∧ Lib.IsBuilderF 107 5 B B (Lib.byteCells (K k)) wr ∧ Below B w wr) (fun i _ => m - (intOf i).toNat)
 case atStart => exact ⟨0, rfl, by omega, hB0.out, hb0.out⟩
 case round =>
  obtain ⟨k, rfl, hk, hBk, hbk⟩ := hrel
  have hbz := hbk.size
  have hsw : qad w wr := Fr.of_below (by rw [← hB.out]; exact hbk)
  by_cases hkm : k < m
  · obtain ⟨bx, ox, rfl, hbx, z0⟩ := hxr.out k hkm _ hsw
    have hnk := hxb.out k hkm
    have hsk := hKs.out k hkm
    have hlk := hKl.out k hk
    generalize x.getD k 0 = xk at *
    have ITk := IT.out xk hnk
    have hd := hdl.out xk hnk
    have hBw : B ≤ wr.heap.size := by have := hB.out; have := hbz; omega
    have WSk := fun W h h1 h2 => WS.out B B (K k) (Lib.decDigits xk) W h h1 h2
    replace hBk := gi hBk; replace hbk := gi hbk; replace hsw := gi hsw; replace hsk := gi hsk; replace ITk := gi ITk; replace WSk := gi WSk
    go_wp2_with fail
    refine (ITk.out _).mono ?_
    rintro e w3 ⟨rfl, rfl⟩
    go_wp2_with fail
    refine (WSk.out _ hBk.out (by rw [Lib.byteCells_length]; have : (ByteArray.mk (Lib.decDigits xk).toArray).size = (Lib.decDigits xk).length := List.size_toArray; omega) hBw).mono ?_
    rintro e w4 ⟨rfl, h4, b4, _⟩
    have hB4 : Lib.IsBuilderF 107 5 B B (Lib.byteCells (K k ++ Lib.decDigits xk)) w4 := .inr (by rw [Lib.byteCells_append]; exact h4)
    have hb4 := hbk.out.trans b4
    have hz4 := b4.size
    have WBk := WB.out B B (K k ++ Lib.decDigits xk) w4 hB4 (by rw [Lib.byteCells_length, List.length_append]; omega) (by omega)
    clear h4 b4 hBk hbk WSk ITk
    replace hB4 := gi hB4; replace hb4 := gi hb4; replace WBk := gi WBk
    go_wp2_with fail
    refine WBk.out.mono ?_
    rintro e w5 ⟨rfl, h5, b5, _⟩
    have hB5 : Lib.IsBuilderF 107 5 B B (Lib.byteCells (K (k + 1))) w5 := .inr (by rw [hsk.out, Lib.byteCells_append]; exact h5)
    have hb5 := hb4.out.trans b5
    clear h5 b5 hB4 hb4 WBk
    replace hB5 := gi hB5; replace hb5 := gi hb5
    go_wp2_with fail
    go_roundw
    case rel => exact ⟨k + 1, by go_num, by omega, hB5.out, hb5.out⟩
    case measure => simp [intOf]; omega
  · obtain rfl : k = m := by omega
    have STk := ST.out B B (K k) wr hBk (by have := hB.out; omega)
    replace hBk := gi hBk; replace hbk := gi hbk; replace hsw := gi hsw; replace STk := gi STk
    go_wp2_with fail
    refine STk.out.mono ?_
    rintro e w3 ⟨rfl, _, b3, _⟩
    have hs3 : qad w w3 := Fr.of_below (by rw [← hB.out]; exact hbk.out.trans b3)
    clear b3
    replace hs3 := gi hs3
    go_wp2_with fail
    go_ret
    exact ⟨rfl, hs3.out⟩
end Go.Proofs.YticcpnekjddanaaGreatDoor
