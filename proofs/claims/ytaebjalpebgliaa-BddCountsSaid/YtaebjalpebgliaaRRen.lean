/- The reference's Renamed. -/
import Derived.Test.YtaebjalpebgliaaValue
import Derived.Test.YtaebjalpebgliaaRowAt
import Derived.Test.YtaebjalpebgliaaRenP
namespace Go.Proofs.Ytaebjalpebgliaa
open Go.RowKit
set_option linter.unusedVariables false
set_option linter.unusedSimpArgs false

theorem ints_row {w : World} {a : Option Addr} {cap : Nat} {l : List Int} (h : RowAt w (.slice a l.length cap) l.length (intCells l)) (hn : 0 < l.length) :
    ∃ b off, a = some ⟨b, off, none⟩ ∧ b < w.heap.size ∧ ∀ j, j < l.length → w.cell? ⟨b, off + j, none⟩ = some (.int .i64 (toF l j)) := by
  obtain ⟨b, off, ha, hb, hc⟩ := h.cell hn
  refine ⟨b, off, ha, hb, fun j hj => hc j _ ?_⟩
  rw [intCells_get l j hj]
  rfl

theorem bools_row {w : World} {a : Option Addr} {cap : Nat} {l : List Bool} (h : RowAt w (.slice a l.length cap) l.length (boolCells l)) (hn : 0 < l.length) :
    ∃ b off, a = some ⟨b, off, none⟩ ∧ b < w.heap.size ∧ ∀ j, j < l.length → w.cell? ⟨b, off + j, none⟩ = some (.bool (l.getD j false)) := by
  obtain ⟨b, off, ha, hb, hc⟩ := h.cell hn
  refine ⟨b, off, ha, hb, fun j hj => hc j _ ?_⟩
  simp [boolCells, List.getD, hj]

set_option maxRecDepth 100000 in
set_option maxHeartbeats 2000000 in
theorem renamed_any (n m : Nat) (t : List Bool) (qs : List Int) (aT aQ : Option Addr) (capT capQ : Nat) (w : World) (hn : n ≤ 10) (hm : m ≤ 10) (ht : t.length = 2 ^ n) (hl : qs.length = n)
    (hT : RowAt w (.slice aT t.length capT) t.length (boolCells t)) (hQ : RowAt w (.slice aQ qs.length capQ) qs.length (intCells qs)) (hu : ∀ i : Nat, i < n → 0 ≤ toF qs i ∧ toF qs i < m) :
    Calls Try.prog 24 #[.int .i64 n, .slice aT t.length capT, .int .i64 m, .slice aQ qs.length capQ] w
      fun e w' => ∃ b, e = .returned (.slice (some ⟨b, 0, none⟩) (2 ^ m) (2 ^ m)) ∧ BoolsAt w' b (renT (toF qs) n m t) ∧ w.heap.size ≤ b ∧ Same w w' := by
  obtain ⟨M, hM⟩ : ∃ M, M = 2 ^ m := ⟨_, rfl⟩
  have hM2 : M ≤ 1024 := by rw [hM]; exact Nat.pow_le_pow_right (by omega) hm
  have hn2 : 2 ^ n ≤ 1024 := Nat.pow_le_pow_right (by omega) hn
  have P := fun W => power_nat m W (by omega)
  obtain ⟨R, hR⟩ : ∃ R, R = renT (toF qs) n m t := ⟨_, rfl⟩
  have hRl : R.length = M := by rw [hR, hM]; exact renT_length _ _ _ _
  have hRg : ∀ i, i < M → R.getD i false = t.getD (fromF (toF qs) m i n) false := by
    intro i hi
    rw [hR]
    simp [renT, List.getD, ← hM, hi]
  have BIT := fun k v W (hv : v < m) (hk : k < M) => bit_any m k v W hv (by omega) (by rw [← hM]; exact hk)
  rw [← hR, ← hM]
  rw [← hM] at P
  rw [hl] at hQ ⊢
  obtain ⟨i3, hi3, hi3z, hi3s, hi3b⟩ := info_parts info4
  replace P := Lib.hid P; replace hM := Lib.hid hM; replace hR := Lib.hid hR; replace hRl := Lib.hid hRl; replace hRg := Lib.hid hRg; replace ht := Lib.hid ht; replace hl := Lib.hid hl; replace hT := Lib.hid hT; replace hQ := Lib.hid hQ; replace hu := Lib.hid hu; replace BIT := Lib.hid BIT; replace hn2 := Lib.hid hn2
  go_enter Try.func24, Try.ntmps24
  go_wp2_with fail
  refine (P.out _).mono ?_
  rintro e w' ⟨rfl, rfl⟩
  go_wp2_with (at_make; refine wpList_mkb _ rfl (.tmp 14) (.tmp 14) 26 rfl 4 i3 Try.underlying26 hi3 hi3z hi3s hi3b M rfl rfl (by omega) ?_)
  go_loopw [10] (fun i wr => ∃ (k : Nat) (os : List Bool), i = .int .i64 k ∧ k ≤ M ∧ os.length = M ∧ (∀ q, q < k → os.getD q false = R.getD q false) ∧ BoolsAt wr w.heap.size os ∧ Same w wr) (fun i _ => M - (intOf i).toNat)
  case atStart =>
    exact ⟨0, List.replicate M false, rfl, by omega, by simp, fun q h => by omega, heap_new _ _, (by repeat (first | exact Fr.refl _ _ | apply Fr.alloc | apply Fr.drewN | apply Fr.drew))⟩
  case round =>
    obtain ⟨k, os, rfl, hk, hos, hgood, hO, hs⟩ := hrel
    obtain ⟨wo, rfl⟩ : ∃ wo : World, wo = wr := ⟨_, rfl⟩
    by_cases hlt : k < M
    · have lo := hO.lt
      replace hos := Lib.hid hos; replace hgood := Lib.hid hgood; replace hO := Lib.hid hO; replace hs := Lib.hid hs
      go_wp2_with fail
      go_loopw [11, 12] (fun f v wr => ∃ (d : Nat), v = .int .i64 d ∧ f = .int .i64 (fromF (toF qs) m k d) ∧ d ≤ n ∧ wo = wr) (fun _ v _ => n - (intOf v).toNat)
      case atStart => exact ⟨0, rfl, rfl, by omega, rfl⟩
      case round =>
        obtain ⟨d, rfl, rfl, hd, rfl⟩ := hrel
        have hf := fromF_lt (toF qs) m k d
        have hp : 2 ^ d ≤ 2 ^ n := Nat.pow_le_pow_right (by omega) hd
        have hf2 : fromF (toF qs) m k d < 1024 := by have := hn2.out; omega
        have hsucc := fromF_succ (toF qs) m k d
        have hend : d = n → R.getD k false = t.getD (fromF (toF qs) m k d) false ∧ fromF (toF qs) m k d < t.length := fun e => by
          rw [hRg.out k hlt, e]
          refine ⟨rfl, ?_⟩
          rw [ht.out]
          exact fromF_lt _ _ _ _
        obtain ⟨x, hx⟩ : ∃ x, x = fromF (toF qs) m k d := ⟨_, rfl⟩
        rw [← hx] at hf2 hsucc hend ⊢
        clear hf hp
        by_cases hdl : d < n
        · obtain ⟨bq, oq, rfl, hbq, hcq⟩ := ints_row (l := qs) (by rw [hl.out]; exact hQ.out.same hs.out) (by rw [hl.out]; omega)
          have cq := hcq d (by rw [hl.out]; exact hdl)
          have hv := hu.out d hdl
          obtain ⟨v, hv'⟩ : ∃ v : Nat, toF qs d = v := ⟨(toF qs d).toNat, by omega⟩
          rw [hv'] at cq hv hsucc
          have B := BIT.out k v wo (by omega) hlt
          have e1 : ((v : Int).toNat) = v := rfl
          rw [e1] at hsucc
          obtain ⟨c, hc⟩ : ∃ c, c = bitF m k v := ⟨_, rfl⟩
          rw [← hc] at B hsucc
          replace B := Lib.hid B; replace hsucc := Lib.hid hsucc; replace hx := Lib.hid hx; replace hend := Lib.hid hend; replace hc := Lib.hid hc; replace hv' := Lib.hid hv'
          clear hcq
          cases c
          · go_wp2_with fail
            refine B.out.mono ?_
            rintro e w' ⟨rfl, rfl⟩
            go_wp2_with fail
            go_roundw
            case rel =>
              refine ⟨d + 1, by go_num, ?_, by omega, (by first | rfl | trivial)⟩
              rw [hsucc.out]
              simp
            case measure => simp [intOf]; omega
          · go_wp2_with fail
            refine B.out.mono ?_
            rintro e w' ⟨rfl, rfl⟩
            go_wp2_with fail
            go_roundw
            case rel =>
              refine ⟨d + 1, by go_num, ?_, by omega, (by first | rfl | trivial)⟩
              rw [hsucc.out]
              simp
            case measure => simp [intOf]; omega
        · have hdn : d = n := by omega
          subst hdn
          obtain ⟨hval, hxt⟩ := hend rfl
          obtain ⟨bt, ot, rfl, hbt, hct⟩ := bools_row (hT.out.same hs.out) (by omega)
          have ct := hct x hxt
          have co := hO.out.cell (k := k) (by rw [hos.out]; exact hlt)
          have fo := hO.out.free k
          rw [← hval] at ct
          have hxl : x < t.length := hxt
          clear hend hxt hct
          obtain ⟨T, hTl⟩ : ∃ T, T = t.length := ⟨_, rfl⟩
          rw [← hTl] at hxl
          replace hsucc := Lib.hid hsucc; replace hx := Lib.hid hx; replace hval := Lib.hid hval
          go_wp2_with fail
          go_roundw
          case rel =>
            refine ⟨k + 1, _, by go_num, by omega, ?_, ?_, hO.out.set k _, hs.out.setCell _ _ (fun h => by simp only at h; omega)⟩
            · simp [hos.out]
            · intro q hq
              by_cases hqk : q = k
              · subst hqk
                have : q < os.length := by rw [hos.out]; exact hlt
                simp [List.getD, this]
              · have h1 := hgood.out q (by omega)
                rw [← h1]
                simp only [List.getD_eq_getElem?_getD]
                rw [List.getElem?_set_ne (by omega)]
          case measure => simp [intOf]; omega
    · have hkM : k = M := by omega
      subst hkM
      have hot : os = R := by
        refine List.ext_getElem (by rw [hos, hRl.out]) (fun q h1 h2 => ?_)
        have := hgood q (by omega)
        simp only [List.getD_eq_getElem?_getD, List.getElem?_eq_getElem h1, List.getElem?_eq_getElem h2, Option.getD_some] at this
        exact this
      rw [hot] at hO
      have lo := hO.lt
      replace hos := Lib.hid hos; replace hgood := Lib.hid hgood; replace hO := Lib.hid hO; replace hs := Lib.hid hs; replace hot := Lib.hid hot
      go_wp2_with fail
      go_ret
      exact ⟨w.heap.size, rfl, hO.out, Nat.le_refl _, hs.out⟩
end Go.Proofs.Ytaebjalpebgliaa
