/- bdd.Support; Any of the false function; the reference's Depends. -/
import Derived.Test.YtaebjalpebgliaaCtsP
import Derived.Test.YtaebjalpebgliaaShelf
import Derived.Test.YtaebjalpebgliaaRQuant
import Derived.Test.YtaebjalpebgliaaAny
import Derived.Sort.OwnSortedInts
namespace Go.Proofs.Ytaebjalpebgliaa
open Go.RowKit Go.Sort
set_option linter.unusedVariables false
set_option linter.unusedSimpArgs false

/-! ### Sort and Compact of a slice of the call's own -/
def sortL (zs : List Int) : List Int := zs.mergeSort fun x y => decide (x ≤ y)
theorem sortL_length (zs : List Int) : (sortL zs).length = zs.length := by simp [sortL]

theorem sort_own (base : Nat) (zs : List Int) (a : Option Addr) (cap : Nat) (w : World) (h : w.ownsRow base 3 1 (.slice a zs.length cap) zs.length (intCells zs)) (hl : zs.length ≤ 1000000000) :
    Calls Try.prog 71 #[.slice a zs.length cap] w fun e w' => e = .returned (.tuple #[]) ∧
      w'.ownsRow base 3 1 (.slice a zs.length cap) zs.length (intCells (sortL zs)) ∧ Grew (fun _ => False) w w' (.slice a zs.length cap) (.slice a zs.length cap) := by
  rcases h.2 with ⟨hnil, hz⟩ | ⟨g, c, cur, he, hbase, hb, h1, h2, h3, h4⟩
  · simp only [Value.slice.injEq] at hnil
    obtain ⟨rfl, _, rfl⟩ := hnil
    have hz0 : zs = [] := List.length_eq_zero_iff.1 hz
    subst hz0
    refine (Try.slices_Sort_int_none none 0 w).mono ?_
    rintro e w' ⟨rfl, rfl⟩
    have e0 : sortL [] = [] := by simp [sortL]
    rw [e0]
    exact ⟨rfl, h, Grew.refl _ _ _⟩
  · cases he
    refine (Try.slices_Sort_int g 0 cap zs w (holds_of_blockI hb (by simpa [intCells] using h4)) (lt_of_heap hb) (by omega)).mono ?_
    rintro e w' ⟨rfl, n, os, rfl⟩
    refine ⟨rfl, ownsRow_sortedI (ss := zs) (by simp) hbase hb h1 h2 h3, (Fr.refl _ _).grown (grownBy_sortedI _) (fun k hk _ => .inl (by rw [← hk]; rfl)), fun k hk => .inl hk⟩

theorem compact_len (zs : List Int) : (Go.Lib.compact zs).length ≤ zs.length := by
  unfold Go.Lib.compact Go.Lib.compactUpTo
  rw [List.length_map]
  have := List.length_filter_le (Go.Lib.keeps zs.toArray) (List.range zs.length)
  simpa using this

theorem compact_own (base : Nat) (zs : List Int) (a : Option Addr) (cap : Nat) (w : World) (h : w.ownsRow base 3 1 (.slice a zs.length cap) zs.length (intCells zs)) (hl : zs.length ≤ 1000000000) :
    Calls Try.prog 72 #[.slice a zs.length cap] w fun e w' => e = .returned (.slice a (Go.Lib.compact zs).length cap) ∧
      w'.ownsRow base 3 1 (.slice a (Go.Lib.compact zs).length cap) (Go.Lib.compact zs).length (intCells (Go.Lib.compact zs)) ∧ Grew (fun _ => False) w w' (.slice a zs.length cap) (.slice a zs.length cap) := by
  rcases h.2 with ⟨hnil, hz⟩ | ⟨g, c, cur, he, hbase, hb, h1, h2, h3, h4⟩
  · simp only [Value.slice.injEq] at hnil
    obtain ⟨rfl, _, rfl⟩ := hnil
    have hz0 : zs = [] := List.length_eq_zero_iff.1 hz
    subst hz0
    refine (Try.slices_Compact_int_empty none 0 w).mono ?_
    rintro e w' ⟨rfl, rfl⟩
    exact ⟨rfl, h, Grew.refl _ _ _⟩
  · cases he
    have hcl := compact_len zs
    refine (Try.slices_Compact_int g 0 cap zs w (holds_of_blockI hb (by simpa [intCells] using h4)) (by omega) h1).mono ?_
    rintro e w' ⟨rfl, q, rfl⟩
    obtain ⟨cz, hcz⟩ : ∃ cz, cz = Go.Lib.compact zs := ⟨_, rfl⟩
    rw [← hcz] at hcl ⊢
    have hlen : (cz ++ List.replicate (zs.length - cz.length) 0).length = zs.length := by simp; omega
    have hh := heap_sortedI (n := q) (os := #[]) (cz ++ List.replicate (zs.length - cz.length) 0).toArray hb
    have hg := grownBy_sortedI (w := w) (g := g) (n := q) (os := #[]) (cz ++ List.replicate (zs.length - cz.length) 0).toArray
    have ht := take_putCellsI cur (cz ++ List.replicate (zs.length - cz.length) 0) (by rw [hlen]; omega)
    rw [hlen] at ht
    simp only [grow_empty] at hh hg
    refine ⟨rfl, ⟨by simp [intCells], .inr ⟨g, cap, _, rfl, hbase, hh, by omega, h2, by simpa [putCells] using h3, ?_⟩⟩, (Fr.refl _ _).grown hg (fun k hk _ => .inl (by rw [← hk]; rfl)), fun k hk => .inl hk⟩
    have h5 := congrArg (List.take cz.length) ht
    rw [List.take_take, Nat.min_eq_left hcl] at h5
    rw [Nat.mul_one, h5, List.map_append, List.take_append_of_le_length (by simp), List.take_of_length_le (by simp)]
    rfl

/-! ### Support -/
def SupRet (L : List Nd) (w : World) (e : Ending) (w' : World) : Prop :=
  ∃ a c, e = .returned (.tuple #[.slice a (supF L).length c, .int .i64 0]) ∧ w'.ownsRow w.heap.size 3 1 (.slice a (supF L).length c) (supF L).length (intCells (supF L)) ∧ Same w w'

set_option maxRecDepth 100000 in
set_option maxHeartbeats 2000000 in
theorem support_ok (d : Dg) (n : Nat) (t : List Bool) (w : World) (hat : d.at w) (T : d.tab n t) :
    Calls Try.prog 43 #[d.v] w (SupRet d.L w) := by
  have C := fun W (hW : Same w W) => check_tab d n t W (SliceAt.same hat hW) T
  have e := T.1
  have hsh := T.2.short
  rw [Dg.v, e] at C ⊢
  unfold Dg.at at hat
  generalize d.L = L at *
  generalize d.r = r at *
  generalize d.a = a at *
  generalize d.cap = cap at *
  obtain ⟨i3, hi3, hi3z, hi3s, hi3b⟩ := info_parts info3
  replace C := Lib.hid C; replace T := Lib.hid T; replace hat := Lib.hid hat; replace e := Lib.hid e
  go_enter Try.func43, Try.ntmps43
  go_wp2_with fail
  refine (C.out _ (by repeat (first | exact Fr.refl _ _ | apply Fr.alloc | apply Fr.drewN | apply Fr.drew | apply Fr.undrew | apply Fr.undrewN))).mono ?_
  rintro e w1 ⟨rfl, hs1⟩
  have kb := hs1.at (heap_new w _) id
  have x0 := cell_at kb 0; have x1 := cell_at kb 1; have x2 := cell_at kb 2
  have xb := lt_of_heap kb
  have hw1 : Same w w1 := (show Same w _ from (by repeat (first | exact Fr.refl _ _ | apply Fr.alloc | apply Fr.drewN | apply Fr.drew | apply Fr.undrew | apply Fr.undrewN))).same hs1
  replace kb := Lib.hid kb; replace hs1 := Lib.hid hs1; replace hw1 := Lib.hid hw1
  go_wp2_with fail
  go_loopw [5, 16] (fun o i wr => ∃ (k : Nat) (ao : Option Addr) (co : Nat), i = .int .i64 k ∧ o = .slice ao k co ∧ k ≤ L.length ∧ wr.ownsRow w.heap.size 3 1 (.slice ao k co) k (intCells ((L.take k).map (·.1))) ∧ Same w wr) (fun _ i _ => L.length - (intOf i).toNat)
  case atStart => exact ⟨0, none, 0, rfl, rfl, by omega, World.ownsRow_nil _ _ _ _, hw1.out⟩
  case round =>
    obtain ⟨k, ao, co, rfl, rfl, hk, ho, hs⟩ := hrel
    clear x0 x1 x2 xb
    by_cases hlt : k < L.length
    · obtain ⟨b, off, ha, hbl, z0, z1, z2⟩ := (hat.out.same hs).node hlt
      subst ha
      obtain ⟨nv, nl, nh, hnd⟩ : ∃ x y z, L[k] = (x, y, z) := ⟨_, _, _, rfl⟩
      rw [hnd] at z0 z1 z2
      simp only at z0 z1 z2
      have htk : (L.take (k + 1)).map (·.1) = (L.take k).map (·.1) ++ [nv] := by
        rw [List.take_succ_eq_append_getElem hlt, List.map_append, List.map_cons, List.map_nil, hnd]
      replace ho := Lib.hid ho; replace hs := Lib.hid hs; replace hnd := Lib.hid hnd; replace htk := Lib.hid htk
      go_wp2_with (at_builtin; refine wpList_append1 rfl (.tmp 20) (.tmp 23) 42 rfl w.heap.size 3 i3 (.int .i64 0) 1 8 Try.underlying42 hi3 hi3z hi3s hi3b rfl (by decide) (by decide) ao k co (intCells ((L.take k).map (·.1))) rfl (owns_same ho.out (by repeat (first | exact Fr.refl _ _ | apply Fr.undrew | apply Fr.undrewN | apply Fr.drew | apply Fr.drewN | apply Fr.alloc))) (by omega) (wr.heap.size + 1) [.int .i64 nv] rfl rfl (heap_new_at (by simp) _) (by simp [Value.oneCell']) (by have := hs.out.size; simp; omega) ?_; intro an cn w4 ho4 hG4; have h4 : Same w w4 := grew_fresh (hs.out.same (by repeat (first | exact Fr.refl _ _ | apply Fr.undrew | apply Fr.undrewN | apply Fr.drew | apply Fr.drewN | apply Fr.alloc))) hG4 (fun q hq => (ho.out.lt q hq).1); replace ho4 := Lib.hid ho4; replace h4 := Lib.hid h4; clear hG4)
      go_roundw
      case rel =>
        refine ⟨k + 1, an, cn, by go_num, rfl, by omega, ?_, h4.out⟩
        rw [htk.out]
        simpa [intCells] using ho4.out
      case measure => simp [intOf]; omega
    · have hkl : k = L.length := by omega
      have htk : (L.take k).map (·.1) = L.map (·.1) := by rw [List.take_of_length_le (by omega)]
      rw [htk] at ho
      obtain ⟨zs, hzs⟩ : ∃ zs, zs = L.map (·.1) := ⟨_, rfl⟩
      have hzl : zs.length = k := by rw [hzs, hkl]; simp
      have hsup : supF L = Go.Lib.compact (sortL zs) := by rw [hzs]; rfl
      rw [← hzs] at ho
      have ho2 : wr.ownsRow w.heap.size 3 1 (.slice ao zs.length co) zs.length (intCells zs) := by rw [hzl]; exact ho
      have SO := fun W (hW : Same wr W) => sort_own w.heap.size zs ao co W (owns_same ho2 hW) (by omega)
      have CO := fun W (h : W.ownsRow w.heap.size 3 1 (.slice ao (sortL zs).length co) (sortL zs).length (intCells (sortL zs))) => compact_own w.heap.size (sortL zs) ao co W h (by rw [sortL_length]; omega)
      rw [sortL_length] at CO
      rw [hzl] at SO CO
      have hbelow : ∀ q, (Value.slice ao k co).ownBlock = some q → w.heap.size ≤ q := fun q hq => (ho.lt q hq).1
      clear hkl htk hzl ho2
      obtain ⟨cz, hcz⟩ : ∃ cz, cz = Go.Lib.compact (sortL zs) := ⟨_, rfl⟩
      rw [← hcz] at CO hsup
      replace ho := Lib.hid ho; replace hs := Lib.hid hs; replace SO := Lib.hid SO; replace CO := Lib.hid CO; replace hzs := Lib.hid hzs; replace hsup := Lib.hid hsup; replace hbelow := Lib.hid hbelow; replace hcz := Lib.hid hcz
      go_wp2_with fail
      refine (SO.out _ (by repeat (first | exact Fr.refl _ _ | apply Fr.alloc | apply Fr.drewN | apply Fr.drew | apply Fr.undrew | apply Fr.undrewN))).mono ?_
      rintro e w2 ⟨rfl, ho2, hG2⟩
      have h2 : Same w w2 := grew_fresh (hs.out.same (by repeat (first | exact Fr.refl _ _ | apply Fr.alloc | apply Fr.drewN | apply Fr.drew | apply Fr.undrew | apply Fr.undrewN))) hG2 hbelow.out
      replace ho2 := Lib.hid ho2; replace hG2 := Lib.hid hG2; replace h2 := Lib.hid h2
      go_wp2_with fail
      refine (CO.out _ ho2.out).mono ?_
      rintro e w3 ⟨rfl, ho3, hG3⟩
      have h3 : Same w w3 := grew_fresh h2.out hG3 hbelow.out
      replace ho3 := Lib.hid ho3; replace hG3 := Lib.hid hG3; replace h3 := Lib.hid h3
      go_wp2_with fail
      go_ret2
      unfold SupRet
      rw [hsup.out]
      exact ⟨ao, co, rfl, ho3.out, h3.out⟩

/-! ### Any of the false function -/
set_option maxRecDepth 100000 in
set_option maxHeartbeats 1000000 in
theorem any_none (d : Dg) (n : Nat) (t : List Bool) (w : World) (hat : d.at w) (T : d.tab n t) (h0 : d.r = 0) :
    Calls Try.prog 35 #[d.v] w fun e w' => e = .returned (.tuple #[.slice none 0 0, .bool false, .int .i64 0]) ∧ Same w w' := by
  have C := fun W (hW : Same w W) => check_tab d n t W (SliceAt.same hat hW) T
  have e := T.1
  rw [Dg.v, e, h0] at C ⊢
  replace C := Lib.hid C; replace T := Lib.hid T; replace hat := Lib.hid hat; replace e := Lib.hid e; replace h0 := Lib.hid h0
  go_enter Try.func35, Try.ntmps35
  go_wp2_with fail
  refine (C.out _ (by repeat (first | exact Fr.refl _ _ | apply Fr.alloc | apply Fr.drewN | apply Fr.drew | apply Fr.undrew | apply Fr.undrewN))).mono ?_
  rintro e w1 ⟨rfl, hs1⟩
  have kb := hs1.at (heap_new w _) id
  have x0 := cell_at kb 0; have x1 := cell_at kb 1; have x2 := cell_at kb 2
  have xb := lt_of_heap kb
  have hw1 : Same w w1 := (show Same w _ from (by repeat (first | exact Fr.refl _ _ | apply Fr.alloc | apply Fr.drewN | apply Fr.drew | apply Fr.undrew | apply Fr.undrewN))).same hs1
  replace kb := Lib.hid kb; replace hs1 := Lib.hid hs1; replace hw1 := Lib.hid hw1
  go_wp2_with fail
  go_ret3
  exact ⟨rfl, hw1.out⟩

/-! ### Depends -/
def depTo (n : Nat) (t : List Bool) (v m : Nat) : Bool := (List.range m).any fun i => t.getD i false != t.getD (withF n i v true) false

theorem depTo_succ (n : Nat) (t : List Bool) (v m : Nat) : depTo n t v (m + 1) = (depTo n t v m || (t.getD m false != t.getD (withF n m v true) false)) := by
  unfold depTo
  rw [List.range_succ, List.any_append]
  simp

theorem depTo_hit {n : Nat} {t : List Bool} {v k m : Nat} (h : k < m) (hk : (t.getD k false != t.getD (withF n k v true) false) = true) : depTo n t v m = true :=
  List.any_eq_true.2 ⟨k, List.mem_range.2 h, hk⟩

set_option maxRecDepth 100000 in
set_option maxHeartbeats 1000000 in
theorem depends_any (n v : Nat) (t : List Bool) (a : Option Addr) (cap : Nat) (w : World) (hv : v < n) (hn : n ≤ 10) (ht : t.length = 2 ^ n) (hT : RowAt w (.slice a t.length cap) t.length (boolCells t)) :
    Calls Try.prog 44 #[.int .i64 n, .slice a t.length cap, .int .i64 v] w fun e w' => e = .returned (.bool (depF n t v)) ∧ Same w w' := by
  obtain ⟨M, hM⟩ : ∃ M, M = t.length := ⟨_, rfl⟩
  have hM2 : M = 2 ^ n := by rw [hM, ht]
  have hM1 : 0 < M := by rw [hM2]; exact Nat.two_pow_pos n
  have hMle : M ≤ 1024 := by rw [hM2]; exact Nat.pow_le_pow_right (n := 2) (by omega) hn
  have hR : depF n t v = depTo n t v M := by rw [hM2]; rfl
  rw [hR]
  have WITH := fun j W (hj : j < M) => with_any n j v true W hv (by omega) (by rw [← hM2]; exact hj)
  have wlt := fun j (hj : j < M) => (show withF n j v true < M by rw [hM2]; exact with_lt n j v true (by rw [← hM2]; exact hj) hv)
  rw [← hM] at hT ⊢
  obtain ⟨R, hRd⟩ : ∃ R, R = depTo n t v M := ⟨_, rfl⟩
  rw [← hRd]
  have hz : depTo n t v 0 = false := rfl
  replace hT := Lib.hid hT; replace hM := Lib.hid hM; replace hM2 := Lib.hid hM2; replace hR := Lib.hid hR; replace WITH := Lib.hid WITH; replace wlt := Lib.hid wlt; replace hRd := Lib.hid hRd; replace ht := Lib.hid ht; replace hz := Lib.hid hz
  go_enter Try.func44, Try.ntmps44
  go_wp2_with fail
  go_loopw [7] (fun i wr => ∃ k : Nat, i = .int .i64 k ∧ k ≤ M ∧ depTo n t v k = false ∧ Same w wr) (fun i _ => M - (intOf i).toNat)
  case atStart => exact ⟨0, rfl, by omega, hz.out, (by repeat (first | exact Fr.refl _ _ | apply Fr.alloc | apply Fr.drewN | apply Fr.drew | apply Fr.undrew | apply Fr.undrewN))⟩
  case round =>
    obtain ⟨k, rfl, hk, hf, hs⟩ := hrel
    obtain ⟨wo, rfl⟩ : ∃ wo : World, wo = wr := ⟨_, rfl⟩
    by_cases hlt : k < M
    · obtain ⟨b, off, ha, hb, hc⟩ := (hT.out.same hs).cell hM1
      subst ha
      have W1 := fun W => WITH.out k W hlt
      have hw := wlt.out k hlt
      obtain ⟨p, hp⟩ : ∃ p, p = withF n k v true := ⟨_, rfl⟩
      rw [← hp] at W1 hw
      have c0 := hc k _ (boolCells_get t k (by rw [← hM.out]; exact hlt))
      have c1 := hc p _ (boolCells_get t p (by rw [← hM.out]; exact hw))
      have g0 : t.getD k false = t[k]'(by rw [← hM.out]; exact hlt) := by simp [List.getD, show k < t.length by rw [← hM.out]; exact hlt]
      have g1 : t.getD p false = t[p]'(by rw [← hM.out]; exact hw) := by simp [List.getD, show p < t.length by rw [← hM.out]; exact hw]
      have hsuc := depTo_succ n t v k
      have hhit := depTo_hit (n := n) (t := t) (v := v) hlt
      rw [← hRd.out] at hhit
      rw [← hp, hf] at hsuc
      rw [← hp] at hhit
      obtain ⟨x, hx⟩ : ∃ x, x = t[k]'(by rw [← hM.out]; exact hlt) := ⟨_, rfl⟩
      obtain ⟨y, hy⟩ : ∃ y, y = t[p]'(by rw [← hM.out]; exact hw) := ⟨_, rfl⟩
      rw [← hx] at c0 g0
      rw [← hy] at c1 g1
      rw [g0, g1] at hsuc hhit
      clear hc g0 g1
      replace hf := Lib.hid hf; replace hs := Lib.hid hs; replace W1 := Lib.hid W1; replace hp := Lib.hid hp; replace hx := Lib.hid hx; replace hy := Lib.hid hy; replace hsuc := Lib.hid hsuc; replace hhit := Lib.hid hhit
      go_wp2_with fail
      refine wp_region_sched (Lk b) [0, 0, 0, 1, 0, 0, 0, 0, 2, 0, 1, 0] [0, 1, 2, 4, 5, 6, 7, 3, 8, 9, 10, 11] (by kernel_rfl) (by kernel_rfl) ?_
      repeat (first | (refine sched_w rfl rfl (fun _ hK => ?_); go_simp; refine hK _ ?_; clear hK) | (refine sched_s rfl rfl (fun _ hK => ?_); go_simp; first | (refine hK _ ?_; clear hK) | (refine ⟨_, fun _ => rfl, hK _ ?_⟩; clear hK)))
      refine sched_g rfl rfl (fun _ hK => ?_)
      go_simp
      refine (W1.out _).mono ?_
      rintro e w5 ⟨rfl, rfl⟩
      refine hK _ _ (Kp.of_same (by repeat (first | exact Fr.refl _ _ | apply Fr.undrew | apply Fr.undrewN | apply Fr.drew | apply Fr.drewN | apply Fr.alloc))) ?_
      clear hK
      try simp only [Act.put, List.setIfInBounds_toArray, List.set_cons_zero, List.set_cons_succ]
      repeat (first | (refine sched_w rfl rfl (fun _ hK => ?_); go_simp; refine hK _ ?_; clear hK) | (refine sched_s rfl rfl (fun _ hK => ?_); go_simp; first | (refine hK _ ?_; clear hK) | (refine ⟨_, fun _ => rfl, hK _ ?_⟩; clear hK)))
      refine sched_nil (NoPanic.normal ?_)
      have hs2 : Same w wo.drew := hs.out.drew
      replace hs2 := Lib.hid hs2
      cases x <;> cases y
      all_goals
        first
          | (go_wp2_with fail
             go_ret
             exact ⟨by rw [hhit.out rfl]; rfl, hs2.out⟩)
          | (go_wp2_with fail
             go_roundw
             case rel => exact ⟨k + 1, by go_num, by omega, by rw [hsuc.out]; rfl, hs2.out⟩
             case measure => simp [intOf]; omega)
    · have hkM : k = M := by omega
      have hRf : R = false := by rw [hRd.out, ← hkM, hf]
      clear hkM
      replace hf := Lib.hid hf; replace hs := Lib.hid hs; replace hRf := Lib.hid hRf
      go_wp2_with fail
      go_ret
      exact ⟨by rw [hRf.out]; rfl, hs.out⟩
end Go.Proofs.Ytaebjalpebgliaa
