/- BddChecks: the law's nodes; the reference's Order and Check. -/
import Derived.Test.YtaebjalpebgliaaOrdP
import Derived.Test.YtaebjalpebgliaaRBuild
import Derived.Test.YtaebjalpebgliaaLDia
import Derived.Test.YtaebjalpebgliaaRQuant
namespace Go.Proofs.Ytaebjalpebgliaa
open Go.RowKit
set_option linter.unusedVariables false
set_option linter.unusedSimpArgs false

/-! ### nodes -/
def NodesRet (L : List Nd) (w : World) (e : Ending) (w' : World) : Prop :=
  ∃ a c, e = .returned (.slice a L.length c) ∧ SliceAt w' 83 3 (.slice a L.length c) L.length (ndCells L) ∧ Same w w'

theorem ndCells_snoc (L : List Nd) (k : Nat) (h : k < L.length) : ndCells (L.take (k + 1)) = ndCells (L.take k) ++ [.int .i64 L[k].1, .int .i64 L[k].2.1, .int .i64 L[k].2.2] := by
  rw [List.take_succ_eq_append_getElem h, ndCells_append]; rfl

set_option maxRecDepth 100000 in
set_option maxHeartbeats 2000000 in
theorem nodes_any (n r : Int) (aL : Option Addr) (capL : Nat) (L : List Nd) (w : World) (hL : NodesAt w aL L capL) (hlen : L.length ≤ 1000) :
    Calls Try.prog 46 #[.agg #[.int .i64 n, .slice aL L.length capL, .int .i64 r]] w (NodesRet L w) := by
  obtain ⟨i0, hi, hz0, hz1, hz2⟩ := info_parts infoR
  replace hL := Lib.hid hL
  go_enter Try.func46, Try.ntmps46
  go_wp2_with fail
  go_loopw [3, 4] (fun o i wr => ∃ (k : Nat) (a : Option Addr) (c : Nat), i = .int .i64 k ∧ o = .slice a k c ∧ k ≤ L.length ∧ wr.ownsRow (w.heap.size + 1) 83 3 (.slice a k c) k (ndCells (L.take k)) ∧ wr.heap[w.heap.size]? = some (.cells #[.int .i64 n, .slice aL L.length capL, .int .i64 r] 31 (0, 0)) ∧ Same w wr) (fun _ i _ => L.length - (intOf i).toNat)
  case atStart => exact ⟨0, none, 0, rfl, rfl, by omega, World.ownsRow_nil _ _ _ _, heap_new w _, (by repeat (first | exact Fr.refl _ _ | apply Fr.alloc | apply Fr.drewN | apply Fr.drew | apply Fr.undrew | apply Fr.undrewN))⟩
  case round =>
    obtain ⟨k, a, c, rfl, rfl, hk, ho, hbx, hs⟩ := hrel
    have y0 := cell_at hbx 0; have y1 := cell_at hbx 1; have y2 := cell_at hbx 2
    have yb := lt_of_heap hbx
    by_cases hlt : k < L.length
    · obtain ⟨b, off, rfl, hb, x0, x1, x2⟩ := (hL.out.same hs).node hlt
      have hsn := ndCells_snoc L k hlt
      obtain ⟨nv, nl, nh, hnd⟩ : ∃ x y z, L[k] = (x, y, z) := ⟨_, _, _, rfl⟩
      rw [hnd] at x0 x1 x2 hsn
      simp only at x0 x1 x2 hsn
      have hws := hs.size
      replace ho := Lib.hid ho; replace hbx := Lib.hid hbx; replace hs := Lib.hid hs; replace hsn := Lib.hid hsn; replace hnd := Lib.hid hnd
      go_wp2_with fail
      refine wp_region_sched (L2 b w.heap.size) [0, 0, 1, 0, 0, 0, 1, 0, 1, 0, 0, 0, 1, 0, 1, 0, 0, 0, 1, 0, 2, 3, 0] [0, 1, 3, 7, 9, 13, 15, 2, 4, 5, 6, 8, 10, 11, 12, 14, 16, 17, 18, 19, 20, 21, 22] (by kernel_rfl) (by kernel_rfl) ?_
      repeat (first | (refine sched_w rfl rfl (fun _ hK => ?_); go_simp; refine hK _ ?_; clear hK) | (refine sched_s rfl rfl (fun _ hK => ?_); go_simp; first | (refine hK _ ?_; clear hK) | (refine ⟨_, fun _ => rfl, hK _ ?_⟩; clear hK)))
      refine sched_g rfl rfl (fun _ hK => ?_); go_simp; refine hK _ _ (Kp.of_same (by repeat (first | exact Fr.refl _ _ | apply Fr.alloc | apply Fr.drewN | apply Fr.drew | apply Fr.undrew | apply Fr.undrewN))) ?_; clear hK
      refine sched_l rfl (by decide) (fun _ hK => ?_)
      refine step_append1 rfl (.tmp 12) (.tmp 32) 77 rfl (w.heap.size + 1) 83 i0 (.agg #[.int .i64 0, .int .i64 0, .int .i64 0]) 3 24 Try.underlying77 hi hz0 hz1 hz2 rfl (by decide) (by decide) a k c (ndCells (L.take k)) rfl (owns_same ho.out (by repeat (first | exact Fr.refl _ _ | apply Fr.undrew | apply Fr.undrewN | apply Fr.drew | apply Fr.drewN | apply Fr.alloc))) (by omega) wr.heap.size [.int .i64 nv, .int .i64 nl, .int .i64 nh] rfl rfl (heap_new_at (by simp) _) (by simp [Value.oneCell']) (by simp; omega) ?_
      intro an cn w4 ho4 hG4
      have h4 : Same w w4 := grew_fresh (hs.out.same (by repeat (first | exact Fr.refl _ _ | apply Fr.undrew | apply Fr.undrewN | apply Fr.drew | apply Fr.drewN | apply Fr.alloc))) hG4 (fun q hq => by have := (ho.out.lt q hq).1; omega)
      have hb4 : w4.heap[w.heap.size]? = some (.cells #[.int .i64 n, .slice (some ⟨b, off, none⟩) L.length capL, .int .i64 r] 31 (0, 0)) := by
        refine hG4.1.at ((show Same wr _ from (by repeat (first | exact Fr.refl _ _ | apply Fr.undrew | apply Fr.undrewN | apply Fr.drew | apply Fr.drewN | apply Fr.alloc))).at hbx.out id) ?_
        rintro (h | h)
        · have := (ho.out.lt _ h).1; omega
        · exact h.elim
      rw [← hsn.out] at ho4
      replace ho4 := Lib.hid ho4; replace h4 := Lib.hid h4; replace hb4 := Lib.hid hb4
      clear hG4
      refine hK _ _ ?_; clear hK; try simp only [Act.put, List.setIfInBounds_toArray, List.set_cons_zero, List.set_cons_succ]
      repeat (first | (refine sched_w rfl rfl (fun _ hK => ?_); go_simp; refine hK _ ?_; clear hK) | (refine sched_s rfl rfl (fun _ hK => ?_); go_simp; first | (refine hK _ ?_; clear hK) | (refine ⟨_, fun _ => rfl, hK _ ?_⟩; clear hK)))
      refine sched_nil (NoPanic.normal ?_)
      go_wp2_with fail
      go_roundw
      case rel => exact ⟨k + 1, an, cn, by go_num, rfl, by omega, ho4.out, hb4.out, h4.out⟩
      case measure => simp [intOf]; omega
    · have hkl : k = L.length := by omega
      have htk : L.take k = L := List.take_of_length_le (by omega)
      rw [htk] at ho
      subst hkl
      replace ho := Lib.hid ho; replace hbx := Lib.hid hbx; replace hs := Lib.hid hs; replace htk := Lib.hid htk
      go_wp2_with fail
      go_ret
      exact ⟨a, c, rfl, SliceAt.of_owns ho.out, hs.out⟩

/-! ### Order -/
def OrdRet (base : Nat) (done new : List Int) (aD : Option Addr) (cD : Nat) (w : World) (e : Ending) (w' : World) : Prop :=
  ∃ a c, e = .returned (.slice a new.length c) ∧ w'.ownsRow base 3 1 (.slice a new.length c) new.length (intCells new) ∧ Grew (fun _ => False) w w' (.slice aD done.length cD) (.slice a new.length c)

/-- Only rows of ints have turned. -/
def SI (w : World) : Nat → Prop := fun k => ∃ cur, w.heap[k]? = some (.cells cur 3 (0, 0))

theorem outI_fr {w w' : World} {B m : Nat} {v v' : Value} {vals : List Value} (ho : w.ownsRow B 3 1 v m vals) (hG : Grew (fun _ => False) w w' v v') : Fr (SI w) w w' :=
  hG.1.mono (fun k _ h => by
    rcases h with h | h
    · exact own_block ho h
    · exact h.elim)

theorem not_SI {w : World} {k : Nat} {cur : Array Value} {T : TypeId} (h : w.heap[k]? = some (.cells cur T (0, 0))) (hT : T ≠ 3) : ¬ SI w k := by
  rintro ⟨c, hc⟩
  rw [h] at hc
  simp only [Option.some.injEq, Obj.cells.injEq] at hc
  exact hT hc.2.1

theorem ints_slice {w : World} {base : Nat} {a : Option Addr} {c : Nat} {l : List Int} (h : w.ownsRow base 3 1 (.slice a l.length c) l.length (intCells l)) (hn : 0 < l.length) :
    ∃ b off, a = some ⟨b, off, none⟩ ∧ b < w.heap.size ∧ ∀ j, j < l.length → w.cell? ⟨b, off + j, none⟩ = some (.int .i64 (l.getD j 0)) := by
  obtain ⟨b, off, ha, hb, hc⟩ := (SliceAt.of_owns h).cell hn
  exact ⟨b, off, ha, hb, fun j hj => hc j _ (intCells_get l j hj)⟩

set_option maxRecDepth 100000 in
set_option maxHeartbeats 4000000 in
theorem order_any (L : List Nd) (hV : VNd L) (hlen : L.length ≤ 1000) (aN : Option Addr) (capN base : Nat) : ∀ (m : Nat) (k : Int) (done : List Int) (aD : Option Addr) (cD : Nat) (w : World), k.toNat ≤ m → VNum L k →
    SliceAt w 83 3 (.slice aN L.length capN) L.length (ndCells L) → w.ownsRow base 3 1 (.slice aD done.length cD) done.length (intCells done) → done.Nodup → (∀ x ∈ done, 2 ≤ x ∧ x < (L.length : Int) + 2) → base ≤ w.heap.size →
    Calls Try.prog 74 #[.slice aN L.length capN, .slice aD done.length cD, .int .i64 k] w (OrdRet base done (ordL L done k) aD cD w) := by
  obtain ⟨i3, hi3, hi3z, hi3s, hi3b⟩ := info_parts info3
  have hsmall : ∀ (k : Int) (done : List Int) (aD : Option Addr) (cD : Nat) (w : World), k < 2 → w.ownsRow base 3 1 (.slice aD done.length cD) done.length (intCells done) →
      Calls Try.prog 74 #[.slice aN L.length capN, .slice aD done.length cD, .int .i64 k] w (OrdRet base done (ordL L done k) aD cD w) := by
    intro k done aD cD w h2 ho
    rw [ordL_done (.inl h2)]
    replace ho := Lib.hid ho; replace hV := Lib.hid hV
    go_enter Try.func74, Try.ntmps74
    go_wp2_with fail
    go_ret
    exact ⟨aD, cD, rfl, ho.out, Grew.refl _ _ _⟩
  intro m
  induction m with
  | zero =>
    intro k done aD cD w hm hk hN ho hd hdr hb
    exact hsmall k done aD cD w (by omega) ho
  | succ m ih =>
    intro k done aD cD w hm hk hN ho hd hdr hb
    by_cases h2 : k < 2
    · exact hsmall k done aD cD w h2 ho
    · have h2' : 2 ≤ k := by omega
      have hdl := nodup_len _ _ hd hdr
      have hv := nodeF_valid hV h2' hk.2
      have hk1 := hk.2
      have hall := ordL_all hV _ k done (Nat.le_refl _) hk
      have hal := ordL_all hV _ (nodeF L k).2.1 done (Nat.le_refl _) hv.2.2.1
      have hin := fun (h : k ∈ done) => ordL_done (N := L) (done := done) (k := k) (.inr h)
      have hnd := fun (h : k ∉ done) => ordL_node hV hk h2' h
      have hkn : (k - 2).toNat < L.length := by omega
      have hlen2 : (ordL L done k).length ≤ L.length := nodup_len _ _ (hall.2.1 hd) (fun x hx => by
        rcases hall.1 x hx with h | h
        · exact hdr x h
        · omega)
      have hnode : nodeF L k = L[(k - 2).toNat] := by simp [nodeF, hkn]
      obtain ⟨lo, hlo⟩ : ∃ lo, lo = (nodeF L k).2.1 := ⟨_, rfl⟩
      obtain ⟨hi, hhi⟩ : ∃ hi, hi = (nodeF L k).2.2 := ⟨_, rfl⟩
      rw [← hlo, ← hhi] at hv hnd
      rw [← hlo] at hal
      obtain ⟨D1, hD1⟩ : ∃ D1, D1 = ordL L done lo := ⟨_, rfl⟩
      obtain ⟨D2, hD2⟩ : ∃ D2, D2 = ordL L D1 hi := ⟨_, rfl⟩
      rw [← hD1, ← hD2] at hnd
      rw [← hD1] at hal
      have IL := fun W (h1 : SliceAt W 83 3 (.slice aN L.length capN) L.length (ndCells L)) (h2 : W.ownsRow base 3 1 (.slice aD done.length cD) done.length (intCells done)) (h3 : base ≤ W.heap.size) => ih lo done aD cD W (by omega) hv.2.2.1 h1 h2 hd hdr h3
      have IH := fun W a c (h1 : SliceAt W 83 3 (.slice aN L.length capN) L.length (ndCells L)) (h2 : W.ownsRow base 3 1 (.slice a D1.length c) D1.length (intCells D1)) (h3 : base ≤ W.heap.size) => ih hi D1 a c W (by omega) hv.2.2.2.1 h1 h2 (hal.2.1 hd) (fun x hx => by
        rcases hal.1 x hx with h | h
        · exact hdr x h
        · have := hv.2.2.1.2; omega) h3
      rw [← hD1] at IL
      rw [← hD2] at IH
      unfold OrdRet at IL IH
      obtain ⟨q, hq⟩ : ∃ q, q = done.length := ⟨_, rfl⟩
      have hw2 : IntKind.i64.wrap (k - 2) = k - 2 := IntWalk.i64_in _ (by omega)
      have kA : k - 2 < (L.length : Int) := by omega
      have hbs := hb
      unfold OrdRet
      rw [← hq] at ho hdl IL ⊢
      clear ih hsmall hall hal
      replace hV := Lib.hid hV; replace hk := Lib.hid hk; replace hN := Lib.hid hN; replace ho := Lib.hid ho; replace hd := Lib.hid hd; replace hdr := Lib.hid hdr; replace IL := Lib.hid IL; replace IH := Lib.hid IH; replace hin := Lib.hid hin; replace hnd := Lib.hid hnd; replace hv := Lib.hid hv; replace hnode := Lib.hid hnode; replace hlo := Lib.hid hlo; replace hhi := Lib.hid hhi; replace hD1 := Lib.hid hD1; replace hD2 := Lib.hid hD2; replace hq := Lib.hid hq; replace hlen2 := Lib.hid hlen2
      go_enter Try.func74, Try.ntmps74
      go_wp2_with fail
      go_loopw [7] (fun i wr => ∃ j : Nat, i = .int .i64 j ∧ j ≤ q ∧ (∀ u, u < j → done.getD u 0 ≠ k) ∧ Same w wr) (fun i _ => q - (intOf i).toNat)
      case atStart => exact ⟨0, rfl, by omega, fun u h => by omega, Fr.refl _ _⟩
      case round =>
        obtain ⟨j, rfl, hj, hne, hs⟩ := hrel
        by_cases hlt : j < q
        · obtain ⟨b, off, rfl, hbl, hc⟩ := ints_slice (l := done) (by rw [← hq.out]; exact owns_same ho.out hs) (by rw [← hq.out]; omega)
          have cj := hc j (by rw [← hq.out]; exact hlt)
          obtain ⟨x, hx⟩ : ∃ x, x = done.getD j 0 := ⟨_, rfl⟩
          rw [← hx] at cj
          clear hc
          by_cases hxk : x = k
          · have hmem : k ∈ done := by
              rw [← hxk, hx]
              have : j < done.length := by rw [← hq.out]; exact hlt
              simp [List.getD, this]
            have hxk2 : (x == k) = true := by simpa using hxk
            clear hxk
            replace hmem := Lib.hid hmem; replace hne := Lib.hid hne; replace hs := Lib.hid hs; replace hx := Lib.hid hx
            go_wp2_with fail
            go_ret
            rw [hin.out hmem.out]
            exact ⟨_, cD, by first | rfl | (rw [hq.out]; rfl), by rw [← hq.out]; exact owns_same ho.out hs.out, by rw [← hq.out]; exact Grew.of_same _ hs.out⟩
          · have hxk2 : (x == k) = false := by simpa using hxk
            have hne2 : ∀ u, u < j + 1 → done.getD u 0 ≠ k := fun u hu => by
              by_cases e : u = j
              · subst e; rw [← hx]; exact hxk
              · exact hne u (by omega)
            clear hxk
            replace hne := Lib.hid hne; replace hs := Lib.hid hs; replace hx := Lib.hid hx; replace hne2 := Lib.hid hne2
            go_wp2_with fail
            go_roundw
            case rel => exact ⟨j + 1, by go_num, by omega, hne2.out, hs.out⟩
            case measure => simp [intOf]; omega
        · have hnot : k ∉ done := by
            intro hm
            obtain ⟨u, hu, e⟩ := List.mem_iff_getElem.1 hm
            exact hne u (by have := hq.out; omega) (by simp [List.getD, hu, e])
          have hN2 := hN.out.same hs
          obtain ⟨b, off, rfl, hbl, z0, z1, z2⟩ := hN2.node (k := (k - 2).toNat) hkn
          have e1 : L[(k - 2).toNat].2.1 = lo := by rw [← hnode.out, hlo.out]
          have e2 : L[(k - 2).toNat].2.2 = hi := by rw [← hnode.out, hhi.out]
          rw [e1] at z1
          rw [e2] at z2
          clear e1 e2 z0
          have howr := owns_same ho.out hs
          have hbw : base ≤ wr.heap.size := by have := hs.size; omega
          obtain ⟨wa, rfl⟩ : ∃ wa : World, wa = wr := ⟨_, rfl⟩
          replace hne := Lib.hid hne; replace hs := Lib.hid hs; replace hnot := Lib.hid hnot; replace hN2 := Lib.hid hN2; replace howr := Lib.hid howr
          go_wp2_with fail
          refine (IL.out _ (hN2.out.same (by repeat (first | exact Fr.refl _ _ | apply Fr.alloc | apply Fr.drewN | apply Fr.drew | apply Fr.undrew | apply Fr.undrewN))) (owns_same howr.out (by repeat (first | exact Fr.refl _ _ | apply Fr.alloc | apply Fr.drewN | apply Fr.drew | apply Fr.undrew | apply Fr.undrewN))) (by simpa using hbw)).mono ?_
          rintro e w1 ⟨a1, c1, rfl, ho1, hG1⟩
          have hGa : Grew (fun _ => False) w w1 (.slice aD q cD) (.slice a1 D1.length c1) := (Grew.of_same _ (hs.out.same (by repeat (first | exact Fr.refl _ _ | apply Fr.alloc | apply Fr.drewN | apply Fr.drew | apply Fr.undrew | apply Fr.undrewN)))).trans hG1
          have hf1 := outI_fr ho.out hGa
          have hN3 := hN.out.fr hf1 (fun k cur hk => not_SI hk (by decide))
          obtain ⟨b', off', hb', hbl1, y0, y1, y2⟩ := hN3.node (k := (k - 2).toNat) hkn
          simp only [Option.some.injEq, Addr.mk.injEq, and_true] at hb'
          obtain ⟨rfl, rfl⟩ := hb'
          have e2 : L[(k - 2).toNat].2.2 = hi := by rw [← hnode.out, hhi.out]
          rw [e2] at y2
          have hbw1 : base ≤ w1.heap.size := by have := hf1.size; omega
          clear e2 y0 y1 z1 z2 hf1 hG1
          replace ho1 := Lib.hid ho1; replace hGa := Lib.hid hGa; replace hN3 := Lib.hid hN3
          go_wp2_with fail
          refine (IH.out _ _ _ (hN3.out.same (by repeat (first | exact Fr.refl _ _ | apply Fr.alloc | apply Fr.drewN | apply Fr.drew | apply Fr.undrew | apply Fr.undrewN))) (owns_same ho1.out (by repeat (first | exact Fr.refl _ _ | apply Fr.alloc | apply Fr.drewN | apply Fr.drew | apply Fr.undrew | apply Fr.undrewN))) (by simpa using hbw1)).mono ?_
          rintro e w2 ⟨a2, c2, rfl, ho2, hG2⟩
          have hGb : Grew (fun _ => False) w w2 (.slice aD q cD) (.slice a2 D2.length c2) := hGa.out.trans ((Grew.of_same _ (by repeat (first | exact Fr.refl _ _ | apply Fr.alloc | apply Fr.drewN | apply Fr.drew | apply Fr.undrew | apply Fr.undrewN))).trans hG2)
          have hf2 := outI_fr ho.out hGb
          have hbw2 : base ≤ w2.heap.size := by have := hf2.size; omega
          have hl2 : D2.length ≤ 1000 := by
            have h1 := hlen2.out
            rw [hnd.out hnot.out, List.length_append] at h1
            omega
          clear y2 hf2 hG2
          replace ho2 := Lib.hid ho2; replace hGb := Lib.hid hGb
          go_wp2_with (at_builtin; refine wpList_append1 rfl (.tmp 42) (.tmp 44) 42 rfl base 3 i3 (.int .i64 0) 1 8 Try.underlying42 hi3 hi3z hi3s hi3b rfl (by decide) (by decide) a2 D2.length c2 (intCells D2) rfl (owns_same ho2.out (by repeat (first | exact Fr.refl _ _ | apply Fr.undrew | apply Fr.undrewN | apply Fr.drew | apply Fr.drewN | apply Fr.alloc))) (by omega) w2.heap.size [.int .i64 k] rfl rfl (heap_new_at (by simp) _) (by simp [Value.oneCell']) (by simp; omega) ?_; intro an cn w4 ho4 hG4; replace ho4 := Lib.hid ho4; replace hG4 := Lib.hid hG4)
          go_ret
          have hnew := hnd.out hnot.out
          have hnl : (ordL L done k).length = D2.length + 1 := by rw [hnew, List.length_append]; rfl
          rw [hnl, hnew]
          refine ⟨an, cn, rfl, ?_, hGb.out.trans ((Grew.of_same _ (by repeat (first | exact Fr.refl _ _ | apply Fr.undrew | apply Fr.undrewN | apply Fr.drew | apply Fr.drewN | apply Fr.alloc))).trans hG4.out)⟩
          simpa [intCells] using ho4.out

/-! ### the reference's Check -/
def rchkF (n : Int) (L : List Nd) (r : Int) : Int :=
  if n < 0 ∨ 40 < n then 2 else if firstErr n L L.length 0 ≠ 0 then firstErr n L L.length 0 else if r < 0 ∨ (L.length : Int) + 1 < r then 2 else if ordL L [] r = twos L.length then 0 else 6

theorem SliceAt.takeN {w : World} {T : TypeId} {a : Option Addr} {cap : Nat} {L : List Nd} (h : SliceAt w T 3 (.slice a L.length cap) L.length (ndCells L)) {j : Nat} (hj : j ≤ L.length) : SliceAt w T 3 (.slice a j cap) j (ndCells (L.take j)) := by
  obtain ⟨hl, a', cap', he, h1, h2, h3, hb⟩ := h
  cases he
  have ht : (L.take j).length = j := by simp; omega
  refine ⟨by rw [ndCells_length, ht], a, cap, rfl, by omega, h2, h3, fun hn => ?_⟩
  obtain ⟨b, off, cur, ha, hh, hc⟩ := hb (by omega)
  refine ⟨b, off, cur, ha, hh, ?_⟩
  have e : ndCells L = ndCells (L.take j) ++ ndCells (L.drop j) := by rw [← ndCells_append, List.take_append_drop]
  have h5 := congrArg (List.take (j * 3)) hc
  rw [List.take_take, Nat.min_eq_left (by omega), e, List.take_append_of_le_length (by rw [ndCells_length, ht]; exact Nat.le_refl _), List.take_of_length_le (l := ndCells (L.take j)) (by rw [ndCells_length, ht]; exact Nat.le_refl _)] at h5
  exact h5

theorem find_mem (N : List Nd) (x : Nd) : (0 < findFrom N x 2 ↔ x ∈ N) := by
  constructor
  · intro h
    have hg := findFrom_get N x 2 (by omega) (by omega)
    exact (List.getElem?_eq_some_iff.1 hg).2 ▸ List.getElem_mem _
  · intro h
    rcases findFrom_range N x 2 (by omega) with h0 | h0
    · exact absurd h (findFrom_zero N x 2 (by omega) h0)
    · omega

theorem one_abs3 {w : World} {A : Obj} {P : World → Prop} (h : ∀ W3, (W3.heap[w.heap.size]? = some A ∧ Same w W3) → P W3) : P (w.alloc A) := h _ ⟨heap_new _ _, (Fr.refl _ _).alloc _⟩

set_option maxRecDepth 100000 in
set_option maxHeartbeats 8000000 in
theorem rcheck_any (n r : Int) (aN : Option Addr) (capN : Nat) (L : List Nd) (w : World) (hN : SliceAt w 83 3 (.slice aN L.length capN) L.length (ndCells L)) (hlen : L.length ≤ 1000) :
    Calls Try.prog 45 #[.int .i64 n, .slice aN L.length capN, .int .i64 r] w fun e w' => e = .returned (.int .i64 (rchkF n L r)) ∧ Same w w' := by
  obtain ⟨R, hR⟩ : ∃ R, R = rchkF n L r := ⟨_, rfl⟩
  rw [← hR]
  by_cases hnr : n < 0 ∨ 40 < n
  · have hR2 : R = 2 := by rw [hR]; unfold rchkF; rw [if_pos hnr]
    replace hR := Lib.hid hR; replace hR2 := Lib.hid hR2; replace hN := Lib.hid hN
    rcases hnr with hnr | hnr
    · go_enter Try.func45, Try.ntmps45
      go_wp2_with fail
      go_ret
      exact ⟨by rw [hR2.out]; rfl, Fr.refl _ _⟩
    · have hn0 : ¬ n < 0 := by omega
      go_enter Try.func45, Try.ntmps45
      go_wp2_with fail
      go_ret
      exact ⟨by rw [hR2.out]; rfl, Fr.refl _ _⟩
  · have hn0 : ¬ n < 0 := by omega
    have hn1 : ¬ 40 < n := by omega
    have hRf : firstErr n L L.length 0 ≠ 0 → R = firstErr n L L.length 0 := fun h => by rw [hR]; unfold rchkF; rw [if_neg hnr, if_pos h]
    have hRr : firstErr n L L.length 0 = 0 → r < 0 ∨ (L.length : Int) + 1 < r → R = 2 := fun h h2 => by rw [hR]; unfold rchkF; rw [if_neg hnr, if_neg (by simpa using h), if_pos h2]
    have hRo : firstErr n L L.length 0 = 0 → ¬ (r < 0 ∨ (L.length : Int) + 1 < r) → R = if ordL L [] r = twos L.length then 0 else 6 := fun h h2 => by rw [hR]; unfold rchkF; rw [if_neg hnr, if_neg (by simpa using h), if_neg h2]
    have hVL : firstErr n L L.length 0 = 0 → VNd L := fun h => (ord_of_first h (by omega)).val
    obtain ⟨q, hq⟩ : ∃ q, q = L.length := ⟨_, rfl⟩
    rw [← hq] at hRf hRr hRo hVL hN hlen ⊢
    obtain ⟨FE, hFE⟩ : ∃ FE, FE = firstErr n L q 0 := ⟨_, rfl⟩
    rw [← hFE] at hRf hRr hRo hVL
    clear hnr
    replace hR := Lib.hid hR; replace hRf := Lib.hid hRf; replace hRr := Lib.hid hRr; replace hRo := Lib.hid hRo; replace hN := Lib.hid hN; replace hq := Lib.hid hq; replace hVL := Lib.hid hVL; replace hFE := Lib.hid hFE
    go_enter Try.func45, Try.ntmps45
    go_wp2_with fail
    go_loopw [7] (fun i wr => ∃ j : Nat, i = .int .i64 j ∧ j ≤ q ∧ FE = firstErr n L (q - j) j ∧ Same w wr) (fun i _ => q - (intOf i).toNat)
    case atStart => exact ⟨0, rfl, by omega, hFE.out, Fr.refl _ _⟩
    case round =>
      obtain ⟨j, rfl, hj, hf, hs⟩ := hrel
      by_cases hlt : j < q
      · have hjL : j < L.length := by rw [← hq.out]; exact hlt
        have hNr : SliceAt wr 83 3 (.slice aN L.length capN) L.length (ndCells L) := by rw [← hq.out]; exact hN.out.same hs
        obtain ⟨b, off, rfl, hbl, x0, x1, x2⟩ := hNr.node hjL
        have hTk := hNr.takeN (j := j) (by omega)
        have hform := hNr.form
        obtain ⟨aN', capN', hcv, hcap, hcapm⟩ := hform
        simp only [Value.slice.injEq, true_and] at hcv
        obtain ⟨rfl, rfl⟩ := hcv
        have e1 : q - j = (q - (j + 1)) + 1 := by omega
        rw [e1, firstErr] at hf
        have hgd : L.getD j (0, 0, 0) = L[j] := by simp [List.getD, hjL]
        rw [hgd] at hf
        have FIND := fun W (hW : Same wr W) => find_any (some ⟨b, off, none⟩) capN (L.take j) L[j] W (by
          have h := hTk.same hW
          have e : (L.take j).length = j := by simp; omega
          rw [e]; exact h) (by simp; omega)
        have ekn : (L.take j).length = j := by simp; omega
        rw [ekn] at FIND
        have hmem := find_mem (L.take j) L[j]
        have hall : ∀ k : Int, 1 < k → k < (L.length : Int) + 2 → ∀ W, Same wr W → W.cell? ⟨b, off + (k - 2).toNat * 3, none⟩ = some (.int .i64 (nodeF L k).1) := fun k h1 h2 W hW => by
          obtain ⟨b', o', hab, _, hc⟩ := NodesAt.nodeN (SliceAt.nds (hNr.same hW)) h1 h2
          simp only [Option.some.injEq, Addr.mk.injEq, and_true] at hab
          obtain ⟨rfl, rfl⟩ := hab
          exact hc
        obtain ⟨⟨v, lo, hi⟩, hxe⟩ : ∃ x, x = L[j] := ⟨_, rfl⟩
        rw [← hxe] at x0 x1 x2 hf FIND hmem
        simp only at x0 x1 x2 FIND
        obtain ⟨F, hF⟩ : ∃ F, F = findFrom (L.take j) (v, lo, hi) 2 := ⟨_, rfl⟩
        rw [← hF] at FIND hmem
        obtain ⟨c, hc⟩ : ∃ c, c = checkNodeF n L j (v, lo, hi) (decide ((v, lo, hi) ∈ L.take j)) := ⟨_, rfl⟩
        rw [← hc] at hf
        have hRc : c ≠ 0 → R = c := fun h => by
          rw [if_pos h] at hf
          rw [hRf.out (by rw [hf]; exact h), hf]
        have hnx : c = 0 → FE = firstErr n L (q - (j + 1)) (j + 1) := fun h => by rw [if_neg (by simpa using h)] at hf; exact hf
        have hw1 : IntKind.i64.wrap ((j : Int) + 1) = (j : Int) + 1 := IntWalk.i64_in _ (by omega)
        have hc1 : ¬ capN = j := by omega
        have hc2 : j ≤ capN := by omega
        have hq1 := hq.out
        obtain ⟨wo, rfl⟩ : ∃ wo : World, wo = wr := ⟨_, rfl⟩
        clear hgd ekn hf hNr hTk hcap hcapm
        rw [hxe] at hxe
        clear hxe
        by_cases hrng : v < 0 ∨ n ≤ v ∨ lo < 0 ∨ (j : Int) + 1 < lo ∨ hi < 0 ∨ (j : Int) + 1 < hi
        · have hRe : R = 2 := by
            have : c = 2 := by rw [hc]; unfold checkNodeF; rw [if_pos hrng]
            rw [hRc (by omega), this]
          have hcs : v < 0 ∨ (¬ v < 0 ∧ n ≤ v) ∨ (¬ v < 0 ∧ ¬ n ≤ v ∧ lo < 0) ∨ (¬ v < 0 ∧ ¬ n ≤ v ∧ ¬ lo < 0 ∧ (j : Int) + 1 < lo) ∨ (¬ v < 0 ∧ ¬ n ≤ v ∧ ¬ lo < 0 ∧ ¬ (j : Int) + 1 < lo ∧ hi < 0) ∨ (¬ v < 0 ∧ ¬ n ≤ v ∧ ¬ lo < 0 ∧ ¬ (j : Int) + 1 < lo ∧ ¬ hi < 0 ∧ (j : Int) + 1 < hi) := by omega
          clear hrng hw1 hq1
          replace hs := Lib.hid hs; replace FIND := Lib.hid FIND; replace hmem := Lib.hid hmem; replace hall := Lib.hid hall; replace hF := Lib.hid hF; replace hc := Lib.hid hc; replace hRc := Lib.hid hRc; replace hnx := Lib.hid hnx; replace hRe := Lib.hid hRe
          rcases hcs with h | ⟨h1, h⟩ | ⟨h1, h2, h⟩ | ⟨h1, h2, h3, h⟩ | ⟨h1, h2, h3, h4, h⟩ | ⟨h1, h2, h3, h4, h5, h⟩
          all_goals
            go_wp2_with fail
            go_ret
            exact ⟨by rw [hRe.out]; rfl, hs.out.same (by repeat (first | exact Fr.refl _ _ | apply Fr.alloc | apply Fr.drewN | apply Fr.drew | apply Fr.undrew | apply Fr.undrewN))⟩
        · have r1 : 0 ≤ v := by omega
          have r2 : ¬ v < 0 := by omega
          have r3 : ¬ n ≤ v := by omega
          have r4 : ¬ lo < 0 := by omega
          have r5 : ¬ (j : Int) + 1 < lo := by omega
          have r6 : ¬ hi < 0 := by omega
          have r7 : ¬ (j : Int) + 1 < hi := by omega
          by_cases hlh : lo = hi
          · have hRe : R = 6 := by
              have : c = 6 := by rw [hc]; unfold checkNodeF; rw [if_neg hrng, if_pos (.inl hlh)]
              rw [hRc (by omega), this]
            have hlh2 : (lo == hi) = true := by simpa using hlh
            clear hrng hq1 hlh
            replace hs := Lib.hid hs; replace FIND := Lib.hid FIND; replace hmem := Lib.hid hmem; replace hall := Lib.hid hall; replace hF := Lib.hid hF; replace hc := Lib.hid hc; replace hRc := Lib.hid hRc; replace hnx := Lib.hid hnx; replace hRe := Lib.hid hRe; replace hw1 := Lib.hid hw1
            go_upto_region 7 with fail
            refine one_abs3 (fun W1 h1 => ?_)
            obtain ⟨kb, hs1⟩ := h1
            have y0 := cell_at kb 0; have y1 := cell_at kb 1; have y2 := cell_at kb 2
            have yb := lt_of_heap kb
            have hs01 := hs.out.same hs1
            clear x0 x1 x2
            replace kb := Lib.hid kb; replace hs1 := Lib.hid hs1; replace hs01 := Lib.hid hs01
            go_wp2_with fail
            refine wp_region_sched (Lk wo.heap.size) [0, 1, 0, 1, 0, 0, 0, 0, 0, 1, 3, 0, 0] [0, 2, 1, 3, 4, 5, 6, 7, 8, 9, 10, 11, 12] (by kernel_rfl) (by kernel_rfl) ?_
            repeat (first | (refine sched_w rfl rfl (fun _ hK => ?_); go_simp; refine hK _ ?_; clear hK) | (refine sched_s rfl rfl (fun _ hK => ?_); go_simp; first | (refine hK _ ?_; clear hK) | (refine ⟨_, fun _ => rfl, hK _ ?_⟩; clear hK)))
            refine sched_l rfl (by decide) (fun _ hK => ?_); go_simp
            refine hK _ _ ?_; clear hK; try simp only [Act.put, List.setIfInBounds_toArray, List.set_cons_zero, List.set_cons_succ]
            repeat (first | (refine sched_w rfl rfl (fun _ hK => ?_); go_simp; refine hK _ ?_; clear hK) | (refine sched_s rfl rfl (fun _ hK => ?_); go_simp; first | (refine hK _ ?_; clear hK) | (refine ⟨_, fun _ => rfl, hK _ ?_⟩; clear hK)))
            refine sched_nil (NoPanic.normal ?_)
            go_wp2_with fail
            go_ret
            exact ⟨by rw [hRe.out]; rfl, hs01.out.same (by repeat (first | exact Fr.refl _ _ | apply Fr.alloc | apply Fr.drewN | apply Fr.drew | apply Fr.undrew | apply Fr.undrewN))⟩
          · have hlh2 : (lo == hi) = false := by simpa using hlh
            by_cases hF0 : 0 < F
            · have hRe : R = 6 := by
                have : c = 6 := by rw [hc]; unfold checkNodeF; rw [if_neg hrng, if_pos (.inr (by simpa using hmem.1 hF0))]
                rw [hRc (by omega), this]
              clear hrng hq1 hlh
              replace hs := Lib.hid hs; replace FIND := Lib.hid FIND; replace hmem := Lib.hid hmem; replace hall := Lib.hid hall; replace hF := Lib.hid hF; replace hc := Lib.hid hc; replace hRc := Lib.hid hRc; replace hnx := Lib.hid hnx; replace hRe := Lib.hid hRe; replace hw1 := Lib.hid hw1
              go_upto_region 7 with fail
              refine one_abs3 (fun W1 h1 => ?_)
              obtain ⟨kb, hs1⟩ := h1
              have y0 := cell_at kb 0; have y1 := cell_at kb 1; have y2 := cell_at kb 2
              have yb := lt_of_heap kb
              have hs01 := hs.out.same hs1
              clear x0 x1 x2
              replace kb := Lib.hid kb; replace hs1 := Lib.hid hs1; replace hs01 := Lib.hid hs01
              go_wp2_with fail
              refine wp_region_sched (Lk wo.heap.size) [0, 1, 0, 1, 0, 0, 0, 0, 0, 1, 3, 0, 0] [0, 2, 1, 3, 4, 5, 6, 7, 8, 9, 10, 11, 12] (by kernel_rfl) (by kernel_rfl) ?_
              repeat (first | (refine sched_w rfl rfl (fun _ hK => ?_); go_simp; refine hK _ ?_; clear hK) | (refine sched_s rfl rfl (fun _ hK => ?_); go_simp; first | (refine hK _ ?_; clear hK) | (refine ⟨_, fun _ => rfl, hK _ ?_⟩; clear hK)))
              refine sched_l rfl (by decide) (fun _ hK => ?_); go_simp
              refine (FIND.out _ (hs1.out.same (by repeat (first | exact Fr.refl _ _ | apply Fr.alloc | apply Fr.drewN | apply Fr.drew | apply Fr.undrew | apply Fr.undrewN)))).mono ?_
              rintro e w5 ⟨rfl, hs5⟩
              have h15 : Same W1 w5 := (show Same W1 _ from (by repeat (first | exact Fr.refl _ _ | apply Fr.alloc | apply Fr.drewN | apply Fr.drew | apply Fr.undrew | apply Fr.undrewN))).same hs5
              have kb5 := h15.at kb.out id
              clear y0 y1 y2 yb
              have y0 := cell_at kb5 0; have y1 := cell_at kb5 1; have y2 := cell_at kb5 2
              have yb := lt_of_heap kb5
              have hs05 := hs01.out.same h15
              replace hs5 := Lib.hid hs5; replace h15 := Lib.hid h15; replace kb5 := Lib.hid kb5; replace hs05 := Lib.hid hs05
              refine hK _ _ ?_; clear hK; try simp only [Act.put, List.setIfInBounds_toArray, List.set_cons_zero, List.set_cons_succ]
              repeat (first | (refine sched_w rfl rfl (fun _ hK => ?_); go_simp; refine hK _ ?_; clear hK) | (refine sched_s rfl rfl (fun _ hK => ?_); go_simp; first | (refine hK _ ?_; clear hK) | (refine ⟨_, fun _ => rfl, hK _ ?_⟩; clear hK)))
              refine sched_nil (NoPanic.normal ?_)
              go_wp2_with fail
              go_ret
              exact ⟨by rw [hRe.out]; rfl, hs05.out.same (by repeat (first | exact Fr.refl _ _ | apply Fr.alloc | apply Fr.drewN | apply Fr.drew | apply Fr.undrew | apply Fr.undrewN))⟩
            · have hnm : (v, lo, hi) ∉ L.take j := fun h => hF0 (hmem.2 h)
              have hFle : F ≤ 0 := by omega
              have hc0 : c = if (1 < lo ∧ (nodeF L lo).1 ≤ v) ∨ (1 < hi ∧ (nodeF L hi).1 ≤ v) then 5 else 0 := by
                rw [hc]; unfold checkNodeF; rw [if_neg hrng, if_neg (by rintro (h | h); exact hlh h; simp at h; exact hnm h)]
              have hL5 : 2 ≤ lo → (nodeF L lo).1 ≤ v → R = 5 := fun h1 h2 => by
                rw [if_pos (.inl ⟨by omega, h2⟩)] at hc0
                rw [hRc (by omega), hc0]
              have hH5 : 2 ≤ hi → (nodeF L hi).1 ≤ v → R = 5 := fun h1 h2 => by
                rw [if_pos (.inr ⟨by omega, h2⟩)] at hc0
                rw [hRc (by omega), hc0]
              have hok : (lo < 2 ∨ v < (nodeF L lo).1) → (hi < 2 ∨ v < (nodeF L hi).1) → FE = firstErr n L (q - (j + 1)) (j + 1) := fun h1 h2 => by
                rw [if_neg (by omega)] at hc0
                exact hnx hc0
              have cL := fun (h : 2 ≤ lo) => hall lo (by omega) (by omega)
              have cH := fun (h : 2 ≤ hi) => hall hi (by omega) (by omega)
              obtain ⟨vL, hvL⟩ : ∃ x, x = (nodeF L lo).1 := ⟨_, rfl⟩
              obtain ⟨vH, hvH⟩ : ∃ x, x = (nodeF L hi).1 := ⟨_, rfl⟩
              rw [← hvL] at hL5 hok cL
              rw [← hvH] at hH5 hok cH
              have hjq : j + 1 ≤ q := by omega
              clear hrng hq1 hlh hc0 hF0 hall hRc hnx hc
              replace hs := Lib.hid hs; replace FIND := Lib.hid FIND; replace hmem := Lib.hid hmem; replace hF := Lib.hid hF; replace hL5 := Lib.hid hL5; replace hH5 := Lib.hid hH5; replace hok := Lib.hid hok; replace cL := Lib.hid cL; replace cH := Lib.hid cH; replace hvL := Lib.hid hvL; replace hvH := Lib.hid hvH; replace hnm := Lib.hid hnm
              go_upto_region 7 with fail
              refine one_abs3 (fun W1 h1 => ?_)
              obtain ⟨kb, hs1⟩ := h1
              have y0 := cell_at kb 0; have y1 := cell_at kb 1; have y2 := cell_at kb 2
              have yb := lt_of_heap kb
              have hs01 := hs.out.same hs1
              clear x0 x1 x2
              replace kb := Lib.hid kb; replace hs1 := Lib.hid hs1; replace hs01 := Lib.hid hs01
              go_wp2_with fail
              refine wp_region_sched (Lk wo.heap.size) [0, 1, 0, 1, 0, 0, 0, 0, 0, 1, 3, 0, 0] [0, 2, 1, 3, 4, 5, 6, 7, 8, 9, 10, 11, 12] (by kernel_rfl) (by kernel_rfl) ?_
              repeat (first | (refine sched_w rfl rfl (fun _ hK => ?_); go_simp; refine hK _ ?_; clear hK) | (refine sched_s rfl rfl (fun _ hK => ?_); go_simp; first | (refine hK _ ?_; clear hK) | (refine ⟨_, fun _ => rfl, hK _ ?_⟩; clear hK)))
              refine sched_l rfl (by decide) (fun _ hK => ?_); go_simp
              refine (FIND.out _ (hs1.out.same (by repeat (first | exact Fr.refl _ _ | apply Fr.alloc | apply Fr.drewN | apply Fr.drew | apply Fr.undrew | apply Fr.undrewN)))).mono ?_
              rintro e w5 ⟨rfl, hs5⟩
              have h15 : Same W1 w5 := (show Same W1 _ from (by repeat (first | exact Fr.refl _ _ | apply Fr.alloc | apply Fr.drewN | apply Fr.drew | apply Fr.undrew | apply Fr.undrewN))).same hs5
              have kb5 := h15.at kb.out id
              clear y0 y1 y2 yb
              have y0 := cell_at kb5 0; have y1 := cell_at kb5 1; have y2 := cell_at kb5 2
              have yb := lt_of_heap kb5
              have hs05 := hs01.out.same h15
              replace hs5 := Lib.hid hs5; replace h15 := Lib.hid h15; replace kb5 := Lib.hid kb5; replace hs05 := Lib.hid hs05
              refine hK _ _ ?_; clear hK; try simp only [Act.put, List.setIfInBounds_toArray, List.set_cons_zero, List.set_cons_succ]
              repeat (first | (refine sched_w rfl rfl (fun _ hK => ?_); go_simp; refine hK _ ?_; clear hK) | (refine sched_s rfl rfl (fun _ hK => ?_); go_simp; first | (refine hK _ ?_; clear hK) | (refine ⟨_, fun _ => rfl, hK _ ?_⟩; clear hK)))
              refine sched_nil (NoPanic.normal ?_)
              go_wp2_with fail
              obtain ⟨W6, rfl⟩ : ∃ W6 : World, W6 = w5 := ⟨_, rfl⟩
              have h56 : Same W6 W6 := Fr.refl _ _
              have h1W : Same wo W6 := (hs1.out.same h15.out).same h56
              have h0W := hs.out.same h1W
              have kbW := h56.at kb5.out id
              clear y0 y1 y2 yb
              have y0 := cell_at kbW 0; have y1 := cell_at kbW 1; have y2 := cell_at kbW 2
              have yb := lt_of_heap kbW
              have bb : b < W6.heap.size := Nat.lt_of_lt_of_le hbl h1W.size
              have cLW := fun h => cL.out h W6 h1W
              have cHW := fun h => cH.out h W6 h1W
              have hcs : (¬ 2 ≤ lo ∧ ¬ 2 ≤ hi) ∨ (¬ 2 ≤ lo ∧ 2 ≤ hi ∧ vH ≤ v) ∨ (¬ 2 ≤ lo ∧ 2 ≤ hi ∧ v < vH) ∨ (2 ≤ lo ∧ vL ≤ v) ∨ (2 ≤ lo ∧ v < vL ∧ ¬ 2 ≤ hi) ∨ (2 ≤ lo ∧ v < vL ∧ 2 ≤ hi ∧ vH ≤ v) ∨ (2 ≤ lo ∧ v < vL ∧ 2 ≤ hi ∧ v < vH) := by omega
              have fL : 2 ≤ lo → IntKind.i64.wrap (lo - 2) = lo - 2 ∧ (lo - 2).toNat < q ∧ lo - 2 < (q : Int) := fun h => ⟨IntWalk.i64_in _ (by omega), by omega, by omega⟩
              have fH : 2 ≤ hi → IntKind.i64.wrap (hi - 2) = hi - 2 ∧ (hi - 2).toNat < q ∧ hi - 2 < (q : Int) := fun h => ⟨IntWalk.i64_in _ (by omega), by omega, by omega⟩
              have wokL : v < vL → ¬ vL ≤ v := fun h => by omega
              have wokH : v < vH → ¬ vH ≤ v := fun h => by omega
              clear hw1
              replace h1W := Lib.hid h1W; replace h0W := Lib.hid h0W; replace kbW := Lib.hid kbW; replace cLW := Lib.hid cLW; replace cHW := Lib.hid cHW; replace fL := Lib.hid fL; replace fH := Lib.hid fH; replace wokL := Lib.hid wokL; replace wokH := Lib.hid wokH; replace h56 := Lib.hid h56
              rcases hcs with ⟨p1, p2⟩ | ⟨p1, p2, p3⟩ | ⟨p1, p2, p3⟩ | ⟨p1, p2⟩ | ⟨p1, p2, p3⟩ | ⟨p1, p2, p3, p4⟩ | ⟨p1, p2, p3, p4⟩
              · have hF1 := hok.out (.inl (by omega)) (.inl (by omega))
                replace hF1 := Lib.hid hF1
                refine wp_region_sched (L2 b wo.heap.size) [0, 1, 0, 0, 0, 0, 1, 0, 0, 0, 1, 0, 1, 0, 0, 0, 0, 1, 0, 0, 0, 0, 1, 0, 0, 0, 1, 0, 1, 0, 0, 0] [0, 1, 2, 3, 4, 5, 11, 6, 7, 8, 9, 10, 12, 13, 14, 15, 16, 17, 18, 19, 20, 21, 27, 22, 23, 24, 25, 26, 28, 29, 30, 31] (by kernel_rfl) (by kernel_rfl) ?_
                repeat (first | (refine sched_w rfl rfl (fun _ hK => ?_); go_simp; refine hK _ ?_; clear hK) | (refine sched_s rfl rfl (fun _ hK => ?_); go_simp; first | (refine hK _ ?_; clear hK) | (refine ⟨_, fun _ => rfl, hK _ ?_⟩; clear hK)))
                refine sched_nil (NoPanic.normal ?_)
                go_wp2_with fail
                go_roundw
                case rel => exact ⟨j + 1, by go_num, by omega, hF1.out, h0W.out.same (by repeat (first | exact Fr.refl _ _ | apply Fr.alloc | apply Fr.drewN | apply Fr.drew | apply Fr.undrew | apply Fr.undrewN))⟩
                case measure => simp [intOf]; omega
              · have hRe := hH5.out p2 p3
                have z := cHW.out p2
                obtain ⟨f1, f2, f3⟩ := fH.out p2
                replace hRe := Lib.hid hRe
                refine wp_region_sched (L2 b wo.heap.size) [0, 1, 0, 0, 0, 0, 1, 0, 0, 0, 1, 0, 1, 0, 0, 0, 0, 1, 0, 0, 0, 0, 1, 0, 0, 0, 1, 0, 1, 0, 0, 0] [0, 1, 2, 3, 4, 5, 11, 6, 7, 8, 9, 10, 12, 13, 14, 15, 16, 17, 18, 19, 20, 21, 27, 22, 23, 24, 25, 26, 28, 29, 30, 31] (by kernel_rfl) (by kernel_rfl) ?_
                repeat (first | (refine sched_w rfl rfl (fun _ hK => ?_); go_simp; refine hK _ ?_; clear hK) | (refine sched_s rfl rfl (fun _ hK => ?_); go_simp; first | (refine hK _ ?_; clear hK) | (refine ⟨_, fun _ => rfl, hK _ ?_⟩; clear hK)))
                refine sched_nil (NoPanic.normal ?_)
                go_wp2_with fail
                go_ret
                exact ⟨by rw [hRe.out]; rfl, h0W.out.same (by repeat (first | exact Fr.refl _ _ | apply Fr.alloc | apply Fr.drewN | apply Fr.drew | apply Fr.undrew | apply Fr.undrewN))⟩
              · have hF1 := hok.out (.inl (by omega)) (.inr p3)
                have z := cHW.out p2
                obtain ⟨f1, f2, f3⟩ := fH.out p2
                have g := wokH.out p3
                replace hF1 := Lib.hid hF1
                refine wp_region_sched (L2 b wo.heap.size) [0, 1, 0, 0, 0, 0, 1, 0, 0, 0, 1, 0, 1, 0, 0, 0, 0, 1, 0, 0, 0, 0, 1, 0, 0, 0, 1, 0, 1, 0, 0, 0] [0, 1, 2, 3, 4, 5, 11, 6, 7, 8, 9, 10, 12, 13, 14, 15, 16, 17, 18, 19, 20, 21, 27, 22, 23, 24, 25, 26, 28, 29, 30, 31] (by kernel_rfl) (by kernel_rfl) ?_
                repeat (first | (refine sched_w rfl rfl (fun _ hK => ?_); go_simp; refine hK _ ?_; clear hK) | (refine sched_s rfl rfl (fun _ hK => ?_); go_simp; first | (refine hK _ ?_; clear hK) | (refine ⟨_, fun _ => rfl, hK _ ?_⟩; clear hK)))
                refine sched_nil (NoPanic.normal ?_)
                go_wp2_with fail
                go_roundw
                case rel => exact ⟨j + 1, by go_num, by omega, hF1.out, h0W.out.same (by repeat (first | exact Fr.refl _ _ | apply Fr.alloc | apply Fr.drewN | apply Fr.drew | apply Fr.undrew | apply Fr.undrewN))⟩
                case measure => simp [intOf]; omega
              · have hRe := hL5.out p1 p2
                have z := cLW.out p1
                obtain ⟨f1, f2, f3⟩ := fL.out p1
                replace hRe := Lib.hid hRe
                refine wp_region_sched (L2 b wo.heap.size) [0, 1, 0, 0, 0, 0, 1, 0, 0, 0, 1, 0, 1, 0, 0, 0, 0, 1, 0, 0, 0, 0, 1, 0, 0, 0, 1, 0, 1, 0, 0, 0] [0, 1, 2, 3, 4, 5, 11, 6, 7, 8, 9, 10, 12, 13, 14, 15, 16, 17, 18, 19, 20, 21, 27, 22, 23, 24, 25, 26, 28, 29, 30, 31] (by kernel_rfl) (by kernel_rfl) ?_
                repeat (first | (refine sched_w rfl rfl (fun _ hK => ?_); go_simp; refine hK _ ?_; clear hK) | (refine sched_s rfl rfl (fun _ hK => ?_); go_simp; first | (refine hK _ ?_; clear hK) | (refine ⟨_, fun _ => rfl, hK _ ?_⟩; clear hK)))
                refine sched_nil (NoPanic.normal ?_)
                go_wp2_with fail
                go_ret
                exact ⟨by rw [hRe.out]; rfl, h0W.out.same (by repeat (first | exact Fr.refl _ _ | apply Fr.alloc | apply Fr.drewN | apply Fr.drew | apply Fr.undrew | apply Fr.undrewN))⟩
              · have hF1 := hok.out (.inr p2) (.inl (by omega))
                have z := cLW.out p1
                obtain ⟨f1, f2, f3⟩ := fL.out p1
                have g := wokL.out p2
                replace hF1 := Lib.hid hF1
                refine wp_region_sched (L2 b wo.heap.size) [0, 1, 0, 0, 0, 0, 1, 0, 0, 0, 1, 0, 1, 0, 0, 0, 0, 1, 0, 0, 0, 0, 1, 0, 0, 0, 1, 0, 1, 0, 0, 0] [0, 1, 2, 3, 4, 5, 11, 6, 7, 8, 9, 10, 12, 13, 14, 15, 16, 17, 18, 19, 20, 21, 27, 22, 23, 24, 25, 26, 28, 29, 30, 31] (by kernel_rfl) (by kernel_rfl) ?_
                repeat (first | (refine sched_w rfl rfl (fun _ hK => ?_); go_simp; refine hK _ ?_; clear hK) | (refine sched_s rfl rfl (fun _ hK => ?_); go_simp; first | (refine hK _ ?_; clear hK) | (refine ⟨_, fun _ => rfl, hK _ ?_⟩; clear hK)))
                refine sched_nil (NoPanic.normal ?_)
                go_wp2_with fail
                go_roundw
                case rel => exact ⟨j + 1, by go_num, by omega, hF1.out, h0W.out.same (by repeat (first | exact Fr.refl _ _ | apply Fr.alloc | apply Fr.drewN | apply Fr.drew | apply Fr.undrew | apply Fr.undrewN))⟩
                case measure => simp [intOf]; omega
              · have hRe := hH5.out p3 p4
                have z := cLW.out p1
                obtain ⟨f1, f2, f3⟩ := fL.out p1
                have g := wokL.out p2
                have z2 := cHW.out p3
                obtain ⟨f4, f5, f6⟩ := fH.out p3
                replace hRe := Lib.hid hRe
                refine wp_region_sched (L2 b wo.heap.size) [0, 1, 0, 0, 0, 0, 1, 0, 0, 0, 1, 0, 1, 0, 0, 0, 0, 1, 0, 0, 0, 0, 1, 0, 0, 0, 1, 0, 1, 0, 0, 0] [0, 1, 2, 3, 4, 5, 11, 6, 7, 8, 9, 10, 12, 13, 14, 15, 16, 17, 18, 19, 20, 21, 27, 22, 23, 24, 25, 26, 28, 29, 30, 31] (by kernel_rfl) (by kernel_rfl) ?_
                repeat (first | (refine sched_w rfl rfl (fun _ hK => ?_); go_simp; refine hK _ ?_; clear hK) | (refine sched_s rfl rfl (fun _ hK => ?_); go_simp; first | (refine hK _ ?_; clear hK) | (refine ⟨_, fun _ => rfl, hK _ ?_⟩; clear hK)))
                refine sched_nil (NoPanic.normal ?_)
                go_wp2_with fail
                go_ret
                exact ⟨by rw [hRe.out]; rfl, h0W.out.same (by repeat (first | exact Fr.refl _ _ | apply Fr.alloc | apply Fr.drewN | apply Fr.drew | apply Fr.undrew | apply Fr.undrewN))⟩
              · have hF1 := hok.out (.inr p2) (.inr p4)
                have z := cLW.out p1
                obtain ⟨f1, f2, f3⟩ := fL.out p1
                have g := wokL.out p2
                have z2 := cHW.out p3
                obtain ⟨f4, f5, f6⟩ := fH.out p3
                have g2 := wokH.out p4
                replace hF1 := Lib.hid hF1
                refine wp_region_sched (L2 b wo.heap.size) [0, 1, 0, 0, 0, 0, 1, 0, 0, 0, 1, 0, 1, 0, 0, 0, 0, 1, 0, 0, 0, 0, 1, 0, 0, 0, 1, 0, 1, 0, 0, 0] [0, 1, 2, 3, 4, 5, 11, 6, 7, 8, 9, 10, 12, 13, 14, 15, 16, 17, 18, 19, 20, 21, 27, 22, 23, 24, 25, 26, 28, 29, 30, 31] (by kernel_rfl) (by kernel_rfl) ?_
                repeat (first | (refine sched_w rfl rfl (fun _ hK => ?_); go_simp; refine hK _ ?_; clear hK) | (refine sched_s rfl rfl (fun _ hK => ?_); go_simp; first | (refine hK _ ?_; clear hK) | (refine ⟨_, fun _ => rfl, hK _ ?_⟩; clear hK)))
                refine sched_nil (NoPanic.normal ?_)
                go_wp2_with fail
                go_roundw
                case rel => exact ⟨j + 1, by go_num, by omega, hF1.out, h0W.out.same (by repeat (first | exact Fr.refl _ _ | apply Fr.alloc | apply Fr.drewN | apply Fr.drew | apply Fr.undrew | apply Fr.undrewN))⟩
                case measure => simp [intOf]; omega
      · have hjq : j = q := by omega
        have hFE0 : FE = 0 := by rw [hf, hjq, Nat.sub_self]; rfl
        have hRr2 := hRr.out hFE0
        have hRo2 := hRo.out hFE0
        have hV := hVL.out hFE0
        have hNr := hN.out.same hs
        obtain ⟨wo, rfl⟩ : ∃ wo : World, wo = wr := ⟨_, rfl⟩
        clear hf hjq hFE0
        by_cases hr : r < 0 ∨ (q : Int) + 1 < r
        · have hRe : R = 2 := hRr2 hr
          clear hRr2 hRo2
          have hq1 : IntKind.i64.wrap ((q : Int) + 1) = (q : Int) + 1 := IntWalk.i64_in _ (by omega)
          replace hs := Lib.hid hs; replace hRe := Lib.hid hRe; replace hV := Lib.hid hV; replace hNr := Lib.hid hNr
          rcases hr with hr | hr
          · go_wp2_with fail
            go_ret
            exact ⟨by rw [hRe.out]; rfl, hs.out⟩
          · have hr0 : ¬ r < 0 := by omega
            go_wp2_with fail
            go_ret
            exact ⟨by rw [hRe.out]; rfl, hs.out⟩
        · have hRe : R = if ordL L [] r = twos q then 0 else 6 := by
            exact hRo2 hr
          have hr0 : ¬ r < 0 := by omega
          have hr1 : ¬ (q : Int) + 1 < r := by omega
          have ORD := fun W (hW : Same wo W) => order_any L hV (by rw [← hq.out]; exact hlen) aN capN wo.heap.size r.toNat r [] none 0 W (Nat.le_refl _) ⟨by omega, by rw [← hq.out]; omega⟩ (by rw [← hq.out]; exact hNr.same hW) (World.ownsRow_nil _ _ _ _) List.nodup_nil (fun x hx => by simp at hx) hW.size
          obtain ⟨D, hD⟩ : ∃ D, D = ordL L [] r := ⟨_, rfl⟩
          rw [← hD] at hRe ORD
          rw [← hq.out] at ORD
          unfold OrdRet at ORD
          obtain ⟨dl, hdl⟩ : ∃ dl, dl = D.length := ⟨_, rfl⟩
          rw [← hdl] at ORD
          have hall := ordL_all hV _ r [] (Nat.le_refl _) ⟨by omega, by rw [← hq.out]; omega⟩
          have hD1000 : dl ≤ 1000 := by
            rw [hdl]
            refine Nat.le_trans (nodup_len q D (by rw [hD]; exact hall.2.1 List.nodup_nil) (fun x hx => ?_)) hlen
            rw [hD] at hx
            rcases hall.1 x hx with h | h
            · simp at h
            · omega
          have htl : (twos q).length = q := by simp [twos]
          have htg : ∀ u, u < q → (twos q).getD u 0 = (u : Int) + 2 := fun u hu => by simp [twos, List.getD, hu]
          have hq1 : IntKind.i64.wrap ((q : Int) + 1) = (q : Int) + 1 := IntWalk.i64_in _ (by omega)
          clear hr hRr2 hRo2 hall
          replace hs := Lib.hid hs; replace hRe := Lib.hid hRe; replace hV := Lib.hid hV; replace hNr := Lib.hid hNr; replace ORD := Lib.hid ORD; replace hD := Lib.hid hD; replace hdl := Lib.hid hdl; replace htl := Lib.hid htl; replace htg := Lib.hid htg
          go_wp2_with fail
          refine (ORD.out _ (Fr.refl _ _)).mono ?_
          rintro e w2 ⟨a2, c2, rfl, ho2, hG2⟩
          have h2 : Same wo w2 := grew_fresh (Fr.refl _ _) hG2 (fun k hk => by simp [Value.ownBlock] at hk)
          have hs2 := hs.out.same h2
          replace ho2 := Lib.hid ho2; replace h2 := Lib.hid h2; replace hs2 := Lib.hid hs2
          clear hG2
          by_cases hlq : dl = q
          · have hlq2 : ((dl : Int) != (q : Int)) = false := by simp; omega
            go_wp2_with fail
            go_loopw [10] (fun i wr => ∃ u : Nat, i = .int .i64 u ∧ u ≤ q ∧ (∀ y, y < u → D.getD y 0 = (y : Int) + 2) ∧ Same w2 wr) (fun i _ => q - (intOf i).toNat)
            case atStart => exact ⟨0, rfl, by omega, fun y h => by omega, Fr.refl _ _⟩
            case round =>
              obtain ⟨u, rfl, hu, hgood, hsu⟩ := hrel
              by_cases hul : u < q
              · obtain ⟨b, off, rfl, hbl, hc⟩ := ints_slice (l := D) (by rw [← hdl.out]; exact owns_same ho2.out hsu) (by rw [← hdl.out]; omega)
                have cu := hc u (by rw [← hdl.out]; omega)
                obtain ⟨x, hx⟩ : ∃ x, x = D.getD u 0 := ⟨_, rfl⟩
                rw [← hx] at cu
                have hw3 : IntKind.i64.wrap ((u : Int) + 2) = (u : Int) + 2 := IntWalk.i64_in _ (by omega)
                have hsz := hs2.out.same hsu
                clear hc
                by_cases hxu : x = (u : Int) + 2
                · have hx2 : (x != (u : Int) + 2) = false := by simpa using hxu
                  have hgood2 : ∀ y, y < u + 1 → D.getD y 0 = (y : Int) + 2 := fun y hy => by
                    by_cases e : y = u
                    · subst e; rw [← hx, hxu]
                    · exact hgood y (by omega)
                  clear hxu
                  replace hgood := Lib.hid hgood; replace hsu := Lib.hid hsu; replace hgood2 := Lib.hid hgood2; replace hx := Lib.hid hx; replace hsz := Lib.hid hsz
                  go_wp2_with fail
                  go_roundw
                  case rel => exact ⟨u + 1, by go_num, by omega, hgood2.out, hsu.out⟩
                  case measure => simp [intOf]; omega
                · have hx2 : (x != (u : Int) + 2) = true := by simpa using hxu
                  have hR6 : R = 6 := by
                    rw [hRe.out, if_neg]
                    intro e
                    apply hxu
                    rw [hx, e, htg.out u hul]
                  clear hxu
                  replace hgood := Lib.hid hgood; replace hsu := Lib.hid hsu; replace hR6 := Lib.hid hR6; replace hx := Lib.hid hx; replace hsz := Lib.hid hsz
                  go_wp2_with fail
                  go_ret
                  exact ⟨by rw [hR6.out]; rfl, hsz.out⟩
              · have hR0 : R = 0 := by
                  rw [hRe.out, if_pos]
                  refine List.ext_getElem (by rw [← hdl.out, htl.out, hlq]) (fun y h1 h2 => ?_)
                  have hy : y < q := by have := hdl.out; omega
                  have e1 := hgood y (by omega)
                  have e2 := htg.out y hy
                  simp only [List.getD_eq_getElem?_getD, List.getElem?_eq_getElem h1, List.getElem?_eq_getElem h2, Option.getD_some] at e1 e2
                  rw [e1, e2]
                have hsz := hs2.out.same hsu
                replace hgood := Lib.hid hgood; replace hsu := Lib.hid hsu; replace hR0 := Lib.hid hR0; replace hsz := Lib.hid hsz
                go_wp2_with fail
                go_ret
                exact ⟨by rw [hR0.out]; rfl, hsz.out⟩
          · have hlq2 : ((dl : Int) != (q : Int)) = true := by simp; omega
            have hR6 : R = 6 := by
              rw [hRe.out, if_neg]
              intro e
              apply hlq
              rw [hdl.out, e, htl.out]
            clear hlq
            replace hR6 := Lib.hid hR6
            go_wp2_with fail
            go_ret
            exact ⟨by rw [hR6.out]; rfl, hs2.out⟩
end Go.Proofs.Ytaebjalpebgliaa
