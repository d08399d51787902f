/-  -/
import Derived.Test.YticcpnekjddanaaGreatDoorZIdxG
import Derived.Test.YticcpnekjddanaaGreatDoorZMchI
import Derived.Test.YticcpnekjddanaaGreatDoorZRowL
import Derived.Test.YticcpnekjddanaaGreatDoorZNwsQ
import Derived.Test.YticcpnekjddanaaGreatDoorZNetC
import Derived.Test.YticcpnekjddanaaGreatDoorZBfsG
import Derived.Test.YticcpnekjddanaaGreatDoorZMchW
import Derived.Test.YticcpnekjddanaaGreatDoorZLNetC
import Derived.Test.YticcpnekjddanaaGreatDoorZGrpW
set_option maxRecDepth 100000
set_option maxHeartbeats 8000000
set_option linter.unusedVariables false
set_option linter.unusedSimpArgs false
namespace Go.Proofs.YticcpnekjddanaaGreatDoor
open Go.RowKit
theorem qgX {N : Nw} (S : Nat → List Nat) (h : N.emp = false → ∀ i, i < N.As.length → ∀ v ∈ S i, v < N.ns.getD i 0) : Sup N.ns (N.chosen S) := fun x hx => by
 unfold Nw.chosen at hx
 rw [Bool.and_eq_true, List.all_eq_true] at hx
 refine qcr.2 (fun i hi => ?_)
 rw [N.ns_len] at hi
 exact h (by simpa using hx.1) i hi _ (by simpa using hx.2 i (List.mem_range.2 hi))
theorem qoh {N : Nw} {x : List Nat} (hx : x ∈ qaA N.ns) : N.emp = false := by
 obtain ⟨h1, h2⟩ := qbH.1 hx
 unfold Nw.emp
 refine List.any_eq_false.2 (fun v hv => ?_)
 obtain ⟨i, hi, rfl⟩ := List.mem_iff_getElem.1 hv
 have h3 := qcr.1 h2 i hi
 have h4 : N.ns.getD i 0 = N.ns[i] := by simp [List.getD, hi]
 simp only [beq_iff_eq]
 omega
theorem qeQ {N : Nw} {x : List Nat} (hx : x ∈ qaA N.ns) (S : Nat → List Nat) : N.chosen S x = (List.range N.As.length).all fun i => decide (x.getD i 0 ∈ S i) := by
 unfold Nw.chosen
 rw [qoh hx]
 rfl
theorem ren_mem {n : Nat} {S : List Nat} (h : qaw n (qaz S) (qaz S).length 0 = 0) : ∀ v ∈ S, v < n := fun v hv => by
 have H := qbT (qaz S).length 0 h
 obtain ⟨k, hk, rfl⟩ := List.mem_iff_getElem.1 hv
 have := (H k (by omega) (by rw [qaG]; omega)).2.1
 simp only [toF, qaz, List.getD, List.getElem?_map, List.getElem?_eq_getElem hk, Option.map_some, Option.getD_some] at this
 omega
theorem qgi {N : Nw} (OK : qby N) : Sup N.ns (N.chosen N.marks) := qgX _ fun _ i hi v hv => ren_mem (OK.ma hi).2.2 v hv
theorem qpT (N : Nw) : Sup N.ns (N.chosen fun _ => [0]) := qgX _ fun he i hi v hv => by
 have h1 : v = 0 := by simpa using hv
 unfold Nw.emp at he
 have := List.any_eq_false.1 he (N.ns.getD i 0) (by rw [List.getD_eq_getElem?_getD, List.getElem?_eq_getElem (by rw [N.ns_len]; exact hi)]; exact List.getElem_mem _)
 simp only [beq_iff_eq] at this
 omega
def nxT (As : List Au) (x : List Nat) (e : Int) : Option (List Nat) :=
 if (List.range As.length).all (fun i => match As[i]? with | some A => (nx1 A e (x.getD i 0)).isSome | none => true) then
  some ((List.range As.length).map fun i => match As[i]? with | some A => (nx1 A e (x.getD i 0)).getD 0 | none => 0)
 else none
theorem nxT_on {As : List Au} {e : Int} {x y : List Nat} (h : qkT As e x As.length y) : nxT As x e = some y := by
 have hn := fun i hi => h.new i hi hi
 unfold nxT
 rw [if_pos]
 · congr 1
   refine qbQ (m := As.length) (by simp) h.len (fun i hi => ?_)
   simp only [List.getD_eq_getElem?_getD, List.getElem?_map, List.getElem?_range hi, Option.map_some, Option.getD_some, List.getElem?_eq_getElem hi]
   rw [← List.getD_eq_getElem?_getD, hn i hi]
   simp [List.getD]
 · refine List.all_eq_true.2 (fun i hi => ?_)
   have hi := List.mem_range.1 hi
   simp only [List.getElem?_eq_getElem hi]
   rw [hn i hi]
   rfl
theorem nxT_no {As : List Au} {e : Int} {x : List Nat} {k : Nat} (hk : k < As.length) (h : nx1 As[k] e (x.getD k 0) = none) : nxT As x e = none := by
 unfold nxT
 rw [if_neg]
 intro hh
 have := List.all_eq_true.1 hh k (List.mem_range.2 hk)
 simp only [List.getElem?_eq_getElem hk] at this
 rw [h] at this
 simp at this
theorem qhG {As : List Au} {e : Int} {x y : List Nat} (h : nxT As x e = some y) : y.length = As.length ∧ ∀ i (hi : i < As.length), nx1 As[i] e (x.getD i 0) = some (y.getD i 0) := by
 unfold nxT at h
 split at h
 · next hh =>
   have h := Option.some.inj h
   refine ⟨by rw [← h]; simp, fun i hi => ?_⟩
   have h1 := List.all_eq_true.1 hh i (List.mem_range.2 hi)
   simp only [List.getElem?_eq_getElem hi] at h1
   have h2 : y.getD i 0 = (nx1 As[i] e (x.getD i 0)).getD 0 := by
    rw [← h]
    simp only [List.getD_eq_getElem?_getD, List.getElem?_map, List.getElem?_range hi, Option.map_some, Option.getD_some, List.getElem?_eq_getElem hi]
   rw [h2]
   cases hn : nx1 As[i] e (x.getD i 0) with
   | none => rw [hn] at h1; simp at h1
   | some t => rfl
 · cases h
theorem qfq {N : Nw} (h : qbs N) {e : Int} (he : ∃ A ∈ N.As, e ∈ A.al) {x y : List Nat} (hx : x ∈ qaA N.ns) : nxT N.As x e = some y ↔ y.length = N.As.length ∧ qcu N.As e x y = true := by
 have hlt := (qcD hx).2
 have hem : (N.As.any fun A => A.n.toNat == 0) = false := by
  rw [List.any_eq_false]
  intro A hAm
  obtain ⟨i, hi, rfl⟩ := List.mem_iff_getElem.1 hAm
  have := hlt i hi
  simp; omega
 have hkn : (N.As.any fun A => decide (e ∈ A.al)) = true := by
  obtain ⟨A, h1, h2⟩ := he
  exact List.any_eq_true.2 ⟨A, h1, decide_eq_true h2⟩
 constructor
 · intro hn
   obtain ⟨h1, h2⟩ := qhG hn
   refine ⟨h1, ?_⟩
   unfold qcu
   rw [hem, hkn, (qiF h.au hlt).2 h2]
   rfl
 · rintro ⟨h1, h2⟩
   have h3 := (qiF h.au hlt).1 (qcL h2).1
   cases hn : nxT N.As x e with
   | none =>
    unfold nxT at hn
    split at hn
    · cases hn
    · next hh =>
      exfalso
      apply hh
      refine List.all_eq_true.2 (fun i hi => ?_)
      have hi := List.mem_range.1 hi
      simp only [List.getElem?_eq_getElem hi]
      rw [h3 i hi]
      rfl
   | some z =>
    obtain ⟨h4, h5⟩ := qhG hn
    congr 1
    refine qbQ h4 h1 (fun i hi => ?_)
    have a := h5 i hi
    rw [h3 i hi] at a
    exact (Option.some.inj a).symm
theorem qhH {N : Nw} (h : qbs N) {e : Int} : e ∈ qaJ N.As ↔ ∃ A ∈ N.As, e ∈ A.al := by
 have := (qnO h.au N.As.length (Nat.le_refl _)).2 e
 rwa [List.take_length] at this
theorem qiO {N : Nw} (h : qbs N) (hem : N.emp = false) : ∀ (d : Nat) (x : List Nat), Lv (nxT N.As) (qaJ N.As) (List.replicate N.As.length 0) d x ↔ x ∈ qaA N.ns ∧ clG 0 N.As N.ns (qaJ N.As) (N.chosen fun _ => [0]) d x = true := by
 intro d
 induction d with
 | zero =>
  intro x
  show x = _ ↔ x ∈ qaA N.ns ∧ N.chosen _ x = true
  constructor
  · rintro rfl
    have hz : ∀ i, (List.replicate N.As.length 0).getD i 0 = 0 := fun i => by
     simp only [List.getD_eq_getElem?_getD, List.getElem?_replicate]
     split <;> rfl
    have ht : List.replicate N.As.length 0 ∈ qaA N.ns := (qfj _ N.ns rfl _).2 ⟨by simp [N.ns_len], fun i hi => by
     rw [hz]
     have h1 : N.ns.getD i 0 ≠ 0 := fun e => by
      unfold Nw.emp at hem
      rw [List.any_eq_false] at hem
      have := hem N.ns[i] (List.getElem_mem hi)
      simp [List.getD, hi] at e
      simp [e] at this
     omega⟩
    refine ⟨ht, ?_⟩
    rw [qeQ ht]
    refine List.all_eq_true.2 (fun i _ => ?_)
    rw [hz]
    simp
  · rintro ⟨ht, hc⟩
    rw [qeQ ht] at hc
    have hl := (qcD ht).1
    refine qbQ (m := N.As.length) hl (by simp) (fun i hi => ?_)
    have h1 := List.all_eq_true.1 hc i (List.mem_range.2 hi)
    simp only [List.mem_singleton, decide_eq_true_eq] at h1
    rw [h1]
    simp only [List.getD_eq_getElem?_getD, List.getElem?_replicate]
    split <;> rfl
 | succ d ih =>
  intro y
  show (Lv _ _ _ d y ∨ ∃ x e, Lv _ _ _ d x ∧ e ∈ qaJ N.As ∧ nxT N.As x e = some y) ↔ _ ∧ (clG 0 N.As N.ns (qaJ N.As) _ d y || imG 0 N.As N.ns (qaJ N.As) (clG 0 N.As N.ns (qaJ N.As) _ d) y) = true
  rw [Bool.or_eq_true]
  constructor
  · rintro (hy | ⟨x, e, hx, he, hn⟩)
    · obtain ⟨h1, h2⟩ := (ih y).1 hy
      exact ⟨h1, .inl h2⟩
    · obtain ⟨h1, h2⟩ := (ih x).1 hx
      obtain ⟨h3, h4⟩ := (qfq h ((qhH h).1 he) h1).1 hn
      refine ⟨qbH.2 ⟨by rw [h3, N.ns_len], (qkM h h4).2⟩, .inr ?_⟩
      unfold imG
      refine List.any_eq_true.2 ⟨x, h1, ?_⟩
      rw [if_pos rfl, h2, Bool.and_true]
      unfold qau
      exact List.any_eq_true.2 ⟨e, he, h4⟩
  · rintro ⟨hy, hc | hc⟩
    · exact .inl ((ih y).2 ⟨hy, hc⟩)
    · right
      unfold imG at hc
      obtain ⟨x, hx, hb⟩ := List.any_eq_true.1 hc
      rw [if_pos rfl, Bool.and_eq_true] at hb
      unfold qau at hb
      obtain ⟨e, he, h4⟩ := List.any_eq_true.1 hb.1
      exact ⟨x, e, (ih x).2 ⟨hx, hb.2⟩, he, (qfq h ((qhH h).1 he) hx).2 ⟨(qcD hy).1, h4⟩⟩
theorem qfr {N : Nw} {T : List (List Nat)} {G : List (Nat × Int × Nat)} {D : List Nat} {x0 : List Nat} (h : BI (nxT N.As) (qaJ N.As) x0 T.length T G D) (g : Nat × Int × Nat) : g ∈ G ↔ ∃ x y, T[g.1]? = some x ∧ g.2.1 ∈ qaJ N.As ∧ nxT N.As x g.2.1 = some y ∧ g.2.2 = qdX T y := by
 rw [h.edg, List.mem_flatMap]
 constructor
 · rintro ⟨j, hj, hg⟩
   unfold qhz at hg
   obtain ⟨e, he, hg⟩ := List.mem_filterMap.1 hg
   have hj := List.mem_range.1 hj
   rw [List.getElem?_eq_getElem hj] at hg
   simp only at hg
   obtain ⟨y, hy, rfl⟩ := Option.map_eq_some_iff.1 hg
   exact ⟨T[j], y, List.getElem?_eq_getElem hj, he, hy, rfl⟩
 · rintro ⟨x, y, h1, h2, h3, h4⟩
   obtain ⟨j, e, i⟩ := g
   simp only at h1 h2 h3 h4
   subst h4
   refine ⟨j, List.mem_range.2 (List.getElem?_eq_some_iff.1 h1).1, ?_⟩
   unfold qhz
   refine List.mem_filterMap.2 ⟨e, h2, ?_⟩
   rw [h1]
   simp only [h3, Option.map_some]
theorem qpU {N : Nw} (h : qbs N) {T : List (List Nat)} {G : List (Nat × Int × Nat)} {D : List Nat} {x0 : List Nat} (hB : BI (nxT N.As) (qaJ N.As) x0 T.length T G D) (hT : ∀ x ∈ T, x ∈ qaA N.ns) {g : List Bool} (hg : g.length = T.length)
 (h0 : ∀ i x, T[i]? = some x → g.getD i false = N.chosen N.marks x) {i : Nat} {x : List Nat} (hx : T[i]? = some x) :
 (qaB G g g.length).getD i false = true ↔ ∃ d, clG 1 N.As N.ns (qaJ N.As) (N.chosen N.marks) d x = true := by
 have hpos : ∀ y, y ∈ T → T[qdX T y]? = some y := fun y hy => qeu hy
 have key := qjT (G := G) (g := g) (fun e he => by
  obtain ⟨a, b, h1, _⟩ := (qfr hB e).1 he
  rw [hg]
  exact (List.getElem?_eq_some_iff.1 h1).1) (fun d i => ∃ x, T[i]? = some x ∧ clG 1 N.As N.ns (qaJ N.As) (N.chosen N.marks) d x = true) (fun i => by
  constructor
  · rintro ⟨x, h1, h2⟩
    rw [h0 i x h1]
    exact h2
  · intro hh
    by_cases hi : i < T.length
    · exact ⟨T[i], List.getElem?_eq_getElem hi, by rw [h0 i _ (List.getElem?_eq_getElem hi)] at hh; exact hh⟩
    · simp only [List.getD_eq_getElem?_getD] at hh
      rw [List.getElem?_eq_none (by omega)] at hh
      simp at hh) (fun d i => by
  constructor
  · rintro ⟨x, h1, h2⟩
    have h2 : (clG 1 N.As N.ns (qaJ N.As) (N.chosen N.marks) d x || imG 1 N.As N.ns (qaJ N.As) (clG 1 N.As N.ns (qaJ N.As) (N.chosen N.marks) d) x) = true := h2
    rcases Bool.or_eq_true_iff.1 h2 with h2 | h2
    · exact .inl ⟨x, h1, h2⟩
    · right
      unfold imG at h2
      obtain ⟨y, hy, hb⟩ := List.any_eq_true.1 h2
      rw [if_neg (by decide), Bool.and_eq_true] at hb
      unfold qau at hb
      obtain ⟨e, he, h4⟩ := List.any_eq_true.1 hb.1
      have hxT := hT x (List.mem_of_getElem? h1)
      have hn := (qfq h ((qhH h).1 he) hxT).2 ⟨(qcD hy).1, h4⟩
      obtain ⟨k, h5, _⟩ := hB.cls i e x y (List.getElem?_eq_some_iff.1 h1).1 he h1 hn
      have hyT := List.mem_of_getElem? h5
      exact ⟨(i, e, qdX T y), (qfr hB _).2 ⟨x, y, h1, he, hn, rfl⟩, rfl, y, hpos y hyT, hb.2⟩
  · rintro (⟨x, h1, h2⟩ | ⟨⟨j, e, k⟩, hg, rfl, y, h1, h2⟩)
    · exact ⟨x, h1, by show (_ || _) = true; rw [h2]; rfl⟩
    · obtain ⟨x, y', h3, h4, h5, h6⟩ := (qfr hB _).1 hg
      simp only at h3 h4 h5 h6 h1
      obtain ⟨k', h7, _⟩ := hB.cls j e x y' (List.getElem?_eq_some_iff.1 h3).1 h4 h3 h5
      have hy' : y' = y := by
       have := hpos y' (List.mem_of_getElem? h7)
       rw [← h6, h1] at this
       exact (Option.some.inj this).symm
      subst hy'
      have hxT := hT x (List.mem_of_getElem? h3)
      obtain ⟨h8, h9⟩ := (qfq h ((qhH h).1 h4) hxT).1 h5
      refine ⟨x, h3, ?_⟩
      show (_ || imG 1 N.As N.ns (qaJ N.As) (clG 1 N.As N.ns (qaJ N.As) (N.chosen N.marks) d) x) = true
      have : imG 1 N.As N.ns (qaJ N.As) (clG 1 N.As N.ns (qaJ N.As) (N.chosen N.marks) d) x = true := by
       unfold imG
       refine List.any_eq_true.2 ⟨y', hT y' (List.mem_of_getElem? h7), ?_⟩
       rw [if_neg (by decide), h2, Bool.and_true]
       unfold qau
       exact List.any_eq_true.2 ⟨e, h4, h9⟩
      rw [this, Bool.or_true]) i
 rw [key]
 constructor
 · rintro ⟨d, x', h1, h2⟩
   rw [hx] at h1
   cases h1
   exact ⟨d, h2⟩
 · rintro ⟨d, h2⟩
   exact ⟨d, x, hx, h2⟩
theorem ini_sup (N : Nw) : Sup N.ns (N.chosen fun _ => [0]) := qpT N
theorem qj5 {N : Nw} (h : qbs N) (hem : N.emp = false) {T : List (List Nat)} {G : List (Nat × Int × Nat)} {D : List Nat} (hB : BI (nxT N.As) (qaJ N.As) (List.replicate N.As.length 0) T.length T G D) {k : Nat}
 (a1 : clI N.all 0 (N.rel (qau N.As (qaJ N.As))) (N.set (N.chosen fun _ => [0])) (k + 1) = clI N.all 0 (N.rel (qau N.As (qaJ N.As))) (N.set (N.chosen fun _ => [0])) k)
 (a2 : ∀ j, j < k → clI N.all 0 (N.rel (qau N.As (qaJ N.As))) (N.set (N.chosen fun _ => [0])) j ≠ clI N.all 0 (N.rel (qau N.As (qaJ N.As))) (N.set (N.chosen fun _ => [0])) (j + 1)) :
 (∀ i, i < T.length → D.getD i 0 ≤ k) ∧ ∃ i, i < T.length ∧ D.getD i 0 = k := by
 have hcs := fun d => qf6 h (s := 0) (by omega) (qaJ N.As) (N.chosen fun _ => [0]) d
 have hsup := fun d => qdW (s := 0) (E := qaJ N.As) h (ini_sup N) d
 constructor
 · intro i hi
   rcases Nat.lt_or_ge k (D.getD i 0) with hlt | hle
   · exfalso
     have hx : T[i]? = some T[i] := List.getElem?_eq_getElem hi
     obtain ⟨h1, h2⟩ := (qiO h hem _ _).1 (hB.lv i _ hx)
     have hst := qjR a1 (i := D.getD i 0) (by omega)
     rw [hcs, hcs, h.set_iff (hsup _) (hsup _)] at hst
     rw [← hst _ h1] at h2
     obtain ⟨j, h3, h4⟩ := (hB.end_iff k T[i]).1 ((qiO h hem _ _).2 ⟨h1, h2⟩)
     have e1 := qhy hB.nd hx
     have e2 := qhy hB.nd h3
     have : i = j := by omega
     subst this
     omega
   · exact hle
 · cases k with
   | zero => exact ⟨0, (List.getElem?_eq_some_iff.1 hB.hd).1, hB.d0⟩
   | succ k =>
    have hne := a2 k (by omega)
    rw [hcs, hcs] at hne
    have hx : ∃ x ∈ qaA N.ns, clG 0 N.As N.ns (qaJ N.As) (N.chosen fun _ => [0]) k x ≠ clG 0 N.As N.ns (qaJ N.As) (N.chosen fun _ => [0]) (k + 1) x := by
     apply Classical.byContradiction
     intro hc
     apply hne
     rw [h.set_iff (hsup _) (hsup _)]
     intro x hx
     apply Classical.byContradiction
     intro hcx
     exact hc ⟨x, hx, hcx⟩
    obtain ⟨x, hx, hn⟩ := hx
    have h1 : clG 0 N.As N.ns (qaJ N.As) (N.chosen fun _ => [0]) k x = false := by
     cases hc : clG 0 N.As N.ns (qaJ N.As) (N.chosen fun _ => [0]) k x with
     | false => rfl
     | true =>
      exfalso
      apply hn
      show _ = (clG 0 N.As N.ns (qaJ N.As) (N.chosen fun _ => [0]) k x || _)
      rw [hc]; rfl
    have h2 : clG 0 N.As N.ns (qaJ N.As) (N.chosen fun _ => [0]) (k + 1) x = true := by
     rw [h1] at hn
     cases hc : clG 0 N.As N.ns (qaJ N.As) (N.chosen fun _ => [0]) (k + 1) x with
     | false => rw [hc] at hn; exact absurd rfl hn
     | true => rfl
    obtain ⟨j, h3, h4⟩ := (hB.end_iff (k + 1) x).1 ((qiO h hem _ _).2 ⟨hx, h2⟩)
    refine ⟨j, (List.getElem?_eq_some_iff.1 h3).1, ?_⟩
    rcases Nat.lt_or_ge (D.getD j 0) (k + 1) with hlt | hge
    · exfalso
      have := ((qiO h hem _ _).1 ((hB.end_iff k x).2 ⟨j, h3, by omega⟩)).2
      rw [h1] at this
      cases this
    · omega
theorem qiP {N : Nw} (h : qbs N) (hem : N.emp = false) {T : List (List Nat)} {G : List (Nat × Int × Nat)} {D : List Nat} (hB : BI (nxT N.As) (qaJ N.As) (List.replicate N.As.length 0) T.length T G D) {k : Nat}
 (a1 : clI N.all 0 (N.rel (qau N.As (qaJ N.As))) (N.set (N.chosen fun _ => [0])) (k + 1) = clI N.all 0 (N.rel (qau N.As (qaJ N.As))) (N.set (N.chosen fun _ => [0])) k) :
 (∀ x ∈ T, x ∈ qaA N.ns) ∧ clI N.all 0 (N.rel (qau N.As (qaJ N.As))) (N.set (N.chosen fun _ => [0])) k = N.set (clG 0 N.As N.ns (qaJ N.As) (N.chosen fun _ => [0]) k) ∧
  ∀ x ∈ qaA N.ns, clG 0 N.As N.ns (qaJ N.As) (N.chosen fun _ => [0]) k x = decide (x ∈ T) := by
 have hcs := fun d => qf6 h (s := 0) (by omega) (qaJ N.As) (N.chosen fun _ => [0]) d
 have hsup := fun d => qdW (s := 0) (E := qaJ N.As) h (ini_sup N) d
 refine ⟨fun x hx => ?_, hcs k, fun x hx => ?_⟩
 · obtain ⟨i, hi⟩ := List.mem_iff_getElem?.1 hx
   exact ((qiO h hem _ _).1 (hB.lv i x hi)).1
 · cases hc : clG 0 N.As N.ns (qaJ N.As) (N.chosen fun _ => [0]) k x with
   | true =>
    obtain ⟨j, h3, _⟩ := (hB.end_iff k x).1 ((qiO h hem _ _).2 ⟨hx, hc⟩)
    exact (decide_eq_true (List.mem_of_getElem? h3)).symm
   | false =>
    refine (decide_eq_false (fun hm => ?_)).symm
    obtain ⟨i, hi⟩ := List.mem_iff_getElem?.1 hm
    obtain ⟨h1, h2⟩ := (qiO h hem _ _).1 (hB.lv i x hi)
    rcases Nat.lt_or_ge k (D.getD i 0) with hlt | hle
    · have hst := qjR a1 (i := D.getD i 0) (by omega)
      rw [hcs, hcs, h.set_iff (hsup _) (hsup _)] at hst
      rw [← hst _ h1, hc] at h2
      cases h2
    · have := ((qiO h hem _ _).1 ((hB.lv i x hi).mono _ _ _ hle)).2
      rw [hc] at this
      cases this
theorem qiQ {N : Nw} (h : qbs N) {j k : Nat} (b1 : clI N.all 1 (N.rel (qau N.As (qaJ N.As))) (N.set (N.chosen N.marks)) (k + 1) = clI N.all 1 (N.rel (qau N.As (qaJ N.As))) (N.set (N.chosen N.marks)) k) (hms : Sup N.ns (N.chosen N.marks)) :
 ∃ B, Sup N.ns B ∧ blkT N.all (clI N.all 0 (N.rel (qau N.As (qaJ N.As))) (N.set (N.chosen fun _ => [0])) j) (clI N.all 1 (N.rel (qau N.As (qaJ N.As))) (N.set (N.chosen N.marks)) k) = N.set B ∧
  ∀ x, B x = (clG 0 N.As N.ns (qaJ N.As) (N.chosen fun _ => [0]) j x && !clG 1 N.As N.ns (qaJ N.As) (N.chosen N.marks) k x) := by
 have hcs := fun d => qf6 h (s := 0) (by omega) (qaJ N.As) (N.chosen fun _ => [0]) d
 have hct := fun d => qf6 h (s := 1) (by omega) (qaJ N.As) (N.chosen N.marks) d
 have hsup := fun d => qdW (s := 0) (E := qaJ N.As) h (ini_sup N) d
 refine ⟨fun x => clG 0 N.As N.ns (qaJ N.As) (N.chosen fun _ => [0]) j x && !clG 1 N.As N.ns (qaJ N.As) (N.chosen N.marks) k x, fun x hx => hsup j x (by simp only [Bool.and_eq_true] at hx; exact hx.1), ?_, fun x => rfl⟩
 rw [hcs, hct]
 unfold blkT
 show qbE (qfa _ _ _ _ _) (qbE (qfa _ _ _ _ _) _ _) _ = qfa _ _ _ _ _
 have hnot : qbE (qfa N.bs N.at' N.As.length N.all (clG 1 N.As N.ns (qaJ N.As) (N.chosen N.marks) k)) (fls N.all) (tru N.all) = qfa N.bs N.at' N.As.length N.all (fun x => !clG 1 N.As N.ns (qaJ N.As) (N.chosen N.marks) k x) := tbF_not _ _
 rw [hnot, qnm]
theorem qpV {N : Nw} (h : qbs N) {k : Nat} (b1 : clI N.all 1 (N.rel (qau N.As (qaJ N.As))) (N.set (N.chosen N.marks)) (k + 1) = clI N.all 1 (N.rel (qau N.As (qaJ N.As))) (N.set (N.chosen N.marks)) k) (hms : Sup N.ns (N.chosen N.marks)) {x : List Nat} (hx : x ∈ qaA N.ns) :
 clG 1 N.As N.ns (qaJ N.As) (N.chosen N.marks) k x = true ↔ ∃ d, clG 1 N.As N.ns (qaJ N.As) (N.chosen N.marks) d x = true := by
 have hct := fun d => qf6 h (s := 1) (by omega) (qaJ N.As) (N.chosen N.marks) d
 have hsup := fun d => qdW (s := 1) (E := qaJ N.As) h hms d
 constructor
 · exact fun hh => ⟨k, hh⟩
 · rintro ⟨d, hd⟩
   rcases Nat.lt_or_ge k d with hlt | hle
   · have hst := qjR b1 (i := d) (by omega)
     rw [hct, hct, h.set_iff (hsup _) (hsup _)] at hst
     rw [hst x hx]; exact hd
   · have : ∀ i, clG 1 N.As N.ns (qaJ N.As) (N.chosen N.marks) (d + i) x = true := by
       intro i
       induction i with
       | zero => exact hd
       | succ i ih => show (clG 1 N.As N.ns (qaJ N.As) (N.chosen N.marks) (d + i) x || _) = true; rw [ih]; rfl
     have := this (k - d)
     rwa [show d + (k - d) = k by omega] at this
theorem qc3.put {w : World} {base g cap : Nat} {l : List Int} (h : qc3 w base g cap l) {k : Nat} (hk : k < l.length) (v : Int) : qc3 (w.setCell ⟨g, k, none⟩ (.int .i64 v)) base g cap (l.set k v) := by
 obtain ⟨h1, cur, h2, h3, h4, h5, h6⟩ := h
 refine ⟨h1, cur.setIfInBounds k (.int .i64 v), qaf h2 k _, by simpa using h3, h4, by simpa using h5, ?_⟩
 have e : (cur.setIfInBounds k (.int .i64 v)).toList = cur.toList.set k (.int .i64 v) := by simp
 rw [e, List.length_set, List.take_set, h6]
 simp [gw, List.map_set]
def MstE (As : List Au) (x : List Nat) (ev : Int) (w : World) (E : Ending) (w' : World) : Prop :=
 qad w w' ∧ ((nxT As x ev = none ∧ E = .returned (.tuple #[.slice none 0 0, .bool false])) ∨ ∃ y a c, nxT As x ev = some y ∧ E = .returned (.tuple #[.slice a As.length c, .bool true]) ∧ w'.ownsRow w.heap.size 3 1 (.slice a As.length c) As.length (gw (qaz y)))
theorem qp3 (As : List Au) (hl : As.length ≤ 1000) (hok : ∀ A ∈ As, qc1 A) (hz : ∀ A ∈ As, A.small) (aA : Option Addr) (cA : Nat) (x : List Nat) (hxl : x.length = As.length) (aX : Option Addr) (cX : Nat) (ev : Int) (V : Value) (aM : Option Addr) (cM : Nat) (mbs : List Nat) (w : World) (hat : qdm w aA cA As)
 (hX : qan w (.slice aX As.length cX) As.length (gw (qaz x))) (hM : qgo w As aM cM mbs) :
 Calls Tryz.prog 29 #[.agg #[.slice aA As.length cA, V, .slice aM As.length cM], .slice aX As.length cX, .int .i64 ev] w (MstE As x ev w) := by
 obtain ⟨m, hmm⟩ : ∃ m, m = As.length := ⟨_, rfl⟩
 have hlt : ∀ k, k < m → k < As.length := fun k h => hmm ▸ h
 have hrow := fun (k : Nat) (hk : k < m) W (hW : qad w W) => (hat.same hW).row (hlt k hk)
 have CT := fun (k : Nat) (hk : k < m) W (hW : qad w W) => qcy (As[k]'(hlt k hk)).al ev (As[k]'(hlt k hk)).aA (As[k]'(hlt k hk)).cA W (hz _ (List.getElem_mem (hlt k hk))).al ((hat.each _ (List.getElem_mem (hlt k hk))).same hW).al (qbU (hok _ (List.getElem_mem (hlt k hk))).al)
 have CL := fun W (hW : qad w W) => qeL (qaz x) aX cX m W (by rw [qaG, hxl, hmm]) (by rw [hmm]; exact hX.same hW) (by omega)
 unfold qm3 at CL
 have hxr := fun (k : Nat) (hk : k < m) W (hW : qad w W) => (hX.same hW).nat (show k < As.length from hlt k hk)
 have hmr := fun (k : Nat) (hk : k < m) W (hW : qad w W) => (hM.row.same hW).cell (show 0 < As.length by have := hlt k hk; omega)
 have hmp := fun (k : Nat) (hk : k < m) (b : Nat) (hb : mbs[k]? = some b) W (hW : qad w W) => (hM.maps k (hlt k hk) b hb).of_block (hW.block b (hM.maps k (hlt k hk) b hb).lt id)
 have hend := fun (y : List Nat) (h : qkT As ev x As.length y) => nxT_on h
 have hnone := fun (k : Nat) (hk : k < As.length) (hn : nx1 As[k] ev (x.getD k 0) = none) => nxT_no hk hn
 have hokk := fun (k : Nat) (hk : k < m) => hok _ (List.getElem_mem (hlt k hk))
 have hst0 : qkT As ev x 0 x := qkT.zero hxl
 have hlen : ∀ (k : Nat) (y : List Nat), qkT As ev x k y → y.length = m := fun _ _ h => by rw [h.len, hmm]
 have hmbl : mbs.length = m := by rw [hM.len, hmm]
 unfold MstE
 simp only [← hmm] at hl hend ⊢
 clear hX hat hz hxl hM hok hmm
 replace hlt := gi hlt; replace hrow := gi hrow; replace CT := gi CT; replace CL := gi CL; replace hxr := gi hxr; replace hmr := gi hmr; replace hmp := gi hmp; replace hend := gi hend; replace hnone := gi hnone; replace hokk := gi hokk; replace hst0 := gi hst0; replace hlen := gi hlen; replace hmbl := gi hmbl
 go_enter Tryz.func29, Tryz.ntmps29
 go_upto_region 2 with fail
 have kn := gv w (.cells #[.slice aA m cA, V, .slice aM m cM] 72)
 have s0 : qad w (w.alloc (.cells #[.slice aA m cA, V, .slice aM m cM] 72)) := fs2
 generalize w.alloc (.cells #[.slice aA m cA, V, .slice aM m cM] 72) = W0 at *
 obtain ⟨bn, hbn⟩ : ∃ b, b = w.heap.size := ⟨_, rfl⟩
 rw [← hbn] at kn ⊢
 have hbe : bn < W0.heap.size := gu kn
 replace kn := gi kn; replace s0 := gi s0; replace hbn := gi hbn
 refine (CL.out _ s0.out).mono ?_
 rintro e w1 ⟨a1, c1, rfl, ho1, s1⟩
 have hs1 := s0.out.same s1
 replace kn := gi (s1.at kn.out id)
 have hz1 := s1.size
 clear s1 s0 CL
 have t0 := gn kn.out 0
 have tl := gu kn.out
 replace ho1 := gi ho1; replace hs1 := gi hs1
 go_wp2_with fail
 clear t0 tl
 go_loopw [18] (fun i wr => ∃ (k : Nat) (y : List Nat), i = .int .i64 k ∧ k ≤ m ∧ qkT As ev x k y ∧ wr.ownsRow W0.heap.size 3 1 (.slice a1 m c1) m (gw (qaz y)) ∧ Fr (fun q => (Value.slice a1 m c1).ownBlock = some q) w1 wr) (fun i _ => m - (intOf i).toNat)
 case atStart => exact ⟨0, x, rfl, by omega, hst0.out, ho1.out, Fr.refl _ _⟩
 case round =>
  obtain ⟨k, y, rfl, hk, hy, ho, hf⟩ := hrel
  have hsw : qad w wr := hs1.out.trans hf (fun i hi e => by have h1 := (ho1.out.lt i e).1; have h3 := hbn.out; omega)
  by_cases hkm : k < m
  · obtain ⟨b, off, rfl, hb, x0, x1, x2, x3⟩ := hrow.out k hkm _ hsw
    have CTk := CT.out k hkm
    have hok1 := hokk.out k hkm
    have hkeep := hy.keep (hlt.out k hkm)
    have hgo := fun t => hy.go (t := t) (hlt.out k hkm)
    have hnn := hnone.out k (hlt.out k hkm)
    have hxk := fun W hW => hxr.out k hkm W hW
    have hmrk := fun W hW => hmr.out k hkm W hW
    obtain ⟨mb, hmb⟩ : ∃ mb, mbs[k]? = some mb := ⟨_, List.getElem?_eq_getElem (by rw [hmbl.out]; exact hkm)⟩
    have hmpk := hmp.out k hkm mb hmb
    generalize As[k]'(hlt.out k hkm) = A at *
    have kn2 := hf.at kn.out (fun e => by have h1 := (ho1.out.lt _ e).1; omega)
    replace hy := gi hy; replace ho := gi ho; replace hf := gi hf; replace hsw := gi hsw; replace CTk := gi CTk; replace hok1 := gi hok1; replace hkeep := gi hkeep; replace hgo := gi hgo; replace hnn := gi hnn; replace hxk := gi hxk; replace hmrk := gi hmrk; replace hmpk := gi hmpk; replace hmb := gi hmb; replace kn2 := gi kn2
    go_upto_region 5 with fail
    clear x0 x1 x2 x3
    have ka := gv wr (.cells #[.slice A.aA A.al.length A.cA, .int .i64 A.n, .slice A.aM A.ma.length A.cM, .slice A.aE A.es.length A.cE] 39)
    have sP : qad wr (wr.alloc (.cells #[.slice A.aA A.al.length A.cA, .int .i64 A.n, .slice A.aM A.ma.length A.cM, .slice A.aE A.es.length A.cE] 39)) := fs2
    generalize wr.alloc (.cells #[.slice A.aA A.al.length A.cA, .int .i64 A.n, .slice A.aM A.ma.length A.cM, .slice A.aE A.es.length A.cE] 39) = W3 at *
    have hbi : ∀ q, (Value.slice a1 m c1).ownBlock = some q → q < wr.heap.size := fun q hq => by
     obtain ⟨cur, e1⟩ := qaj ho.out hq
     exact gu e1
    generalize wr.heap.size = ba at *
    replace hsw := gi (hsw.out.same sP)
    replace ho := gi (qag ho.out sP)
    replace hf := gi (hf.out.same sP)
    replace kn2 := gi (sP.at kn2.out id)
    clear sP
    replace ka := gi ka; replace hbi := gi hbi
    obtain ⟨v0, v1, v2, v3, vl⟩ := g4l ka.out
    go_wp2_with fail
    refine (CTk.out _ hsw.out).mono ?_
    rintro e w4 ⟨rfl, sP⟩
    clear v0 v1 v2 v3 vl
    replace hsw := gi (hsw.out.same sP)
    replace ho := gi (qag ho.out sP)
    replace hf := gi (hf.out.same sP)
    replace kn2 := gi (sP.at kn2.out id)
    clear sP ka
    by_cases hin : ev ∈ A.al
    · rw [decide_eq_true hin]
      have q2 := gn kn2.out 2
      have ql := gu kn2.out
      obtain ⟨bm, om, rfl, hbm, c0⟩ := hmrk.out _ hsw.out
      have d1 := c0 k (.map (some mb)) (by simp [hmb.out])
      obtain ⟨bx, ox, rfl, hbx, z0⟩ := hxk.out _ hsw.out
      have hM := hmpk.out _ hsw.out
      clear c0
      have hgo2 := hgo.out
      have hnn2 := hnn.out
      generalize x.getD k 0 = xk at *
      cases hl : qa0 (edM A.es) ((xk : Int), ev) with
      | none =>
       have hn := hnn2 (ed_miss hok1.out hin hl)
       have hlk := qbo (w := w4.drew) key2 map2 (hM.of_block rfl) hl (qi4 _) true
       simp only [prV, if_true] at hlk
       clear hgo hnn hl
       replace hn := gi hn; replace hM := gi hM; replace hin := gi hin; replace hy := gi hy; replace hkeep := gi hkeep; replace hxk := gi hxk; replace hmrk := gi hmrk; replace hmpk := gi hmpk
       go_upto_region 6 with fail
       refine qac (fun q => q = bn ∨ q = bm ∨ q = bx ∨ q = mb) [0, 1, 0, 0, 1, 0, 0, 0, 1, 0, 0, 3, 0, 0, 0, 0, 0] [0, 1, 2, 3, 4, 5, 6, 7, 8, 9, 10, 11, 12, 13, 14, 15, 16] (by kernel_rfl) (by kernel_rfl) ?_
       repeat ((first | refine gB rfl rfl fun _ k => ?_ | refine gC rfl rfl fun _ k => ?_); go_simp; (first | refine k _ ?_ | refine ⟨_, fun _ => rfl, k _ ?_⟩); clear k)
       refine gD rfl (by decide) (fun _ hK => ?_); go_simp
       refine hK _ _ ?_; clear hK; try simp only [Act.put, gj]
       repeat ((first | refine gB rfl rfl fun _ k => ?_ | refine gC rfl rfl fun _ k => ?_); go_simp; (first | refine k _ ?_ | refine ⟨_, fun _ => rfl, k _ ?_⟩); clear k)
       refine gO (NoPanic.normal ?_)
       go_wp2_with fail
       go_ret2
       exact ⟨hsw.out.same fs2, .inl ⟨hn.out, rfl⟩⟩
      | some z =>
       obtain ⟨t, rfl, ht⟩ := ed_hit hok1.out hin hl
       have hlk := qa6 (w := w4.drew) key2 map2 (hM.of_block rfl) hl true
       simp only [prV, if_true] at hlk
       have hy2 := hgo2 t ht
       obtain ⟨g, cap', he, hyl, hI⟩ := qfR ho.out (by intro h; simp at h; omega)
       cases he
       obtain ⟨cur, kg, _, _, hcs, hct⟩ := hI.2
       obtain ⟨g', o', e', _, y0⟩ := (hI.row hyl).nat hkm
       cases e'
       rw [Nat.zero_add] at y0
       have f0 := qak kg k
       have gl := gu kg
       generalize y.getD k 0 = yk at y0
       clear hcs hct hgo hnn hl hgo2 hnn2
       replace hM := gi hM; replace hin := gi hin; replace hy := gi hy; replace hkeep := gi hkeep; replace hxk := gi hxk; replace hmrk := gi hmrk; replace hmpk := gi hmpk; replace hy2 := gi hy2; replace hI := gi hI; replace hyl := gi hyl; replace kg := gi kg
       go_upto_region 6 with fail
       refine qac (fun q => q = bn ∨ q = bm ∨ q = bx ∨ q = mb) [0, 1, 0, 0, 1, 0, 0, 0, 1, 0, 0, 3, 0, 0, 0, 0, 0] [0, 1, 2, 3, 4, 5, 6, 7, 8, 9, 10, 11, 12, 13, 14, 15, 16] (by kernel_rfl) (by kernel_rfl) ?_
       repeat ((first | refine gB rfl rfl fun _ k => ?_ | refine gC rfl rfl fun _ k => ?_); go_simp; (first | refine k _ ?_ | refine ⟨_, fun _ => rfl, k _ ?_⟩); clear k)
       refine gD rfl (by decide) (fun _ hK => ?_); go_simp
       refine hK _ _ ?_; clear hK; try simp only [Act.put, gj]
       repeat ((first | refine gB rfl rfl fun _ k => ?_ | refine gC rfl rfl fun _ k => ?_); go_simp; (first | refine k _ ?_ | refine ⟨_, fun _ => rfl, k _ ?_⟩); clear k)
       refine gO (NoPanic.normal ?_)
       have hI2 := hI.out.put (k := k) (by rw [hyl.out]; exact hkm) (t : Int)
       rw [qfl] at hI2
       have hf2 : Fr (fun q => (Value.slice (some ⟨g, 0, none⟩) m c1).ownBlock = some q) w1 (w4.setCell ⟨g, k, none⟩ (.int .i64 t)) := hf.out.setCell _ _ (fun _ => rfl)
       have hml : (qaz (y.set k t)).length = m := by rw [qaG, List.length_set, ← qaG y]; exact hyl.out
       have ho2 := hI2.owns hml
       clear hI2 hml
       replace hf2 := gi hf2; replace ho2 := gi ho2
       go_wp2_with fail
       go_roundw
       case rel => exact ⟨k + 1, _, by go_num, by omega, hy2.out, qag ho2.out fs2, hf2.out.same fs2⟩
       case measure => simp [intOf]; omega
    · rw [decide_eq_false hin]
      have hk3 := hkeep.out hin
      replace hin := gi hin; replace hk3 := gi hk3
      go_wp2_with fail
      go_roundw
      case rel => exact ⟨k + 1, y, by go_num, by omega, hk3.out, ho.out, hf.out⟩
      case measure => simp [intOf]; omega
  · obtain rfl : k = m := by omega
    have e1 := hend.out y hy
    replace hy := gi hy; replace ho := gi ho; replace hf := gi hf; replace hsw := gi hsw; replace e1 := gi e1
    go_wp2_with fail
    go_ret2
    exact ⟨hsw.out, .inr ⟨y, a1, c1, e1.out, rfl, qej ho.out (by have := hbn.out; omega)⟩⟩
end Go.Proofs.YticcpnekjddanaaGreatDoor
