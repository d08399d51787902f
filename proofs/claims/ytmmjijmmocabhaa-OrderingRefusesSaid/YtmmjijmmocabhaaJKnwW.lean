/- The law's known. The ordering functions at a made diagram: joins for the rows. What the examples of the chapter come to. -/
import Derived.Test.YtmmjijmmocabhaaJLawR
import Derived.Test.YtmmjijmmocabhaaJOrdT
import Derived.Test.YtmmjijmmocabhaaJForF
import Derived.Test.YtmmjijmmocabhaaJOpsR
namespace Go.Proofs.Ytmmjijmmocabhaa
open Go.RowKit
set_option linter.unusedVariables false

def exT : List Bool := tblF 4 60576
set_option maxRecDepth 100000 in
theorem ex_size : szF 4 exT [0, 1, 2, 3] = 6 := by decide +kernel
set_option maxRecDepth 100000 in
theorem ex_least : leastF 4 exT (ordsF 4) = ([0, 2, 1, 3], 4) := by decide +kernel
theorem ex_span : spanF (posA [0, 1, 2, 3]) [[0, 2], [1, 3]] = 4 := by decide +kernel
theorem ex_force : forceF [[0, 2], [1, 3]] 5 [0, 1, 2, 3] = [0, 2, 1, 3] := by decide +kernel
theorem ex_move : movF [0, 1, 2] 0 2 = [1, 2, 0] := by decide +kernel
end Go.Proofs.Ytmmjijmmocabhaa
namespace Go.Proofs.Ytmmjijmmocabhaa
open Go.RowKit
set_option linter.unusedVariables false

theorem dg_chk {d : Dg} {n : Nat} {t : List Bool} {w : World} (hd : d.at w) (hT : d.tab n t) : ∀ W, Same w W → Calls Try.prog 45 #[.agg #[.int .i64 n, .slice d.a d.L.length d.cap, .int .i64 d.r]] W fun e w' => e = .returned (.int .i64 0) ∧ Same W w' := fun W hW => by
  have := check_tab d n t W (hd.same hW) hT
  rw [Dg.v, hT.1] at this
  exact this
theorem dg_fchk {d : Dg} {n : Nat} {t : List Bool} {o : List Int} {ao : Option Addr} {co : Nat} {w : World} (hd : d.at w) (hT : d.tab n t) (ho : IsOrd n o) (hO : RowAt w (.slice ao n co) n (intCells o)) : ChkIs n d.r 0 d.a ao d.L.length d.cap n co w := fun W hW => by
  have h40 := ho.n40
  have h0 : errF 0 n o = 0 := by
    unfold errF
    rw [if_neg (by simp)]
    refine ordErr_zero.2 ⟨by rw [ho.len], by rw [ho.len]; exact ho⟩
  have := fcheck_any n d.r 0 d.a ao d.L.length d.cap n co o W (fun W' hW' => dg_chk hd hT W' (hW.same hW')) ho.len (hO.same hW) (by omega)
  rw [h0] at this
  exact this
theorem Size_dg {d : Dg} {n : Nat} {t : List Bool} {o : List Int} (hn : n ≤ 10) (ho : IsOrd n o) (ao : Option Addr) (co : Nat) (w : World) (hd : d.at w) (hT : d.tab n t) (hO : RowAt w (.slice ao n co) n (intCells o)) :
    Calls Try.prog 25 #[d.v, .slice ao n co] w fun e w' => e = .returned (.tuple #[.int .i64 (szF n t o), .int .i64 0]) ∧ Same w w' := by
  rw [Dg.v, hT.1]
  exact Size_ok hn hT.2 ho d.a d.cap ao co w hd.nds hO (dg_fchk hd hT ho hO)
theorem Permute_dg {d : Dg} {n : Nat} {t : List Bool} {o : List Int} (hn : n ≤ 10) (ho : IsOrd n o) (ao : Option Addr) (co : Nat) (w : World) (hd : d.at w) (hT : d.tab n t) (hO : RowAt w (.slice ao n co) n (intCells o)) :
    Calls Try.prog 24 #[d.v, .slice ao n co] w (DgR n (permT o n t) w) := by
  rw [Dg.v, hT.1]
  exact Permute_ok hn hT.2 ho d.a d.cap ao co w hd.nds hO (dg_fchk hd hT ho hO)
theorem Sift_dg {d : Dg} {n : Nat} {t : List Bool} {o : List Int} (hn : n ≤ 10) (ho : IsOrd n o) (ao : Option Addr) (co : Nat) (w : World) (hd : d.at w) (hT : d.tab n t) (hO : RowAt w (.slice ao n co) n (intCells o)) :
    Calls Try.prog 43 #[d.v, .slice ao n co] w (OrdR n (siftF n t o) (szF n t (siftF n t o)) w) := by
  rw [Dg.v, hT.1]
  exact Sift_ok hn hT.2 ho d.a d.cap ao co w hd.nds hO (dg_fchk hd hT ho hO)
theorem Improve_dg {d : Dg} {n : Nat} {t : List Bool} {o : List Int} (hn : n ≤ 10) (ho : IsOrd n o) (ao : Option Addr) (co : Nat) (w : World) (hd : d.at w) (hT : d.tab n t) (hO : RowAt w (.slice ao n co) n (intCells o)) :
    Calls Try.prog 41 #[d.v, .slice ao n co] w (OrdR n (impE n t o) (szF n t (impE n t o)) w) := by
  rw [Dg.v, hT.1]
  exact Improve_ok hn hT.2 ho d.a d.cap ao co w hd.nds hO (dg_fchk hd hT ho hO)
theorem Least_dg {d : Dg} {n : Nat} {t : List Bool} (hn : n ≤ 6) (w : World) (hd : d.at w) (hT : d.tab n t) :
    Calls Try.prog 40 #[d.v] w (fun e w' =>
      ∃ ao co, e = .returned (.tuple #[.slice ao (leastF n t (ordsF n)).1.length co, .int .i64 (leastF n t (ordsF n)).2, .int .i64 0]) ∧ RowAt w' (.slice ao (leastF n t (ordsF n)).1.length co) (leastF n t (ordsF n)).1.length (intCells (leastF n t (ordsF n)).1) ∧ Same w w') := by
  rw [Dg.v, hT.1]
  exact Least_ok hn hT.2 d.a d.cap w hd.nds (dg_chk hd hT)
/-- Span and Force on the chapter's groups. -/
theorem ex_groups : groupsErr [[0, 2], [1, 3]] [0, 1, 2, 3] = 0 := by decide +kernel
theorem ex_ferr : forErr [[0, 2], [1, 3]] [0, 1, 2, 3] 5 = 0 := by decide +kernel
theorem ex_merr : movErr [0, 1, 2] 0 2 = 0 := by decide +kernel
end Go.Proofs.Ytmmjijmmocabhaa
namespace Go.Proofs.Ytmmjijmmocabhaa
open Go.RowKit
set_option linter.unusedVariables false
set_option linter.unusedSimpArgs false

theorem row_lit {w : World} {b n : Nat} {l : List Int} {T : TypeId} (h : w.heap[b]? = some (.cells (intCells l).toArray T (0, 0))) (hn : l.length = n) (h9 : n ≤ 1000) : RowAt w (.slice (some ⟨b, 0, none⟩) n n) n (intCells l) :=
  ⟨by simp [intCells, hn], _, _, rfl, Nat.le_refl _, by unfold maxLen; omega, by simp, fun _ => ⟨b, 0, rfl, lt_of_heap h, fun j u hu => by rw [cell_at h]; simpa using hu⟩⟩
theorem grp_lit {w : World} {b n : Nat} {gs : List Grp} {T : TypeId} (h : w.heap[b]? = some (.cells (gs.map Grp.v).toArray T (0, 0))) (hn : gs.length = n) (h9 : n ≤ 1000) (hr : ∀ g ∈ gs, RowAt w g.v g.l.length (intCells g.l)) : GsAt w (.slice (some ⟨b, 0, none⟩) n n) n gs :=
  ⟨⟨by simp [hn], _, _, rfl, Nat.le_refl _, by unfold maxLen; omega, by simp, fun _ => ⟨b, 0, rfl, lt_of_heap h, fun j u hu => by rw [cell_at h]; simpa using hu⟩⟩, hr⟩

def exG (s : Nat) : List Grp := [⟨some ⟨s, 0, none⟩, 2, [0, 2]⟩, ⟨some ⟨s + 1, 0, none⟩, 2, [1, 3]⟩]
theorem exG_lst (s : Nat) : lst (exG s) = [[0, 2], [1, 3]] := rfl
theorem lay4 (W : World) : ∀ W4, W4 = (((W.alloc (.cells #[.int .i64 0, .int .i64 2] 3)).alloc (.cells #[.int .i64 1, .int .i64 3] 3)).alloc (.cells #[.slice (some ⟨W.heap.size, 0, none⟩) 2 2, .slice (some ⟨W.heap.size + 1, 0, none⟩) 2 2] 23)).alloc (.cells #[.int .i64 0, .int .i64 1, .int .i64 2, .int .i64 3] 3) →
    GsAt W4 (.slice (some ⟨W.heap.size + 1 + 1, 0, none⟩) 2 2) 2 (exG W.heap.size) ∧ RowAt W4 (.slice (some ⟨W.heap.size + 1 + 1 + 1, 0, none⟩) 4 4) 4 (intCells [0, 1, 2, 3]) ∧ Same W W4 := by
  rintro _ rfl
  refine ⟨grp_lit (heap_old (heap_new_at (by simp) _) _) rfl (by omega) ?_, row_lit (l := [0, 1, 2, 3]) (heap_new_at (by simp) _) rfl (by omega), (by repeat (first | exact Fr.refl _ _ | apply Fr.alloc | apply Fr.drewN | apply Fr.drew | apply Fr.undrew | apply Fr.undrewN))⟩
  intro g hg
  simp only [exG, List.mem_cons, List.not_mem_nil, or_false] at hg
  rcases hg with rfl | rfl
  · exact row_lit (n := 2) (l := [0, 2]) (heap_old (heap_old (heap_old (heap_new _ _) _) _) _) rfl (by omega)
  · exact row_lit (n := 2) (l := [1, 3]) (heap_old (heap_old (heap_new_at (by simp) _) _) _) rfl (by omega)

theorem ex_for (W : World) : ForAny [[0, 2], [1, 3]] [0, 1, 2, 3] 5 W = ForR [0, 2, 1, 3] 4 W := by
  funext e w'
  unfold ForAny
  rw [ex_ferr, if_pos rfl, show (5 : Int).toNat = 5 from rfl, ex_force]
  rfl
theorem ex_mv (W : World) : MoveRet [0, 1, 2] 0 2 W = fun e w' => ∃ g c, e = .returned (.tuple #[.slice (some ⟨g, 0, none⟩) 3 c, .int .i64 0]) ∧ OwnI w' W.heap.size g c [1, 2, 0] ∧ Same W w' := by
  funext e w'
  unfold MoveRet
  rw [ex_merr, if_pos rfl, show (2 : Int).toNat = 2 from rfl, ex_move]
  rfl
theorem ord4 : IsOrd 4 [0, 1, 2, 3] := ⟨by decide, rfl, by decide, by decide⟩

set_option maxRecDepth 100000 in
set_option maxHeartbeats 4000000 in
theorem known_any (w : World) : Calls Try.prog 12 #[] w fun e w' => e = .returned (.bool true) ∧ Same w w' := by
  have EX := fun W => example_any W
  have MA := fun W => made_any 4 60576 W (by omega) (by omega) (by omega)
  replace EX := Lib.hid EX; replace MA := Lib.hid MA
  go_enter Try.func12, Try.ntmps12
  go_wp2_with fail
  refine (EX.out _).mono ?_
  rintro e w0 ⟨rfl, rfl⟩
  go_wp2_with fail
  refine (MA.out _).mono ?_
  rintro e w1 ⟨d, rfl, hd, hT, hs⟩
  have kb := heap_new w1 (.cells #[.int .i64 d.n, .slice d.a d.L.length d.cap, .int .i64 d.r] 45)
  have hd1 : Dg.at (w1.alloc (.cells #[.int .i64 d.n, .slice d.a d.L.length d.cap, .int .i64 d.r] 45)) d := hd.same (by repeat (first | exact Fr.refl _ _ | apply Fr.alloc | apply Fr.drewN | apply Fr.drew | apply Fr.undrew | apply Fr.undrewN))
  go_upto_region 2 with fail
  have hsB : Same w0 (w1.alloc (.cells #[.int .i64 d.n, .slice d.a d.L.length d.cap, .int .i64 d.r] 45)) := hs.alloc _
  obtain ⟨bd, hbd⟩ : ∃ bd, bd = w1.heap.size := ⟨_, rfl⟩
  rw [← hbd] at kb ⊢
  generalize w1.alloc (.cells #[.int .i64 d.n, .slice d.a d.L.length d.cap, .int .i64 d.r] 45) = WB at *
  have k0 := cell_at kb 0
  have k1 := cell_at kb 1
  have k2 := cell_at kb 2
  have kl := lt_of_heap kb
  clear hd hs hbd
  replace hd1 := Lib.hid hd1; replace hT := Lib.hid hT; replace hsB := Lib.hid hsB; replace kb := Lib.hid kb
  go_wp2_with fail
  refine (Size_dg (by omega) ord4 _ _ _ (hd1.out.same (by repeat (first | exact Fr.refl _ _ | apply Fr.alloc | apply Fr.drewN | apply Fr.drew | apply Fr.undrew | apply Fr.undrewN))) hT.out (row_lit (l := [0, 1, 2, 3]) (heap_new_at (by simp) _) rfl (by omega))).mono ?_
  rintro e w2 ⟨rfl, hs2⟩
  rw [show szF 4 (tblF 4 60576) [0, 1, 2, 3] = 6 from ex_size]
  have hB2 : Same WB w2 := (show Same WB _ from (by repeat (first | exact Fr.refl _ _ | apply Fr.alloc | apply Fr.drewN | apply Fr.drew | apply Fr.undrew | apply Fr.undrewN))).same hs2
  have kb2 := hB2.at kb.out id
  have hd2 := hd1.out.same hB2
  clear k0 k1 k2 kl hs2
  have k0 := cell_at kb2 0
  have k1 := cell_at kb2 1
  have k2 := cell_at kb2 2
  have kl := lt_of_heap kb2
  replace hB2 := Lib.hid hB2; replace kb2 := Lib.hid kb2; replace hd2 := Lib.hid hd2
  go_wp2_with fail
  refine (Least_dg (by omega) _ hd2.out hT.out).mono ?_
  rw [show leastF 4 (tblF 4 60576) (ordsF 4) = ([0, 2, 1, 3], 4) from ex_least]
  rintro e w3 ⟨al, cl, rfl, hR3, hs3⟩
  have hB3 := hB2.out.same hs3
  clear k0 k1 k2 kl hs3
  replace hB3 := Lib.hid hB3; replace hR3 := Lib.hid hR3
  go_upto_region 4 with fail
  obtain ⟨hG, hO, hsL⟩ := lay4 w3 _ rfl
  have SP := Span_any (exG w3.heap.size) [0, 1, 2, 3] _ _ 2 4 2 4 _ hG rfl hO (by omega)
  rw [exG_lst, ex_groups, if_pos rfl, ex_span] at SP
  have hB4 := hB3.out.same hsL
  have hR4 := hR3.out.same hsL
  clear hG hO hsL
  replace SP := Lib.hid SP; replace hB4 := Lib.hid hB4; replace hR4 := Lib.hid hR4
  go_wp2_with fail
  refine SP.out.mono ?_
  rintro e w4 ⟨rfl, hs4⟩
  have hB5 := hB4.out.same hs4
  have hR5 := hR4.out.same hs4
  clear hs4
  replace hB5 := Lib.hid hB5; replace hR5 := Lib.hid hR5
  go_upto_region 5 with fail
  obtain ⟨hG, hO, hsL⟩ := lay4 w4 _ rfl
  have FO := Force_any (exG w4.heap.size) [0, 1, 2, 3] _ _ 2 4 2 4 5 (by omega) _ hG rfl hO (by omega)
  rw [exG_lst, ex_for] at FO
  have hB6 := hB5.out.same hsL
  have hR6 := hR5.out.same hsL
  clear hG hO hsL
  replace FO := Lib.hid FO; replace hB6 := Lib.hid hB6; replace hR6 := Lib.hid hR6
  go_wp2_with fail
  refine FO.out.mono ?_
  rintro e w5 ⟨af, cf, rfl, hF, hs5⟩
  have hB7 := hB6.out.same hs5
  have hR7 := hR6.out.same hs5
  clear hs5
  replace hB7 := Lib.hid hB7; replace hR7 := Lib.hid hR7; replace hF := Lib.hid hF
  go_upto_region 6 with fail
  have hM := row_lit (n := 3) (l := [0, 1, 2]) (heap_new w5 (.cells #[.int .i64 0, .int .i64 1, .int .i64 2] 3)) rfl (by omega)
  have MV := Move_any [0, 1, 2] 0 2 _ 3 3 _ rfl hM (by omega)
  rw [ex_mv] at MV
  have hB8 := hB7.out.same (show Same w5 (w5.alloc (.cells #[.int .i64 0, .int .i64 1, .int .i64 2] 3)) from (by repeat (first | exact Fr.refl _ _ | apply Fr.alloc | apply Fr.drewN | apply Fr.drew | apply Fr.undrew | apply Fr.undrewN)))
  have hR8 := hR7.out.same (show Same w5 (w5.alloc (.cells #[.int .i64 0, .int .i64 1, .int .i64 2] 3)) from (by repeat (first | exact Fr.refl _ _ | apply Fr.alloc | apply Fr.drewN | apply Fr.drew | apply Fr.undrew | apply Fr.undrewN)))
  have hF8 := hF.out.same (show Same w5 (w5.alloc (.cells #[.int .i64 0, .int .i64 1, .int .i64 2] 3)) from (by repeat (first | exact Fr.refl _ _ | apply Fr.alloc | apply Fr.drewN | apply Fr.drew | apply Fr.undrew | apply Fr.undrewN)))
  clear hM
  replace MV := Lib.hid MV; replace hB8 := Lib.hid hB8; replace hR8 := Lib.hid hR8; replace hF8 := Lib.hid hF8
  go_wp2_with fail
  refine MV.out.mono ?_
  rintro e w6 ⟨gm, cm, rfl, hI, hs6⟩
  have hB9 := hB8.out.same hs6
  have hR9 := hR8.out.same hs6
  have hF9 := hF8.out.same hs6
  have hM9 := hI.row (n := 3) rfl
  clear hs6 hI
  replace hB9 := Lib.hid hB9; replace hR9 := Lib.hid hR9; replace hF9 := Lib.hid hF9; replace hM9 := Lib.hid hM9
  go_wp2_with fail
  have hY := row_lit (n := 4) (l := [0, 2, 1, 3]) (heap_new w6 (.cells #[.int .i64 0, .int .i64 2, .int .i64 1, .int .i64 3] 3)) rfl (by omega)
  have hsL : Same w6 (w6.alloc (.cells #[.int .i64 0, .int .i64 2, .int .i64 1, .int .i64 3] 3)) := (by repeat (first | exact Fr.refl _ _ | apply Fr.alloc | apply Fr.drewN | apply Fr.drew | apply Fr.undrew | apply Fr.undrewN))
  have SM := osame_any [0, 2, 1, 3] [0, 2, 1, 3] _ _ _ _ 4 4 _ rfl rfl (hR9.out.same hsL) hY (by omega)
  rw [show decide (([0, 2, 1, 3] : List Int) = [0, 2, 1, 3]) = true from by decide] at SM
  refine SM.mono ?_
  rintro e w7 ⟨rfl, hsS⟩
  have hsS2 := hsL.same hsS
  have hBz1 := hB9.out.same hsS2
  have hFz1 := hF9.out.same hsS2
  have hMz1 := hM9.out.same hsS2
  clear SM hY hsL hsS hsS2
  replace hBz1 := Lib.hid hBz1; replace hFz1 := Lib.hid hFz1; replace hMz1 := Lib.hid hMz1
  go_wp2_with fail
  have hY := row_lit (n := 4) (l := [0, 2, 1, 3]) (heap_new w7 (.cells #[.int .i64 0, .int .i64 2, .int .i64 1, .int .i64 3] 3)) rfl (by omega)
  have hsL : Same w7 (w7.alloc (.cells #[.int .i64 0, .int .i64 2, .int .i64 1, .int .i64 3] 3)) := (by repeat (first | exact Fr.refl _ _ | apply Fr.alloc | apply Fr.drewN | apply Fr.drew | apply Fr.undrew | apply Fr.undrewN))
  have SM := osame_any [0, 2, 1, 3] [0, 2, 1, 3] _ _ _ _ 4 4 _ rfl rfl (hFz1.out.same hsL) hY (by omega)
  rw [show decide (([0, 2, 1, 3] : List Int) = [0, 2, 1, 3]) = true from by decide] at SM
  refine SM.mono ?_
  rintro e w8 ⟨rfl, hsS⟩
  have hsS2 := hsL.same hsS
  have hBz2 := hBz1.out.same hsS2
  have hMz2 := hMz1.out.same hsS2
  clear SM hY hsL hsS hsS2
  replace hBz2 := Lib.hid hBz2; replace hMz2 := Lib.hid hMz2
  go_wp2_with fail
  have hY := row_lit (n := 3) (l := [1, 2, 0]) (heap_new w8 (.cells #[.int .i64 1, .int .i64 2, .int .i64 0] 3)) rfl (by omega)
  have hsL : Same w8 (w8.alloc (.cells #[.int .i64 1, .int .i64 2, .int .i64 0] 3)) := (by repeat (first | exact Fr.refl _ _ | apply Fr.alloc | apply Fr.drewN | apply Fr.drew | apply Fr.undrew | apply Fr.undrewN))
  have SM := osame_any [1, 2, 0] [1, 2, 0] _ _ _ _ 3 3 _ rfl rfl (hMz2.out.same hsL) hY (by omega)
  rw [show decide (([1, 2, 0] : List Int) = [1, 2, 0]) = true from by decide] at SM
  refine SM.mono ?_
  rintro e w9 ⟨rfl, hsS⟩
  have hsS2 := hsL.same hsS
  have hBz3 := hBz2.out.same hsS2
  clear SM hY hsL hsS hsS2
  replace hBz3 := Lib.hid hBz3
  go_wp2_with fail
  go_ret
  exact ⟨rfl, hsB.out.same hBz3.out⟩
end Go.Proofs.Ytmmjijmmocabhaa
