/- package relation: Set walked. -/
import Derived.Test.YtcipnkemnepbaaaGreatVRelM
import Derived.Test.YtcipnkemnepbaaaGreatVOrdM
import Derived.Test.YtcipnkemnepbaaaGreatVRestr
import Derived.Test.YtcipnkemnepbaaaGreatVGrpP
namespace Go.Proofs.YtcipnkemnepbaaaGreat
open Go.RowKit
set_option linter.unusedVariables false
set_option linter.unusedSimpArgs false

set_option maxRecDepth 100000 in
set_option maxHeartbeats 2000000 in
theorem Set_ok {n : Nat} (hn : n ≤ 4096) (l : List Int) (a : Option Addr) (q cap : Nat) (w : World) (hq : l.length = q) (hl : RowAt w (.slice a q cap) q (intCells l)) (hq9 : q ≤ 1000) (h0 : renErr n l l.length 0 = 0) :
    Calls Tryz.prog 145 #[.int .i64 n, .slice a q cap] w (DgN (bitsF n) (tabS (bitsF n) 0 (l.map Int.toNat)) w) := by
  have CC := fun W => cc_ok hn W
  have CS := fun W (hW : Same w W) => checkSet_any n l a cap W (by omega) (by rw [hq]; exact hl.same hW)
  rw [h0, hq] at CS
  have BI := fun W => bits_any n W hn
  have CL := fun W (hW : Same w W) => cloneI_any l a cap q W hq (hl.same hW) (by omega)
  have hrg := renErr_range h0
  have h12 := bitsF_12 hn
  have hle := (bitsF_is hn).le
  have MD := fun base aC cC W (ho : W.ownsRow base 3 1 (.slice aC q cC) q (intCells l)) => made_own (bitsF n) l aC cC q base W h12 hq (by omega) (fun x hx => by have := hrg x hx; omega) ho
  generalize bitsF n = b at *
  replace CC := Lib.hid CC; replace CS := Lib.hid CS; replace BI := Lib.hid BI; replace CL := Lib.hid CL; replace MD := Lib.hid MD; replace hl := Lib.hid hl; replace hq := Lib.hid hq; replace hrg := Lib.hid hrg; replace hle := Lib.hid hle; replace h0 := Lib.hid h0
  go_enter Tryz.func145, Tryz.ntmps145
  go_wp2_with fail
  have kb := heap_new w (.cells #[.int .i64 0, .slice none 0 0, .int .i64 0] 56)
  have hs : Same w (w.alloc (.cells #[.int .i64 0, .slice none 0 0, .int .i64 0] 56)) := fs2
  have hlt := lt_of_heap kb
  generalize w.alloc (.cells #[.int .i64 0, .slice none 0 0, .int .i64 0] 56) = W0 at *
  replace kb := Lib.hid kb; replace hs := Lib.hid hs
  refine (CC.out _).mono ?_
  rintro e w1 ⟨rfl, rfl⟩
  go_wp2_with fail
  refine (CS.out _ hs.out).mono ?_
  rintro e w2 ⟨rfl, rfl⟩
  go_wp2_with fail
  refine (BI.out _).mono ?_
  rintro e w3 ⟨rfl, hs3⟩
  replace kb := Lib.hid (hs3.at kb.out id)
  have hs3 := hs.out.same hs3
  have hz3 := hs3.size
  have hbk := lt_of_heap kb.out
  replace hs3 := Lib.hid hs3
  go_wp2_with fail
  refine (CL.out _ hs3.out).mono ?_
  rintro e w4 ⟨aC, cC, rfl, hC, hs4⟩
  replace kb := Lib.hid (hs4.at kb.out id)
  have hs4 := hs3.out.same hs4
  replace hs4 := Lib.hid hs4; replace hC := Lib.hid hC
  go_wp2_with fail
  refine (MD.out _ _ _ _ hC.out).mono ?_
  intro e w5 hM
  obtain ⟨d, rfl, hd, ht, hF⟩ := hM
  have kb5 := hF.at kb.out (fun hk => by have := (hC.out.lt _ hk).1; omega)
  have hs5 : Same w w5 := hs4.out.trans hF (fun i hi hk => by have := (hC.out.lt _ hk).1; omega)
  replace hd := Lib.hid hd; replace ht := Lib.hid ht; replace kb5 := Lib.hid kb5; replace hs5 := Lib.hid hs5
  clear hF
  obtain ⟨x0, x1, x2, z0, z1, z2, xl⟩ := box_facts kb5.out
  go_wp2_with fail
  obtain ⟨d0, d1, d2, hdF, hsF⟩ := dg_stored hs5.out (Nat.le_refl _) hd.out kb5.out
  refine bodyPost_ret (v := .tuple #[.agg #[.int .i64 d.n, .slice d.a d.L.length d.cap, .int .i64 d.r], .int .i64 0]) (by simp [results, Tryz.results145, go_sem, d0, d1, d2]) rfl ?_
  exact ⟨d, rfl, hdF, ht.out, hsF⟩
end Go.Proofs.YtcipnkemnepbaaaGreat
