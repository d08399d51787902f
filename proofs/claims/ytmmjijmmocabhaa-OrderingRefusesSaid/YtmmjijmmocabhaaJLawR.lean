/- The law's round of force. The law's coordinate. -/
import Derived.Test.YtmmjijmmocabhaaJLawK
import Derived.Test.YtmmjijmmocabhaaJForP
namespace Go.Proofs.Ytmmjijmmocabhaa
open Go.RowKit
set_option linter.unusedVariables false
set_option linter.unusedSimpArgs false

def cooA (f : Int → Int) (gs : List (List Int)) (v : Int) : Int := if cntV gs v = 0 then f v else sumV f gs v
def cooB (gs : List (List Int)) (v : Int) : Int := if cntV gs v = 0 then 1 else 840 * cntV gs v
theorem sumK_succ (f : Int → Int) {g : List Int} {k : Nat} (h : k < g.length) : ((g.take (k + 1)).map f).sum = ((g.take k).map f).sum + f g[k] := by
  rw [List.take_succ_eq_append_getElem h, List.map_append, List.sum_append]; simp

set_option maxRecDepth 100000 in
set_option maxHeartbeats 4000000 in
theorem coord_any {n : Nat} {o : List Int} (ho : IsOrd n o) (gs : List Grp) (hgs : ∀ g ∈ lst gs, IsGrp n g) {v : Int} (hv : 0 ≤ v ∧ v < n) (a ao : Option Addr) (cap co k : Nat) (w : World) (hk : k ≤ 64) (hG : GsAt w (.slice a k cap) k gs) (hO : RowAt w (.slice ao n co) n (intCells o)) :
    Calls Try.prog 52 #[.slice a k cap, .slice ao n co, .int .i64 v] w fun e w' => e = .returned (.tuple #[.int .i64 (cooA (posA o) (lst gs) v), .int .i64 (cooB (lst gs) v)]) ∧ Same w w' := by
  have h40 := ho.n40
  have PO := fun (x : Int) (hx : 0 ≤ x ∧ x < (n : Int)) W (hW : Same w W) => pos_any ho hx ao co W (hO.same hW)
  have PV := PO v hv
  have hgl : (lst gs).take k = lst gs := by apply List.take_of_length_le; rw [lst_len, hG.len]; exact Nat.le_refl _
  have hpos := fun (x : Int) (hx : 0 ≤ x ∧ x < (n : Int)) => posA_bd ho hx
  have hcb := fun (j : Nat) => cntV_bd ((lst gs).take j) v
  have hsb := fun (j : Nat) => sumV_bd (f := posA o) (gs := (lst gs).take j) (fun g hg => (hgs g (List.mem_of_mem_take hg)).le) (fun g hg x hx => posA_bd ho ((hgs g (List.mem_of_mem_take hg)).range x hx)) (by simp; have := hG.len; have := lst_len gs; omega) v
  have hcl := fun j => (show ((lst gs).take j).length ≤ 64 by simp; have := hG.len; have := lst_len gs; omega)
  obtain ⟨CA, hCA⟩ : ∃ x, x = cooA (posA o) (lst gs) v := ⟨_, rfl⟩
  obtain ⟨CB, hCB⟩ : ∃ x, x = cooB (lst gs) v := ⟨_, rfl⟩
  rw [← hCA, ← hCB]
  replace ho := Lib.hid ho; replace hgs := Lib.hid hgs; replace hv := Lib.hid hv; replace hG := Lib.hid hG; replace hO := Lib.hid hO; replace PO := Lib.hid PO; replace PV := Lib.hid PV; replace hgl := Lib.hid hgl; replace hpos := Lib.hid hpos; replace hcb := Lib.hid hcb; replace hsb := Lib.hid hsb; replace hcl := Lib.hid hcl; replace hCA := Lib.hid hCA; replace hCB := Lib.hid hCB
  go_enter Try.func52, Try.ntmps52
  go_wp2_with fail
  go_loopw [8, 9, 10] (fun s c i wr => ∃ j : Nat, i = .int .i64 j ∧ j ≤ k ∧ s = .int .i64 (sumV (posA o) ((lst gs).take j) v) ∧ c = .int .i64 (cntV ((lst gs).take j) v) ∧ Same w wr) (fun _ _ i _ => k - (intOf i).toNat)
  case atStart => exact ⟨0, rfl, by omega, rfl, rfl, (by repeat (first | exact Fr.refl _ _ | apply Fr.alloc | apply Fr.drewN | apply Fr.drew | apply Fr.undrew | apply Fr.undrewN))⟩
  case round =>
    obtain ⟨j, rfl, hj, rfl, rfl, hs⟩ := hrel
    by_cases hlt : j < k
    · have hjl : j < gs.length := by rw [hG.out.len]; exact hlt
      have hjl2 : j < (lst gs).length := by rw [lst_len]; exact hjl
      obtain ⟨b, off, rfl, hbl, c0, hR⟩ := (hG.out.same hs).get hjl
      have hgj := hgs.out _ (List.getElem_mem hjl2)
      have hsv := sumV_succ (posA o) hjl2 v
      have hcv := cntV_succ hjl2 v
      have hs0 := hsb.out j
      have hs1 := hsb.out (j + 1)
      have hc0 := hcb.out j
      have hc1 := hcl.out j
      rw [lst_get gs hjl] at hgj hsv hcv
      have hcell : ∀ W, Same w W → W.cell? ⟨b, off + j, none⟩ = some (.slice gs[j].a gs[j].l.length gs[j].cap) ∧ b < W.heap.size ∧ RowAt W (.slice gs[j].a gs[j].l.length gs[j].cap) gs[j].l.length (intCells gs[j].l) := by
        intro W hW
        obtain ⟨b', off', e', hb2, c2, hR2⟩ := (hG.out.same hW).get hjl
        cases e'
        exact ⟨c2, hb2, hR2⟩
      generalize gs[j] = g at *
      obtain ⟨ga, gc, gl⟩ := g
      simp only at c0 hR hgj hsv hcv hcell
      obtain ⟨p, hp⟩ : ∃ p, gl.length = p := ⟨_, rfl⟩
      rw [hp] at c0 hR hcell
      have hp0 : 0 < p := by rw [← hp]; exact hgj.pos
      have hp8 : p ≤ 8 := by rw [← hp]; exact hgj.le
      have hfg := fun x (hx : x ∈ gl) => posA_bd ho.out (hgj.range x hx)
      have hce := cenF_bd hgj.le hfg
      have hsk := fun q (h : q < gl.length) => sumK_succ (posA o) h
      have hskb : ∀ q, 0 ≤ ((gl.take q).map (posA o)).sum ∧ ((gl.take q).map (posA o)).sum ≤ 312 := by
        intro q
        have h1 := sum_bd (f := posA o) (B := 39) (gl.take q) (fun x hx => hfg x (List.mem_of_mem_take hx))
        have h2 : (gl.take q).length ≤ 8 := by simp; omega
        omega
      obtain ⟨wo, rfl⟩ : ∃ wo, wo = wr := ⟨_, rfl⟩
      generalize sumV (posA o) (List.take j (lst gs)) v = S at *
      generalize cntV (List.take j (lst gs)) v = C at *
      clear c0
      replace hs := Lib.hid hs; replace hR := Lib.hid hR; replace hgj := Lib.hid hgj; replace hp := Lib.hid hp; replace hsv := Lib.hid hsv; replace hcv := Lib.hid hcv; replace hcell := Lib.hid hcell; replace hfg := Lib.hid hfg; replace hce := Lib.hid hce; replace hsk := Lib.hid hsk; replace hskb := Lib.hid hskb; replace hs0 := Lib.hid hs0; replace hs1 := Lib.hid hs1; replace hc0 := Lib.hid hc0; replace hc1 := Lib.hid hc1
      go_wp2_with fail
      go_loopw [11, 12, 13] (fun b' x i wr => ∃ q : Nat, i = .int .i64 q ∧ q ≤ p ∧ b' = .bool (decide (v ∈ gl.take q)) ∧ x = .int .i64 (((gl.take q).map (posA o)).sum) ∧ Same w wr) (fun _ _ i _ => p - (intOf i).toNat)
      case atStart => exact ⟨0, rfl, by omega, by simp, by simp, hs.out.same (by repeat (first | exact Fr.refl _ _ | apply Fr.alloc | apply Fr.drewN | apply Fr.drew | apply Fr.undrew | apply Fr.undrewN))⟩
      case round =>
        obtain ⟨q, rfl, hq, rfl, rfl, hs2⟩ := hrel
        obtain ⟨c0, hb2, hR2⟩ := hcell.out wr hs2
        by_cases hqp : q < p
        · have hql : q < gl.length := by rw [hp.out]; exact hqp
          obtain ⟨b3, off3, rfl, hb3, c3⟩ := int_cell hR2 (k := q) hql hp.out
          have hmem := List.getElem_mem hql
          have Pq := PO.out _ (hgj.out.range _ hmem)
          have hyb := hfg.out _ hmem
          have hs3 := hsk.out q hql
          obtain ⟨x0, x1⟩ := hskb.out q
          have hst := List.take_succ_eq_append_getElem hql
          generalize gl[q] = y at *
          generalize posA o y = z at *
          generalize ((gl.take q).map (posA o)).sum = X at *
          obtain ⟨z0, z1⟩ := hyb
          have hin : decide (v ∈ gl.take (q + 1)) = (decide (v ∈ gl.take q) || (y == v)) := by
            rw [hst]
            by_cases e : y = v
            · subst e; simp
            · simp [e, Ne.symm e]
          generalize hbb : decide (v ∈ gl.take q) = bb at *
          replace hs2 := Lib.hid hs2; replace hR2 := Lib.hid hR2; replace Pq := Lib.hid Pq; replace hs3 := Lib.hid hs3; replace hst := Lib.hid hst; replace hin := Lib.hid hin; replace hbb := Lib.hid hbb; replace hmem := Lib.hid hmem
          cases bb
          · go_wp2_with fail
            refine (Pq.out _ hs2.out).mono ?_
            rintro e w5 ⟨rfl, hs5⟩
            have hs6 := hs2.out.same hs5
            replace hs5 := Lib.hid hs5; replace hs6 := Lib.hid hs6
            go_wp2_with fail
            go_roundw
            case rel => exact ⟨q + 1, by go_num, by omega, by rw [hin.out]; rfl, by rw [hs3.out], hs6.out⟩
            case measure => simp [intOf]; omega
          · go_wp2_with fail
            refine (Pq.out _ hs2.out).mono ?_
            rintro e w5 ⟨rfl, hs5⟩
            have hs6 := hs2.out.same hs5
            replace hs5 := Lib.hid hs5; replace hs6 := Lib.hid hs6
            go_wp2_with fail
            go_roundw
            case rel => exact ⟨q + 1, by go_num, by omega, by rw [hin.out]; rfl, by rw [hs3.out], hs6.out⟩
            case measure => simp [intOf]; omega
        · obtain rfl : q = p := by omega
          rw [List.take_of_length_le (by rw [hp.out]; exact Nat.le_refl _)]
          have hce2 := hce.out
          by_cases hin : v ∈ gl
          · have hd : decide (v ∈ gl) = true := by simpa using hin
            have hsv2 := hsv.out
            have hcv2 := hcv.out
            rw [if_pos hin] at hsv2 hcv2
            unfold cenF at hsv2 hce2
            rw [hp.out] at hsv2 hce2
            have htd : (840 : Int).tdiv (q : Int) = 840 / (q : Int) := Int.tdiv_eq_ediv_of_nonneg (by omega)
            have hdb : 0 ≤ 840 / (q : Int) ∧ 840 / (q : Int) ≤ 840 := ⟨Int.ediv_nonneg (by omega) (by omega), Int.ediv_le_self _ (by omega)⟩
            obtain ⟨d0, d1⟩ := hdb
            obtain ⟨y0, y1, y2, y3⟩ := hce2
            have hs0' := hs0.out
            have hc0' := hc0.out
            have hc1' := hc1.out
            generalize (gl.map (posA o)).sum = X at *
            generalize 840 / (q : Int) = D at *
            generalize hXD : X * D = Z at *
            have hC : C ≤ 64 := by omega
            obtain ⟨hC0, _⟩ := hc0'
            obtain ⟨hS0, hS1⟩ := hs0'
            have hq0 : ((q : Int) == 0) = false := by simp; omega
            replace hs2 := Lib.hid hs2; replace hR2 := Lib.hid hR2; replace hsv2 := Lib.hid hsv2; replace hcv2 := Lib.hid hcv2; replace hin := Lib.hid hin
            go_wp2_with fail
            go_roundw
            case rel => exact ⟨j + 1, by go_num, by omega, by rw [hsv2.out], by rw [hcv2.out], hs2.out⟩
            case measure => simp [intOf]; omega
          · have hd : decide (v ∈ gl) = false := by simpa using hin
            have hsv2 := hsv.out
            have hcv2 := hcv.out
            rw [if_neg hin, Int.add_zero] at hsv2 hcv2
            replace hs2 := Lib.hid hs2; replace hR2 := Lib.hid hR2; replace hsv2 := Lib.hid hsv2; replace hcv2 := Lib.hid hcv2; replace hin := Lib.hid hin
            go_wp2_with fail
            go_roundw
            case rel => exact ⟨j + 1, by go_num, by omega, by rw [hsv2.out], by rw [hcv2.out], hs2.out⟩
            case measure => simp [intOf]; omega
    · obtain rfl : j = k := by omega
      rw [hgl.out]
      by_cases h0 : cntV (lst gs) v = 0
      · have hCA' : CA = posA o v := by rw [hCA.out, cooA, if_pos h0]
        have hCB' : CB = 1 := by rw [hCB.out, cooB, if_pos h0]
        rw [h0]
        replace hs := Lib.hid hs; replace hCA' := Lib.hid hCA'; replace hCB' := Lib.hid hCB'
        go_wp2_with fail
        refine (PV.out _ hs.out).mono ?_
        rintro e w5 ⟨rfl, hs5⟩
        have hs6 := hs.out.same hs5
        replace hs5 := Lib.hid hs5; replace hs6 := Lib.hid hs6
        go_wp2_with fail
        go_ret2
        exact ⟨by rw [hCA'.out, hCB'.out]; rfl, hs6.out⟩
      · have hCA' : CA = sumV (posA o) (lst gs) v := by rw [hCA.out, cooA, if_neg h0]
        have hCB' : CB = 840 * cntV (lst gs) v := by rw [hCB.out, cooB, if_neg h0]
        have hc0 := hcb.out j
        have hc1 := hcl.out j
        rw [hgl.out] at hc0 hc1
        rw [← hCA']
        generalize cntV (lst gs) v = C at *
        have hC : C ≤ 64 := by omega
        obtain ⟨hC0, _⟩ := hc0
        have hb : (C == 0) = false := by simpa using h0
        replace hs := Lib.hid hs; replace hCA' := Lib.hid hCA'; replace hCB' := Lib.hid hCB'
        go_wp2_with fail
        go_ret2
        exact ⟨by rw [hCB'.out]; rfl, hs.out⟩
end Go.Proofs.Ytmmjijmmocabhaa
namespace Go.Proofs.Ytmmjijmmocabhaa
open Go.RowKit
set_option linter.unusedVariables false
set_option linter.unusedSimpArgs false

theorem lt_coo (f : Int → Int) (gs : List (List Int)) (x y : Int) : ltV f gs x y = decide (cooA f gs x * cooB gs y < cooA f gs y * cooB gs x) := by
  unfold ltV cmpV
  rw [Bool.eq_iff_iff, decide_eq_true_iff, decide_eq_true_iff]
  unfold keyS keyC cooA cooB
  by_cases hx : cntV gs x = 0
  · by_cases hy : cntV gs y = 0
    · simp only [if_pos hx, if_pos hy]; omega
    · simp only [if_pos hx, if_neg hy]
      rw [show f x * (840 * cntV gs y) = 840 * f x * cntV gs y by rw [Int.mul_left_comm, Int.mul_assoc]]
      omega
  · by_cases hy : cntV gs y = 0
    · simp only [if_neg hx, if_pos hy]
      rw [show f y * (840 * cntV gs x) = 840 * f y * cntV gs x by rw [Int.mul_left_comm, Int.mul_assoc]]
      omega
    · simp only [if_neg hx, if_neg hy]
      rw [Int.mul_left_comm, Int.mul_left_comm (sumV f gs y)]
      omega

theorem coo_bd {n : Nat} {o : List Int} (ho : IsOrd n o) {gs : List (List Int)} (hgs : ∀ g ∈ gs, IsGrp n g) (hl : gs.length ≤ 64) {v : Int} (hv : 0 ≤ v ∧ v < n) :
    0 ≤ cooA (posA o) gs v ∧ cooA (posA o) gs v ≤ 16773120 ∧ 0 ≤ cooB gs v ∧ cooB gs v ≤ 53760 := by
  have h1 := sumV_bd (f := posA o) (gs := gs) (fun g hg => (hgs g hg).le) (fun g hg x hx => posA_bd ho ((hgs g hg).range x hx)) hl v
  have h2 := cntV_bd gs v
  have h3 := posA_bd ho hv
  unfold cooA cooB
  split <;> omega
theorem prod_bd {a b : Int} (ha : 0 ≤ a ∧ a ≤ 16773120) (hb : 0 ≤ b ∧ b ≤ 53760) : 0 ≤ a * b ∧ a * b ≤ 901722931200 := by
  refine ⟨Int.mul_nonneg ha.1 hb.1, ?_⟩
  have := Int.mul_le_mul ha.2 hb.2 hb.1 (by omega)
  omega

theorem ins_stop {lt : Int → Int → Bool} {x : Int} {L : List Int} {q : Nat} (hq : q < L.length) (h : lt x L[q] = false) : insR lt x (L.take (q + 1)) = L.take (q + 1) ++ [x] := by
  rw [List.take_succ_eq_append_getElem hq, insR_ge lt x _ _ h, List.append_assoc]
  rfl
theorem ins_go {lt : Int → Int → Bool} {x : Int} {L : List Int} {q : Nat} (hq : q < L.length) (h : lt x L[q] = true) (hi : insR lt x L = insR lt x (L.take (q + 1)) ++ L.drop (q + 1)) : insR lt x L = insR lt x (L.take q) ++ L.drop q := by
  rw [hi, List.take_succ_eq_append_getElem hq, insR_lt lt x _ _ h, List.append_assoc]
  congr 1
  rw [List.drop_eq_getElem_cons hq]
  rfl
theorem sortK_len (lt : Int → Int → Bool) (o : List Int) {k : Nat} (hk : k ≤ o.length) : (sortK lt o k).length = k := by
  rw [sortK, (sortR_perm lt _).length_eq]; simp; omega

set_option maxRecDepth 100000 in
set_option maxHeartbeats 4000000 in
theorem lround_any {n : Nat} {o : List Int} (ho : IsOrd n o) (gs : List Grp) (hgs : ∀ g ∈ lst gs, IsGrp n g) (a ao : Option Addr) (cap co k : Nat) (w : World) (hk : k ≤ 64) (hG : GsAt w (.slice a k cap) k gs) (hO : RowAt w (.slice ao n co) n (intCells o)) :
    Calls Try.prog 17 #[.slice a k cap, .slice ao n co] w fun e w' => ∃ a c, e = .returned (.slice a n c) ∧ RowAt w' (.slice a n c) n (intCells (roundF (lst gs) o)) ∧ Same w w' := by
  have h40 := ho.n40
  have hol := ho.len
  have hll : (lst gs).length ≤ 64 := by rw [lst_len, hG.len]; exact hk
  have CO := fun (x : Int) (hx : 0 ≤ x ∧ x < (n : Int)) W (hW : Same w W) => coord_any ho gs hgs hx a ao cap co k W hk (hG.same hW) (hO.same hW)
  have CB := fun (x : Int) (hx : 0 ≤ x ∧ x < (n : Int)) => coo_bd ho hgs hll hx
  have LT := fun x y => lt_coo (posA o) (lst gs) x y
  obtain ⟨lt, hlt⟩ : ∃ lt, lt = ltV (posA o) (lst gs) := ⟨_, rfl⟩
  rw [← hlt] at LT
  have hend : sortK lt o n = roundF (lst gs) o := by unfold sortK roundF; rw [← hol, List.take_length, hlt]
  replace ho := Lib.hid ho; replace hol := Lib.hid hol; replace hgs := Lib.hid hgs; replace hG := Lib.hid hG; replace hO := Lib.hid hO; replace CO := Lib.hid CO; replace CB := Lib.hid CB; replace LT := Lib.hid LT; replace hlt := Lib.hid hlt; replace hend := Lib.hid hend; replace hll := Lib.hid hll
  go_enter Try.func17, Try.ntmps17
  go_wp2_with fail
  go_loopw [5, 6] (fun x i wr => ∃ (j c : Nat) (a : Option Addr), i = .int .i64 j ∧ j ≤ n ∧ x = .slice a j c ∧ wr.ownsRow w.heap.size 3 1 (.slice a j c) j (intCells (sortK lt o j)) ∧ Same w wr) (fun _ i _ => n - (intOf i).toNat)
  case atStart => exact ⟨0, 0, none, rfl, by omega, rfl, World.ownsRow_nil _ _ _ _, (by repeat (first | exact Fr.refl _ _ | apply Fr.alloc | apply Fr.drewN | apply Fr.drew | apply Fr.undrew | apply Fr.undrewN))⟩
  case round =>
    obtain ⟨j, c, a', rfl, hj, rfl, hown, hs⟩ := hrel
    by_cases hjn : j < n
    · have hjl : j < o.length := by rw [hol.out]; exact hjn
      obtain ⟨bo, off, rfl, hb', c0⟩ := int_cell (hO.out.same hs) (k := j) hjl hol.out
      have hxr := ho.out.range _ (List.getElem_mem hjl)
      have hks := sortK_succ lt hjl
      have hCO := fun W hW => CO.out _ hxr W hW
      have hCBx := CB.out _ hxr
      have hcx : ∀ W, Same w W → bo < W.heap.size ∧ W.cell? ⟨bo, off + j, none⟩ = some (.int .i64 o[j]) := by
        intro W hW
        obtain ⟨b', off', e', h1, h2⟩ := int_cell (hO.out.same hW) (k := j) hjl hol.out
        cases e'
        exact ⟨h1, h2⟩
      generalize o[j] = x at *
      have hLl := sortK_len lt o (k := j) (by omega)
      have hLr : ∀ y ∈ sortK lt o j, 0 ≤ y ∧ y < (n : Int) := fun y hy => ho.out.range y (List.mem_of_mem_take ((sortR_perm lt _).mem_iff.1 hy))
      generalize hL : sortK lt o j = L at *
      obtain ⟨a0, a1, b0, b1⟩ := hCBx
      have hLT := fun y => LT.out x y
      generalize hA : cooA (posA o) (lst gs) x = A at *
      generalize hB : cooB (lst gs) x = B at *
      replace hown := Lib.hid hown; replace hs := Lib.hid hs; replace hks := Lib.hid hks; replace hLl := Lib.hid hLl; replace hLr := Lib.hid hLr; replace hL := Lib.hid hL; replace hCO := Lib.hid hCO; replace hLT := Lib.hid hLT; replace hA := Lib.hid hA; replace hB := Lib.hid hB; replace hxr := Lib.hid hxr; replace hcx := Lib.hid hcx
      go_wp2_with fail
      refine (hCO.out _ hs.out).mono ?_
      rintro e w1 ⟨rfl, hs1⟩
      have hs2 := hs.out.same hs1
      have hown1 := owns_same hown.out hs1
      clear hs1 c0
      replace hs2 := Lib.hid hs2; replace hown1 := Lib.hid hown1
      go_wp2_with fail
      go_loopw [9] (fun i wr => ∃ q : Nat, i = .int .i64 q ∧ q ≤ j ∧ insR lt x L = insR lt x (L.take q) ++ L.drop q ∧ wr.ownsRow w.heap.size 3 1 (.slice a' j c) j (intCells L) ∧ Same w wr) (fun i _ => (intOf i).toNat)
      case atStart => exact ⟨j, rfl, by omega, by rw [← hLl.out, List.take_length, List.drop_length, List.append_nil], hown1.out, hs2.out⟩
      case round =>
        obtain ⟨q, rfl, hq, hins, hown2, hs3⟩ := hrel
        by_cases hq0 : q = 0
        · subst hq0
          have hfin : L.take 0 ++ x :: L.drop 0 = sortK lt o (j + 1) := by rw [hks.out, hins]; simp [insR_nil]
          obtain ⟨hbo, cx⟩ := hcx.out _ hs3
          have hrow := (SliceAt.of_owns hown2).row
          obtain ⟨a2, c2', e2, hrc, hcm, hcn, hcell⟩ := hrow.2
          cases e2
          have hQ : 0 ≤ j := by omega
          replace hins := Lib.hid hins; replace hs3 := Lib.hid hs3; replace hcell := Lib.hid hcell
          rcases hown2.2 with ⟨e0, ez⟩ | ⟨g, c', cur, e0, hg0, _⟩
          · cases e0
            simp only [Nat.add_zero] at cx
            replace hown2 := Lib.hid hown2; replace hrow := Lib.hid hrow; replace hfin := Lib.hid hfin
            go_upto_region 11 with fail
            refine wp_region_sched (L2 bo bo) [0, 0, 0, 0, 0, 0, 0, 1, 2, 0, 0, 0, 3, 3, 0] [0, 1, 2, 3, 4, 5, 6, 9, 10, 11, 7, 8, 12, 13, 14] (by kernel_rfl) (by kernel_rfl) ?_
            repeat (first | (refine sched_w rfl rfl (fun _ hK => ?_); go_simp; refine hK _ ?_; clear hK) | (refine sched_s rfl rfl (fun _ hK => ?_); go_simp; first | (refine hK _ ?_; clear hK) | (refine ⟨_, fun _ => rfl, hK _ ?_⟩; clear hK)))
            refine sched_g rfl rfl (fun _ hK => ?_); go_simp; refine hK _ _ (Kp.of_same (by repeat (first | exact Fr.refl _ _ | apply Fr.alloc | apply Fr.drewN | apply Fr.drew | apply Fr.undrew | apply Fr.undrewN))) ?_; clear hK
            obtain ⟨g1, c1', w1', g2, c2, w2', hr1, hr2, ho2, hs2'⟩ := ins_runs (w := ((wr.alloc (.cells #[.int .i64 x] 3)).drew)) (x := x) wr.heap.size ((hrow.out).same (by repeat (first | exact Fr.refl _ _ | apply Fr.undrew | apply Fr.undrewN | apply Fr.drew | apply Fr.drewN | apply Fr.alloc))) (heap_new _ _) hQ (by omega) _ (fun h => absurd h (by omega)) 23 23
            simp only [Nat.sub_self, Nat.add_zero, Nat.zero_add] at hr1 hr2
            refine sched_l rfl (by decide) (fun _ hK => ?_)
            refine step_append rfl (.tmp 60) (.tmp 63) 23 rfl _ _ hr1 (hK _ _ ?_)
            clear hK
            (try simp only [Act.put, List.setIfInBounds_toArray, List.set_cons_zero, List.set_cons_succ])
            refine sched_l rfl (by decide) (fun _ hK => ?_)
            refine step_append rfl (.tmp 55) (.tmp 64) 23 rfl _ _ hr2 (hK _ _ ?_)
            clear hK
            (try simp only [Act.put, List.setIfInBounds_toArray, List.set_cons_zero, List.set_cons_succ])
            clear hr1 hr2
            have hs9 := hs3.out.same ((show Same wr _ from (by repeat (first | exact Fr.refl _ _ | apply Fr.undrew | apply Fr.undrewN | apply Fr.drew | apply Fr.drewN | apply Fr.alloc))).same hs2')
            have ho9 := (ho2.base (base' := w.heap.size) (by have := hs3.out.size; simp; omega)).owns (n := 0 + 1) (by rw [List.length_append, List.length_take, List.length_cons, List.length_drop, hLl.out]; omega)
            clear ho2 hs2'
            rw [hfin.out] at ho9
            replace ho9 := Lib.hid ho9; replace hs9 := Lib.hid hs9
            repeat (first | (refine sched_w rfl rfl (fun _ hK => ?_); go_simp; refine hK _ ?_; clear hK) | (refine sched_s rfl rfl (fun _ hK => ?_); go_simp; first | (refine hK _ ?_; clear hK) | (refine ⟨_, fun _ => rfl, hK _ ?_⟩; clear hK)))
            refine sched_nil (NoPanic.normal ?_)
            go_wp2_with fail
            all_goals
              go_roundw
              case rel => exact ⟨0 + 1, c2, some ⟨g2, 0, none⟩, by go_num, by omega, by simp, ho9.out, hs9.out⟩
              case measure => simp [intOf]; omega
          · cases e0
            by_cases hj0 : 0 < j
            · have hcp : c ≠ 0 := by omega
              replace hown2 := Lib.hid hown2; replace hrow := Lib.hid hrow; replace hfin := Lib.hid hfin
              go_upto_region 11 with fail
              refine wp_region_sched (L2 bo bo) [0, 0, 0, 0, 0, 0, 0, 1, 2, 0, 0, 0, 3, 3, 0] [0, 1, 2, 3, 4, 5, 6, 9, 10, 11, 7, 8, 12, 13, 14] (by kernel_rfl) (by kernel_rfl) ?_
              repeat (first | (refine sched_w rfl rfl (fun _ hK => ?_); go_simp; refine hK _ ?_; clear hK) | (refine sched_s rfl rfl (fun _ hK => ?_); go_simp; first | (refine hK _ ?_; clear hK) | (refine ⟨_, fun _ => rfl, hK _ ?_⟩; clear hK)))
              refine sched_g rfl rfl (fun _ hK => ?_); go_simp; refine hK _ _ (Kp.of_same (by repeat (first | exact Fr.refl _ _ | apply Fr.alloc | apply Fr.drewN | apply Fr.drew | apply Fr.undrew | apply Fr.undrewN))) ?_; clear hK
              obtain ⟨g1, c1', w1', g2, c2, w2', hr1, hr2, ho2, hs2'⟩ := ins_runs (w := ((wr.alloc (.cells #[.int .i64 x] 3)).drew)) (x := x) wr.heap.size ((hrow.out).same (by repeat (first | exact Fr.refl _ _ | apply Fr.undrew | apply Fr.undrewN | apply Fr.drew | apply Fr.drewN | apply Fr.alloc))) (heap_new _ _) hQ (by omega) _ (fun _ b off e => by cases e; simp; rfl) 23 23
              rw [show 0 + (1 + (j - 0)) = j + 1 by omega] at hr2
              refine sched_l rfl (by decide) (fun _ hK => ?_)
              refine step_append rfl (.tmp 60) (.tmp 63) 23 rfl _ _ hr1 (hK _ _ ?_)
              clear hK
              (try simp only [Act.put, List.setIfInBounds_toArray, List.set_cons_zero, List.set_cons_succ])
              refine sched_l rfl (by decide) (fun _ hK => ?_)
              refine step_append rfl (.tmp 55) (.tmp 64) 23 rfl _ _ hr2 (hK _ _ ?_)
              clear hK
              (try simp only [Act.put, List.setIfInBounds_toArray, List.set_cons_zero, List.set_cons_succ])
              clear hr1 hr2
              have hs9 := hs3.out.same ((show Same wr _ from (by repeat (first | exact Fr.refl _ _ | apply Fr.undrew | apply Fr.undrewN | apply Fr.drew | apply Fr.drewN | apply Fr.alloc))).same hs2')
              have ho9 := (ho2.base (base' := w.heap.size) (by have := hs3.out.size; simp; omega)).owns (n := j + 1) (by rw [List.length_append, List.length_take, List.length_cons, List.length_drop, hLl.out]; omega)
              clear ho2 hs2'
              rw [hfin.out] at ho9
              replace ho9 := Lib.hid ho9; replace hs9 := Lib.hid hs9
              repeat (first | (refine sched_w rfl rfl (fun _ hK => ?_); go_simp; refine hK _ ?_; clear hK) | (refine sched_s rfl rfl (fun _ hK => ?_); go_simp; first | (refine hK _ ?_; clear hK) | (refine ⟨_, fun _ => rfl, hK _ ?_⟩; clear hK)))
              refine sched_nil (NoPanic.normal ?_)
              go_wp2_with fail
              all_goals
                go_roundw
                case rel => exact ⟨j + 1, c2, some ⟨g2, 0, none⟩, by go_num, by omega, by simp, ho9.out, hs9.out⟩
                case measure => simp [intOf]; omega
            · obtain rfl : j = 0 := by omega
              simp only [Nat.add_zero] at cx
              replace hown2 := Lib.hid hown2; replace hrow := Lib.hid hrow; replace hfin := Lib.hid hfin
              go_upto_region 11 with fail
              refine wp_region_sched (L2 bo bo) [0, 0, 0, 0, 0, 0, 0, 1, 2, 0, 0, 0, 3, 3, 0] [0, 1, 2, 3, 4, 5, 6, 9, 10, 11, 7, 8, 12, 13, 14] (by kernel_rfl) (by kernel_rfl) ?_
              repeat (first | (refine sched_w rfl rfl (fun _ hK => ?_); go_simp; refine hK _ ?_; clear hK) | (refine sched_s rfl rfl (fun _ hK => ?_); go_simp; first | (refine hK _ ?_; clear hK) | (refine ⟨_, fun _ => rfl, hK _ ?_⟩; clear hK)))
              refine sched_g rfl rfl (fun _ hK => ?_); go_simp; refine hK _ _ (Kp.of_same (by repeat (first | exact Fr.refl _ _ | apply Fr.alloc | apply Fr.drewN | apply Fr.drew | apply Fr.undrew | apply Fr.undrewN))) ?_; clear hK
              obtain ⟨g1, c1', w1', g2, c2, w2', hr1, hr2, ho2, hs2'⟩ := ins_runs (w := ((wr.alloc (.cells #[.int .i64 x] 3)).drew)) (x := x) wr.heap.size ((hrow.out).same (by repeat (first | exact Fr.refl _ _ | apply Fr.undrew | apply Fr.undrewN | apply Fr.drew | apply Fr.drewN | apply Fr.alloc))) (heap_new _ _) hQ (by omega) _ (fun h => absurd h (by omega)) 23 23
              simp only [Nat.sub_self, Nat.add_zero, Nat.zero_add] at hr1 hr2
              refine sched_l rfl (by decide) (fun _ hK => ?_)
              refine step_append rfl (.tmp 60) (.tmp 63) 23 rfl _ _ hr1 (hK _ _ ?_)
              clear hK
              (try simp only [Act.put, List.setIfInBounds_toArray, List.set_cons_zero, List.set_cons_succ])
              refine sched_l rfl (by decide) (fun _ hK => ?_)
              refine step_append rfl (.tmp 55) (.tmp 64) 23 rfl _ _ hr2 (hK _ _ ?_)
              clear hK
              (try simp only [Act.put, List.setIfInBounds_toArray, List.set_cons_zero, List.set_cons_succ])
              clear hr1 hr2
              have hs9 := hs3.out.same ((show Same wr _ from (by repeat (first | exact Fr.refl _ _ | apply Fr.undrew | apply Fr.undrewN | apply Fr.drew | apply Fr.drewN | apply Fr.alloc))).same hs2')
              have ho9 := (ho2.base (base' := w.heap.size) (by have := hs3.out.size; simp; omega)).owns (n := 0 + 1) (by rw [List.length_append, List.length_take, List.length_cons, List.length_drop, hLl.out]; omega)
              clear ho2 hs2'
              rw [hfin.out] at ho9
              replace ho9 := Lib.hid ho9; replace hs9 := Lib.hid hs9
              repeat (first | (refine sched_w rfl rfl (fun _ hK => ?_); go_simp; refine hK _ ?_; clear hK) | (refine sched_s rfl rfl (fun _ hK => ?_); go_simp; first | (refine hK _ ?_; clear hK) | (refine ⟨_, fun _ => rfl, hK _ ?_⟩; clear hK)))
              refine sched_nil (NoPanic.normal ?_)
              go_wp2_with fail
              all_goals
                go_roundw
                case rel => exact ⟨0 + 1, c2, some ⟨g2, 0, none⟩, by go_num, by omega, by simp, ho9.out, hs9.out⟩
                case measure => simp [intOf]; omega
        · obtain ⟨q, rfl⟩ : ∃ p, q = p + 1 := ⟨q - 1, by omega⟩
          have hql : q < L.length := by rw [hLl.out]; omega
          have hrow := (SliceAt.of_owns hown2).row
          obtain ⟨b2, off2, rfl, hb2, c2⟩ := int_cell hrow (k := q) hql hLl.out
          have hyr := hLr.out _ (List.getElem_mem hql)
          have hCOy := CO.out _ hyr _ hs3
          have hCBy := CB.out _ hyr
          have hLTy := hLT.out L[q]
          have hst := fun h => ins_stop (lt := lt) (x := x) hql h
          have hgo := fun h => ins_go (lt := lt) (x := x) hql h hins
          generalize L[q] = y at *
          generalize cooA (posA o) (lst gs) y = A2 at *
          generalize cooB (lst gs) y = B2 at *
          obtain ⟨a20, a21, b20, b21⟩ := hCBy
          have p1 := prod_bd ⟨a20, a21⟩ ⟨b0, b1⟩
          have p2 := prod_bd ⟨a0, a1⟩ ⟨b20, b21⟩
          generalize hP1 : A2 * B = P1 at *
          generalize hP2 : A * B2 = P2 at *
          obtain ⟨p10, p11⟩ := p1
          obtain ⟨p20, p21⟩ := p2
          have hwq : IntKind.i64.wrap (((q + 1 : Nat) : Int) - 1) = q := by rw [IntWalk.i64_in _ (by omega)]; omega
          replace hins := Lib.hid hins; replace hown2 := Lib.hid hown2; replace hs3 := Lib.hid hs3; replace hrow := Lib.hid hrow; replace hyr := Lib.hid hyr; replace hCOy := Lib.hid hCOy; replace hst := Lib.hid hst; replace hgo := Lib.hid hgo; replace hLTy := Lib.hid hLTy
          go_wp2_with fail
          refine hCOy.out.mono ?_
          rintro e w4 ⟨rfl, hs4⟩
          have hs5 := hs3.out.same hs4
          have hown3 := owns_same hown2.out hs4
          clear hs4
          by_cases hc : P1 ≤ P2
          · have hins2 := hst.out (by rw [hLTy.out]; simp; omega)
            have hfin : L.take (q + 1) ++ x :: L.drop (q + 1) = sortK lt o (j + 1) := by rw [hks.out, hins.out, hins2, List.append_assoc]; rfl
            obtain ⟨hbo, cx⟩ := hcx.out _ hs5
            have hrow4 := (SliceAt.of_owns hown3).row
            obtain ⟨a2, c2', e2, hrc, hcm, hcn, hcell⟩ := hrow4.2
            cases e2
            clear hrow
            have hrow := hrow4
            clear hrow4
            have hQ : q + 1 ≤ j := by omega
            have n1 : (q : Int) + 1 ≤ c := by omega
            have n0 : (0 : Int) ≤ (q : Int) + 1 := by omega
            have n3 : (q : Int) + 1 ≤ j := by omega
            have n4 : ((q : Int) + 1).toNat = q + 1 := by omega
            have n5 : q + 1 ≤ c := by omega
            have n6 : (j : Int) < n := by omega
            replace hs5 := Lib.hid hs5; replace hins2 := Lib.hid hins2; replace hcell := Lib.hid hcell
            rcases hown3.2 with ⟨e0, ez⟩ | ⟨g, c', cur, e0, hg0, _⟩
            · cases e0
            · cases e0
              by_cases hqj : q + 1 < j
              · have hcp : c ≠ q + 1 := by omega
                replace hown3 := Lib.hid hown3; replace hrow := Lib.hid hrow; replace hfin := Lib.hid hfin
                go_upto_region 11 with fail
                refine wp_region_sched (L2 bo bo) [0, 0, 0, 0, 0, 0, 0, 1, 2, 0, 0, 0, 3, 3, 0] [0, 1, 2, 3, 4, 5, 6, 9, 10, 11, 7, 8, 12, 13, 14] (by kernel_rfl) (by kernel_rfl) ?_
                repeat (first | (refine sched_w rfl rfl (fun _ hK => ?_); go_simp; refine hK _ ?_; clear hK) | (refine sched_s rfl rfl (fun _ hK => ?_); go_simp; first | (refine hK _ ?_; clear hK) | (refine ⟨_, fun _ => rfl, hK _ ?_⟩; clear hK)))
                refine sched_g rfl rfl (fun _ hK => ?_); go_simp; refine hK _ _ (Kp.of_same (by repeat (first | exact Fr.refl _ _ | apply Fr.alloc | apply Fr.drewN | apply Fr.drew | apply Fr.undrew | apply Fr.undrewN))) ?_; clear hK
                obtain ⟨g1, c1', w1', g2, c2, w2', hr1, hr2, ho2, hs2'⟩ := ins_runs (w := ((w4.alloc (.cells #[.int .i64 x] 3)).drew)) (x := x) w4.heap.size ((hrow.out).same (by repeat (first | exact Fr.refl _ _ | apply Fr.undrew | apply Fr.undrewN | apply Fr.drew | apply Fr.drewN | apply Fr.alloc))) (heap_new _ _) hQ (by omega) _ (fun _ b off e => by cases e; simp; rfl) 23 23
                rw [show (q + 1) + (1 + (j - (q + 1))) = j + 1 by omega] at hr2
                refine sched_l rfl (by decide) (fun _ hK => ?_)
                refine step_append rfl (.tmp 60) (.tmp 63) 23 rfl _ _ hr1 (hK _ _ ?_)
                clear hK
                (try simp only [Act.put, List.setIfInBounds_toArray, List.set_cons_zero, List.set_cons_succ])
                refine sched_l rfl (by decide) (fun _ hK => ?_)
                refine step_append rfl (.tmp 55) (.tmp 64) 23 rfl _ _ hr2 (hK _ _ ?_)
                clear hK
                (try simp only [Act.put, List.setIfInBounds_toArray, List.set_cons_zero, List.set_cons_succ])
                clear hr1 hr2
                have hs9 := hs5.out.same ((show Same w4 _ from (by repeat (first | exact Fr.refl _ _ | apply Fr.undrew | apply Fr.undrewN | apply Fr.drew | apply Fr.drewN | apply Fr.alloc))).same hs2')
                have ho9 := (ho2.base (base' := w.heap.size) (by have := hs5.out.size; simp; omega)).owns (n := j + 1) (by rw [List.length_append, List.length_take, List.length_cons, List.length_drop, hLl.out]; omega)
                clear ho2 hs2'
                rw [hfin.out] at ho9
                replace ho9 := Lib.hid ho9; replace hs9 := Lib.hid hs9
                repeat (first | (refine sched_w rfl rfl (fun _ hK => ?_); go_simp; refine hK _ ?_; clear hK) | (refine sched_s rfl rfl (fun _ hK => ?_); go_simp; first | (refine hK _ ?_; clear hK) | (refine ⟨_, fun _ => rfl, hK _ ?_⟩; clear hK)))
                refine sched_nil (NoPanic.normal ?_)
                go_wp2_with fail
                all_goals
                  go_roundw
                  case rel => exact ⟨j + 1, c2, some ⟨g2, 0, none⟩, by go_num, by omega, by simp, ho9.out, hs9.out⟩
                  case measure => simp [intOf]; omega
              · obtain rfl : j = q + 1 := by omega
                have n7 : (q : Int) + 1 < n := by omega
                have n8 : q + 1 < n := by omega
                replace hown3 := Lib.hid hown3; replace hrow := Lib.hid hrow; replace hfin := Lib.hid hfin
                go_upto_region 11 with fail
                refine wp_region_sched (L2 bo bo) [0, 0, 0, 0, 0, 0, 0, 1, 2, 0, 0, 0, 3, 3, 0] [0, 1, 2, 3, 4, 5, 6, 9, 10, 11, 7, 8, 12, 13, 14] (by kernel_rfl) (by kernel_rfl) ?_
                repeat (first | (refine sched_w rfl rfl (fun _ hK => ?_); go_simp; refine hK _ ?_; clear hK) | (refine sched_s rfl rfl (fun _ hK => ?_); go_simp; first | (refine hK _ ?_; clear hK) | (refine ⟨_, fun _ => rfl, hK _ ?_⟩; clear hK)))
                refine sched_g rfl rfl (fun _ hK => ?_); go_simp; refine hK _ _ (Kp.of_same (by repeat (first | exact Fr.refl _ _ | apply Fr.alloc | apply Fr.drewN | apply Fr.drew | apply Fr.undrew | apply Fr.undrewN))) ?_; clear hK
                obtain ⟨g1, c1', w1', g2, c2, w2', hr1, hr2, ho2, hs2'⟩ := ins_runs (w := ((w4.alloc (.cells #[.int .i64 x] 3)).drew)) (x := x) w4.heap.size ((hrow.out).same (by repeat (first | exact Fr.refl _ _ | apply Fr.undrew | apply Fr.undrewN | apply Fr.drew | apply Fr.drewN | apply Fr.alloc))) (heap_new _ _) hQ (by omega) _ (fun h => absurd h (by omega)) 23 23
                simp only [Nat.sub_self, Nat.add_zero, Nat.zero_add] at hr1 hr2
                refine sched_l rfl (by decide) (fun _ hK => ?_)
                refine step_append rfl (.tmp 60) (.tmp 63) 23 rfl _ _ hr1 (hK _ _ ?_)
                clear hK
                (try simp only [Act.put, List.setIfInBounds_toArray, List.set_cons_zero, List.set_cons_succ])
                refine sched_l rfl (by decide) (fun _ hK => ?_)
                refine step_append rfl (.tmp 55) (.tmp 64) 23 rfl _ _ hr2 (hK _ _ ?_)
                clear hK
                (try simp only [Act.put, List.setIfInBounds_toArray, List.set_cons_zero, List.set_cons_succ])
                clear hr1 hr2
                have hs9 := hs5.out.same ((show Same w4 _ from (by repeat (first | exact Fr.refl _ _ | apply Fr.undrew | apply Fr.undrewN | apply Fr.drew | apply Fr.drewN | apply Fr.alloc))).same hs2')
                have ho9 := (ho2.base (base' := w.heap.size) (by have := hs5.out.size; simp; omega)).owns (n := (q + 1) + 1) (by rw [List.length_append, List.length_take, List.length_cons, List.length_drop, hLl.out]; omega)
                clear ho2 hs2'
                rw [hfin.out] at ho9
                replace ho9 := Lib.hid ho9; replace hs9 := Lib.hid hs9
                repeat (first | (refine sched_w rfl rfl (fun _ hK => ?_); go_simp; refine hK _ ?_; clear hK) | (refine sched_s rfl rfl (fun _ hK => ?_); go_simp; first | (refine hK _ ?_; clear hK) | (refine ⟨_, fun _ => rfl, hK _ ?_⟩; clear hK)))
                refine sched_nil (NoPanic.normal ?_)
                go_wp2_with fail
                all_goals
                  go_roundw
                  case rel => exact ⟨(q + 1) + 1, c2, some ⟨g2, 0, none⟩, by go_num, by omega, by simp, ho9.out, hs9.out⟩
                  case measure => simp [intOf]; omega
          · have hins2 := hgo.out (by rw [hLTy.out]; simpa using hc)
            replace hs5 := Lib.hid hs5; replace hown3 := Lib.hid hown3; replace hins2 := Lib.hid hins2
            go_wp2_with fail
            go_roundw
            case rel => exact ⟨q, by go_num, by omega, hins2.out, hown3.out, hs5.out⟩
            case measure => simp [intOf] <;> omega
    · obtain rfl : j = n := by omega
      rw [hend.out] at hown
      replace hown := Lib.hid hown; replace hs := Lib.hid hs
      go_wp2_with fail
      go_ret
      exact ⟨a', c, rfl, (SliceAt.of_owns hown.out).row, hs.out⟩
end Go.Proofs.Ytmmjijmmocabhaa
