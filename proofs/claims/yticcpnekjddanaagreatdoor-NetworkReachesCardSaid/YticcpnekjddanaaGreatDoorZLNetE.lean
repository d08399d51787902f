/-  -/
import Derived.Test.YticcpnekjddanaaGreatDoorZLNetC
import Derived.Test.YticcpnekjddanaaGreatDoorZRowL
import Derived.Test.YticcpnekjddanaaGreatDoorZMkP
set_option maxRecDepth 100000
set_option maxHeartbeats 8000000
set_option linter.unusedVariables false
set_option linter.unusedSimpArgs false
namespace Go.Proofs.YticcpnekjddanaaGreatDoor
open Go.RowKit
theorem qpz {o : List Int} (ho : o = [0, 1] ∨ o = [1, 0]) (g g2 b : Nat) (aO : Option Addr) (cO : Nat) : qby (exN o g g2 b aO cO) := by
 refine ⟨?_, fun A hA => ?_, fun A hA => ?_, ?_⟩
 · rcases ho with rfl | rfl
   · exact (qqu g g2 b aO cO).1
   · exact (qqu g g2 b aO cO).2
 · rcases List.mem_cons.1 hA with rfl | hA
   · exact ⟨by simp [qfb], by simp [qfb], by simp [qfb]⟩
   · rcases List.mem_cons.1 hA with rfl | hA
     · exact ⟨by simp [qfb], by simp [qfb], by simp [qfb]⟩
     · simp at hA
 · rcases List.mem_cons.1 hA with rfl | hA
   · simp [qfb]
   · rcases List.mem_cons.1 hA with rfl | hA
     · simp [qfb]
     · simp at hA
 · rcases ho with rfl | rfl
   · rw [(qiG g g2 b aO cO).1]; omega
   · rw [(qiG g g2 b aO cO).2]; omega
theorem ex_grp {o : List Int} (ho : o = [0, 1] ∨ o = [1, 0]) (g g2 b : Nat) (aO : Option Addr) (cO : Nat) : ql6 (exN o g g2 b aO cO) := by
 refine ⟨(qpz ho g g2 b aO cO).ok, by simp [exN], fun A hA => ?_, fun A hA e he => ?_⟩
 · rcases List.mem_cons.1 hA with rfl | hA
   · simp [qfb]
   · rcases List.mem_cons.1 hA with rfl | hA
     · simp [qfb]
     · simp at hA
 · rcases List.mem_cons.1 hA with rfl | hA
   · simp [qfb] at he; omega
   · rcases List.mem_cons.1 hA with rfl | hA
     · simp [qfb] at he; omega
     · simp at hA
theorem exEnc {o : List Int} (ho : o = [0, 1] ∨ o = [1, 0]) (R : List Bool) (hR : R = if o = [0, 1] then [true, false] else [false, true]) (g g2 b : Nat) (aO : Option Addr) (cO : Nat) (aX : Option Addr) (cX : Nat) (W : World) (hat : (exN o g g2 b aO cO).at W) (hX : qan W (.slice aX 2 cX) 2 (gw [1, 0])) :
 Calls Tryz.prog 18 #[.agg #[.slice (some ⟨b, 0, none⟩) 2 2, .slice aO 2 cO], .slice aX 2 cX] W fun e w' => ∃ g, e = .returned (.tuple #[.slice (some ⟨g, 0, none⟩) 2 2, .int .i64 0]) ∧ qan w' (.slice (some ⟨g, 0, none⟩) 2 2) 2 (gz R) ∧ qad W w' := by
 have hall : (exN o g g2 b aO cO).all = 2 := by rcases ho with rfl | rfl; exact (qiG g g2 b aO cO).1; exact (qiG g g2 b aO cO).2
 have hcode : qbl (exN o g g2 b aO cO).bs (exN o g g2 b aO cO).on [1, 0] = R := by
  rcases ho with rfl | rfl
  · rw [hR]; exact (qn6 g g2 b aO cO).1
  · rw [hR]; exact (qn6 g g2 b aO cO).2
 have hol : o.length = 2 := by rcases ho with rfl | rfl <;> rfl
 have hRl : R.length = 2 := by rw [hR]; split <;> rfl
 have H := qlJ (exN o g g2 b aO cO) (qpz ho g g2 b aO cO) [1, 0] aX cX W hat rfl (fun i hi => by
  rcases i with _ | _ | i
  · show 1 < 2; omega
  · show 0 < 2; omega
  · exact absurd hi (by simp [exN])) hX
 rw [hall, hcode] at H
 have hH : (exN o g g2 b aO cO).o.length = 2 := hol
 rw [hH] at H
 refine H.mono ?_
 rintro e w' ⟨g', rfl, hB, _, hs⟩
 exact ⟨g', rfl, (qcW (w := w') hB (by rw [qbS, hRl]) (by unfold maxLen; omega)).row, hs⟩
theorem exReach (g g2 b : Nat) (aO : Option Addr) (cO : Nat) (W : World) (hat : (exN [0, 1] g g2 b aO cO).at W) :
 Calls Tryz.prog 7 #[.agg #[.slice (some ⟨b, 0, none⟩) 2 2, .slice aO 2 cO]] W fun e w' => ∃ (a : Option Addr) (c : Nat) (L : List Nd) (q : Int), e = .returned (.tuple #[.agg #[.int .i64 2, .slice a L.length c, .int .i64 q], .int .i64 3, .int .i64 0]) ∧ Dg.at w' ⟨2, a, c, L, q⟩ ∧ qbN 2 [true, true, true, true] L q ∧ qad W w' := by
 have H := qdV _ (qpz (.inl rfl) g g2 b aO cO) (ex_grp (.inl rfl) g g2 b aO cO).fits W hat
 rw [(qiG g g2 b aO cO).1, ex_ev, ex_S, ex_R] at H
 refine H.mono ?_
 intro e w' hC
 obtain ⟨k, a, c, L, q, rfl, hd, ht, h1, h2, hs⟩ := hC.open
 obtain ⟨c0, c1, c2, c3, c4⟩ := ex_cl
 have hk : k = 3 := by
  rcases Nat.lt_trichotomy k 3 with h | h | h
  · exfalso
    have : k = 0 ∨ k = 1 ∨ k = 2 := by omega
    rcases this with rfl | rfl | rfl
    · rw [c1, c0] at h1; simp at h1
    · rw [c2, c1] at h1; simp at h1
    · rw [c3, c2] at h1; simp at h1
  · exact h
  · exact absurd (c3.trans c4.symm) (h2 3 h)
 subst hk
 rw [c3] at ht
 exact ⟨a, c, L, q, rfl, hd, ht, hs⟩
theorem exCount (g g2 b : Nat) (aO : Option Addr) (cO : Nat) (a : Option Addr) (c : Nat) (L : List Nd) (q : Int) (W : World) (hat : (exN [0, 1] g g2 b aO cO).at W) (hd : Dg.at W ⟨2, a, c, L, q⟩) (ht : qbN 2 [true, true, true, true] L q) :
 Calls Tryz.prog 19 #[.agg #[.slice (some ⟨b, 0, none⟩) 2 2, .slice aO 2 cO], .agg #[.int .i64 2, .slice a L.length c, .int .i64 q]] W fun e w' => e = .returned (.tuple #[.int .i64 4, .int .i64 0]) ∧ qad W w' := by
 have H := qnS _ (qpz (.inl rfl) g g2 b aO cO) ⟨2, a, c, L, q⟩ 2 [true, true, true, true] W hat hd ⟨rfl, ht⟩
 rw [ex_mErr] at H
 exact H
theorem qn7 (o : List Int) (ho : o.length = 2) (g g2 b : Nat) (w : World) (hA : qdm w (some ⟨b, 0, none⟩) 2 [qfb [0, 1] [(0, 0, 1), (1, 1, 0)] g, qfb [1, 2] [(0, 1, 1), (1, 2, 0)] g2]) :
 let W := (w.alloc (.cells (gw o).toArray 3)).alloc (.cells #[.slice (some ⟨b, 0, none⟩) 2 2, .slice (some ⟨w.heap.size, 0, none⟩) 2 2] 35)
 (exN o g g2 b (some ⟨w.heap.size, 0, none⟩) 2).at W ∧ qad w W ∧ W.heap[w.heap.size + 1]? = some (.cells #[.slice (some ⟨b, 0, none⟩) 2 2, .slice (some ⟨w.heap.size, 0, none⟩) 2 2] 35 (0, 0)) ∧ W.heap.size = w.heap.size + 2 := by
 intro W
 have k0 := qab (gv w (.cells (gw o).toArray 3)) (.cells #[.slice (some ⟨b, 0, none⟩) 2 2, .slice (some ⟨w.heap.size, 0, none⟩) 2 2] 35)
 have k1 := gv (w.alloc (.cells (gw o).toArray 3)) (.cells #[.slice (some ⟨b, 0, none⟩) 2 2, .slice (some ⟨w.heap.size, 0, none⟩) 2 2] 35)
 rw [← al1] at k1
 have hs : qad w W := fs2
 refine ⟨⟨hA.same hs, ?_⟩, hs, k1, by simp [W]⟩
 show qan W (.slice (some ⟨w.heap.size, 0, none⟩) o.length 2) o.length (gw o)
 rw [ho]
 exact (qcW (w := w) k0 (by simp [gw, ho]) (by unfold maxLen; omega)).row
theorem qkV (xs : List Int) {n : Nat} (w : World) (hn : xs.length = n) (hm : n ≤ 1000) {p : Nat} (hp : w.heap.size = p) : qan (w.alloc (.cells (gw xs).toArray 3)) (.slice (some ⟨p, 0, none⟩) n n) n (gw xs) := by
 subst hp
 exact (qcW (w := w) (gv w (.cells (gw xs).toArray 3)) (by simp [gw, hn]) (by unfold maxLen; omega)).row
theorem qiH (xs : List Bool) {n : Nat} (w : World) (hn : xs.length = n) (hm : n ≤ 1000) {p : Nat} (hp : w.heap.size = p) : qan (w.alloc (.cells (gz xs).toArray 4)) (.slice (some ⟨p, 0, none⟩) n n) n (gz xs) := by
 subst hp
 exact (qcW (w := w) (gv w (.cells (gz xs).toArray 4)) (by simp [gz, hn]) (by unfold maxLen; omega)).row
theorem qjV (w : World) : Calls Tryz.prog 4 #[] w fun e w' => e = .returned (.bool true) ∧ qad w w' := by
 go_enter Tryz.func4, Tryz.ntmps4
 go_wp2_with fail
 refine (qgb _).mono ?_
 rintro e w1 ⟨g, g2, b, rfl, hA, s1⟩
 replace hA := gi hA; replace s1 := gi s1
 go_upto_region 2 with fail
 obtain ⟨hN, sN, kN, zN⟩ := qn7 [0, 1] rfl g g2 b w1 hA.out
 rw [show (gw [0, 1]).toArray = #[Value.int .i64 0, Value.int .i64 1] from rfl] at hN sN kN zN
 generalize (w1.alloc (.cells #[.int .i64 0, .int .i64 1] 3)).alloc (.cells #[.slice (some ⟨b, 0, none⟩) 2 2, .slice (some ⟨w1.heap.size, 0, none⟩) 2 2] 35) = W1 at *
 have sW1 := s1.out.same sN
 generalize w1.heap.size = p1 at *
 clear hA sN s1
 replace hN := gi hN; replace kN := gi kN; replace sW1 := gi sW1
 go_wp2_with fail
 refine (qgb _).mono ?_
 rintro e w2 ⟨g3, g4, b2, rfl, hA2, s2⟩
 replace hA2 := gi hA2; replace s2 := gi s2
 go_upto_region 3 with fail
 obtain ⟨hN2, sN, kN2, zN⟩ := qn7 [1, 0] rfl g3 g4 b2 w2 hA2.out
 rw [show (gw [1, 0]).toArray = #[Value.int .i64 1, Value.int .i64 0] from rfl] at hN2 sN kN2 zN
 generalize (w2.alloc (.cells #[.int .i64 1, .int .i64 0] 3)).alloc (.cells #[.slice (some ⟨b2, 0, none⟩) 2 2, .slice (some ⟨w2.heap.size, 0, none⟩) 2 2] 35) = W2 at *
 have s12 := s2.out.same sN
 have sW2 := sW1.out.same s12
 have hN1 := hN.out.same s12
 have kN1 := (s12.block _ (gu kN.out) id).trans kN.out
 generalize w2.heap.size = p2 at *
 clear hA2 sN s2 s12 hN kN sW1
 replace hN1 := gi hN1; replace kN1 := gi kN1; replace hN2 := gi hN2; replace kN2 := gi kN2; replace sW2 := gi sW2
 obtain ⟨x0, x1, xl⟩ := g2l kN1.out
 go_wp2_with fail
 refine (exEnc (.inl rfl) [true, false] rfl g g2 b _ 2 _ 2 _ (hN1.out.same fs2) (qkV (n := 2) [1, 0] W2 rfl (by omega) zN)).mono ?_
 rintro e w3 ⟨ga, rfl, hRa, s3⟩
 clear x0 x1 xl
 have t3 : qad W2 (W2.alloc (.cells #[.int .i64 1, .int .i64 0] 3)) := fs2
 replace s3 := t3.same s3
 replace kN1 := gi (s3.at kN1.out id); replace kN2 := gi (s3.at kN2.out id)
 have hN3 := hN1.out.same s3
 have hN4 := hN2.out.same s3
 have sW3 := sW2.out.same s3
 clear t3 s3 hN1 hN2 sW2 zN
 replace hRa := gi hRa; replace hN3 := gi hN3; replace hN4 := gi hN4; replace sW3 := gi sW3
 go_upto_region 4 with fail
 obtain ⟨x0, x1, xl⟩ := g2l kN2.out
 go_wp2_with fail
 refine (exEnc (.inr rfl) [false, true] rfl g3 g4 b2 _ 2 _ 2 _ (hN4.out.same fs2) (qkV (n := 2) [1, 0] w3 rfl (by omega) rfl)).mono ?_
 rintro e w4 ⟨gb, rfl, hRb, s4⟩
 clear x0 x1 xl
 have t4 : qad w3 (w3.alloc (.cells #[.int .i64 1, .int .i64 0] 3)) := fs2
 replace s4 := t4.same s4
 replace kN1 := gi (s4.at kN1.out id)
 have hN5 := hN3.out.same s4
 have hRa4 := hRa.out.same s4
 have sW4 := sW3.out.same s4
 clear t4 s4 hN3 hN4 kN2 hRa sW3
 replace hRa4 := gi hRa4; replace hRb := gi hRb; replace hN5 := gi hN5; replace sW4 := gi sW4
 go_upto_region 5 with fail
 obtain ⟨x0, x1, xl⟩ := g2l kN1.out
 go_wp2_with fail
 refine (exReach g g2 b _ 2 _ hN5.out).mono ?_
 rintro e w5 ⟨ad, cd, Ld, qd, rfl, hd, ht, s5⟩
 clear x0 x1 xl
 replace kN1 := gi (s5.at kN1.out id)
 have hN6 := hN5.out.same s5
 have hRa5 := hRa4.out.same s5
 have hRb5 := hRb.out.same s5
 have sW5 := sW4.out.same s5
 clear s5 hN5 hRa4 hRb sW4
 replace hd := gi hd; replace ht := gi ht; replace hN6 := gi hN6; replace hRa5 := gi hRa5; replace hRb5 := gi hRb5; replace sW5 := gi sW5
 go_upto_region 6 with fail
 have kd := gv w5 (.cells #[.int .i64 2, .slice ad Ld.length cd, .int .i64 qd] 46)
 have s6 : qad w5 (w5.alloc (.cells #[.int .i64 2, .slice ad Ld.length cd, .int .i64 qd] 46)) := fs2
 replace kN1 := gi (s6.at kN1.out id)
 have hN7 := hN6.out.same s6
 have hRa6 := hRa5.out.same s6
 have hRb6 := hRb5.out.same s6
 have hd6 := qaa.same hd.out s6
 have sW6 := sW5.out.same s6
 generalize w5.alloc (.cells #[.int .i64 2, .slice ad Ld.length cd, .int .i64 qd] 46) = W6 at *
 generalize w5.heap.size = p5 at *
 clear s6 hN6 hRa5 hRb5 hd sW5
 replace kd := gi kd; replace hN7 := gi hN7; replace hRa6 := gi hRa6; replace hRb6 := gi hRb6; replace hd6 := gi hd6; replace sW6 := gi sW6
 obtain ⟨x0, x1, xl⟩ := g2l kN1.out
 obtain ⟨y0, y1, y2, yl⟩ := g3l kd.out
 go_wp2_with fail
 refine (exCount g g2 b _ 2 ad cd Ld qd _ hN7.out hd6.out ht.out).mono ?_
 rintro e w7 ⟨rfl, s7⟩
 clear x0 x1 xl
 clear y0 y1 y2 yl
 have hRa7 := hRa6.out.same s7
 have hRb7 := hRb6.out.same s7
 have sW7 := sW6.out.same s7
 clear s7 hRa6 hRb6 hd6 sW6 hN7 kd kN1 ht
 replace hRa7 := gi hRa7; replace hRb7 := gi hRb7; replace sW7 := gi sW7
 go_wp2_with fail
 refine (qgR [true, false] [true, false] _ _ 2 2 _ _ _ rfl rfl (hRa7.out.same fs2) (qiH (n := 2) [true, false] w7 rfl (by omega) rfl) (by omega)).mono ?_
 rintro e w8 ⟨rfl, s8⟩
 have t8 : qad w7 (w7.alloc (.cells #[.bool true, .bool false] 4)) := fs2
 replace s8 := t8.same s8
 have hRb8 := hRb7.out.same s8
 have sW8 := sW7.out.same s8
 clear t8 s8 hRa7 hRb7 sW7
 simp only [decide_true]
 replace hRb8 := gi hRb8; replace sW8 := gi sW8
 go_wp2_with fail
 refine (qgR [false, true] [false, true] _ _ 2 2 _ _ _ rfl rfl (hRb8.out.same fs2) (qiH (n := 2) [false, true] w8 rfl (by omega) rfl) (by omega)).mono ?_
 rintro e w9 ⟨rfl, s9⟩
 have t9 : qad w8 (w8.alloc (.cells #[.bool false, .bool true] 4)) := fs2
 replace s9 := t9.same s9
 have sW9 := sW8.out.same s9
 clear t9 s9 hRb8 sW8
 simp only [decide_true]
 replace sW9 := gi sW9
 go_wp2_with fail
 go_ret
 exact ⟨rfl, sW9.out⟩
end Go.Proofs.YticcpnekjddanaaGreatDoor
