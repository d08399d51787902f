/-  -/
import Derived.Test.YticcpnekjddanaaGreatDoorZFrom
set_option maxRecDepth 100000
set_option maxHeartbeats 1000000
set_option linter.unusedVariables false
set_option linter.unusedSimpArgs false
namespace Go.Proofs.YticcpnekjddanaaGreatDoor
open Go.RowKit
structure qeJ (w : World) (B p m : Nat) (l : List Dg) (box : Nat) (k : Nat) (v : Value) (wr : World) (a : Option Addr) (cap : Nat) : Prop where
 le : k ≤ l.length
 bld : qah wr B p m a cap (qay (l.take k) ([], [])).1
 roots : ∃ ar cr, v = .slice ar k cr ∧ wr.ownsRow w.heap.size 3 1 (.slice ar k cr) k (gw (qay (l.take k) ([], [])).2)
 same : qad w wr
 bx : wr.heap[box]? = some (.cells #[.int .i64 0, .slice none 0 0, .int .i64 0] 46 (0, 0))
theorem qeJ.called {w wr W w3 : World} {B p m : Nat} {l : List Dg} {box k : Nat} {a a3 ar : Option Addr} {cap cap3 cr : Nat} {N' : List Nd}
 (h : qeJ w B p m l box k (.slice ar k cr) wr a cap) (hs : qad wr W)
 (hG : qaK (fun i => BB p m i ∨ False) W w3 (.slice a (qay (l.take k) ([], [])).1.length cap) (.slice a3 N'.length cap3)) :
 w3.ownsRow w.heap.size 3 1 (.slice ar k cr) k (gw (qay (l.take k) ([], [])).2) := by
 have hBW := h.bld.same hs
 obtain ⟨ar', cr', hv, hown⟩ := h.roots
 simp only [Value.slice.injEq, true_and] at hv
 obtain ⟨rfl, rfl⟩ := hv
 have hownW := qag hown hs
 exact qaN hownW hG.1 (fun i hi => by
  obtain ⟨cur, hc⟩ := qaj hownW hi
  have := hBW.apart hc (by decide) (by decide)
  rintro (h' | h' | h')
  · exact this (.inl h')
  · exact this (.inr h')
  · exact h')
theorem qeJ.next {w wr W w3 w5 : World} {B p m : Nat} {l : List Dg} {box k : Nat} {a a3 ar an : Option Addr} {cap cap3 cr cn : Nat} {ob : Obj}
 (h : qeJ w B p m l box k (.slice ar k cr) wr a cap) (hk : k < l.length) (hB : w.heap.size ≤ B) (hs : qad wr W)
 (hB3 : qah w3 B p m a3 cap3 (qa5 l[k].L ((qay (l.take k) ([], [])).1, [0, 1])).1)
 (hG : qaK (fun i => BB p m i ∨ False) W w3 (.slice a (qay (l.take k) ([], [])).1.length cap) (.slice a3 (qa5 l[k].L ((qay (l.take k) ([], [])).1, [0, 1])).1.length cap3))
 (hown5 : w5.ownsRow w.heap.size 3 1 (.slice an (k + 1) cn) (k + 1) (gw (qay (l.take k) ([], [])).2 ++ [.int .i64 ((qa5 l[k].L ((qay (l.take k) ([], [])).1, [0, 1])).2.getD l[k].r.toNat 0)]))
 (hg5 : qaK (fun _ => False) (w3.alloc ob) w5 (.slice ar k cr) (.slice an (k + 1) cn)) :
 qeJ w B p m l box (k + 1) (.slice an (k + 1) cn) w5 a3 cap3 := by
 have hBW := h.bld.same hs
 obtain ⟨ar', cr', hv, hown⟩ := h.roots
 simp only [Value.slice.injEq, true_and] at hv
 obtain ⟨rfl, rfl⟩ := hv
 have hownW := qag hown hs
 have hown3 : w3.ownsRow w.heap.size 3 1 (.slice ar k cr) k (gw (qay (l.take k) ([], [])).2) := qaN hownW hG.1 (fun i hi => by
  obtain ⟨cur, hc⟩ := qaj hownW hi
  have := hBW.apart hc (by decide) (by decide)
  rintro (h' | h' | h')
  · exact this (.inl h')
  · exact this (.inr h')
  · exact h')
 have s3 : qad w w3 := hG.same_base hBW (h.same.same hs) hB
 have hbx3 := qbz hBW hG (hs.at h.bx id) (by decide) (by decide)
 have hg' : qaK (fun _ => False) w3 w5 (.slice ar k cr) (.slice an (k + 1) cn) := (qaK.of_same _ (show qad w3 (w3.alloc ob) from fs1)).trans hg5
 have hS : ∀ i, (Value.slice ar k cr).ownBlock = some i ∨ False → ∃ cur, w3.heap[i]? = some (.cells cur 3 (0, 0)) := fun i hi => qaj hown3 (hi.resolve_right id)
 have hne : ∀ i, (BB p m i ∨ (Value.slice a3 (qa5 l[k].L ((qay (l.take k) ([], [])).1, [0, 1])).1.length cap3).ownBlock = some i) → ¬ ((Value.slice ar k cr).ownBlock = some i ∨ False) := by
  intro i hi hh
  obtain ⟨cur, hc⟩ := hS i hh
  exact hB3.apart hc (by decide) (by decide) hi.symm
 have et : qay (l.take (k + 1)) ([], []) = ((qa5 l[k].L ((qay (l.take k) ([], [])).1, [0, 1])).1, (qay (l.take k) ([], [])).2 ++ [(qa5 l[k].L ((qay (l.take k) ([], [])).1, [0, 1])).2.getD l[k].r.toNat 0]) := by
  rw [List.take_succ_eq_append_getElem hk, qib]
 refine ⟨hk, ?_, ⟨an, cn, rfl, ?_⟩, ?_, ?_⟩
 · rw [et]
   exact hB3.fr hg'.1 (fun hh => hne p (.inl (.inl rfl)) hh) (fun hh => hne m (.inl (.inr rfl)) hh) (fun i hi hh => hne i (.inr hi) hh)
 · rw [et]; simpa [gw] using hown5
 · exact s3.trans hg'.1 (fun i hi hh => by
     have := hown3.lt i (hh.resolve_right id)
     omega)
 · refine hg'.1.at hbx3 (fun hh => ?_)
   obtain ⟨cur, hc⟩ := hS _ hh
   rw [hc] at hbx3
   simp at hbx3
theorem qmB {w : World} {a : Option Addr} {cap : Nat} {l : List Dg} (h : qdf w a cap l) (hn : 0 < l.length) :
 ∃ b off cur, a = some ⟨b, off, none⟩ ∧ w.heap[b]? = some (.cells cur 46 (0, 0)) ∧ w.cell? ⟨b, off, none⟩ = some (.int .i64 (l[0]'hn).n) := by
 obtain ⟨b, off, ha, hb, x0, _⟩ := h.cells hn
 obtain ⟨_, a', cap', he, _, _, _, hx⟩ := h
 obtain ⟨b', off', cur, ha', hh, _⟩ := hx hn
 cases he
 rw [ha] at ha'
 cases ha'
 exact ⟨b, off, cur, ha, hh, by simpa using x0⟩
theorem qaK.same_do {w0 w w' : World} {B p m mm : Nat} {a : Option Addr} {cap : Nat} {N : List Nd} {v' : Value} (hB : qah w B p m a cap N) (hg : qaK (fun i => BB p m i ∨ i = mm) w w' (.slice a N.length cap) v') (h0 : qad w0 w) (hw : w0.heap.size ≤ B) (hm : w0.heap.size ≤ mm) : qad w0 w' := by
 refine h0.trans hg.1 (fun i hi hh => ?_)
 have hp := hB.pb
 have hmb := hB.mb
 rcases hh with hh | (hh | hh) | hh
 · have := hB.own.lt i hh
   omega
 · omega
 · omega
 · omega
theorem qoL (F : FuncId) (eF : ∀ (args : Array Value) (W : World), (callFunc F args).run Tryz.prog W = .ok (.enter F args) W) (a : Option Addr) (cap : Nat) (l : List Dg) (w : World) (h : qdf w a cap l) (hl : l.length ≤ 1000) (h0 : 0 < l.length) (hat : ∀ d ∈ l, d.at w) (hok : ∀ d ∈ l, d.ok) (hcap : ∀ (k : Nat) (hk : k < l.length), (qay (l.take k) ([], [])).1.length + l[k].L.length ≤ 90000000)
 (N' : List Nd) (kk : Int) (fuel : Nat) (s' : Vs) (O : List Nd) (q : Int)
 (hdo : ∀ W B p m mm a' cap' ar cr, qah W B p m a' cap' (qay l ([], [])).1 → qaR ndv (Value.int .i64) W mm ([] : List (Nd × Int)) → mm ≠ m → qaa W 3 1 (.slice ar l.length cr) l.length (gw (qay l ([], [])).2) →
  Calls Tryz.prog F #[.pointer (some ⟨p, 0, none⟩), .slice ar l.length cr, .map (some mm)] W (qmz W B p m mm a' cap' (qay l ([], [])).1 N' kk))
 (hN' : VNd N') (hN'l : N'.length ≤ 90000000) (hkk : qaH N' kk) (hvis : qaW N' fuel start kk = some (s', q)) (hO : s'.1 = O) (hOl : O.length ≤ 16384)
 (hc : ∀ W, qad w W → Calls Tryz.prog 99 #[.slice a l.length cap] W fun e w' => e = .returned (.int .i64 0) ∧ qad W w') :
 Calls Tryz.prog 65 #[.func (.func F) #[] #[], .slice a l.length cap] w (qe0 w (l[0]'h0).n O q) := by
 replace h := gi h
 replace hc := gi hc
 replace hat := gi hat
 replace hok := gi hok
 replace hdo := gi hdo
 have FIN : ∀ B p m a2 cap2 W n, qah W B p m a2 cap2 N' → Calls Tryz.prog 72 #[.pointer (some ⟨p, 0, none⟩), .int .i64 n, .int .i64 kk] W (qe0 W n O q) := by
  intro B p m a2 cap2 W n hB
  refine (qeG B p m a2 cap2 _ n kk fuel s' q W hB hN'.laid hN'l hkk.1 hkk.2 hvis (by rw [hO]; omega)).mono ?_
  intro e w3 hD
  unfold qeF at hD
  rw [if_pos (by rw [hO]; exact hOl), hO] at hD
  exact hD
 replace FIN := gi FIN
 have hmm := @run_makeMap Tryz.prog
 clear hN' hN'l hkk hvis hO hOl
 go_enter Tryz.func65, Tryz.ntmps65
 go_wp2_with fail
 refine (hc.out _ fs1).mono ?_
 rintro e w1 ⟨rfl, hs1⟩
 have bx1 := hs1.at (gv w _) id
 replace hs1 := gi hs1
 replace bx1 := gi bx1
 go_wp2_with fail
 refine (qfz w1).mono ?_
 rintro e w2 ⟨p, m, rfl, hB, hs2⟩
 replace hs2 := gi hs2
 replace hB := gi hB
 have hle : w.heap.size ≤ w1.heap.size := by have := hs1.out.size; simp at this; omega
 replace hle := gi hle
 go_wp2_with fail
 go_loopw [8, 20] (fun v i wr => ∃ (k : Nat) (a' : Option Addr) (cap' : Nat), i = .int .i64 k ∧ qeJ w w1.heap.size p m l w.heap.size k v wr a' cap') (fun _ i _ => l.length - (intOf i).toNat)
 case atStart =>
  exact ⟨0, none, 0, rfl, Nat.zero_le _, hB.out, ⟨none, 0, rfl, World.ownsRow_nil _ _ _ _⟩, ((show qad w _ from fs1).same hs1.out).same hs2.out, hs2.out.at bx1.out id⟩
 case round =>
  obtain ⟨k, a', cap', rfl, hrel⟩ := hrel
  obtain ⟨ar, cr, rfl, -⟩ := hrel.roots
  have hkl := hrel.le
  replace hrel := gi hrel
  by_cases hlt : k < l.length
  · obtain ⟨b, off, ha, hb, x0, x1, x2⟩ := qdf.cells (qaa.same h.out hrel.out.same) hlt
    subst ha
    obtain ⟨i3, hi3, hi3z, hi3s, hi3b⟩ := info_parts qc0
    have hck := hcap k hlt
    have hokk := hok.out l[k] (List.getElem_mem hlt)
    replace hokk := gi hokk
    replace hck := gi hck
    have hatk := hat.out l[k] (List.getElem_mem hlt)
    replace hatk := gi hatk
    go_wp2_with fail
    refine (qme w1.heap.size p m a' cap' (qay (l.take k) ([], [])).1 l[k].n l[k].r l[k].a l[k].cap l[k].L _ (hrel.out.bld.same fs1) (qaa.same hatk.out (hrel.out.same.alloc _)) (fun h0 i hi => Nat.lt_of_lt_of_le (qeb hatk.out h0 i hi) hle.out) hokk.out.1.laid hokk.out.2.1 hokk.out.2.2 hck.out).mono ?_
    rintro e w3 ⟨rfl, a3, cap3, hB3, hG3⟩
    have hown3 := hrel.out.called fs1 hG3
    have hsz : w.heap.size ≤ w3.heap.size := by have := hG3.1.size; have := hrel.out.same.size; simp at *; omega
    have hnext := fun an cn w5 ob => hrel.out.next (an := an) (cn := cn) (w5 := w5) (ob := ob) hlt hle.out fs1 hB3 hG3
    replace hnext := gi hnext
    replace hown3 := gi hown3
    clear hB3 hG3
    obtain ⟨nm, hnm⟩ : ∃ nm, nm = (qa5 l[k].L ((qay (l.take k) ([], [])).1, [0, 1])).2.getD l[k].r.toNat 0 := ⟨_, rfl⟩
    rw [← hnm] at hnext ⊢
    replace hnm := gi hnm
    go_wp2_with (first | (at_builtin; refine qai rfl (.tmp 24) (.tmp 28) 33 rfl w.heap.size 3 i3 (.int .i64 0) 1 8 Tryz.underlying33 hi3 hi3z hi3s hi3b rfl (by decide) (by decide) ar k cr (gw (qay (l.take k) ([], [])).2) rfl (qag hown3.out fs1) (by omega) w3.heap.size [.int .i64 nm] rfl rfl (qae (by simp) _) (by simp [Value.oneCell']) (by simp; omega) ?_; intro an cn w5 hown5 hgrow5; have hF := hnext.out an cn w5 _ hown5 hgrow5; replace hF := gi hF; clear hown5 hgrow5))
    go_roundw
    case rel => exact ⟨k + 1, a3, cap3, by go_num, hF.out⟩
    case measure => simp [intOf]; omega
  · have hkL : k = l.length := by omega
    subst hkL
    have hbld := hrel.out.bld
    obtain ⟨ar', cr', hv, hown⟩ := hrel.out.roots
    simp only [Value.slice.injEq, true_and] at hv
    obtain ⟨rfl, rfl⟩ := hv
    rw [List.take_length] at hbld hown
    have hroots := qaa.of_owns hown
    have hsame := hrel.out.same
    have hbx := hrel.out.bx
    obtain ⟨b, off, cur, ha, hbk, x0⟩ := qmB (qaa.same h.out hsame) h0
    subst ha
    have hb := gu hbk
    replace hbld := gi hbld
    replace hroots := gi hroots
    replace hsame := gi hsame
    replace hbx := gi hbx
    replace hbk := gi hbk
    clear hown hrel
    have hmlt := hbld.out.map.lt
    replace hmlt := gi hmlt
    go_wp2_with fail
    refine qac (Lk b) [0, 0, 0, 0, 1, 0, 0, 0, 2, 2, 3, 0, 0, 3, 0] [0, 1, 2, 3, 5, 6, 7, 4, 8, 9, 10, 11, 12, 13, 14] (by kernel_rfl) (by kernel_rfl) ?_
    repeat ((first | refine gB rfl rfl fun _ k => ?_ | refine gC rfl rfl fun _ k => ?_); go_simp; (first | refine k _ ?_ | refine ⟨_, fun _ => rfl, k _ ?_⟩); clear k)
    refine gF rfl rfl (fun _ hK => ?_)
    go_simp
    refine hK _ _ (Kp.of_same ((Fr.refl _ wr.drew).alloc _)) ?_
    clear hK
    try simp only [Act.put, gj]
    refine gF rfl rfl (fun _ hK => ?_)
    go_simp
    have hMM : qaR ndv (Value.int .i64) (wr.alloc (.map #[] 0)).drew wr.heap.size ([] : List (Nd × Int)) := (qbD rfl).of_block rfl
    refine (hdo.out _ w1.heap.size p m wr.heap.size a' cap' ar cr (hbld.out.same fs1) hMM (by have := hmlt.out; omega) (hroots.out.same fs1)).mono ?_
    rintro e w3 ⟨rfl, a3, cap3, hB3, hG3⟩
    have hbk3 := qcI (hbld.out.same fs1) hMM hG3 (qab hbk.out _) (by decide) (by decide)
    have hbx3 := qcI (hbld.out.same fs1) hMM hG3 (qab hbx.out _) (by decide) (by decide)
    have s3 : qad w w3 := hG3.same_do (hbld.out.same fs1) (hsame.out.same fs1) hle.out (Nat.le_trans hle.out (by have := hbld.out.pb; have := gu hbld.out.blk; omega))
    have hKp : Kp (Lk b) (wr.alloc (.map #[] 0)).drew w3 := ⟨hG3.1.size, fun k hk _ => by rw [show k = b from hk, hbk3]; exact (qab hbk.out _).symm⟩
    refine hK _ _ hKp ?_
    clear hK hKp hG3 hMM hbk3 x0
    try simp only [Act.put, gj]
    replace hB3 := gi hB3
    replace s3 := gi s3
    replace hbx3 := gi hbx3
    refine gD rfl (by decide) (fun _ hK => ?_); go_simp
    refine (FIN.out _ p m a3 cap3 w3 _ hB3.out).mono ?_
    rintro e w4 ⟨ao, co, rfl, hO, hs4⟩
    have kt := hs4.at hbx3.out id
    replace hO := gi hO
    have s4 : qad w w4 := s3.out.same hs4
    replace s4 := gi s4
    obtain ⟨t0, t1, t2⟩ := g3 kt
    have f0 := qak kt 0
    have f1 := qak kt 1
    have f2 := qak kt 2
    have tb := gu kt
    replace kt := gi kt
    refine hK _ _ ?_; clear hK; try simp only [Act.put, gj]
    repeat ((first | refine gB rfl rfl fun _ k => ?_ | refine gC rfl rfl fun _ k => ?_); go_simp; (first | refine k _ ?_ | refine ⟨_, fun _ => rfl, k _ ?_⟩); clear k)
    refine gD rfl (by decide) (fun _ hK => ?_); go_simp
    refine hK _ _ ?_
    clear hK t0 t1 t2 f0 f1 f2 tb
    try simp only [Act.put, gj]
    repeat ((first | refine gB rfl rfl fun _ k => ?_ | refine gC rfl rfl fun _ k => ?_); go_simp; (first | refine k _ ?_ | refine ⟨_, fun _ => rfl, k _ ?_⟩); clear k)
    refine gO (NoPanic.normal ?_)
    have kF := qde (a := .int .i64 (l[0]'h0).n) (c := .slice ao O.length co) (d := .int .i64 q) kt.out
    obtain ⟨d0, d1, d2, db⟩ := g3l kF
    have hF := s4.out.trans (qaU (w := w4) (b := w.heap.size) (a := .int .i64 (l[0]'h0).n) (c := .slice ao O.length co) (d := .int .i64 q)) (fun i hi h => by omega)
    have hOF := hO.out.fr (qaU (w := w4) (b := w.heap.size) (a := .int .i64 (l[0]'h0).n) (c := .slice ao O.length co) (d := .int .i64 q)) (fun k cur hk h => by rw [h, kt.out] at hk; simp at hk)
    replace hOF := gi hOF
    replace hF := gi hF
    clear kF
    go_wp2_with fail
    refine bodyPost_ret (v := .tuple #[.agg #[.int .i64 (l[0]'h0).n, .slice ao O.length co, .int .i64 q], .int .i64 0]) (by simp [results, Tryz.results65, go_sem, d0, d1, d2]) rfl ?_
    exact ⟨ao, co, rfl, hOF.out, hF.out⟩
def qqf (w : World) (n : Int) (O : List Nd) (r c : Int) (e : Ending) (w' : World) : Prop :=
 ∃ ao co, e = .returned (.tuple #[.agg #[.int .i64 n, .slice ao O.length co, .int .i64 r], .int .i64 c]) ∧ qaa w' 132 3 (.slice ao O.length co) O.length (qap O) ∧ qad w w'
theorem qe0.out {w w' : World} {n : Int} {O : List Nd} {r : Int} {e : Ending} (h : qe0 w n O r e w') : qqf w n O r 0 e w' := h
theorem DErr.out {w w' : World} {c : Int} {e : Ending} (h : DErr w c e w') : qqf w 0 [] 0 c e w' := ⟨none, 0, h.1, qaa.nil _ _ _, h.2⟩
theorem qdg {w : World} {g : Nat} {l : List Dg} (h : w.heap[g]? = some (.cells (qbg l).toArray 46 (0, 0))) (hm : l.length ≤ maxLen) : qdf w (some ⟨g, 0, none⟩) l.length l :=
 qaa.of_owns (qaL (base := 0) h (Nat.zero_le _) (qgw l) rfl hm)
theorem qoM (d1 : Dg) (n : Int) (O : List Nd) (r c : Int) (w : World)
 (hc : ∀ W a, qad w W → qdf W a 1 [d1] → Calls Tryz.prog 65 #[.func (.func 66) #[] #[], .slice a 1 1] W (qqf W n O r c)) :
 Calls Tryz.prog 35 #[d1.v] w (qqf w n O r c) := by
 simp only [Dg.v]
 replace hc := gi hc
 go_enter Tryz.func35, Tryz.ntmps35
 go_wp2_with fail
 refine (hc.out _ _ fs1 (qdg (l := [d1]) (qae (by simp) _) (by simp [maxLen]))).mono ?_
 rintro e w1 ⟨ao, co, rfl, hO, hs⟩
 have kt := hs.at (qab (qae (k := w.heap.size + 1) (by simp) _) _) id
 obtain ⟨t0, t1, t2⟩ := g3 kt
 have f0 := qak kt 0
 have f1 := qak kt 1
 have f2 := qak kt 2
 have tb := gu kt
 have kF := qde (a := .int .i64 n) (c := .slice ao O.length co) (d := .int .i64 r) kt
 have d0 := gn kF 0
 have d1' := gn kF 1
 have d2' := gn kF 2
 have hF := ((show qad w _ from fs1).same hs).trans (qaU (w := w1) (b := w.heap.size + 1) (a := .int .i64 n) (c := .slice ao O.length co) (d := .int .i64 r)) (fun i hi h => by omega)
 have hOF := hO.fr (qaU (w := w1) (b := w.heap.size + 1) (a := .int .i64 n) (c := .slice ao O.length co) (d := .int .i64 r)) (fun k cur hk h => by rw [h, kt] at hk; simp at hk)
 replace hF := gi hF
 replace hOF := gi hOF
 clear kF kt hO
 replace hs := gi hs
 go_wp2_with fail
 refine bodyPost_ret (v := .tuple #[.agg #[.int .i64 n, .slice ao O.length co, .int .i64 r], .int .i64 c]) (by simp [results, Tryz.results35, go_sem, d0, d1', d2']) rfl ?_
 exact ⟨ao, co, rfl, hOF.out, hF.out⟩
theorem qoN (d1 d2 : Dg) (n : Int) (O : List Nd) (r c : Int) (w : World)
 (hc : ∀ W a, qad w W → qdf W a 2 [d1, d2] → Calls Tryz.prog 65 #[.func (.func 68) #[] #[], .slice a 2 2] W (qqf W n O r c)) :
 Calls Tryz.prog 36 #[d1.v, d2.v] w (qqf w n O r c) := by
 simp only [Dg.v]
 replace hc := gi hc
 go_enter Tryz.func36, Tryz.ntmps36
 go_wp2_with fail
 refine (hc.out _ _ fs1 (qdg (l := [d1, d2]) (qae (by simp) _) (by simp [maxLen]))).mono ?_
 rintro e w1 ⟨ao, co, rfl, hO, hs⟩
 have kt := hs.at (qab (qae (k := w.heap.size + 1 + 1) (by simp) _) _) id
 obtain ⟨t0, t1, t2⟩ := g3 kt
 have f0 := qak kt 0
 have f1 := qak kt 1
 have f2 := qak kt 2
 have tb := gu kt
 have kF := qde (a := .int .i64 n) (c := .slice ao O.length co) (d := .int .i64 r) kt
 have d0 := gn kF 0
 have d1' := gn kF 1
 have d2' := gn kF 2
 have hF := ((show qad w _ from fs1).same hs).trans (qaU (w := w1) (b := w.heap.size + 1 + 1) (a := .int .i64 n) (c := .slice ao O.length co) (d := .int .i64 r)) (fun i hi h => by omega)
 have hOF := hO.fr (qaU (w := w1) (b := w.heap.size + 1 + 1) (a := .int .i64 n) (c := .slice ao O.length co) (d := .int .i64 r)) (fun k cur hk h => by rw [h, kt] at hk; simp at hk)
 replace hF := gi hF
 replace hOF := gi hOF
 clear kF kt hO
 replace hs := gi hs
 go_wp2_with fail
 refine bodyPost_ret (v := .tuple #[.agg #[.int .i64 n, .slice ao O.length co, .int .i64 r], .int .i64 c]) (by simp [results, Tryz.results36, go_sem, d0, d1', d2']) rfl ?_
 exact ⟨ao, co, rfl, hOF.out, hF.out⟩
theorem or_call (d1 d2 : Dg) (n : Int) (O : List Nd) (r c : Int) (w : World)
 (hc : ∀ W a, qad w W → qdf W a 2 [d1, d2] → Calls Tryz.prog 65 #[.func (.func 121) #[] #[], .slice a 2 2] W (qqf W n O r c)) :
 Calls Tryz.prog 94 #[d1.v, d2.v] w (qqf w n O r c) := by
 simp only [Dg.v]
 replace hc := gi hc
 go_enter Tryz.func94, Tryz.ntmps94
 go_wp2_with fail
 refine (hc.out _ _ fs1 (qdg (l := [d1, d2]) (qae (by simp) _) (by simp [maxLen]))).mono ?_
 rintro e w1 ⟨ao, co, rfl, hO, hs⟩
 have kt := hs.at (qab (qae (k := w.heap.size + 1 + 1) (by simp) _) _) id
 obtain ⟨t0, t1, t2⟩ := g3 kt
 have f0 := qak kt 0
 have f1 := qak kt 1
 have f2 := qak kt 2
 have tb := gu kt
 have kF := qde (a := .int .i64 n) (c := .slice ao O.length co) (d := .int .i64 r) kt
 have d0 := gn kF 0
 have d1' := gn kF 1
 have d2' := gn kF 2
 have hF := ((show qad w _ from fs1).same hs).trans (qaU (w := w1) (b := w.heap.size + 1 + 1) (a := .int .i64 n) (c := .slice ao O.length co) (d := .int .i64 r)) (fun i hi h => by omega)
 have hOF := hO.fr (qaU (w := w1) (b := w.heap.size + 1 + 1) (a := .int .i64 n) (c := .slice ao O.length co) (d := .int .i64 r)) (fun k cur hk h => by rw [h, kt] at hk; simp at hk)
 replace hF := gi hF
 replace hOF := gi hOF
 clear kF kt hO
 replace hs := gi hs
 go_wp2_with fail
 refine bodyPost_ret (v := .tuple #[.agg #[.int .i64 n, .slice ao O.length co, .int .i64 r], .int .i64 c]) (by simp [results, Tryz.results94, go_sem, d0, d1', d2']) rfl ?_
 exact ⟨ao, co, rfl, hOF.out, hF.out⟩
theorem qmC (args : Array Value) (W : World) : (callFunc 66 args).run Tryz.prog W = .ok (.enter 66 args) W := by kernel_rfl
theorem qmD (args : Array Value) (W : World) : (callFunc 68 args).run Tryz.prog W = .ok (.enter 68 args) W := by kernel_rfl
theorem qoO (args : Array Value) (W : World) : (callFunc 121 args).run Tryz.prog W = .ok (.enter 121 args) W := by kernel_rfl
theorem qbR (d : Dg) (n : Nat) (t : List Bool) (w : World) (hat : d.at w) (T : d.tab n t) :
 Calls Tryz.prog 38 #[d.v] w fun e w' => e = .returned (.int .i64 0) ∧ qad w w' := by
 obtain ⟨T1, T2⟩ := T
 obtain ⟨h0, fuel, s', hv, hs⟩ := qjl T2
 have := qmy d.n d.r d.a d.cap d.L w hat (by have := T2.short; omega) d.L d.r (fun _ _ _ _ _ => ⟨fuel, s', hv, hs, T2.short⟩)
 rw [T1, h0] at this
 rw [Dg.v, T1]
 exact this
theorem qll (a : Option Addr) (cap : Nat) (l : List Dg) (w : World) (h : qdf w a cap l) (hl : l.length ≤ 1000) (hat : ∀ d ∈ l, d.at w) (ht : ∀ d ∈ l, ∃ (n : Nat) (t : List Bool), d.tab n t) :
 Calls Tryz.prog 99 #[.slice a l.length cap] w fun e w' => e = .returned (.int .i64 (if ∃ d ∈ l, d.n ≠ (l.head?.map Dg.n).getD 0 then 4 else 0)) ∧ qad w w' := by
 have hz : qcZ (fun _ => 0) l = 0 := by
  clear h hl hat ht
  induction l with
  | nil => rfl
  | cons x l ih => simp [qcZ, ih]
 have := qlk a cap l (fun _ => 0) w h hl (fun d hd W hs => by
  obtain ⟨n, t, T⟩ := ht d hd
  exact qbR d n t W (qaa.same (hat d hd) hs) T)
 unfold qeI at this
 rw [hz, if_neg (by simp)] at this
 exact this
theorem qha (F : FuncId) (eF : ∀ (args : Array Value) (W : World), (callFunc F args).run Tryz.prog W = .ok (.enter F args) W) (a : Option Addr) (cap : Nat) (l : List Dg) (w : World) (h : qdf w a cap l) (hl : l.length ≤ 3) (h0 : 0 < l.length) (hat : ∀ d ∈ l, d.at w)
 (n : Nat) (ts : List (List Bool)) (hd : qfL n l ts) (t' : List Bool) (h40 : n ≤ 40) (hshort : (qal n [] 0 t').1.length ≤ 16384)
 (hdo : ∀ N ks, Ord N n → qg8 N n ks ts → N.length ≤ 60000 → ks.length = l.length → ∃ N' k, Ord N' n ∧ qaH N' k ∧ tab N' n 0 k = t' ∧ N'.length ≤ 90000000 ∧
  ∀ W B p m mm a' cap' ar cr, qah W B p m a' cap' N → qaR ndv (Value.int .i64) W mm ([] : List (Nd × Int)) → mm ≠ m → qaa W 3 1 (.slice ar l.length cr) l.length (gw ks) →
   Calls Tryz.prog F #[.pointer (some ⟨p, 0, none⟩), .slice ar l.length cr, .map (some mm)] W (qmz W B p m mm a' cap' N N' k)) :
 Calls Tryz.prog 65 #[.func (.func F) #[] #[], .slice a l.length cap] w (qe0 w n (qal n [] 0 t').1 (qal n [] 0 t').2) := by
 obtain ⟨a1, _, a3⟩ := qfM l ts [] [] [] (Ord.nil (n := n) (by omega)) trivial hd
 rw [List.nil_append] at a3
 have alen := qgx l ([], [])
 have hs : ∀ d ∈ l, d.L.length ≤ 16384 := fun d hd' => by
  obtain ⟨t, ht⟩ := hd.mem d hd'
  exact ht.2.short
 have blen := qco (M := 16384) l ([], []) hs
 have blen' : (qay l ([], [])).1.length ≤ 60000 := by
  have : l.length * 16384 ≤ 3 * 16384 := Nat.mul_le_mul_right _ hl
  simp at blen
  omega
 obtain ⟨N', k, b1, b2, b3, b4, b5⟩ := hdo _ _ a1 a3 blen' (by simpa using alen)
 obtain ⟨s', c1, c2⟩ := qb7 b1 b2
 rw [b3] at c1 c2
 have hn : ∀ d ∈ l, d.n = n := fun d hd' => by
  obtain ⟨t, ht⟩ := hd.mem d hd'
  exact ht.1
 have hne : ¬ ∃ d ∈ l, d.n ≠ (l.head?.map Dg.n).getD 0 := by
  rintro ⟨d, hd', he⟩
  apply he
  cases l with
  | nil => simp at h0
  | cons x l => simp [hn d hd', hn x (by simp)]
 have e0 : (l[0]'h0).n = n := hn _ (List.getElem_mem _)
 rw [← e0]
 refine qoL F eF a cap l w h (by omega) h0 hat (fun d hd' => ?_) (qjm hd (by omega)) N' k (n + 1) s' _ _ ?_ b1.val b4 b2 c1 c2 hshort (fun W hW => ?_)
 · obtain ⟨t, ht⟩ := hd.mem d hd'
   exact ht.ok
 · intro W B p m mm a' cap' ar cr x1 x2 x3 x4
   exact b5 W B p m mm a' cap' ar cr x1 x2 x3 x4
 · have := qll a cap l W (qaa.same h hW) (by omega) (fun d hd' => qaa.same (hat d hd') hW) (fun d hd' => by
     obtain ⟨t, ht⟩ := hd.mem d hd'
     exact ⟨n, t, ht⟩)
   rw [if_neg hne] at this
   exact this
theorem qg8.one {N : List Nd} {n : Nat} {ks : List Int} {t : List Bool} (h : qg8 N n ks [t]) : ∃ k, ks = [k] ∧ qaH N k ∧ tab N n 0 k = t := by
 match ks, h with
 | [k], h => exact ⟨k, rfl, h.1, h.2.1⟩
theorem qg8.two {N : List Nd} {n : Nat} {ks : List Int} {t u : List Bool} (h : qg8 N n ks [t, u]) : ∃ k j, ks = [k, j] ∧ (qaH N k ∧ tab N n 0 k = t) ∧ qaH N j ∧ tab N n 0 j = u := by
 match ks, h with
 | [k, j], h => exact ⟨k, j, rfl, ⟨h.1, h.2.1⟩, h.2.2.1, h.2.2.2.1⟩
theorem qg8.three {N : List Nd} {n : Nat} {ks : List Int} {t u x : List Bool} (h : qg8 N n ks [t, u, x]) : ∃ k j i, ks = [k, j, i] ∧ (qaH N k ∧ tab N n 0 k = t) ∧ (qaH N j ∧ tab N n 0 j = u) ∧ qaH N i ∧ tab N n 0 i = x := by
 match ks, h with
 | [k, j, i], h => exact ⟨k, j, i, rfl, ⟨h.1, h.2.1⟩, ⟨h.2.2.1, h.2.2.2.1⟩, h.2.2.2.2.1, h.2.2.2.2.2.1⟩
theorem vnum0 (N : List Nd) : qaH N 0 := ⟨by omega, by omega⟩
theorem qmE (N : List Nd) : qaH N 1 := ⟨by omega, by omega⟩
def fls (n : Nat) : List Bool := List.replicate (2 ^ n) false
def tru (n : Nat) : List Bool := List.replicate (2 ^ n) true
theorem tab0 (N : List Nd) {n : Nat} (h : n ≤ 40) : tab N n 0 0 = fls n := qcP _ _ _ (by omega)
theorem tab1 (N : List Nd) {n : Nat} (h : n ≤ 40) : tab N n 0 1 = tru n := qdb _ _ _ (by omega)
end Go.Proofs.YticcpnekjddanaaGreatDoor
