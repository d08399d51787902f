/-  -/
import Derived.Test.YticcpnekjddanaaGreatDoorZRowL
import Derived.Test.YticcpnekjddanaaGreatDoorZRelBig
set_option maxRecDepth 100000
set_option maxHeartbeats 8000000
set_option linter.unusedVariables false
set_option linter.unusedSimpArgs false
namespace Go.Proofs.YticcpnekjddanaaGreatDoor
open Go.RowKit
theorem qdn (f n : Nat) (w : World) (hf : f ≤ 100000) (hn : n ≤ 100000) :
 Calls Tryz.prog 108 #[.int .i64 f, .int .i64 n] w fun e w' => ∃ a c, e = .returned (.slice a n c) ∧ w'.ownsRow w.heap.size 3 1 (.slice a n c) n (gw (gL (fun i => f + i) n)) ∧ qad w w' := by
 obtain ⟨i3, hi3, hi3z, hi3s, hi3b⟩ := info_parts qc0
 go_enter Tryz.func108, Tryz.ntmps108
 go_wp2_with fail
 go_loopw [5, 8] (fun v i wr => ∃ (k c : Nat) (a : Option Addr), i = .int .i64 k ∧ k ≤ n ∧ v = .slice a k c ∧ wr.ownsRow w.heap.size 3 1 (.slice a k c) k (gw (gL (fun i => f + i) k)) ∧ qad w wr) (fun _ i _ => n - (intOf i).toNat)
 case atStart => exact ⟨0, 0, none, rfl, by omega, rfl, World.ownsRow_nil _ _ _ _, Fr.refl _ _⟩
 case round =>
  obtain ⟨k, c, a, rfl, hk, rfl, ho, hs1⟩ := hrel
  have hws := hs1.size
  have hgs := qjy (fun i => f + i) k
  by_cases hkn : k < n
  · have e2 : IntKind.i64.wrap ((f : Int) + k) = ((f + k : Nat) : Int) := by rw [IntWalk.i64_in _ (by omega)]; omega
    replace ho := gi ho; replace hs1 := gi hs1; replace hgs := gi hgs
    go_wp2_with (at_builtin; refine qai rfl (.tmp 11) (.tmp 15) 33 rfl w.heap.size 3 i3 (.int .i64 0) 1 8 Tryz.underlying33 hi3 hi3z hi3s hi3b rfl (by decide) (by decide) a k c (gw (gL (fun i => f + i) k)) rfl (qag ho.out fs2) (by omega) wr.heap.size [.int .i64 ((f + k : Nat) : Int)] rfl rfl (gv _ _) (by simp [Value.oneCell']) (by simp; omega) ?_; intro a5 c5 w5 ho5 hG5)
    have hs5 : qad w w5 := qas (hs1.out.same fs2) hG5 (fun k hk => (ho.out.lt k hk).1)
    have ho5' : w5.ownsRow w.heap.size 3 1 (.slice a5 (k + 1) c5) (k + 1) (gw (gL (fun i => f + i) (k + 1))) := by
     rw [hgs.out]; have := ho5; simpa [gw] using this
    clear ho5 hG5
    go_roundw
    case rel => exact ⟨k + 1, c5, a5, by go_num, by omega, rfl, ho5', hs5⟩
    case measure => simp [intOf]; omega
  · obtain rfl : k = n := by omega
    replace ho := gi ho; replace hs1 := gi hs1
    go_wp2_with fail
    go_ret
    exact ⟨a, c, rfl, ho.out, hs1.out⟩
theorem qhp {n : Nat} (h : n ≤ 40) (b : Bool) (w : World) : Calls Tryz.prog 95 #[.int .i64 n, .bool b] w (DgN n (if b then tru n else fls n) w) := by
 have hz := qjd h b
 have he : (if b then tru n else fls n) = List.replicate (2 ^ n) b := by cases b <;> rfl
 have := qjn n b w (by omega)
 refine this.mono fun e w' hR => qe0.dgN hR ⟨h, by rw [he]; simp, ?_, by simp⟩
 rw [he, hz]
structure qqo (w : World) (n : Int) (br bo : Nat) (d : Dg) (W : World) : Prop where
 kr : W.heap[br]? = some (.cells #[.int .i64 0, .slice none 0 0, .int .i64 0] 46 (0, 0))
 ko : W.heap[bo]? = some (.cells #[.int .i64 n, .slice d.a d.L.length d.cap, .int .i64 d.r] 46 (0, 0))
 same : qad w W
 at_ : d.at W
theorem qqo.sm {w : World} {n : Int} {br bo : Nat} {d : Dg} {W W' : World} (h : qqo w n br bo d W) (hs : qad W W') : qqo w n br bo d W' := ⟨hs.at h.kr id, hs.at h.ko id, h.same.same hs, qaa.same h.at_ hs⟩
theorem qqo.next {w : World} {n : Int} {br bo : Nat} {d d' : Dg} {W : World} (h : qqo w n br bo d W) (hne : br ≠ bo) (hw : w.heap.size ≤ bo) (hd : d'.at W) :
 qqo w n br bo d' (((W.setCell ⟨bo, 0, none⟩ (.int .i64 n)).setCell ⟨bo, 1, none⟩ (.slice d'.a d'.L.length d'.cap)).setCell ⟨bo, 2, none⟩ (.int .i64 d'.r)) := by
 obtain ⟨k9, f9⟩ := qcA (u0 := .int .i64 n) (u1 := .slice d'.a d'.L.length d'.cap) (u2 := .int .i64 d'.r) h.ko
 exact ⟨f9.at h.kr hne, k9, h.same.trans f9 (fun i hi e => by have : i = bo := e; omega), qaa.fr hd f9 (fun i cur hk' e => by rw [show i = bo from e, h.ko] at hk'; simp at hk')⟩
theorem qpm (F : FuncId) (eF : ∀ (args : Array Value) (W : World), (callFunc F args).run Tryz.prog W = .ok (.enter F args) W) (n : Nat) (first : Bool) (ds : List Dg) (acc : Nat → List Bool) (aL : Option Addr) (q cL : Nat) (w : World) (h40 : n ≤ 40)
 (hq : q = ds.length) (hL : qdf w aL cL ds) (hl : q ≤ 1000) (hat : ∀ d ∈ ds, d.at w) (h0 : acc 0 = if first then tru n else fls n)
 (OP : ∀ (k : Nat) (hk : k < ds.length) (d : Dg) W, qad w W → d.at W → d.tab n (acc k) → Calls Tryz.prog F #[d.v, ds[k].v] W (DgN n (acc (k + 1)) W)) :
 Calls Tryz.prog 93 #[.int .i64 n, .bool first, .func (.func F) #[] #[], .slice aL q cL] w (DgN n (acc q) w) := by
 have CO := fun W => qhp h40 first W
 rw [← h0] at CO
 subst hq
 have hrow := fun (k : Nat) (hk : k < ds.length) W (hW : qad w W) => qdf.cells (qaa.same hL hW) hk
 have hop := fun (k : Nat) (hk : k < ds.length) => OP k hk
 simp only [Dg.v] at hop
 clear hL hat h0 OP
 replace CO := gi CO; replace hrow := gi hrow; replace hop := gi hop
 go_enter Tryz.func93, Tryz.ntmps93
 go_upto_region 1 with fail
 have kr := gv w (.cells #[.int .i64 0, .slice none 0 0, .int .i64 0] 46)
 have hs : qad w (w.alloc (.cells #[.int .i64 0, .slice none 0 0, .int .i64 0] 46)) := fs2
 generalize w.alloc (.cells #[.int .i64 0, .slice none 0 0, .int .i64 0] 46) = W0 at *
 replace kr := gi kr; replace hs := gi hs
 go_wp2_with fail
 refine (CO.out _).mono ?_
 intro e w1 hM
 obtain ⟨a1, c1, L1, r1, rfl, d1, tt1, s1⟩ := hM.open
 replace kr := gi (s1.at kr.out id)
 have hs1 := hs.out.same s1
 clear hM s1
 replace d1 := gi d1; replace tt1 := gi tt1; replace hs1 := gi hs1
 go_upto_region 2 with fail
 have ko := gv w1 (.cells #[.int .i64 n, .slice a1 L1.length c1, .int .i64 r1] 46)
 have s2 : qad w1 (w1.alloc (.cells #[.int .i64 n, .slice a1 L1.length c1, .int .i64 r1] 46)) := fs2
 generalize w1.alloc (.cells #[.int .i64 n, .slice a1 L1.length c1, .int .i64 r1] 46) = W1 at *
 have hbo : w.heap.size < w1.heap.size := gu kr.out
 replace d1 := gi (d1.out.same s2); replace kr := gi (s2.at kr.out id)
 have hs2 := hs1.out.same s2
 generalize w1.heap.size = bo at *
 have hA0 : qqo w n w.heap.size bo ⟨n, a1, c1, L1, r1⟩ W1 := ⟨kr.out, ko, hs2, d1.out⟩
 have tt2 : Dg.tab ⟨n, a1, c1, L1, r1⟩ n (acc 0) := ⟨rfl, tt1.out⟩
 clear s2 kr ko hs1 hs d1 tt1
 replace hA0 := gi hA0; replace tt2 := gi tt2
 go_wp2_with fail
 go_loopw [11, 22] (fun e i wr => ∃ (k : Nat) (d : Dg), e = .int .i64 0 ∧ i = .int .i64 k ∧ k ≤ ds.length ∧ qqo w n w.heap.size bo d wr ∧ d.tab n (acc k)) (fun _ i _ => ds.length - (intOf i).toNat)
 case atStart => exact ⟨0, _, rfl, rfl, Nat.zero_le _, hA0.out, tt2.out⟩
 case round =>
  obtain ⟨k, d, rfl, rfl, hk, hA, hT⟩ := hrel
  obtain ⟨dn, da, dc, dL, dr⟩ := d
  obtain rfl : dn = (n : Int) := hT.1
  by_cases hlt : k < ds.length
  · obtain ⟨b, off, ha, hb, x0, x1, x2⟩ := hrow.out k hlt _ hA.same
    have OPk := hop.out k hlt ⟨n, da, dc, dL, dr⟩
    generalize ds[k] = dk at *
    subst ha
    have hz := hA.same.size
    have hbw : bo < wr.heap.size := gu hA.ko
    replace hA := gi hA; replace hT := gi hT; replace OPk := gi OPk
    go_upto_region 5 with fail
    clear x0 x1 x2
    have kf := gv wr (.cells #[.int .i64 dk.n, .slice dk.a dk.L.length dk.cap, .int .i64 dk.r] 46)
    have s3 : qad wr (wr.alloc (.cells #[.int .i64 dk.n, .slice dk.a dk.L.length dk.cap, .int .i64 dk.r] 46)) := fs2
    have hA3 := hA.out.sm s3
    generalize wr.alloc (.cells #[.int .i64 dk.n, .slice dk.a dk.L.length dk.cap, .int .i64 dk.r] 46) = W3 at *
    clear hA s3
    have ko := hA3.ko
    simp only at ko
    replace kf := gi kf; replace hA3 := gi hA3; replace ko := gi ko
    obtain ⟨y0, y1, y2, yl⟩ := g3l ko.out
    obtain ⟨x0, x1, x2, xl⟩ := g3l kf.out
    go_upto_region 7 with fail
    go_wp2_with fail
    refine (OPk.out _ hA3.out.same hA3.out.at_ hT.out).mono ?_
    intro e w4 hM
    obtain ⟨a2, c2, L2, r2, rfl, d2, t2, s4⟩ := hM.open
    clear x0 x1 x2 xl
    clear y0 y1 y2 yl
    have hA4 := hA3.out.sm s4
    clear hM s4 hA3 ko kf OPk
    have ko := hA4.ko
    simp only at ko
    have hA5 := hA4.next (d' := ⟨n, a2, c2, L2, r2⟩) (by omega) (by omega) d2
    simp only at hA5
    replace hA4 := gi hA4; replace hA5 := gi hA5; replace t2 := gi t2; replace ko := gi ko; replace d2 := gi d2
    obtain ⟨x0, x1, x2, z0, z1, z2, xl⟩ := qar ko.out
    go_wp2_with fail
    go_roundw
    case rel => exact ⟨k + 1, _, rfl, by go_num, by omega, hA5.out.sm fs2, ⟨rfl, t2.out⟩⟩
    case measure => simp [intOf]; omega
  · obtain rfl : k = ds.length := by omega
    have ko := hA.ko
    have kr := hA.kr
    simp only at ko
    have hz := hA.same.size
    have hs := hA.same
    have hd := hA.at_
    clear hA
    replace ko := gi ko; replace kr := gi kr; replace hs := gi hs; replace hd := gi hd; replace hT := gi hT
    obtain ⟨y0, y1, y2, yl⟩ := g3l ko.out
    obtain ⟨x0, x1, x2, z0, z1, z2, xl⟩ := qar kr.out
    go_wp2_with fail
    obtain ⟨q0, q1, q2, hdF, hsF⟩ := qaI hs.out (by omega) (d := ⟨n, da, dc, dL, dr⟩) hd.out kr.out
    refine bodyPost_ret (v := .tuple #[.agg #[.int .i64 n, .slice da dL.length dc, .int .i64 dr], .int .i64 0]) (by simp [results, Tryz.results93, go_sem, q0, q1, q2]) rfl ?_
    exact ⟨_, rfl, hdF, hT.out, hsF⟩
theorem qan.nat {w : World} {a : Option Addr} {q cap : Nat} {l : List Nat} (h : qan w (.slice a q cap) q (gw (qaz l))) {k : Nat} (hk : k < q) :
 ∃ b off, a = some ⟨b, off, none⟩ ∧ b < w.heap.size ∧ w.cell? ⟨b, off + k, none⟩ = some (.int .i64 (l.getD k 0 : Nat)) := by
 have hq : l.length = q := by have := h.1; simpa [gw, qaz] using this
 obtain ⟨b, off, h1, h2, h3⟩ := h.cell (by omega)
 exact ⟨b, off, h1, h2, h3 k _ (by simp [gw, qaz, List.getD, show k < l.length by omega])⟩
def Nw.atK (N : Nw) (k : Nat) : List Nat := (List.range N.As.length).map fun i => if i ∈ N.on.take k then N.at' i else 0
def Nw.bsK (N : Nw) (k : Nat) : List Nat := (List.range N.As.length).map fun i => if i ∈ N.on.take k then N.bs i else 0
def Nw.emK (N : Nw) (k : Nat) : Bool := (N.on.take k).any fun i => N.ns.getD i 0 == 0
theorem qkG {m : Nat} {f : Nat → Nat} {o : List Nat} {k : Nat} (hk : k < o.length) : ((List.range m).map fun i => if i ∈ o.take (k + 1) then f i else 0) = ((List.range m).map fun i => if i ∈ o.take k then f i else 0).set o[k] (f o[k]) := by
 refine List.ext_getElem (by simp) (fun i h1 h2 => ?_)
 simp only [List.getElem_map, List.getElem_range, List.getElem_set]
 rw [List.take_add_one, List.getElem?_eq_getElem hk]
 simp only [Option.toList_some, List.mem_append, List.mem_singleton]
 by_cases e : i = o[k]
 · subst e; simp
 · rw [if_neg (show ¬ o[k] = i from fun h => e h.symm)]
   by_cases hm : i ∈ o.take k <;> simp [hm, e]
theorem qbs.len {N : Nw} (h : qbs N) : N.on.length = N.As.length := by
 have h1 : N.on.length ≤ N.As.length := by
  have := qfk h.pm.nodup (fun x hx => (h.pm.mem x).1 hx)
  exact this
 have h2 : N.As.length ≤ N.on.length := by
  have := qep (l := List.range N.As.length) (k := N.on) List.nodup_range (fun x hx => (h.pm.mem x).2 (List.mem_range.1 hx))
  simpa using this
 omega
theorem qbs.atK_succ {N : Nw} (h : qbs N) {k : Nat} (hk : k < N.on.length) : N.atK (k + 1) = (N.atK k).set N.on[k] (qcd N.bs (N.on.take k)) := by
 rw [← qky N.bs N.on h.pm.nodup k hk]
 exact qkG hk
theorem Nw.bsK_succ (N : Nw) {k : Nat} (hk : k < N.on.length) : N.bsK (k + 1) = (N.bsK k).set N.on[k] (N.bs N.on[k]) := qkG hk
theorem Nw.bsK_get {N : Nw} {k : Nat} (hk : k < N.on.length) (hm : N.on[k] < N.As.length) : (N.bsK (k + 1)).getD N.on[k] 0 = N.bs N.on[k] := by
 rw [N.bsK_succ hk]
 simp [List.getD, Nw.bsK, hm]
theorem Nw.emK_succ (N : Nw) {k : Nat} (hk : k < N.on.length) : N.emK (k + 1) = (N.emK k || (N.ns.getD N.on[k] 0 == 0)) := by
 unfold Nw.emK
 rw [List.take_add_one, List.getElem?_eq_getElem hk, List.any_append]
 simp only [Option.toList_some, List.any_cons, List.any_nil, Bool.or_false]
theorem qbs.at_end {N : Nw} (h : qbs N) : N.atK N.As.length = (List.range N.As.length).map N.at' ∧ N.bsK N.As.length = (List.range N.As.length).map N.bs ∧ N.emK N.As.length = N.emp := by
 have hl := h.len
 have e : N.on.take N.As.length = N.on := by rw [← hl]; exact List.take_length
 unfold Nw.atK Nw.bsK Nw.emK
 rw [e]
 refine ⟨List.map_congr_left (fun i hi => if_pos ((h.pm.mem i).2 (List.mem_range.1 hi))), List.map_congr_left (fun i hi => if_pos ((h.pm.mem i).2 (List.mem_range.1 hi))), ?_⟩
 unfold Nw.emp
 rw [Bool.eq_iff_iff, List.any_eq_true, List.any_eq_true]
 constructor
 · rintro ⟨i, hi, h0⟩
   have hi' := (h.pm.mem i).1 hi
   exact ⟨N.ns.getD i 0, by rw [List.getD_eq_getElem?_getD, List.getElem?_eq_getElem (by rw [N.ns_len]; exact hi')]; exact List.getElem_mem _, h0⟩
 · rintro ⟨n, hn, h0⟩
   obtain ⟨i, hi, rfl⟩ := List.mem_iff_getElem.1 hn
   exact ⟨i, (h.pm.mem i).2 (by rw [N.ns_len] at hi; exact hi), by rw [List.getD_eq_getElem?_getD, List.getElem?_eq_getElem hi]; exact h0⟩
theorem Nw.atK0 (N : Nw) : N.atK 0 = List.replicate N.As.length 0 := by
 unfold Nw.atK
 refine List.ext_getElem (by simp) (fun i h1 h2 => by simp)
theorem Nw.bsK0 (N : Nw) : N.bsK 0 = List.replicate N.As.length 0 := by
 unfold Nw.bsK
 refine List.ext_getElem (by simp) (fun i h1 h2 => by simp)
theorem qnz {bs : Nat → Nat} (h : ∀ i, bs i ≤ 12) : ∀ l : List Nat, qcd bs l ≤ l.length * 12
 | [] => Nat.zero_le _
 | j :: l => by
  have := qnz h l
  have := h j
  rw [qcd, List.length_cons]
  omega
theorem qbs.bs12 {N : Nw} (h : qbs N) (i : Nat) : N.bs i ≤ 12 := by
 by_cases hi : i < N.As.length
 · exact qcQ (h.n4 hi).1
 · rw [N.bs_out (by omega)]; omega
theorem qbs.sum {N : Nw} (h : qbs N) (k : Nat) : qcd N.bs (N.on.take k) ≤ 144 := by
 have h1 := qnz h.bs12 (N.on.take k)
 have h2 := h.len
 have h3 := h.m12
 have h4 : (N.on.take k).length ≤ 12 := by rw [List.length_take]; omega
 omega
theorem qbs.step {N : Nw} (h : qbs N) {k j : Nat} (hk : k < N.As.length) (hj : j = N.on.getD k 0) :
 j < N.As.length ∧ N.atK (k + 1) = (N.atK k).set j (qcd N.bs (N.on.take k)) ∧ N.bsK (k + 1) = (N.bsK k).set j (N.bs j) ∧ (N.bsK (k + 1)).getD j 0 = N.bs j ∧ N.emK (k + 1) = (N.emK k || (N.ns.getD j 0 == 0)) ∧ qcd N.bs (N.on.take (k + 1)) = qcd N.bs (N.on.take k) + N.bs j := by
 have hk' : k < N.on.length := by rw [h.len]; exact hk
 have e : j = N.on[k] := by rw [hj]; simp [List.getD, hk']
 subst e
 have hm := (h.pm.mem _).1 (List.getElem_mem hk')
 exact ⟨hm, h.atK_succ hk', N.bsK_succ hk', N.bsK_get hk' hm, N.emK_succ hk', qnk _ _ hk'⟩
def layV (N : Nw) (aT aB : Option Addr) (cT cB : Nat) : Value := .agg #[.slice aT N.As.length cT, .slice aB N.As.length cB, .int .i64 N.all, .bool N.emp]
structure qgz (N : Nw) (aT aB : Option Addr) (cT cB : Nat) (w : World) : Prop where
 t : qaa w 3 1 (.slice aT N.As.length cT) N.As.length (gw (qaz ((List.range N.As.length).map N.at')))
 b : qaa w 3 1 (.slice aB N.As.length cB) N.As.length (gw (qaz ((List.range N.As.length).map N.bs)))
theorem qgz.same {N : Nw} {aT aB : Option Addr} {cT cB : Nat} {w w' : World} (h : qgz N aT aB cT cB w) (hs : qad w w') : qgz N aT aB cT cB w' := ⟨h.t.same hs, h.b.same hs⟩
theorem qgz.box {N : Nw} {aT aB : Option Addr} {cT cB : Nat} {w w' : World} {b : Nat} {cs : Array Value} (h : qgz N aT aB cT cB w) (hf : Fr (fun k => k = b) w w') (hb : w.heap[b]? = some (.cells cs 92 (0, 0))) : qgz N aT aB cT cB w' :=
 ⟨h.t.fr hf (fun k cur hk e => by rw [show k = b from e, hb] at hk; simp at hk), h.b.fr hf (fun k cur hk e => by rw [show k = b from e, hb] at hk; simp at hk)⟩
def PlE (N : Nw) (w : World) (e : Ending) (w' : World) : Prop :=
 (N.err ≠ 0 ∧ e = .returned (.tuple #[.agg #[.slice none 0 0, .slice none 0 0, .int .i64 0, .bool false], .int .i64 N.err]) ∧ qad w w') ∨
 (N.err = 0 ∧ ∃ aT aB cT cB, e = .returned (.tuple #[layV N aT aB cT cB, .int .i64 0]) ∧ qgz N aT aB cT cB w' ∧ qad w w')
structure qdZ (NC : Array Value) (m : Nat) (w : World) (bl bt bb : Nat) (T B : List Nat) (s : Nat) (e : Bool) (W : World) : Prop where
 kn : W.heap[w.heap.size]? = some (.cells NC 35 (0, 0))
 kr : W.heap[w.heap.size + 1]? = some (.cells #[.slice none 0 0, .slice none 0 0, .int .i64 0, .bool false] 92 (0, 0))
 kl : W.heap[bl]? = some (.cells #[.slice (some ⟨bt, 0, none⟩) m m, .slice (some ⟨bb, 0, none⟩) m m, .int .i64 s, .bool e] 92 (0, 0))
 kt : W.heap[bt]? = some (.cells (gw (qaz T)).toArray 3 (0, 0))
 kb : W.heap[bb]? = some (.cells (gw (qaz B)).toArray 3 (0, 0))
 same : qad w W
structure Sep (w : World) (bl bt bb : Nat) : Prop where
 l : w.heap.size + 2 ≤ bl
 t : w.heap.size + 2 ≤ bt
 b : w.heap.size + 2 ≤ bb
 lt : bl ≠ bt
 lb : bl ≠ bb
 tb : bt ≠ bb
theorem qdZ.sm {NC : Array Value} {m : Nat} {w : World} {bl bt bb : Nat} {T B : List Nat} {s : Nat} {e : Bool} {W W' : World} (h : qdZ NC m w bl bt bb T B s e W) (hs : qad W W') : qdZ NC m w bl bt bb T B s e W' :=
 ⟨hs.at h.kn id, hs.at h.kr id, hs.at h.kl id, hs.at h.kt id, hs.at h.kb id, h.same.same hs⟩
theorem qdo (l : List Int) (i : Nat) (v : Int) : (gw l).toArray.setIfInBounds i (.int .i64 v) = (gw (l.set i v)).toArray := by
 simp [gw, List.map_set]
theorem qfl (l : List Nat) (i v : Nat) : (qaz l).set i (v : Int) = qaz (l.set i v) := by
 simp [qaz, List.map_set]
theorem qdZ.setT {NC : Array Value} {m : Nat} {w : World} {bl bt bb : Nat} {T B : List Nat} {s : Nat} {e : Bool} {W : World} (h : qdZ NC m w bl bt bb T B s e W) (hS : Sep w bl bt bb) (i v : Nat) : qdZ NC m w bl bt bb (T.set i v) B s e (W.setCell ⟨bt, i, none⟩ (.int .i64 v)) := by
 have hF : Fr (fun k => k = bt) W (W.setCell ⟨bt, i, none⟩ (.int .i64 v)) := (Fr.refl _ _).setCell _ _ (fun _ => rfl)
 have := hS.t; have := hS.lt; have := hS.tb
 refine ⟨hF.at h.kn (by omega), hF.at h.kr (by omega), hF.at h.kl (by omega), ?_, hF.at h.kb (by omega), h.same.trans hF (fun j hj e => by have : j = bt := e; omega)⟩
 rw [qaf h.kt]
 simp only [qdo, qfl]
theorem qdZ.setB {NC : Array Value} {m : Nat} {w : World} {bl bt bb : Nat} {T B : List Nat} {s : Nat} {e : Bool} {W : World} (h : qdZ NC m w bl bt bb T B s e W) (hS : Sep w bl bt bb) (i v : Nat) : qdZ NC m w bl bt bb T (B.set i v) s e (W.setCell ⟨bb, i, none⟩ (.int .i64 v)) := by
 have hF : Fr (fun k => k = bb) W (W.setCell ⟨bb, i, none⟩ (.int .i64 v)) := (Fr.refl _ _).setCell _ _ (fun _ => rfl)
 have := hS.b; have := hS.lb; have := hS.tb
 refine ⟨hF.at h.kn (by omega), hF.at h.kr (by omega), hF.at h.kl (by omega), hF.at h.kt (by omega), ?_, h.same.trans hF (fun j hj e => by have : j = bb := e; omega)⟩
 rw [qaf h.kb]
 simp only [qdo, qfl]
theorem qdZ.setS {NC : Array Value} {m : Nat} {w : World} {bl bt bb : Nat} {T B : List Nat} {s : Nat} {e : Bool} {W : World} (h : qdZ NC m w bl bt bb T B s e W) (hS : Sep w bl bt bb) (v : Nat) : qdZ NC m w bl bt bb T B v e (W.setCell ⟨bl, 2, none⟩ (.int .i64 v)) := by
 have hF : Fr (fun k => k = bl) W (W.setCell ⟨bl, 2, none⟩ (.int .i64 v)) := (Fr.refl _ _).setCell _ _ (fun _ => rfl)
 have := hS.l; have := hS.lb; have := hS.lt
 refine ⟨hF.at h.kn (by omega), hF.at h.kr (by omega), ?_, hF.at h.kt (by omega), hF.at h.kb (by omega), h.same.trans hF (fun j hj e => by have : j = bl := e; omega)⟩
 rw [qaf h.kl]
 rfl
theorem qdZ.setE {NC : Array Value} {m : Nat} {w : World} {bl bt bb : Nat} {T B : List Nat} {s : Nat} {e : Bool} {W : World} (h : qdZ NC m w bl bt bb T B s e W) (hS : Sep w bl bt bb) (v : Bool) : qdZ NC m w bl bt bb T B s v (W.setCell ⟨bl, 3, none⟩ (.bool v)) := by
 have hF : Fr (fun k => k = bl) W (W.setCell ⟨bl, 3, none⟩ (.bool v)) := (Fr.refl _ _).setCell _ _ (fun _ => rfl)
 have := hS.l; have := hS.lb; have := hS.lt
 refine ⟨hF.at h.kn (by omega), hF.at h.kr (by omega), ?_, hF.at h.kt (by omega), hF.at h.kb (by omega), h.same.trans hF (fun j hj e => by have : j = bl := e; omega)⟩
 rw [qaf h.kl]
 rfl
theorem qjK {P : Program} (t e : TypeId) (i : TypeInfo) (h1 : P.underlying t = some (.slice e)) (h2 : P.info? e = some i) (h3 : i.zero = some (.int .i64 0)) (h4 : i.size = 1) (h5 : i.bytes = 8) (n : Nat) (hn : n ≤ 1000000) (w : World) :
 (Instr.makeSlice t (.int .i64 n) (.int .i64 n)).run P w = .ok (.slice (some ⟨w.heap.size, 0, none⟩) n n) (w.alloc (.cells (gw (qaz (List.replicate n 0))).toArray e)) := by
 have hrun := run_make (P := P) w t e i (.int .i64 0) h1 h2 h3 .i64 .i64 n n (by omega) (by omega) (by rw [h5]; omega) (by omega)
 have hm : madeCells (Value.int .i64 0).cells ((n : Int).toNat * i.size) = (gw (qaz (List.replicate n 0))).toArray := by
  rw [h4, ← Array.toList_inj]
  have := toList_madeCells_one (Value.int .i64 0) n
  simp only [Int.toNat_natCast, Nat.mul_one]
  rw [show (Value.int .i64 0).cells = #[Value.int .i64 0] from rfl, this]
  simp [gw, qaz]
 rw [hm] at hrun
 exact hrun
theorem al1 (w : World) (x : Obj) : w.heap.size + 1 = (w.alloc x).heap.size := by simp
theorem al2 (w : World) (x y : Obj) : w.heap.size + 1 + 1 = ((w.alloc x).alloc y).heap.size := by simp
theorem qhq {A : Act} {Q : Exit → Act → World → Prop} {x : Exit} {w : World} (P : World → Prop) (hP : P w) (h : ∀ W, P W → Q x A W) : Q x A w := h w hP
structure Key (A : Prop) : Prop where
 out : A
theorem share {A B : Prop} (h : Key A → B) (a : A) : B := h ⟨a⟩
theorem qhr {x : Int} (h0 : 0 ≤ x) (h1 : x ≤ 1000000) : wrap64 x = x ∧ IntKind.i64.wrap x = x := ⟨by unfold wrap64; omega, IntWalk.i64_in _ (by omega)⟩
theorem box_q {w : World} {b : Nat} {x y z v u0 u1 u2 u3 : Value} {T : TypeId} (h : w.heap[b]? = some (.cells #[x, y, z, v] T (0, 0))) :
 let W := (((w.setCell ⟨b, 0, none⟩ u0).setCell ⟨b, 1, none⟩ u1).setCell ⟨b, 2, none⟩ u2).setCell ⟨b, 3, none⟩ u3
 W.heap[b]? = some (.cells #[u0, u1, u2, u3] T (0, 0)) ∧ Fr (fun k => k = b) w W := by
 have h1 := qaf h 0 u0
 have h2 := qaf h1 1 u1
 have h3 := qaf h2 2 u2
 have h4 := qaf h3 3 u3
 refine ⟨by simpa using h4, ?_⟩
 exact ((((Fr.refl (fun k => k = b) w).setCell ⟨b, 0, none⟩ u0 (fun _ => rfl)).setCell ⟨b, 1, none⟩ u1 (fun _ => rfl)).setCell ⟨b, 2, none⟩ u2 (fun _ => rfl)).setCell ⟨b, 3, none⟩ u3 (fun _ => rfl)
theorem qb3 {w : World} {b : Nat} {x y z v : Value} {T : TypeId} (h : w.heap[b]? = some (.cells #[x, y, z, v] T (0, 0))) :
 w.cell? ⟨b, 0, none⟩ = some x ∧ w.cell? ⟨b, 1, none⟩ = some y ∧ w.cell? ⟨b, 2, none⟩ = some z ∧ w.cell? ⟨b, 3, none⟩ = some v ∧ w.frozen? ⟨b, 0, none⟩ = false ∧ w.frozen? ⟨b, 1, none⟩ = false ∧ w.frozen? ⟨b, 2, none⟩ = false ∧ w.frozen? ⟨b, 3, none⟩ = false ∧ b < w.heap.size :=
 ⟨gn h 0, gn h 1, gn h 2, gn h 3, qak h 0, qak h 1, qak h 2, qak h 3, gu h⟩
theorem qcs {w0 w : World} {b : Nat} {x y z v u0 u1 u2 u3 : Value} {T : TypeId} (hs : qad w0 w) (hb : w0.heap.size ≤ b) (kb : w.heap[b]? = some (.cells #[x, y, z, v] T (0, 0))) :
 let W := (((w.setCell ⟨b, 0, none⟩ u0).setCell ⟨b, 1, none⟩ u1).setCell ⟨b, 2, none⟩ u2).setCell ⟨b, 3, none⟩ u3
 W.cell? ⟨b, 0, none⟩ = some u0 ∧ W.cell? ⟨b, 1, none⟩ = some u1 ∧ W.cell? ⟨b, 2, none⟩ = some u2 ∧ W.cell? ⟨b, 3, none⟩ = some u3 ∧ qad w0 W ∧ Fr (fun k => k = b) w W := by
 obtain ⟨hk, hf⟩ := box_q (u0 := u0) (u1 := u1) (u2 := u2) (u3 := u3) kb
 exact ⟨gn hk 0, gn hk 1, gn hk 2, gn hk 3, hs.trans hf (fun i hi e => by have : i = b := e; omega), hf⟩
theorem qnA (N : Nw) (w : World) (hat : N.at w) (hz : ∀ A ∈ N.As, A.small) (hl : N.As.length ≤ 1000) (ho : N.o.length ≤ 1000) :
 Calls Tryz.prog 43 #[.agg #[.slice N.aA N.As.length N.cA, .slice N.aO N.o.length N.cO]] w (PlE N w) := by
 have PC := fun W (hW : qad w W) => qdU N.As N.aA N.cA W (hat.au.same hW) hz hl
 have OC := fun W (hW : qad w W) => qlo N.o N.As.length N.aO N.cO N.o.length W rfl (hat.o.same hW) (by omega)
 obtain ⟨E1, hE1⟩ : ∃ E, E = qbx N.As := ⟨_, rfl⟩
 obtain ⟨E2, hE2⟩ : ∃ E, E = qcY N.As.length N.o := ⟨_, rfl⟩
 have hN : N.err = if E1 ≠ 0 then E1 else if E2 ≠ 0 then E2 else if 20 < N.all then 3 else 0 := by rw [hE1, hE2]; rfl
 have hOK : E1 = 0 → E2 = 0 → qbs N := fun h1 h2 => qbs.of (by rw [← hE1, h1]) (by rw [← hE2, h2])
 rw [← hE1] at PC
 rw [← hE2] at OC
 have hol : qbs N → N.o.length = N.As.length := fun OK => by have := OK.len; unfold Nw.on at this; simpa using this
 have hO := fun (OK : qbs N) (k : Nat) (hk : k < N.As.length) W (hW : qad w W) => (show qan W (.slice N.aO N.o.length N.cO) N.o.length (gw (qaz N.on)) from by
  have := (hat.o.same hW); rw [OK.o] at this; rwa [show (qaz N.on).length = N.o.length by rw [qaG]; unfold Nw.on; simp] at this).nat (k := k) (by rw [hol OK]; exact hk)
 have hR : ∀ (OK : qbs N) (k : Nat) (hk : k < N.As.length) W (hW : qad w W), ∃ b off, N.aA = some ⟨b, off, none⟩ ∧ b < W.heap.size ∧ W.cell? ⟨b, off + k * 4 + 1, none⟩ = some (.int .i64 ((N.ns.getD k 0 : Nat) : Int)) := fun OK k hk W hW => by
  obtain ⟨b, off, h1, h2, h3, h4, _⟩ := (hat.au.same hW).row hk
  rw [(OK.n4 hk).2] at h4
  exact ⟨b, off, h1, h2, h4⟩
 have hst := fun (OK : qbs N) (k j : Nat) (hk : k < N.As.length) (hj : j = N.on.getD k 0) => OK.step hk hj
 have hlen : ∀ k, (N.atK k).length = N.As.length ∧ (N.bsK k).length = N.As.length := fun k => by unfold Nw.atK Nw.bsK; simp
 have hbl := fun (OK : qbs N) (j : Nat) (hj : j < N.As.length) W => Bits_ok (n := N.ns.getD j 0) (OK.n4 hj).1 W
 have hn4 := fun (OK : qbs N) (j : Nat) (hj : j < N.As.length) => (OK.n4 hj).1
 have hall : qbs N → qcd N.bs (N.on.take N.As.length) = N.all := fun OK => by rw [← OK.len, List.take_length]; rfl
 have h00 := N.atK0
 have h01 := N.bsK0
 have hm12 := fun (OK : qbs N) => OK.m12
 have hbad : N.err ≠ 0 → ∀ w', qad w w' → PlE N w (.returned (.tuple #[.agg #[.slice none 0 0, .slice none 0 0, .int .i64 0, .bool false], .int .i64 N.err])) w' := fun h w' hs => .inl ⟨h, rfl, hs⟩
 have hgood : qbs N → N.err = 0 → ∀ bt bb w', w'.heap[bt]? = some (.cells (gw (qaz (N.atK N.As.length))).toArray 3 (0, 0)) → w'.heap[bb]? = some (.cells (gw (qaz (N.bsK N.As.length))).toArray 3 (0, 0)) → qad w w' →
  PlE N w (.returned (.tuple #[.agg #[.slice (some ⟨bt, 0, none⟩) N.As.length N.As.length, .slice (some ⟨bb, 0, none⟩) N.As.length N.As.length, .int .i64 N.all, .bool (N.emK N.As.length)], .int .i64 0])) w' := fun OK h bt bb w' h1 h2 h3 => by
  obtain ⟨e1, e2, e3⟩ := OK.at_end
  rw [e1] at h1
  rw [e2] at h2
  rw [e3]
  have hm := OK.m12
  exact .inr ⟨h, some ⟨bt, 0, none⟩, some ⟨bb, 0, none⟩, N.As.length, N.As.length, rfl, ⟨(qaa.of_owns (qaL (base := 0) h1 (Nat.zero_le _) (by simp [gw, qaz]) rfl (by unfold maxLen; omega))), (qaa.of_owns (qaL (base := 0) h2 (Nat.zero_le _) (by simp [gw, qaz]) rfl (by unfold maxLen; omega)))⟩, h3⟩
 have hsm := fun (OK : qbs N) => OK.sum
 have hb12 := fun (OK : qbs N) => OK.bs12
 have hbi : ∀ j, qa1 (N.ns.getD j 0) = N.bs j := fun j => rfl
 simp only [hbi] at hbl
 obtain ⟨R, hR0⟩ : ∃ R, R = PlE N w := ⟨_, rfl⟩
 rw [← hR0] at hbad hgood ⊢
 clear hat hz hE1 hE2 hR0 hbi
 generalize N.err = EE at *
 generalize N.As.length = m at *
 generalize N.o.length = qo at *
 generalize N.aA = aA at *
 generalize N.cA = cA at *
 generalize N.aO = aO at *
 generalize N.cO = cO at *
 replace PC := gi PC; replace OC := gi OC; replace hN := gi hN; replace hOK := gi hOK; replace hol := gi hol; replace hO := gi hO; replace hR := gi hR; replace hst := gi hst; replace hlen := gi hlen; replace hbl := gi hbl; replace hn4 := gi hn4; replace hall := gi hall; replace h00 := gi h00; replace h01 := gi h01; replace hm12 := gi hm12; replace hbad := gi hbad; replace hgood := gi hgood; replace hsm := gi hsm; replace hb12 := gi hb12
 go_enter Tryz.func43, Tryz.ntmps43
 go_upto_region 1 with fail
 have kn := qab (gv w (.cells #[.slice aA m cA, .slice aO qo cO] 35)) (.cells #[.slice none 0 0, .slice none 0 0, .int .i64 0, .bool false] 92)
 have kr := gv (w.alloc (.cells #[.slice aA m cA, .slice aO qo cO] 35)) (.cells #[.slice none 0 0, .slice none 0 0, .int .i64 0, .bool false] 92)
 rw [show (w.alloc (.cells #[.slice aA m cA, .slice aO qo cO] 35)).heap.size = w.heap.size + 1 by simp] at kr
 have hs : qad w ((w.alloc (.cells #[.slice aA m cA, .slice aO qo cO] 35)).alloc (.cells #[.slice none 0 0, .slice none 0 0, .int .i64 0, .bool false] 92)) := fs2
 generalize (w.alloc (.cells #[.slice aA m cA, .slice aO qo cO] 35)).alloc (.cells #[.slice none 0 0, .slice none 0 0, .int .i64 0, .bool false] 92) = W0 at *
 replace kn := gi kn; replace kr := gi kr; replace hs := gi hs
 obtain ⟨y0, y1, yl⟩ := g2l kn.out
 go_wp2_with fail
 refine (PC.out _ hs.out).mono ?_
 rintro e w1 ⟨rfl, s1⟩
 clear y0 y1 yl
 replace kn := gi (s1.at kn.out id); replace kr := gi (s1.at kr.out id)
 have hs := hs.out.same s1
 clear s1
 replace hs := gi hs
 by_cases h1 : E1 = 0
 · subst h1
   obtain ⟨y0, y1, yl⟩ := g2l kn.out
   go_wp2_with fail
   refine (OC.out _ hs.out).mono ?_
   rintro e w2 ⟨rfl, s2⟩
   clear y0 y1 yl
   replace kn := gi (s2.at kn.out id); replace kr := gi (s2.at kr.out id)
   have hs2 := hs.out.same s2
   clear s2 hs
   replace hs2 := gi hs2
   by_cases h2 : E2 = 0
   · subst h2
     have OK := hOK.out (by trivial) (by trivial)
     have hm12 := hm12.out OK
     obtain rfl : qo = m := hol.out OK
     obtain ⟨i3, hi3, hi3z, hi3s, hi3b⟩ := info_parts qc0
     have hmk := fun W => qjK (P := Tryz.prog) 33 3 i3 Tryz.underlying33 hi3 hi3z hi3s hi3b qo (by omega) W
     have hz2 : w.heap.size + 2 ≤ w2.heap.size := by have := gu kr.out; omega
     have hO := hO.out OK
     have hR := hR.out OK
     have hst := hst.out OK
     have hbl := hbl.out OK
     have hn4 := hn4.out OK
     have hall := hall.out OK
     have hgood := hgood.out OK
     have hsm := hsm.out OK
     have hb12 := hb12.out OK
     clear hOK hol PC OC
     replace OK := gi OK; replace hO := gi hO; replace hR := gi hR; replace hst := gi hst; replace hbl := gi hbl; replace hn4 := gi hn4; replace hall := gi hall; replace hgood := gi hgood; replace hsm := gi hsm; replace hb12 := gi hb12
     obtain ⟨y0, y1, yl⟩ := g2l kn.out
     go_upto_region 7 with fail
     apply share
     · intro key
       go_region
       all_goals
        first
         | (refine qhq (P := fun W => qdZ #[.slice aA qo cA, .slice aO qo cO] qo w (w2.heap.size + 1 + 1) (w2.heap.size) (w2.heap.size + 1) (List.replicate qo 0) (List.replicate qo 0) 0 false W) (qdZ.sm ⟨?_, ?_, ?_, ?_, ?_, ?_⟩ ((Fr.refl _ _).drew)) (fun W hP => ?_); exact (show qad w2 _ from fs2).at kn.out id; exact (show qad w2 _ from fs2).at kr.out id; (first | exact qab (qab (gv _ _) _) _ | exact qab (qae (al1 _ _) _) _ | exact qae (al2 _ _ _) _); (first | exact qab (qab (gv _ _) _) _ | exact qab (qae (al1 _ _) _) _ | exact qae (al2 _ _ _) _); (first | exact qab (qab (gv _ _) _) _ | exact qab (qae (al1 _ _) _) _ | exact qae (al2 _ _ _) _); exact hs2.out.same fs2; have hS : Sep w (w2.heap.size + 1 + 1) (w2.heap.size) (w2.heap.size + 1) := ⟨by omega, by omega, by omega, by omega, by omega, by omega⟩; generalize w2.heap.size + 1 + 1 = bl at hP hS ⊢; generalize w2.heap.size + 1 = bb at hP hS ⊢; generalize w2.heap.size = bt at hP hS ⊢; revert hS; revert hP; revert W; revert bl; revert bb; revert bt; exact key.out)
         | (refine qhq (P := fun W => qdZ #[.slice aA qo cA, .slice aO qo cO] qo w (w2.heap.size + 1) (w2.heap.size) (w2.heap.size + 1 + 1) (List.replicate qo 0) (List.replicate qo 0) 0 false W) (qdZ.sm ⟨?_, ?_, ?_, ?_, ?_, ?_⟩ ((Fr.refl _ _).drew)) (fun W hP => ?_); exact (show qad w2 _ from fs2).at kn.out id; exact (show qad w2 _ from fs2).at kr.out id; (first | exact qab (qab (gv _ _) _) _ | exact qab (qae (al1 _ _) _) _ | exact qae (al2 _ _ _) _); (first | exact qab (qab (gv _ _) _) _ | exact qab (qae (al1 _ _) _) _ | exact qae (al2 _ _ _) _); (first | exact qab (qab (gv _ _) _) _ | exact qab (qae (al1 _ _) _) _ | exact qae (al2 _ _ _) _); exact hs2.out.same fs2; have hS : Sep w (w2.heap.size + 1) (w2.heap.size) (w2.heap.size + 1 + 1) := ⟨by omega, by omega, by omega, by omega, by omega, by omega⟩; generalize w2.heap.size + 1 + 1 = bb at hP hS ⊢; generalize w2.heap.size + 1 = bl at hP hS ⊢; generalize w2.heap.size = bt at hP hS ⊢; revert hS; revert hP; revert W; revert bl; revert bb; revert bt; exact key.out)
         | (refine qhq (P := fun W => qdZ #[.slice aA qo cA, .slice aO qo cO] qo w (w2.heap.size + 1 + 1) (w2.heap.size + 1) (w2.heap.size) (List.replicate qo 0) (List.replicate qo 0) 0 false W) (qdZ.sm ⟨?_, ?_, ?_, ?_, ?_, ?_⟩ ((Fr.refl _ _).drew)) (fun W hP => ?_); exact (show qad w2 _ from fs2).at kn.out id; exact (show qad w2 _ from fs2).at kr.out id; (first | exact qab (qab (gv _ _) _) _ | exact qab (qae (al1 _ _) _) _ | exact qae (al2 _ _ _) _); (first | exact qab (qab (gv _ _) _) _ | exact qab (qae (al1 _ _) _) _ | exact qae (al2 _ _ _) _); (first | exact qab (qab (gv _ _) _) _ | exact qab (qae (al1 _ _) _) _ | exact qae (al2 _ _ _) _); exact hs2.out.same fs2; have hS : Sep w (w2.heap.size + 1 + 1) (w2.heap.size + 1) (w2.heap.size) := ⟨by omega, by omega, by omega, by omega, by omega, by omega⟩; generalize w2.heap.size + 1 + 1 = bl at hP hS ⊢; generalize w2.heap.size + 1 = bt at hP hS ⊢; generalize w2.heap.size = bb at hP hS ⊢; revert hS; revert hP; revert W; revert bl; revert bb; revert bt; exact key.out)
         | (refine qhq (P := fun W => qdZ #[.slice aA qo cA, .slice aO qo cO] qo w (w2.heap.size + 1) (w2.heap.size + 1 + 1) (w2.heap.size) (List.replicate qo 0) (List.replicate qo 0) 0 false W) (qdZ.sm ⟨?_, ?_, ?_, ?_, ?_, ?_⟩ ((Fr.refl _ _).drew)) (fun W hP => ?_); exact (show qad w2 _ from fs2).at kn.out id; exact (show qad w2 _ from fs2).at kr.out id; (first | exact qab (qab (gv _ _) _) _ | exact qab (qae (al1 _ _) _) _ | exact qae (al2 _ _ _) _); (first | exact qab (qab (gv _ _) _) _ | exact qab (qae (al1 _ _) _) _ | exact qae (al2 _ _ _) _); (first | exact qab (qab (gv _ _) _) _ | exact qab (qae (al1 _ _) _) _ | exact qae (al2 _ _ _) _); exact hs2.out.same fs2; have hS : Sep w (w2.heap.size + 1) (w2.heap.size + 1 + 1) (w2.heap.size) := ⟨by omega, by omega, by omega, by omega, by omega, by omega⟩; generalize w2.heap.size + 1 + 1 = bt at hP hS ⊢; generalize w2.heap.size + 1 = bl at hP hS ⊢; generalize w2.heap.size = bb at hP hS ⊢; revert hS; revert hP; revert W; revert bl; revert bb; revert bt; exact key.out)
         | (refine qhq (P := fun W => qdZ #[.slice aA qo cA, .slice aO qo cO] qo w (w2.heap.size) (w2.heap.size + 1) (w2.heap.size + 1 + 1) (List.replicate qo 0) (List.replicate qo 0) 0 false W) (qdZ.sm ⟨?_, ?_, ?_, ?_, ?_, ?_⟩ ((Fr.refl _ _).drew)) (fun W hP => ?_); exact (show qad w2 _ from fs2).at kn.out id; exact (show qad w2 _ from fs2).at kr.out id; (first | exact qab (qab (gv _ _) _) _ | exact qab (qae (al1 _ _) _) _ | exact qae (al2 _ _ _) _); (first | exact qab (qab (gv _ _) _) _ | exact qab (qae (al1 _ _) _) _ | exact qae (al2 _ _ _) _); (first | exact qab (qab (gv _ _) _) _ | exact qab (qae (al1 _ _) _) _ | exact qae (al2 _ _ _) _); exact hs2.out.same fs2; have hS : Sep w (w2.heap.size) (w2.heap.size + 1) (w2.heap.size + 1 + 1) := ⟨by omega, by omega, by omega, by omega, by omega, by omega⟩; generalize w2.heap.size + 1 + 1 = bb at hP hS ⊢; generalize w2.heap.size + 1 = bt at hP hS ⊢; generalize w2.heap.size = bl at hP hS ⊢; revert hS; revert hP; revert W; revert bl; revert bb; revert bt; exact key.out)
         | (refine qhq (P := fun W => qdZ #[.slice aA qo cA, .slice aO qo cO] qo w (w2.heap.size) (w2.heap.size + 1 + 1) (w2.heap.size + 1) (List.replicate qo 0) (List.replicate qo 0) 0 false W) (qdZ.sm ⟨?_, ?_, ?_, ?_, ?_, ?_⟩ ((Fr.refl _ _).drew)) (fun W hP => ?_); exact (show qad w2 _ from fs2).at kn.out id; exact (show qad w2 _ from fs2).at kr.out id; (first | exact qab (qab (gv _ _) _) _ | exact qab (qae (al1 _ _) _) _ | exact qae (al2 _ _ _) _); (first | exact qab (qab (gv _ _) _) _ | exact qab (qae (al1 _ _) _) _ | exact qae (al2 _ _ _) _); (first | exact qab (qab (gv _ _) _) _ | exact qab (qae (al1 _ _) _) _ | exact qae (al2 _ _ _) _); exact hs2.out.same fs2; have hS : Sep w (w2.heap.size) (w2.heap.size + 1 + 1) (w2.heap.size + 1) := ⟨by omega, by omega, by omega, by omega, by omega, by omega⟩; generalize w2.heap.size + 1 + 1 = bt at hP hS ⊢; generalize w2.heap.size + 1 = bb at hP hS ⊢; generalize w2.heap.size = bl at hP hS ⊢; revert hS; revert hP; revert W; revert bl; revert bb; revert bt; exact key.out)
     intro bt bb bl W0 hP hS
     have hP : qdZ #[.slice aA qo cA, .slice aO qo cO] qo w bl bt bb (N.atK 0) (N.bsK 0) (qcd N.bs (N.on.take 0)) (N.emK 0) W0 := by rw [h00.out, h01.out]; exact hP
     clear y0 y1 yl
     clear hmk kn kr hs2 hz2
     have kn := hP.kn
     replace hP := gi hP; replace hS := gi hS; replace kn := gi kn
     obtain ⟨y0, y1, yl⟩ := g2l kn.out
     go_wp2_with fail
     clear y0 y1 yl
     clear kn
     go_loopw [38] (fun i wr => ∃ k : Nat, i = .int .i64 k ∧ k ≤ qo ∧ qdZ #[.slice aA qo cA, .slice aO qo cO] qo w bl bt bb (N.atK k) (N.bsK k) (qcd N.bs (N.on.take k)) (N.emK k) wr) (fun i _ => qo - (intOf i).toNat)
     case atStart => exact ⟨0, rfl, Nat.zero_le _, hP.out⟩
     case round =>
      obtain ⟨k, rfl, hk, hA⟩ := hrel
      by_cases hlt : k < qo
      · obtain ⟨bo, oo, hao, hbo, o0⟩ := hO.out k hlt _ hA.same
        subst hao
        obtain ⟨j, hj⟩ : ∃ j, j = N.on.getD k 0 := ⟨_, rfl⟩
        obtain ⟨hjm, e1, e2, e3, e4, e5⟩ := hst.out k j hlt hj
        rw [← hj] at o0
        obtain ⟨s, hs⟩ : ∃ s, s = qcd N.bs (N.on.take k) := ⟨_, rfl⟩
        have hs144 := hsm.out k
        rw [← hs] at hA e1 e5 hs144
        obtain ⟨em, hem⟩ : ∃ em, em = N.emK k := ⟨_, rfl⟩
        rw [← hem] at hA e4
        have hTl := (hlen.out k).1
        have hBl := (hlen.out k).2
        have kl := hA.kl
        have kn := hA.kn
        have t0 : wr.cell? ⟨bt, j, none⟩ = some (.int .i64 ((N.atK k).getD j 0 : Nat)) := by rw [gn hA.kt]; simp [gw, qaz, List.getD, hTl, hjm]
        have t1 := qak hA.kt j
        have t2 := gu hA.kt
        have hjn : N.ns.getD j 0 ≤ 4096 := hn4.out j hjm
        have BI := hbl.out j hjm
        have hbj := hb12.out j
        obtain ⟨bj, hbjd⟩ : ∃ bj, bj = N.bs j := ⟨_, rfl⟩
        rw [← hbjd] at BI hbj e2 e3 e5
        obtain ⟨nj, hnjd⟩ : ∃ nj, nj = N.ns.getD j 0 := ⟨_, rfl⟩
        rw [← hnjd] at BI hjn e4
        have hRj := hR.out j hjm
        rw [← hnjd] at hRj
        replace hA := gi hA; replace hj := gi hj; replace hs := gi hs; replace hem := gi hem; replace e1 := gi e1; replace e2 := gi e2; replace e3 := gi e3; replace e4 := gi e4; replace e5 := gi e5; replace kl := gi kl; replace kn := gi kn; replace hTl := gi hTl; replace hBl := gi hBl; replace hbjd := gi hbjd; replace hnjd := gi hnjd; replace BI := gi BI; replace hRj := gi hRj
        obtain ⟨x0, x1, x2, x3, xl⟩ := g4l kl.out
        obtain ⟨y0, y1, yl⟩ := g2l kn.out
        go_upto_region 12 with fail
        have hA1 := hA.out.setT hS.out j s
        rw [← e1.out] at hA1
        clear x0 x1 x2 x3 xl
        clear y0 y1 yl
        clear t0 t1 t2 o0 hbo hA kl kn e1
        have kl := hA1.kl
        have kn := hA1.kn
        have t0 : (wr.setCell ⟨bt, j, none⟩ (.int .i64 s)).cell? ⟨bb, j, none⟩ = some (.int .i64 ((N.bsK k).getD j 0 : Nat)) := by rw [gn hA1.kb]; simp [gw, qaz, List.getD, hBl.out, hjm]
        have t1 := qak hA1.kb j
        have t2 := gu hA1.kb
        generalize wr.setCell ⟨bt, j, none⟩ (.int .i64 s) = W1 at *
        obtain ⟨b1, off1, ha1, hb1, z1⟩ := hRj.out _ hA1.same
        subst ha1
        replace hA1 := gi hA1; replace kl := gi kl; replace kn := gi kn
        obtain ⟨x0, x1, x2, x3, xl⟩ := g4l kl.out
        obtain ⟨y0, y1, yl⟩ := g2l kn.out
        refine qac (fun k => k = w.heap.size ∨ k = bl ∨ k = b1) [0, 1, 0, 0, 1, 0, 0, 0, 1, 2, 0, 0, 0, 0, 3] [0, 2, 3, 5, 1, 4, 6, 7, 8, 9, 10, 11, 12, 13, 14] (by kernel_rfl) (by kernel_rfl) ?_
        repeat ((first | refine gB rfl rfl fun _ k => ?_ | refine gC rfl rfl fun _ k => ?_); go_simp; (first | refine k _ ?_ | refine ⟨_, fun _ => rfl, k _ ?_⟩); clear k)
        refine gF rfl rfl (fun _ hK => ?_)
        go_simp
        refine (BI.out _).mono ?_
        rintro e w3 ⟨rfl, s3⟩
        refine hK _ _ (Kp.of_same s3) ?_
        clear hK
        (try simp only [Act.put, gj])
        have s3 := (show qad W1 _ from fs3).same s3
        have hA2 := hA1.out.sm s3
        clear x0 x1 x2 x3 xl
        clear y0 y1 yl
        clear t0 t1 t2 hb1 z1 s3 hA1 kl kn hRj BI
        have t0 : w3.cell? ⟨bb, j, none⟩ = some (.int .i64 ((N.bsK k).getD j 0 : Nat)) := by rw [gn hA2.kb]; simp [gw, qaz, List.getD, hBl.out, hjm]
        have t1 := qak hA2.kb j
        have t2 := gu hA2.kb
        replace hA2 := gi hA2
        repeat ((first | refine gB rfl rfl fun _ k => ?_ | refine gC rfl rfl fun _ k => ?_); go_simp; (first | refine k _ ?_ | refine ⟨_, fun _ => rfl, k _ ?_⟩); clear k)
        refine gD rfl (by decide) (fun _ hK => ?_); go_simp
        refine hK _ _ ?_; clear hK; try simp only [Act.put, gj]
        refine gO (NoPanic.normal ?_)
        have hA3 := hA2.out.setB hS.out j bj
        rw [← e2.out] at hA3
        clear t0 t1 t2 hA2 e2
        generalize w3.setCell ⟨bb, j, none⟩ (.int .i64 bj) = W3 at *
        have kl := hA3.kl
        have t0 : W3.cell? ⟨bb, j, none⟩ = some (.int .i64 bj) := by
         rw [gn hA3.kb]
         have := e3.out
         simp only [gw, qaz, List.getD_eq_getElem?_getD] at this ⊢
         simp [show j < (N.bsK (k + 1)).length by rw [(hlen.out (k + 1)).2]; exact hjm] at this ⊢
         omega
        have t2 := gu hA3.kb
        obtain ⟨hw1, hw2⟩ := qhr (x := (s : Int) + bj) (by omega) (by omega)
        clear e3
        replace hA3 := gi hA3; replace kl := gi kl
        go_upto_region 13 with fail
        obtain ⟨x0, x1, x2, x3, xl⟩ := g4l kl.out
        have f2 := qak kl.out 2
        refine qac (fun k => k = bl ∨ k = bb) [0, 1, 0, 1, 0, 0, 1, 0, 0, 3] [0, 2, 4, 1, 3, 5, 6, 7, 8, 9] (by kernel_rfl) (by kernel_rfl) ?_
        repeat ((first | refine gB rfl rfl fun _ k => ?_ | refine gC rfl rfl fun _ k => ?_); go_simp; (first | refine k _ ?_ | refine ⟨_, fun _ => rfl, k _ ?_⟩); clear k)
        refine gD rfl (by decide) (fun _ hK => ?_); go_simp
        refine hK _ _ ?_; clear hK; try simp only [Act.put, gj]
        refine gO (NoPanic.normal ?_)
        have hA4 := (hA3.out.setS hS.out (s + bj)).sm (show qad _ (W3.setCell ⟨bl, 2, none⟩ (.int .i64 ((s + bj : Nat) : Int))).drew from fs3)
        rw [show (((s + bj : Nat) : Int)) = (s : Int) + bj by omega] at hA4
        rw [← e5.out] at hA4
        clear hw1 hw2 t0 t2 f2 hA3 kl e5
        clear x0 x1 x2 x3 xl
        generalize (W3.setCell ⟨bl, 2, none⟩ (.int .i64 ((s : Int) + bj))).drew = W4 at *
        have kl := hA4.kl
        have kn := hA4.kn
        obtain ⟨b2, off2, ha2, hb2, z1⟩ := hR.out j hjm _ hA4.same
        simp only [Option.some.injEq, Addr.mk.injEq, and_true] at ha2
        obtain ⟨rfl, rfl⟩ := ha2
        rw [← hnjd.out] at z1
        have hN4 : ∀ v, v = N.emK (k + 1) → qdZ #[.slice (some ⟨b1, off1, none⟩) qo cA, .slice (some ⟨bo, oo, none⟩) qo cO] qo w bl bt bb (N.atK (k + 1)) (N.bsK (k + 1)) (qcd N.bs (N.on.take (k + 1))) (N.emK (k + 1)) (W4.setCell ⟨bl, 3, none⟩ (.bool v)) := fun v hv => by rw [hv]; exact hA4.setE hS.out _
        have f3 := qak kl 3
        replace hA4 := gi hA4; replace kl := gi kl; replace kn := gi kn; replace hN4 := gi hN4; replace hnjd := gi hnjd
        obtain ⟨x0, x1, x2, x3, xl⟩ := g4l kl.out
        obtain ⟨y0, y1, yl⟩ := g2l kn.out
        cases em with
        | true =>
         have hf := hN4.out true (by rw [e4.out]; rfl)
         replace hf := gi hf
         go_wp2_with fail
         go_roundw
         case rel => exact ⟨k + 1, by go_num, by omega, hf.out⟩
         case measure => simp [intOf]; omega
        | false =>
         by_cases hn0 : nj = 0
         · subst hn0
           have hf := hN4.out true (by rw [e4.out]; rfl)
           replace hf := gi hf
           go_wp2_with fail
           go_roundw
           case rel => exact ⟨k + 1, by go_num, by omega, hf.out⟩
           case measure => simp [intOf]; omega
         · have hf := hN4.out false (by rw [e4.out]; simp [hn0])
           have hn1 : ((nj : Int) == 0) = false := by simp; omega
           replace hf := gi hf
           go_wp2_with fail
           go_roundw
           case rel => exact ⟨k + 1, by go_num, by omega, hf.out⟩
           case measure => simp [intOf]; omega
      · obtain rfl : k = qo := by omega
        have kl := hA.kl
        have kr := hA.kr
        have kt := hA.kt
        have kb := hA.kb
        have hs := hA.same
        have hSl := hS.out.l
        have hSt := hS.out.t
        have hSb := hS.out.b
        rw [hall.out] at kl
        clear hA
        by_cases h20 : 20 < N.all
        · have hE : EE = 3 := by have := hN.out; simpa [h20] using this
          subst hE
          have h20' : (20 : Int) < N.all := by omega
          replace kl := gi kl; replace kr := gi kr; replace kt := gi kt; replace kb := gi kb; replace hs := gi hs; replace h20 := gi h20
          obtain ⟨x0, x1, x2, x3, xl⟩ := g4l kl.out
          obtain ⟨q0, q1, q2, q3, g0, g1, g2, g3, ql⟩ := qb3 kr.out
          go_wp2_with fail
          obtain ⟨d0, d1, d2, d3, hsF, hF⟩ := qcs (u0 := .slice none 0 0) (u1 := .slice none 0 0) (u2 := .int .i64 0) (u3 := .bool false) hs.out (by omega) kr.out
          refine bodyPost_ret (v := .tuple #[.agg #[.slice none 0 0, .slice none 0 0, .int .i64 0, .bool false], .int .i64 3]) (by simp [results, Tryz.results43, go_sem, d0, d1, d2, d3]) rfl ?_
          exact hbad.out (by decide) _ hsF
        · have hE : EE = 0 := by have := hN.out; simpa [h20] using this
          subst hE
          have h20' : ¬ (20 : Int) < N.all := by omega
          have hfin := hgood.out rfl bt bb
          obtain ⟨em, hem⟩ : ∃ em, em = N.emK k := ⟨_, rfl⟩
          rw [← hem] at kl hfin
          replace kl := gi kl; replace kr := gi kr; replace kt := gi kt; replace kb := gi kb; replace hs := gi hs; replace h20 := gi h20; replace hfin := gi hfin; replace hem := gi hem
          obtain ⟨x0, x1, x2, x3, xl⟩ := g4l kl.out
          obtain ⟨q0, q1, q2, q3, g0, g1, g2, g3, ql⟩ := qb3 kr.out
          go_wp2_with fail
          obtain ⟨d0, d1, d2, d3, hsF, hF⟩ := qcs (u0 := .slice (some ⟨bt, 0, none⟩) k k) (u1 := .slice (some ⟨bb, 0, none⟩) k k) (u2 := .int .i64 N.all) (u3 := .bool em) hs.out (by omega) kr.out
          refine bodyPost_ret (v := .tuple #[.agg #[.slice (some ⟨bt, 0, none⟩) k k, .slice (some ⟨bb, 0, none⟩) k k, .int .i64 N.all, .bool em], .int .i64 0]) (by simp [results, Tryz.results43, go_sem, d0, d1, d2, d3]) rfl ?_
          exact hfin.out _ (hF.at kt.out (by omega)) (hF.at kb.out (by omega)) hsF
   · have hb : (E2 != 0) = true := by simpa using h2
     have hE : EE = E2 := by have := hN.out; simpa [h2] using this
     subst hE
     replace h2 := gi h2
     obtain ⟨q0, q1, q2, q3, g0, g1, g2, g3, ql⟩ := qb3 kr.out
     go_wp2_with fail
     obtain ⟨d0, d1, d2, d3, hsF, hF⟩ := qcs (u0 := .slice none 0 0) (u1 := .slice none 0 0) (u2 := .int .i64 0) (u3 := .bool false) hs2.out (by omega) kr.out
     refine bodyPost_ret (v := .tuple #[.agg #[.slice none 0 0, .slice none 0 0, .int .i64 0, .bool false], .int .i64 EE]) (by simp [results, Tryz.results43, go_sem, d0, d1, d2, d3]) rfl ?_
     exact hbad.out h2.out _ hsF
 · have hb : (E1 != 0) = true := by simpa using h1
   have hE : EE = E1 := by have := hN.out; simpa [h1] using this
   subst hE
   replace h1 := gi h1
   obtain ⟨q0, q1, q2, q3, g0, g1, g2, g3, ql⟩ := qb3 kr.out
   go_wp2_with fail
   obtain ⟨d0, d1, d2, d3, hsF, hF⟩ := qcs (u0 := .slice none 0 0) (u1 := .slice none 0 0) (u2 := .int .i64 0) (u3 := .bool false) hs.out (by omega) kr.out
   refine bodyPost_ret (v := .tuple #[.agg #[.slice none 0 0, .slice none 0 0, .int .i64 0, .bool false], .int .i64 EE]) (by simp [results, Tryz.results43, go_sem, d0, d1, d2, d3]) rfl ?_
   exact hbad.out h1.out _ hsF
theorem qnB (N : Nw) (OK : qbs N) (h40 : N.all ≤ 40) {i : Nat} (hi : i < N.As.length) (S : List Nat) (aS : Option Addr) (qS cS : Nat) (aT aB : Option Addr) (cT cB : Nat) (w : World) (hat : N.at w) (hly : qgz N aT aB cT cB w)
 (hqS : S.length = qS) (hS : qan w (.slice aS qS cS) qS (gw (qaz S))) (hq9 : qS ≤ 1000) (herr : qaw (N.ns.getD i 0 : Nat) (qaz S) (qaz S).length 0 = 0) :
 Calls Tryz.prog 96 #[.agg #[.slice aT N.As.length cT, .slice aB N.As.length cB, .int .i64 N.all, .bool N.emp], .agg #[.slice N.aA N.As.length N.cA, .slice N.aO N.o.length N.cO], .int .i64 i, .slice aS qS cS] w (DgN N.all (N.set fun x => decide (x.getD i 0 ∈ S)) w) := by
 obtain ⟨hn4, hnA⟩ := OK.n4 hi
 have hle := OK.le hi
 have hb12 : N.bs i ≤ 12 := qcQ hn4
 have SE := fun W (hW : qad w W) => Set_ok (n := N.ns.getD i 0) hn4 (qaz S) aS qS cS W (by rw [qaG]; exact hqS) (hS.same hW) hq9 herr
 rw [qeO] at SE
 have SQ := fun W => qdn (N.at' i) (N.bs i) W (by omega) (by omega)
 have RN := fun (d : Dg) aQ cQ W (hd : d.at W) (hT : d.tab (N.bs i) (qcH (N.bs i) 0 S)) (hQ : qan W (.slice aQ (N.bs i) cQ) (N.bs i) (gw (gL (fun k => N.at' i + k) (N.bs i)))) => qfS d (N.bs i) N.all _ (fun k => N.at' i + k) aQ cQ W (by omega) h40 (fun k hk => by omega) (fun k hk => by omega) hd hT hQ
 have htb := qnn (bs := N.bs) (at' := N.at') (m := N.As.length) (n := N.all) (fun j hj => OK.le hj) hi S
 rw [htb] at RN
 rw [show qfa N.bs N.at' N.As.length N.all (fun x => decide (x.getD i 0 ∈ S)) = N.set (fun x => decide (x.getD i 0 ∈ S)) from rfl] at RN
 clear htb
 have hR := fun W (hW : qad w W) => (hat.au.same hW).row hi
 rw [hnA] at hR
 have hT := fun W (hW : qad w W) => (hly.t.same hW).row.nat hi
 have hB := fun W (hW : qad w W) => (hly.b.same hW).row.nat hi
 rw [show ((List.range N.As.length).map N.at').getD i 0 = N.at' i by simp [List.getD, hi]] at hT
 rw [show ((List.range N.As.length).map N.bs).getD i 0 = N.bs i by simp [List.getD, hi]] at hB
 rw [show qa1 (N.ns.getD i 0) = N.bs i from rfl] at SE
 generalize N.set (fun x => decide (x.getD i 0 ∈ S)) = R at *
 generalize N.As[i].aA = fA at *
 generalize N.As[i].al.length = qA at *
 generalize N.As[i].cA = gA at *
 generalize N.As[i].aM = fM at *
 generalize N.As[i].ma.length = qM at *
 generalize N.As[i].cM = gM at *
 generalize N.As[i].aE = fE at *
 generalize N.As[i].es.length = qE at *
 generalize N.As[i].cE = gE at *
 clear hnA hat hly hS herr OK
 generalize N.ns.getD i 0 = x at *
 generalize N.at' i = p at *
 generalize N.bs i = b at *
 generalize qcH b 0 S = tS at *
 generalize N.all = n at *
 generalize N.emp = em at *
 generalize N.As.length = m at *
 generalize N.o.length = qo at *
 generalize N.aA = aA at *
 generalize N.cA = cA at *
 generalize N.aO = aO at *
 generalize N.cO = cO at *
 replace SE := gi SE; replace SQ := gi SQ; replace RN := gi RN; replace hR := gi hR; replace hT := gi hT; replace hB := gi hB
 go_enter Tryz.func96, Tryz.ntmps96
 go_upto_region 1 with fail
 have kl := qab (qab (gv w (.cells #[.slice aT m cT, .slice aB m cB, .int .i64 n, .bool em] 92)) (.cells #[.slice aA m cA, .slice aO qo cO] 35)) (.cells #[.int .i64 0, .slice none 0 0, .int .i64 0] 46)
 have kn := qab (gv (w.alloc (.cells #[.slice aT m cT, .slice aB m cB, .int .i64 n, .bool em] 92)) (.cells #[.slice aA m cA, .slice aO qo cO] 35)) (.cells #[.int .i64 0, .slice none 0 0, .int .i64 0] 46)
 have kr := gv ((w.alloc (.cells #[.slice aT m cT, .slice aB m cB, .int .i64 n, .bool em] 92)).alloc (.cells #[.slice aA m cA, .slice aO qo cO] 35)) (.cells #[.int .i64 0, .slice none 0 0, .int .i64 0] 46)
 have hs : qad w (((w.alloc (.cells #[.slice aT m cT, .slice aB m cB, .int .i64 n, .bool em] 92)).alloc (.cells #[.slice aA m cA, .slice aO qo cO] 35)).alloc (.cells #[.int .i64 0, .slice none 0 0, .int .i64 0] 46)) := fs2
 have hz1 : (w.alloc (.cells #[.slice aT m cT, .slice aB m cB, .int .i64 n, .bool em] 92)).heap.size = w.heap.size + 1 := by simp
 have hz2 : ((w.alloc (.cells #[.slice aT m cT, .slice aB m cB, .int .i64 n, .bool em] 92)).alloc (.cells #[.slice aA m cA, .slice aO qo cO] 35)).heap.size = w.heap.size + 1 + 1 := by simp
 rw [hz1] at kn
 rw [hz2] at kr
 generalize ((w.alloc (.cells #[.slice aT m cT, .slice aB m cB, .int .i64 n, .bool em] 92)).alloc (.cells #[.slice aA m cA, .slice aO qo cO] 35)).alloc (.cells #[.int .i64 0, .slice none 0 0, .int .i64 0] 46) = W0 at *
 clear hz1 hz2
 replace kl := gi kl; replace kn := gi kn; replace kr := gi kr; replace hs := gi hs
 obtain ⟨b0, off0, ha0, hb0, x0, x1, x2, x3⟩ := hR.out _ hs.out
 subst ha0
 obtain ⟨y0, y1, yl⟩ := g2l kn.out
 go_wp2_with fail
 refine (SE.out _ hs.out).mono ?_
 intro e w1 hM
 obtain ⟨a1, c1, L1, r1, rfl, d1, tt1, s1⟩ := hM.open
 clear x0 x1 x2 x3 hb0
 clear y0 y1 yl
 replace kl := gi (s1.at kl.out id); replace kn := gi (s1.at kn.out id); replace kr := gi (s1.at kr.out id)
 have hs1 := hs.out.same s1
 clear hM s1
 replace d1 := gi d1; replace tt1 := gi tt1; replace hs1 := gi hs1
 go_upto_region 2 with fail
 have hbd : w.heap.size + 1 + 1 < w1.heap.size := gu kr.out
 have kd := gv w1 (.cells #[.int .i64 b, .slice a1 L1.length c1, .int .i64 r1] 46)
 have s2 : qad w1 (w1.alloc (.cells #[.int .i64 b, .slice a1 L1.length c1, .int .i64 r1] 46)) := fs2
 generalize w1.alloc (.cells #[.int .i64 b, .slice a1 L1.length c1, .int .i64 r1] 46) = W1 at *
 replace d1 := gi (d1.out.same s2); replace kl := gi (s2.at kl.out id); replace kn := gi (s2.at kn.out id); replace kr := gi (s2.at kr.out id)
 have hs2 := hs1.out.same s2
 clear s2 hs hs1
 generalize w1.heap.size = bd at *
 replace kd := gi kd; replace hs2 := gi hs2
 go_upto_region 4 with fail
 obtain ⟨b1, off1, ha1, hb1, z1⟩ := hT.out _ hs2.out
 obtain ⟨b2, off2, ha2, hb2, z2⟩ := hB.out _ hs2.out
 subst ha1 ha2
 obtain ⟨x0, x1, x2, x3, xl⟩ := g4l kl.out
 obtain ⟨y0, y1, y2, yl⟩ := g3l kd.out
 refine qac (fun k => k = bd ∨ k = w.heap.size ∨ k = b1 ∨ k = b2) [1, 0, 1, 0, 1, 0, 0, 1, 0, 1, 0, 0, 1, 2, 3, 0, 0, 3, 0] [1, 3, 5, 8, 10, 0, 2, 4, 6, 7, 9, 11, 12, 13, 14, 15, 16, 17, 18] (by kernel_rfl) (by kernel_rfl) ?_
 repeat ((first | refine gB rfl rfl fun _ k => ?_ | refine gC rfl rfl fun _ k => ?_); go_simp; (first | refine k _ ?_ | refine ⟨_, fun _ => rfl, k _ ?_⟩); clear k)
 refine gF rfl rfl (fun _ hK => ?_)
 go_simp
 refine (SQ.out _).mono ?_
 rintro e w3 ⟨aq, cq, rfl, hQ, s3⟩
 refine hK _ _ (Kp.of_same s3) ?_
 clear hK
 (try simp only [Act.put, gj])
 clear x0 x1 x2 x3 xl
 clear y0 y1 y2 yl
 clear z1 z2 hb1 hb2
 replace s3 := (show qad W1 _ from fs3).same s3
 replace d1 := gi (d1.out.same s3); replace kr := gi (s3.at kr.out id)
 have hs3 := hs2.out.same s3
 have hQ := (qaa.of_owns hQ).row
 clear s3 kl kn
 replace hQ := gi hQ; replace hs3 := gi hs3
 refine gD rfl (by decide) (fun _ hK => ?_); go_simp
 refine (RN.out ⟨b, a1, c1, L1, r1⟩ _ _ _ d1.out ⟨rfl, tt1.out⟩ hQ.out).mono ?_
 intro e w4 hM
 obtain ⟨a4, c4, L4, r4, rfl, d4, tt4, s4⟩ := hM.open
 refine hK _ _ ?_; clear hK; try simp only [Act.put, gj]
 replace kr := gi (s4.at kr.out id)
 have hs4 := hs3.out.same s4
 clear hM s4 hQ
 replace d4 := gi d4; replace tt4 := gi tt4; replace hs4 := gi hs4
 repeat ((first | refine gB rfl rfl fun _ k => ?_ | refine gC rfl rfl fun _ k => ?_); go_simp; (first | refine k _ ?_ | refine ⟨_, fun _ => rfl, k _ ?_⟩); clear k)
 obtain ⟨x0, x1, x2, z0, z1, z2, xl⟩ := qar kr.out
 refine gD rfl (by decide) (fun _ hK => ?_); go_simp
 refine hK _ _ ?_; clear hK; try simp only [Act.put, gj]
 repeat ((first | refine gB rfl rfl fun _ k => ?_ | refine gC rfl rfl fun _ k => ?_); go_simp; (first | refine k _ ?_ | refine ⟨_, fun _ => rfl, k _ ?_⟩); clear k)
 refine gO (NoPanic.normal ?_)
 clear x0 x1 x2 z0 z1 z2 xl
 obtain ⟨q0, q1, q2, hdF, hsF⟩ := qaI hs4.out (by omega) (d := ⟨n, a4, c4, L4, r4⟩) d4.out kr.out
 go_wp2_with fail
 refine bodyPost_ret (v := .tuple #[.agg #[.int .i64 n, .slice a4 L4.length c4, .int .i64 r4], .int .i64 0]) (by simp [results, Tryz.results96, go_sem, q0, q1, q2]) rfl ?_
 exact ⟨_, rfl, hdF, ⟨rfl, tt4.out⟩, hsF⟩
structure qgO (base n : Nat) (ts : Nat → List Bool) (k : Nat) (v : Value) (W : World) : Prop where
 ex : ∃ (ds : List Dg) (a : Option Addr) (c : Nat), v = .slice a k c ∧ ds.length = k ∧ W.ownsRow base 46 3 (.slice a k c) k (qbg ds) ∧ (∀ d ∈ ds, d.at W) ∧ ∀ j (hj : j < ds.length), ds[j].tab n (ts j)
theorem qdI : ∀ l k : List Dg, qbg (l ++ k) = qbg l ++ qbg k
 | [], _ => rfl
 | d :: l, k => by rw [List.cons_append, qbg, qbg, qdI l k]; rfl
theorem qgO.nil (base n : Nat) (ts : Nat → List Bool) (W : World) : qgO base n ts 0 (.slice none 0 0) W := ⟨[], none, 0, rfl, rfl, World.ownsRow_nil _ _ _ _, fun d hd => by simp at hd, fun j hj => by simp at hj⟩
theorem qgO.same {base n : Nat} {ts : Nat → List Bool} {k : Nat} {v : Value} {W W' : World} (h : qgO base n ts k v W) (hs : qad W W') : qgO base n ts k v W' := by
 obtain ⟨ds, a, c, h1, h2, h3, h4, h5⟩ := h.ex
 exact ⟨ds, a, c, h1, h2, qag h3 hs, fun d hd => qaa.same (h4 d hd) hs, h5⟩
theorem qfy {w : World} {base n : Nat} {T T' : TypeId} {sz : Nat} {v : Value} {xs : List Value} (h : w.ownsRow base T sz v n xs) {k : Nat} {cur : Array Value} {fr : Nat × Nat} (hk : w.heap[k]? = some (.cells cur T' fr)) (hT : T' ≠ T) : v.ownBlock ≠ some k := by
 intro e
 obtain ⟨cur', e1⟩ := qaj h e
 rw [e1] at hk
 simp only [Option.some.injEq, Obj.cells.injEq] at hk
 exact hT hk.2.1.symm
theorem qgO.push {base n : Nat} {ts : Nat → List Bool} {k : Nat} {W w' : World} {ds : List Dg} {a : Option Addr} {c : Nat} {d : Dg} {a' : Option Addr} {c' : Nat} (h2 : ds.length = k) (h4 : ∀ d ∈ ds, d.at W) (h5 : ∀ j (hj : j < ds.length), ds[j].tab n (ts j)) (hd : d.at W) (hT : d.tab n (ts k)) (ho : W.ownsRow base 46 3 (.slice a k c) k (qbg ds))
 (ho' : w'.ownsRow base 46 3 (.slice a' (k + 1) c') (k + 1) (qbg ds ++ [.int .i64 d.n, .slice d.a d.L.length d.cap, .int .i64 d.r])) (hG : qaK (fun _ => False) W w' (.slice a k c) (.slice a' (k + 1) c')) : qgO base n ts (k + 1) (.slice a' (k + 1) c') w' := by
 have key : ∀ e : Dg, e.at W → e.at w' := fun e he => qaa.fr he hG.1 (fun i cur hi hS => by
  rcases hS with hS | hS
  · exact qfy ho hi (by decide) hS
  · exact hS)
 refine ⟨ds ++ [d], a', c', rfl, by simp [h2], by rw [qdI]; exact ho', fun e he => ?_, fun j hj => ?_⟩
 · rcases List.mem_append.1 he with he | he
   · exact key e (h4 e he)
   · rw [List.mem_singleton.1 he]; exact key d hd
 · by_cases hjk : j < ds.length
   · rw [List.getElem_append_left hjk]; exact h5 j hjk
   · have : j = k := by simp at hj; omega
     subst this
     rw [List.getElem_append_right (by omega)]
     simpa [h2] using hT
structure ChP (w : World) (n : Nat) (t : List Bool) (bf : Nat) (a : Option Addr) (c : Nat) (L : List Nd) (r : Int) (W : World) : Prop where
 kf : W.heap[bf]? = some (.cells #[.int .i64 n, .slice a L.length c, .int .i64 r] 46 (0, 0))
 at_ : Dg.at W ⟨n, a, c, L, r⟩
 tab : qbN n t L r
 same : qad w W
theorem qnC : (Tryz.prog.info? 46).map (fun i => (i.zero, i.size, i.bytes)) = some (some (.agg #[.int .i64 0, .slice none 0 0, .int .i64 0]), 3, 40) := by kernel_rfl
theorem qgP (args : Array Value) (W : World) : (callFunc 36 args).run Tryz.prog W = .ok (.enter 36 args) W := by kernel_rfl
theorem qnD (args : Array Value) (W : World) : (callFunc 94 args).run Tryz.prog W = .ok (.enter 94 args) W := by kernel_rfl
theorem foldD {base n : Nat} {ts : Nat → List Bool} {k : Nat} {v : Value} {W : World} (h : qgO base n ts k v W) (F : FuncId) (eF : ∀ (args : Array Value) (W : World), (callFunc F args).run Tryz.prog W = .ok (.enter F args) W) (first : Bool) (h40 : n ≤ 40) (hk : k ≤ 1000) (acc : Nat → List Bool) (h0 : acc 0 = if first then tru n else fls n)
 (OP : ∀ (j : Nat) (d d' : Dg) W', j < k → qad W W' → d.at W' → d'.at W' → d.tab n (acc j) → d'.tab n (ts j) → Calls Tryz.prog F #[d.v, d'.v] W' (DgN n (acc (j + 1)) W')) :
 Calls Tryz.prog 93 #[.int .i64 n, .bool first, .func (.func F) #[] #[], v] W (DgN n (acc k) W) := by
 obtain ⟨ds, a, c, rfl, h2, h3, h4, h5⟩ := h.ex
 subst h2
 exact qpm F eF n first ds acc a _ c W h40 rfl (qaa.of_owns h3) hk h4 h0 (fun j hj d W' hW hd hT => OP j d ds[j] W' hj hW hd (qaa.same (h4 _ (List.getElem_mem hj)) hW) hT (h5 j hj))
theorem qeP (N : Nw) (OK : qbs N) (h14 : N.all ≤ 14) (F : FuncId) (cs : Array Value) (S : Nat → List Nat) (aT aB : Option Addr) (cT cB : Nat) (w : World) (hat : N.at w) (hly : qgz N aT aB cT cB w) (ent : ∀ (args : Array Value) (W : World), (callFunc F args).run Tryz.prog W = .ok (.enter F args) W)
 (hS : N.emp = false → ∀ i, i < N.As.length → (S i).length ≤ 1000 ∧ qaw (N.ns.getD i 0 : Nat) (qaz (S i)) (qaz (S i)).length 0 = 0)
 (HC : N.emp = false → ∀ i, i < N.As.length → ∀ W, qad w W → Calls Tryz.prog F (#[.int .i64 i] ++ cs) W fun e W' => ∃ a c, e = .returned (.slice a (S i).length c) ∧ qan W' (.slice a (S i).length c) (S i).length (gw (qaz (S i))) ∧ qad W W') :
 Calls Tryz.prog 61 #[.agg #[.slice aT N.As.length cT, .slice aB N.As.length cB, .int .i64 N.all, .bool N.emp], .agg #[.slice N.aA N.As.length N.cA, .slice N.aO N.o.length N.cO], .func (.func F) #[] cs] w (DgN N.all (N.set (N.chosen S)) w) := by
 have hm12 := OK.m12
 obtain ⟨em, hem⟩ : ∃ em, em = N.emp := ⟨_, rfl⟩
 obtain ⟨acc, hacc⟩ : ∃ acc : Nat → List Bool, acc = fun k => N.set (fun x => (List.range k).all fun i => decide (x.getD i 0 ∈ S i)) := ⟨_, rfl⟩
 obtain ⟨ts, hts⟩ : ∃ ts : Nat → List Bool, ts = fun k => N.set (fun x => decide (x.getD k 0 ∈ S k)) := ⟨_, rfl⟩
 have hac0 : acc 0 = tru N.all := by rw [hacc, qnl]; rfl
 have hac1 : ∀ k, qbE (acc k) (ts k) (fls N.all) = acc (k + 1) := fun k => by
  rw [hacc, hts]
  show qbE (qfa _ _ _ _ _) (qfa _ _ _ _ _) _ = qfa _ _ _ _ _
  rw [qnm]
  congr 1
  funext x
  rw [List.range_succ, List.all_append]
  simp
 have hend : em = false → acc N.As.length = N.set (N.chosen S) := fun he => by
  rw [hacc]
  show qfa _ _ _ _ _ = qfa _ _ _ _ _
  congr 1
  funext x
  unfold Nw.chosen
  rw [← hem, he]
  rfl
 have hfl : em = true → fls N.all = N.set (N.chosen S) := fun he => by
  rw [qhl]
  show tbF _ _ = tbF _ _
  congr 1
  funext x
  unfold Nw.chosen
  rw [← hem, he]
  rfl
 have CF : ∀ W, Calls Tryz.prog 95 #[.int .i64 N.all, .bool false] W (DgN N.all (fls N.all) W) := fun W => qhp (n := N.all) (by omega) false W
 have FO := fun base v W (h : qgO base N.all ts N.As.length v W) => foldD h 36 qgP true (by omega) (by omega) acc (by rw [hac0]; rfl) (fun j d d' W' hj hW hd hd' hT hT' => by
  have := qf2 (n := N.all) (by omega) hd hd' hT hT' (by rw [hac1]; exact qfU h14 (by rw [hacc]; exact qfi _ _ _ _ _))
  rw [hac1] at this
  exact this)
 have LO := fun (hf : em = false) (i : Nat) (hi : i < N.As.length) a c W (hW : qad w W) (hR : qan W (.slice a (S i).length c) (S i).length (gw (qaz (S i)))) => qnB N OK (by omega) hi (S i) a (S i).length c aT aB cT cB W (hat.same hW) (hly.same hW) rfl hR (hS (hem ▸ hf) i hi).1 (hS (hem ▸ hf) i hi).2
 have LO' : ∀ (hf : em = false) (i : Nat) (hi : i < N.As.length) a c W, qad w W → qan W (.slice a (S i).length c) (S i).length (gw (qaz (S i))) → Calls Tryz.prog 96 #[.agg #[.slice aT N.As.length cT, .slice aB N.As.length cB, .int .i64 N.all, .bool N.emp], .agg #[.slice N.aA N.As.length N.cA, .slice N.aO N.o.length N.cO], .int .i64 i, .slice a (S i).length c] W (DgN N.all (ts i) W) := by
  rw [hts]; exact LO
 have HC' := fun (hf : em = false) => HC (hem ▸ hf)
 rw [← hem] at LO' ⊢
 clear LO hS HC hat hly hac1 hacc hts
 generalize N.set (N.chosen S) = R at *
 clear OK hem
 generalize N.all = n at *
 generalize N.As.length = m at *
 generalize N.o.length = qo at *
 generalize N.aA = aA at *
 generalize N.cA = cA at *
 generalize N.aO = aO at *
 generalize N.cO = cO at *
 obtain ⟨i3, hi3, hi3z, hi3s, hi3b⟩ := info_parts qnC
 replace CF := gi CF; replace FO := gi FO; replace LO' := gi LO'; replace HC' := gi HC'; replace hac0 := gi hac0; replace hend := gi hend; replace hfl := gi hfl
 go_enter Tryz.func61, Tryz.ntmps61
 go_upto_region 1 with fail
 have kl := qab (qab (gv w (.cells #[.slice aT m cT, .slice aB m cB, .int .i64 n, .bool em] 92)) (.cells #[.slice aA m cA, .slice aO qo cO] 35)) (.cells #[.int .i64 0, .slice none 0 0, .int .i64 0] 46)
 have kn := qab (gv (w.alloc (.cells #[.slice aT m cT, .slice aB m cB, .int .i64 n, .bool em] 92)) (.cells #[.slice aA m cA, .slice aO qo cO] 35)) (.cells #[.int .i64 0, .slice none 0 0, .int .i64 0] 46)
 have kr := gv ((w.alloc (.cells #[.slice aT m cT, .slice aB m cB, .int .i64 n, .bool em] 92)).alloc (.cells #[.slice aA m cA, .slice aO qo cO] 35)) (.cells #[.int .i64 0, .slice none 0 0, .int .i64 0] 46)
 have hs : qad w (((w.alloc (.cells #[.slice aT m cT, .slice aB m cB, .int .i64 n, .bool em] 92)).alloc (.cells #[.slice aA m cA, .slice aO qo cO] 35)).alloc (.cells #[.int .i64 0, .slice none 0 0, .int .i64 0] 46)) := fs2
 have hz1 : (w.alloc (.cells #[.slice aT m cT, .slice aB m cB, .int .i64 n, .bool em] 92)).heap.size = w.heap.size + 1 := by simp
 have hz2 : ((w.alloc (.cells #[.slice aT m cT, .slice aB m cB, .int .i64 n, .bool em] 92)).alloc (.cells #[.slice aA m cA, .slice aO qo cO] 35)).heap.size = w.heap.size + 1 + 1 := by simp
 rw [hz1] at kn
 rw [hz2] at kr
 generalize ((w.alloc (.cells #[.slice aT m cT, .slice aB m cB, .int .i64 n, .bool em] 92)).alloc (.cells #[.slice aA m cA, .slice aO qo cO] 35)).alloc (.cells #[.int .i64 0, .slice none 0 0, .int .i64 0] 46) = W0 at *
 clear hz1 hz2
 replace kl := gi kl; replace kn := gi kn; replace kr := gi kr; replace hs := gi hs
 cases em with
 | true =>
  have hR := hfl.out rfl
  clear FO LO' HC' hend hfl
  replace hR := gi hR
  obtain ⟨x0, x1, x2, x3, xl⟩ := g4l kl.out
  go_wp2_with fail
  refine (CF.out _).mono ?_
  intro e w1 hM
  obtain ⟨a1, c1, L1, r1, rfl, d1, tt1, s1⟩ := hM.open
  clear x0 x1 x2 x3 xl
  replace kr := gi (s1.at kr.out id)
  have hs1 := hs.out.same s1
  clear hM s1
  replace d1 := gi d1; replace tt1 := gi tt1; replace hs1 := gi hs1
  obtain ⟨x0, x1, x2, z0, z1, z2, xl⟩ := qar kr.out
  go_wp2_with fail
  obtain ⟨q0, q1, q2, hdF, hsF⟩ := qaI hs1.out (by omega) (d := ⟨n, a1, c1, L1, r1⟩) d1.out kr.out
  refine bodyPost_ret (v := .tuple #[.agg #[.int .i64 n, .slice a1 L1.length c1, .int .i64 r1], .int .i64 0]) (by simp [results, Tryz.results61, go_sem, q0, q1, q2]) rfl ?_
  exact ⟨_, rfl, hdF, ⟨rfl, by rw [← hR.out]; exact tt1.out⟩, hsF⟩
 | false =>
  have LO := LO'.out rfl
  have HC := HC'.out rfl
  have hE := hend.out rfl
  clear LO' HC' hend hfl CF
  have hB0 : w.heap.size + 1 + 1 < W0.heap.size := gu kr.out
  replace LO := gi LO; replace HC := gi HC; replace hE := gi hE
  obtain ⟨x0, x1, x2, x3, xl⟩ := g4l kl.out
  obtain ⟨y0, y1, yl⟩ := g2l kn.out
  go_upto_region 5 with fail
  clear x0 x1 x2 x3 xl
  clear y0 y1 yl
  go_loopw [8, 22] (fun v i wr => ∃ k : Nat, i = .int .i64 k ∧ k ≤ m ∧ qgO W0.heap.size n ts k v wr ∧ qad W0 wr) (fun _ i _ => m - (intOf i).toNat)
  case atStart => exact ⟨0, rfl, Nat.zero_le _, qgO.nil _ _ _ _, Fr.refl _ _⟩
  case round =>
   obtain ⟨k, rfl, hk, hD, hs1⟩ := hrel
   have hzr := hs1.size
   have kl1 := hs1.at kl.out id
   have kn1 := hs1.at kn.out id
   have kr1 := hs1.at kr.out id
   have hsw := hs.out.same hs1
   by_cases hlt : k < m
   · obtain ⟨ds, aR, cR, rfl, hds, hown, hall, htab⟩ := hD.ex
     replace kl1 := gi kl1; replace kn1 := gi kn1; replace kr1 := gi kr1; replace hsw := gi hsw; replace hs1 := gi hs1; replace hds := gi hds; replace hown := gi hown; replace hall := gi hall; replace htab := gi htab; replace hD := gi hD
     obtain ⟨x0, x1, x2, x3, xl⟩ := g4l kl1.out
     obtain ⟨y0, y1, yl⟩ := g2l kn1.out
     go_upto_region 7 with fail
     apply share
     · intro key
       refine qb5 (L2 w.heap.size (w.heap.size + 1)) [1, 1, 0, 0, 0, 2, 2, 0, 0, 0, 2, 3, 0] (.fork [2, 3, 4, 0, 1] 5 (.fork [] 6 (.run [7, 8, 9, 10, 11, 12]) 10 (.run [6, 7, 8, 9, 11, 12])) 10 (.run [5, 6, 7, 8, 9, 11, 12])) (by kernel_rfl) (by kernel_rfl) ?_
       refine qc4 ?_
       repeat ((first | refine gB rfl rfl fun _ k => ?_ | refine gC rfl rfl fun _ k => ?_); go_simp; (first | refine k _ ?_ | refine ⟨_, fun _ => rfl, k _ ?_⟩); clear k)
       refine gO ⟨?_, ?_⟩
       · refine qd2 rfl rfl (fun _ hK => ?_)
         go_simp
         refine (HC.out k hlt _ (hsw.out.same fs3)).mono ?_
         rintro e w5 ⟨a5, c5, rfl, hR5, s5⟩
         have hs5 := (show qad w _ from hsw.out.same fs3).same s5
         refine hK _ _ (Kp.of_same s5) ?_
         clear hK
         (try simp only [Act.put, gj])
         have hw5 : qad wr w5 := (show qad wr _ from fs3).same s5
         refine qc4 ?_
         refine gO ⟨?_, ?_⟩
         · refine qd2 rfl rfl (fun _ hK => ?_)
           go_simp
           refine (LO.out k hlt a5 c5 _ hs5 hR5).mono ?_
           intro e w6 hM
           obtain ⟨a6, c6, L6, r6, rfl, d6, tt6, s6⟩ := hM.open
           clear hM
           refine hK _ _ (Kp.of_same s6) ?_
           clear hK
           (try simp only [Act.put, gj])
           refine qcv ?_
           have hw6 := hw5.same s6
           repeat ((first | refine gB rfl rfl fun _ k => ?_ | refine gC rfl rfl fun _ k => ?_); go_simp; (first | refine k _ ?_ | refine ⟨_, fun _ => rfl, k _ ?_⟩); clear k)
           refine gF rfl rfl (fun _ hK => ?_); go_simp; refine hK _ _ (Kp.of_same fs3) ?_; clear hK
           (try simp only [Act.put, gj])
           refine gD rfl (by decide) (fun _ hK => ?_); go_simp
           refine hK _ _ ?_; clear hK; try simp only [Act.put, gj]
           repeat ((first | refine gB rfl rfl fun _ k => ?_ | refine gC rfl rfl fun _ k => ?_); go_simp; (first | refine k _ ?_ | refine ⟨_, fun _ => rfl, k _ ?_⟩); clear k)
           refine gO (NoPanic.normal ?_)
           refine qhq (P := fun W => ChP wr n (ts k) w6.heap.size a6 c6 L6 r6 W) ⟨gv _ _, qaa.same d6 fs3, tt6, hw6.same fs3⟩ (fun W hP => ?_)
           clear d6 tt6 s6 hR5 s5 hs5 hw5 hw6
           generalize w6.heap.size = bf at hP ⊢
           revert hP; revert W; revert bf; revert r6; revert L6; revert c6; revert a6; revert c5; revert a5
           exact key.out
         · refine qd2 rfl rfl (fun _ hK => ?_)
           go_simp
           have kb0 := gv w5 (.cells #[.int .i64 0, .slice none 0 0, .int .i64 0] 46)
           refine hK _ _ (Kp.of_same fs3) ?_
           clear hK
           (try simp only [Act.put, gj])
           refine qcv ?_
           have hs5 : qad w (w5.alloc (.cells #[.int .i64 0, .slice none 0 0, .int .i64 0] 46)) := hs5.same fs3
           have hw5 : qad wr (w5.alloc (.cells #[.int .i64 0, .slice none 0 0, .int .i64 0] 46)) := hw5.same fs3
           replace hR5 : qan (w5.alloc (.cells #[.int .i64 0, .slice none 0 0, .int .i64 0] 46)) (.slice a5 (S k).length c5) (S k).length (gw (qaz (S k))) := hR5.same fs3
           refine gF rfl rfl (fun _ hK => ?_)
           go_simp
           refine (LO.out k hlt a5 c5 _ hs5 hR5).mono ?_
           intro e w6 hM
           obtain ⟨a6, c6, L6, r6, rfl, d6, tt6, s6⟩ := hM.open
           clear hM
           refine hK _ _ (Kp.of_same s6) ?_
           clear hK
           (try simp only [Act.put, gj])
           have kf := s6.at kb0 id
           have hw6 := hw5.same s6
           have hbf : wr.heap.size ≤ w5.heap.size := by have := s5.size; simp at this; omega
           repeat ((first | refine gB rfl rfl fun _ k => ?_ | refine gC rfl rfl fun _ k => ?_); go_simp; (first | refine k _ ?_ | refine ⟨_, fun _ => rfl, k _ ?_⟩); clear k)
           obtain ⟨x0, x1, x2, z0, z1, z2, xl⟩ := qar kf
           refine gD rfl (by decide) (fun _ hK => ?_); go_simp
           refine hK _ _ ?_; clear hK; try simp only [Act.put, gj]
           repeat ((first | refine gB rfl rfl fun _ k => ?_ | refine gC rfl rfl fun _ k => ?_); go_simp; (first | refine k _ ?_ | refine ⟨_, fun _ => rfl, k _ ?_⟩); clear k)
           refine gO (NoPanic.normal ?_)
           obtain ⟨kf', ff⟩ := qcA (u0 := .int .i64 n) (u1 := .slice a6 L6.length c6) (u2 := .int .i64 r6) kf
           have d6' := qaa.fr d6 ff (fun i cur hk' e => by rw [show i = w5.heap.size from e, show w6.heap[w5.heap.size]? = _ from kf] at hk'; simp at hk')
           refine qhq (P := fun W => ChP wr n (ts k) w5.heap.size a6 c6 L6 r6 W) ⟨kf', d6', tt6, hw6.trans ff (fun i hi e => by have e2 : i = w5.heap.size := e; omega)⟩ (fun W hP => ?_)
           clear d6 d6' tt6 s6 hR5 s5 hs5 hw5 hw6 kf kf' ff x0 x1 x2 z0 z1 z2 xl hbf kb0
           generalize w5.heap.size = bf at hP ⊢
           revert hP; revert W; revert bf; revert r6; revert L6; revert c6; revert a6; revert c5; revert a5
           exact key.out
       · refine qd2 rfl rfl (fun _ hK => ?_)
         go_simp
         have kb0 : (wr.drew.alloc (.cells #[.int .i64 0, .slice none 0 0, .int .i64 0] 46)).heap[wr.heap.size]? = _ := gv wr.drew (.cells #[.int .i64 0, .slice none 0 0, .int .i64 0] 46)
         refine hK _ _ (Kp.of_same fs3) ?_
         clear hK
         (try simp only [Act.put, gj])
         refine qcv ?_
         refine gF rfl rfl (fun _ hK => ?_)
         go_simp
         refine (HC.out k hlt _ (hsw.out.same fs3)).mono ?_
         rintro e w5 ⟨a5, c5, rfl, hR5, s5⟩
         have hs5 := (show qad w _ from hsw.out.same fs3).same s5
         refine hK _ _ (Kp.of_same s5) ?_
         clear hK
         (try simp only [Act.put, gj])
         have hw5 : qad wr w5 := (show qad wr _ from fs3).same s5
         refine gF rfl rfl (fun _ hK => ?_)
         go_simp
         refine (LO.out k hlt a5 c5 _ hs5 hR5).mono ?_
         intro e w6 hM
         obtain ⟨a6, c6, L6, r6, rfl, d6, tt6, s6⟩ := hM.open
         clear hM
         refine hK _ _ (Kp.of_same s6) ?_
         clear hK
         (try simp only [Act.put, gj])
         have kf := s6.at (s5.at kb0 id) id
         have hw6 := hw5.same s6
         have hbf : wr.heap.size ≤ wr.heap.size := Nat.le_refl _
         repeat ((first | refine gB rfl rfl fun _ k => ?_ | refine gC rfl rfl fun _ k => ?_); go_simp; (first | refine k _ ?_ | refine ⟨_, fun _ => rfl, k _ ?_⟩); clear k)
         obtain ⟨x0, x1, x2, z0, z1, z2, xl⟩ := qar kf
         refine gD rfl (by decide) (fun _ hK => ?_); go_simp
         refine hK _ _ ?_; clear hK; try simp only [Act.put, gj]
         repeat ((first | refine gB rfl rfl fun _ k => ?_ | refine gC rfl rfl fun _ k => ?_); go_simp; (first | refine k _ ?_ | refine ⟨_, fun _ => rfl, k _ ?_⟩); clear k)
         refine gO (NoPanic.normal ?_)
         obtain ⟨kf', ff⟩ := qcA (u0 := .int .i64 n) (u1 := .slice a6 L6.length c6) (u2 := .int .i64 r6) kf
         have d6' := qaa.fr d6 ff (fun i cur hk' e => by rw [show i = wr.heap.size from e, show w6.heap[wr.heap.size]? = _ from kf] at hk'; simp at hk')
         refine qhq (P := fun W => ChP wr n (ts k) wr.heap.size a6 c6 L6 r6 W) ⟨kf', d6', tt6, hw6.trans ff (fun i hi e => by have e2 : i = wr.heap.size := e; omega)⟩ (fun W hP => ?_)
         clear d6 d6' tt6 s6 hR5 s5 hs5 hw5 hw6 kf kf' ff x0 x1 x2 z0 z1 z2 xl hbf kb0
         generalize wr.heap.size = bf at hP ⊢
         revert hP; revert W; revert bf; revert r6; revert L6; revert c6; revert a6; revert c5; revert a5
         exact key.out
     intro a5 c5 a6 c6 L6 r6 bf W6 hP
     have kf := hP.kf
     have hs6 := hP.same
     have d6 := hP.at_
     have t6 := hP.tab
     have hz6 := hs6.size
     have hown6 := qag hown.out hs6
     have hall6 : ∀ d ∈ ds, d.at W6 := fun d hd => qaa.same (hall.out d hd) hs6
     have hs16 := hs1.out.same hs6
     clear hP hown hall hs6 kl1 kn1 kr1 hsw hs1 hD
     replace kf := gi kf; replace d6 := gi d6; replace t6 := gi t6; replace hown6 := gi hown6; replace hall6 := gi hall6; replace hs16 := gi hs16
     obtain ⟨x0, x1, x2, xl⟩ := g3l kf.out
     go_upto_region 10 with fail
     go_wp2_with (at_builtin; refine qai rfl (.tmp 39) (.tmp 41) 147 rfl W0.heap.size 46 i3 (.agg #[.int .i64 0, .slice none 0 0, .int .i64 0]) 3 40 Tryz.underlying147 hi3 hi3z hi3s hi3b rfl (by decide) (by decide) aR k cR (qbg ds) rfl (qag hown6.out fs2) (by omega) W6.heap.size [.int .i64 n, .slice a6 L6.length c6, .int .i64 r6] rfl rfl (gv _ _) (by simp [Value.oneCell']) (by have := hs16.out.size; simp; omega) ?_; intro a9 c9 w9 ho9 hG9)
     have hR9 := qgO.push (base := W0.heap.size) (n := n) (ts := ts) (k := k) (W := W6.alloc (.cells #[.int .i64 n, .slice a6 L6.length c6, .int .i64 r6] 46)) (d := ⟨n, a6, c6, L6, r6⟩) hds.out (fun d hd => qaa.same (hall6.out d hd) fs2) htab.out (qaa.same d6.out fs2) ⟨rfl, t6.out⟩ (qag hown6.out fs2) ho9 hG9
     have hs9 : qad W0 w9 := qas (hs16.out.same fs2) hG9 (fun k hk => (hown6.out.lt k hk).1)
     clear ho9 hG9 x0 x1 x2 xl
     replace hR9 := gi hR9; replace hs9 := gi hs9
     go_roundw
     case rel => exact ⟨k + 1, by go_num, by omega, hR9.out, hs9.out⟩
     case measure => simp [intOf]; omega
   · obtain rfl : k = m := by omega
     have FOk := FO.out _ _ _ hD
     have hB1 := hB0
     replace kl1 := gi kl1; replace kn1 := gi kn1; replace kr1 := gi kr1; replace hsw := gi hsw; replace hs1 := gi hs1; replace hD := gi hD; replace FOk := gi FOk
     obtain ⟨ds, aR, cR, rfl, -⟩ := hD.out.ex
     obtain ⟨x0, x1, x2, x3, xl⟩ := g4l kl1.out
     go_wp2_with fail
     refine FOk.out.mono ?_
     intro e w5 hM
     obtain ⟨a5, c5, L5, r5, rfl, d5, tt5, s5⟩ := hM.open
     clear x0 x1 x2 x3 xl
     have kr5 := s5.at kr1.out id
     have hs5 := hsw.out.same s5
     clear hM s5 kr1 kl1 kn1
     replace d5 := gi d5; replace tt5 := gi tt5; replace hs5 := gi hs5; replace kr5 := gi kr5
     obtain ⟨x0, x1, x2, z0, z1, z2, xl⟩ := qar kr5.out
     go_wp2_with fail
     obtain ⟨q0, q1, q2, hdF, hsF⟩ := qaI hs5.out (by omega) (d := ⟨n, a5, c5, L5, r5⟩) d5.out kr5.out
     refine bodyPost_ret (v := .tuple #[.agg #[.int .i64 n, .slice a5 L5.length c5, .int .i64 r5], .int .i64 0]) (by simp [results, Tryz.results61, go_sem, q0, q1, q2]) rfl ?_
     exact ⟨_, rfl, hdF, ⟨rfl, by rw [← hE.out]; exact tt5.out⟩, hsF⟩
structure qby (N : Nw) : Prop where
 err : N.err = 0
 sm : ∀ A ∈ N.As, A.small
 n64 : ∀ A ∈ N.As, A.n ≤ 64
 h10 : N.all ≤ 10
theorem Nw.err_zero {N : Nw} (h : N.err = 0) : qbs N ∧ N.all ≤ 20 := by
 unfold Nw.err at h
 by_cases h1 : qbx N.As = 0
 · by_cases h2 : qcY N.As.length N.o = 0
   · rw [if_neg (by simpa using h1), if_neg (by simpa using h2)] at h
     refine ⟨qbs.of h1 h2, ?_⟩
     by_cases h3 : 20 < N.all
     · rw [if_pos h3] at h; omega
     · omega
   · rw [if_neg (by simpa using h1), if_pos h2] at h
     exact absurd h h2
 · rw [if_pos h1] at h
   exact absurd h h1
theorem qby.ok {N : Nw} (h : qby N) : qbs N := (Nw.err_zero h.err).1
theorem qby.ol {N : Nw} (h : qby N) : N.o.length = N.As.length := by have := h.ok.len; unfold Nw.on at this; simpa using this
theorem qby.ns64 {N : Nw} (h : qby N) {i : Nat} (hi : i < N.As.length) : N.ns.getD i 0 ≤ 64 := by
 have := h.n64 _ (List.getElem_mem hi)
 rw [(h.ok.n4 hi).2] at this
 omega
theorem qby.place {N : Nw} (h : qby N) (w : World) (hat : N.at w) : Calls Tryz.prog 43 #[.agg #[.slice N.aA N.As.length N.cA, .slice N.aO N.o.length N.cO]] w fun e w' =>
 ∃ aT aB cT cB, e = .returned (.tuple #[.agg #[.slice aT N.As.length cT, .slice aB N.As.length cB, .int .i64 N.all, .bool N.emp], .int .i64 0]) ∧ qgz N aT aB cT cB w' ∧ qad w w' := by
 have h12 := h.ok.m12
 have hol := h.ol
 refine (qnA N w hat h.sm (by omega) (by omega)).mono fun e w' hP => ?_
 rcases hP with ⟨h1, _⟩ | ⟨_, h2⟩
 · exact absurd h.err h1
 · exact h2
theorem gL_id (n : Nat) : gL (fun k => 0 + k) n = qaz (List.range n) := by
 unfold gL qaz
 exact List.map_congr_left (fun i _ => by simp)
theorem qnE (n : Nat) : qaw n (qaz (List.range n)) (qaz (List.range n)).length 0 = 0 := by
 rw [← gL_id]
 exact qm5 (fun i hi => by omega) (fun i hi => by omega)
theorem qpn {n : Nat} (h : 0 < n) : qaw n (qaz [0]) (qaz [0]).length 0 = 0 := by
 have e : toF (qaz [0]) 0 = 0 := rfl
 have e1 : (qaz [0]).length = 0 + 1 := rfl
 rw [e1, qaw]
 exact (if_neg (by rw [e]; omega)).trans ((if_neg (by omega)).trans rfl)
theorem Nw.chosen_range (N : Nw) : N.chosen (fun i => List.range (N.ns.getD i 0)) = okT N.ns := by
 funext x
 unfold Nw.chosen okT
 rw [N.ns_len, Bool.eq_iff_iff, Bool.and_eq_true, List.all_eq_true, List.all_eq_true]
 constructor
 · rintro ⟨_, h⟩ i hi
   have := h i hi
   simpa using this
 · intro h
   refine ⟨?_, fun i hi => by have := h i hi; simpa using this⟩
   unfold Nw.emp
   rw [Bool.not_eq_true', List.any_eq_false]
   intro n hn h0
   obtain ⟨i, hi, rfl⟩ := List.mem_iff_getElem.1 hn
   have := h i (List.mem_range.2 (by rw [N.ns_len] at hi; exact hi))
   rw [List.getD_eq_getElem?_getD, List.getD_eq_getElem?_getD, List.getElem?_eq_getElem hi] at this
   have h1 := of_decide_eq_true this
   have h2 : N.ns[i] = 0 := by simpa using h0
   simp only [Option.getD_some] at h1
   omega
theorem qis (args : Array Value) (W : World) : (callFunc 107 args).run Tryz.prog W = .ok (.enter 107 args) W := by kernel_rfl
theorem qgA (args : Array Value) (W : World) : (callFunc 62 args).run Tryz.prog W = .ok (.enter 62 args) W := by kernel_rfl
theorem qhs (args : Array Value) (W : World) : (callFunc 64 args).run Tryz.prog W = .ok (.enter 64 args) W := by kernel_rfl
theorem qlC (N : Nw) (OK : qby N) {i : Nat} (hi : i < N.As.length) (bn : Nat) (w : World) (hat : N.at w) (kn : w.heap[bn]? = some (.cells #[.slice N.aA N.As.length N.cA, .slice N.aO N.o.length N.cO] 35 (0, 0))) :
 Calls Tryz.prog 107 #[.int .i64 i, .pointer (some ⟨bn, 0, none⟩)] w fun e w' => ∃ a c, e = .returned (.slice a (List.range (N.ns.getD i 0)).length c) ∧ qan w' (.slice a (List.range (N.ns.getD i 0)).length c) (List.range (N.ns.getD i 0)).length (gw (qaz (List.range (N.ns.getD i 0)))) ∧ qad w w' := by
 obtain ⟨b, off, h1, h2, h3, h4, h5, h6⟩ := hat.au.row hi
 have h64 := OK.ns64 hi
 rw [(OK.ok.n4 hi).2] at h4
 have SQ := fun W => qdn 0 (N.ns.getD i 0) W (by omega) (by omega)
 rw [gL_id] at SQ
 rw [List.length_range]
 generalize N.ns.getD i 0 = x at *
 clear hat OK h3 h5 h6
 generalize N.As.length = m at *
 generalize N.o.length = qo at *
 generalize N.aA = aA at *
 generalize N.cA = cA at *
 generalize N.aO = aO at *
 generalize N.cO = cO at *
 subst h1
 replace SQ := gi SQ; replace kn := gi kn
 go_enter Tryz.func107, Tryz.ntmps107
 obtain ⟨y0, y1, yl⟩ := g2l kn.out
 go_wp2_with fail
 refine (SQ.out _).mono ?_
 rintro e w1 ⟨a1, c1, rfl, ho, s1⟩
 go_wp2_with fail
 go_ret
 exact ⟨a1, c1, rfl, (qaa.of_owns ho).row, s1⟩
theorem qnF (N : Nw) (OK : qby N) (aT aB : Option Addr) (cT cB : Nat) (w : World) (hat : N.at w) (hly : qgz N aT aB cT cB w) :
 Calls Tryz.prog 79 #[.agg #[.slice aT N.As.length cT, .slice aB N.As.length cB, .int .i64 N.all, .bool N.emp], .agg #[.slice N.aA N.As.length N.cA, .slice N.aO N.o.length N.cO]] w (DgN N.all (N.set (okT N.ns)) w) := by
 have h10 := OK.h10
 have CH := fun (bn : Nat) W (hW : qad w W) (kn : W.heap[bn]? = some (.cells #[.slice N.aA N.As.length N.cA, .slice N.aO N.o.length N.cO] 35 (0, 0))) =>
  qeP N OK.ok (by omega) 107 #[.pointer (some ⟨bn, 0, none⟩)] (fun i => List.range (N.ns.getD i 0)) aT aB cT cB W (hat.same hW) (hly.same hW) qis (fun _ i hi => ⟨show (List.range (N.ns.getD i 0)).length ≤ 1000 from by rw [List.length_range]; have := OK.ns64 hi; omega, qnE _⟩) (fun _ i hi W' hW' => qlC N OK hi bn W' (hat.same (hW.same hW')) (hW'.at kn id))
 rw [N.chosen_range] at CH
 generalize N.set (okT N.ns) = R at *
 clear hat hly OK
 generalize N.all = n at *
 generalize N.emp = em at *
 generalize N.As.length = m at *
 generalize N.o.length = qo at *
 generalize N.aA = aA at *
 generalize N.cA = cA at *
 generalize N.aO = aO at *
 generalize N.cO = cO at *
 replace CH := gi CH
 go_enter Tryz.func79, Tryz.ntmps79
 go_upto_region 1 with fail
 have kl := qab (qab (gv w (.cells #[.slice aT m cT, .slice aB m cB, .int .i64 n, .bool em] 92)) (.cells #[.slice aA m cA, .slice aO qo cO] 35)) (.cells #[.int .i64 0, .slice none 0 0, .int .i64 0] 46)
 have kn := qab (gv (w.alloc (.cells #[.slice aT m cT, .slice aB m cB, .int .i64 n, .bool em] 92)) (.cells #[.slice aA m cA, .slice aO qo cO] 35)) (.cells #[.int .i64 0, .slice none 0 0, .int .i64 0] 46)
 have kr := gv ((w.alloc (.cells #[.slice aT m cT, .slice aB m cB, .int .i64 n, .bool em] 92)).alloc (.cells #[.slice aA m cA, .slice aO qo cO] 35)) (.cells #[.int .i64 0, .slice none 0 0, .int .i64 0] 46)
 have hs : qad w (((w.alloc (.cells #[.slice aT m cT, .slice aB m cB, .int .i64 n, .bool em] 92)).alloc (.cells #[.slice aA m cA, .slice aO qo cO] 35)).alloc (.cells #[.int .i64 0, .slice none 0 0, .int .i64 0] 46)) := fs2
 have hz1 : (w.alloc (.cells #[.slice aT m cT, .slice aB m cB, .int .i64 n, .bool em] 92)).heap.size = w.heap.size + 1 := by simp
 have hz2 : ((w.alloc (.cells #[.slice aT m cT, .slice aB m cB, .int .i64 n, .bool em] 92)).alloc (.cells #[.slice aA m cA, .slice aO qo cO] 35)).heap.size = w.heap.size + 1 + 1 := by simp
 rw [hz1] at kn
 rw [hz2] at kr
 generalize ((w.alloc (.cells #[.slice aT m cT, .slice aB m cB, .int .i64 n, .bool em] 92)).alloc (.cells #[.slice aA m cA, .slice aO qo cO] 35)).alloc (.cells #[.int .i64 0, .slice none 0 0, .int .i64 0] 46) = W0 at *
 clear hz1 hz2
 replace kl := gi kl; replace kn := gi kn; replace kr := gi kr; replace hs := gi hs
 obtain ⟨x0, x1, x2, x3, xl⟩ := g4l kl.out
 obtain ⟨y0, y1, yl⟩ := g2l kn.out
 have hs2 := hs
 go_wp2_with fail
 refine (CH.out _ _ hs.out kn.out).mono ?_
 intro e w3 hM
 obtain ⟨a3, c3, L3, r3, rfl, d3, tt3, s3⟩ := hM.open
 skip
 replace kr := gi (s3.at kr.out id)
 have hs3 := hs2.out.same s3
 clear hM s3
 replace d3 := gi d3; replace tt3 := gi tt3; replace hs3 := gi hs3
 obtain ⟨x0, x1, x2, z0, z1, z2, xl⟩ := qar kr.out
 go_wp2_with fail
 obtain ⟨q0, q1, q2, hdF, hsF⟩ := qaI hs3.out (by omega) (d := ⟨n, a3, c3, L3, r3⟩) d3.out kr.out
 refine bodyPost_ret (v := .tuple #[.agg #[.int .i64 n, .slice a3 L3.length c3, .int .i64 r3], .int .i64 0]) (by simp [results, Tryz.results79, go_sem, q0, q1, q2]) rfl ?_
 exact ⟨_, rfl, hdF, ⟨rfl, tt3.out⟩, hsF⟩
theorem qit (i : Nat) (w : World) : Calls Tryz.prog 62 #[.int .i64 i] w fun e w' => ∃ a c, e = .returned (.slice a [0].length c) ∧ qan w' (.slice a [0].length c) [0].length (gw (qaz [0])) ∧ qad w w' := by
 go_enter Tryz.func62, Tryz.ntmps62
 go_wp2_with fail
 go_ret
 refine ⟨some ⟨w.heap.size, 0, none⟩, 1, rfl, ?_, fs2⟩
 exact (qaa.of_owns (qaL (base := 0) (xs := gw (qaz [0])) (n := 1) (sz := 1) (gv _ _) (Nat.zero_le _) rfl rfl (by unfold maxLen; omega))).row
theorem qjL (N : Nw) (OK : qby N) (w : World) (hat : N.at w) : Calls Tryz.prog 31 #[.agg #[.slice N.aA N.As.length N.cA, .slice N.aO N.o.length N.cO]] w (DgN N.all (N.set (N.chosen fun _ => [0])) w) := by
 have h10 := OK.h10
 have PL := fun W (hW : qad w W) => OK.place W (hat.same hW)
 have hpos : N.emp = false → ∀ i, i < N.As.length → 0 < N.ns.getD i 0 := fun he i hi => by
  unfold Nw.emp at he
  have := List.any_eq_false.1 he (N.ns.getD i 0) (by rw [List.getD_eq_getElem?_getD, List.getElem?_eq_getElem (by rw [N.ns_len]; exact hi)]; exact List.getElem_mem _)
  simp only [beq_iff_eq] at this
  omega
 have VA := fun aT aB cT cB W (hW : qad w W) (hly : qgz N aT aB cT cB W) => qeP N OK.ok (by omega) 62 #[] (fun _ => [0]) aT aB cT cB W (hat.same hW) hly qgA (fun he i hi => ⟨by simp, qpn (hpos he i hi)⟩) (fun _ i hi W' hW' => qit i W')
 generalize N.set (N.chosen fun _ => [0]) = R at *
 clear hat OK hpos
 generalize N.all = n at *
 generalize N.emp = em at *
 generalize N.As.length = m at *
 generalize N.o.length = qo at *
 generalize N.aA = aA at *
 generalize N.cA = cA at *
 generalize N.aO = aO at *
 generalize N.cO = cO at *
 replace PL := gi PL; replace VA := gi VA
 go_enter Tryz.func31, Tryz.ntmps31
 go_upto_region 1 with fail
 have kn := qab (gv w (.cells #[.slice aA m cA, .slice aO qo cO] 35)) (.cells #[.int .i64 0, .slice none 0 0, .int .i64 0] 46)
 have kr := gv (w.alloc (.cells #[.slice aA m cA, .slice aO qo cO] 35)) (.cells #[.int .i64 0, .slice none 0 0, .int .i64 0] 46)
 rw [show (w.alloc (.cells #[.slice aA m cA, .slice aO qo cO] 35)).heap.size = w.heap.size + 1 by simp] at kr
 have hs : qad w ((w.alloc (.cells #[.slice aA m cA, .slice aO qo cO] 35)).alloc (.cells #[.int .i64 0, .slice none 0 0, .int .i64 0] 46)) := fs2
 generalize (w.alloc (.cells #[.slice aA m cA, .slice aO qo cO] 35)).alloc (.cells #[.int .i64 0, .slice none 0 0, .int .i64 0] 46) = W0 at *
 replace kn := gi kn; replace kr := gi kr; replace hs := gi hs
 obtain ⟨y0, y1, yl⟩ := g2l kn.out
 go_wp2_with fail
 refine (PL.out _ hs.out).mono ?_
 rintro e w1 ⟨aT, aB, cT, cB, rfl, hly, s1⟩
 clear y0 y1 yl
 have hbl : w.heap.size + 1 < w1.heap.size := by have h9 := gu kr.out; have h8 := s1.size; omega
 replace kn := gi (s1.at kn.out id); replace kr := gi (s1.at kr.out id)
 have hs1 := hs.out.same s1
 clear s1
 replace hly := gi hly; replace hs1 := gi hs1
 go_upto_region 2 with fail
 have kl := gv w1 (.cells #[.slice aT m cT, .slice aB m cB, .int .i64 n, .bool em] 92)
 have s2 : qad w1 (w1.alloc (.cells #[.slice aT m cT, .slice aB m cB, .int .i64 n, .bool em] 92)) := fs2
 have hly2 := hly.out.same s2
 replace kn := gi (s2.at kn.out id); replace kr := gi (s2.at kr.out id)
 have hs2 := hs1.out.same s2
 clear s2 hly hs1 hs
 generalize w1.alloc (.cells #[.slice aT m cT, .slice aB m cB, .int .i64 n, .bool em] 92) = W1 at *
 generalize w1.heap.size = bl at *
 replace kl := gi kl; replace hly2 := gi hly2; replace hs2 := gi hs2
 obtain ⟨x0, x1, x2, x3, xl⟩ := g4l kl.out
 obtain ⟨y0, y1, yl⟩ := g2l kn.out
 go_wp2_with fail
 refine (VA.out _ _ _ _ _ hs2.out hly2.out).mono ?_
 intro e w3 hM
 obtain ⟨a3, c3, L3, r3, rfl, d3, tt3, s3⟩ := hM.open
 clear hly2
 replace kr := gi (s3.at kr.out id)
 have hs3 := hs2.out.same s3
 clear hM s3
 replace d3 := gi d3; replace tt3 := gi tt3; replace hs3 := gi hs3
 obtain ⟨x0, x1, x2, z0, z1, z2, xl⟩ := qar kr.out
 go_wp2_with fail
 obtain ⟨q0, q1, q2, hdF, hsF⟩ := qaI hs3.out (by omega) (d := ⟨n, a3, c3, L3, r3⟩) d3.out kr.out
 refine bodyPost_ret (v := .tuple #[.agg #[.int .i64 n, .slice a3 L3.length c3, .int .i64 r3], .int .i64 0]) (by simp [results, Tryz.results31, go_sem, q0, q1, q2]) rfl ?_
 exact ⟨_, rfl, hdF, ⟨rfl, tt3.out⟩, hsF⟩
def Nw.marks (N : Nw) (i : Nat) : List Nat := match N.As[i]? with | some A => A.ma.map Int.toNat | none => []
theorem qby.ma {N : Nw} (h : qby N) {i : Nat} (hi : i < N.As.length) : qaz (N.marks i) = N.As[i].ma ∧ (N.marks i).length = N.As[i].ma.length ∧ qaw (N.ns.getD i 0 : Nat) (qaz (N.marks i)) (qaz (N.marks i)).length 0 = 0 := by
 have hA := h.ok.au _ (List.getElem_mem hi)
 have e : N.marks i = N.As[i].ma.map Int.toNat := by unfold Nw.marks; rw [List.getElem?_eq_getElem hi]
 have hma := hA.ma
 have H := qbT N.As[i].ma.length 0 hma
 have e2 : qaz (N.marks i) = N.As[i].ma := by
  rw [e]
  unfold qaz
  rw [List.map_map]
  conv => rhs; rw [← List.map_id N.As[i].ma]
  refine List.map_congr_left (fun x hx => ?_)
  obtain ⟨k, hk, rfl⟩ := List.mem_iff_getElem.1 hx
  have := (H k (by omega) (by omega)).1
  simp only [toF, List.getD, List.getElem?_eq_getElem hk, Option.getD_some] at this
  simp only [Function.comp, id]
  omega
 refine ⟨e2, by rw [e, List.length_map], ?_⟩
 rw [e2, ← (h.ok.n4 hi).2]
 exact hma
theorem qjM (N : Nw) (OK : qby N) {i : Nat} (hi : i < N.As.length) (bn : Nat) (w : World) (hat : N.at w) (kn : w.heap[bn]? = some (.cells #[.slice N.aA N.As.length N.cA, .slice N.aO N.o.length N.cO] 35 (0, 0))) :
 Calls Tryz.prog 64 #[.int .i64 i, .pointer (some ⟨bn, 0, none⟩)] w fun e w' => ∃ a c, e = .returned (.slice a (N.marks i).length c) ∧ qan w' (.slice a (N.marks i).length c) (N.marks i).length (gw (qaz (N.marks i))) ∧ qad w w' := by
 obtain ⟨b, off, h1, h2, h3, h4, h5, h6⟩ := hat.au.row hi
 obtain ⟨e1, e2, e3⟩ := OK.ma hi
 have hr := (hat.au.each _ (List.getElem_mem hi)).ma
 rw [← e2] at h5 hr
 rw [← e1] at hr
 clear e1 e2 e3 h3 h4 h6
 generalize N.marks i = S at *
 generalize N.As[i].aM = fM at *
 generalize N.As[i].cM = gM at *
 clear hat OK
 generalize N.As.length = m at *
 generalize N.o.length = qo at *
 generalize N.aA = aA at *
 generalize N.cA = cA at *
 generalize N.aO = aO at *
 generalize N.cO = cO at *
 subst h1
 replace kn := gi kn; replace hr := gi hr
 go_enter Tryz.func64, Tryz.ntmps64
 obtain ⟨y0, y1, yl⟩ := g2l kn.out
 go_wp2_with fail
 go_ret
 exact ⟨_, _, rfl, hr.out, Fr.refl _ _⟩
theorem qlD (N : Nw) (OK : qby N) (w : World) (hat : N.at w) : Calls Tryz.prog 33 #[.agg #[.slice N.aA N.As.length N.cA, .slice N.aO N.o.length N.cO]] w (DgN N.all (N.set (N.chosen N.marks)) w) := by
 have h10 := OK.h10
 have PL := fun W (hW : qad w W) => OK.place W (hat.same hW)
 have VA := fun aT aB cT cB (bn : Nat) W (hW : qad w W) (hly : qgz N aT aB cT cB W) (kn : W.heap[bn]? = some (.cells #[.slice N.aA N.As.length N.cA, .slice N.aO N.o.length N.cO] 35 (0, 0))) => qeP N OK.ok (by omega) 64 #[.pointer (some ⟨bn, 0, none⟩)] N.marks aT aB cT cB W (hat.same hW) hly qhs (fun _ i hi => ⟨by rw [(OK.ma hi).2.1]; exact (OK.sm _ (List.getElem_mem hi)).ma, (OK.ma hi).2.2⟩) (fun _ i hi W' hW' => qjM N OK hi bn W' (hat.same (hW.same hW')) (hW'.at kn id))
 generalize N.set (N.chosen N.marks) = R at *
 clear hat OK
 generalize N.all = n at *
 generalize N.emp = em at *
 generalize N.As.length = m at *
 generalize N.o.length = qo at *
 generalize N.aA = aA at *
 generalize N.cA = cA at *
 generalize N.aO = aO at *
 generalize N.cO = cO at *
 replace PL := gi PL; replace VA := gi VA
 go_enter Tryz.func33, Tryz.ntmps33
 go_upto_region 1 with fail
 have kn := qab (gv w (.cells #[.slice aA m cA, .slice aO qo cO] 35)) (.cells #[.int .i64 0, .slice none 0 0, .int .i64 0] 46)
 have kr := gv (w.alloc (.cells #[.slice aA m cA, .slice aO qo cO] 35)) (.cells #[.int .i64 0, .slice none 0 0, .int .i64 0] 46)
 rw [show (w.alloc (.cells #[.slice aA m cA, .slice aO qo cO] 35)).heap.size = w.heap.size + 1 by simp] at kr
 have hs : qad w ((w.alloc (.cells #[.slice aA m cA, .slice aO qo cO] 35)).alloc (.cells #[.int .i64 0, .slice none 0 0, .int .i64 0] 46)) := fs2
 generalize (w.alloc (.cells #[.slice aA m cA, .slice aO qo cO] 35)).alloc (.cells #[.int .i64 0, .slice none 0 0, .int .i64 0] 46) = W0 at *
 replace kn := gi kn; replace kr := gi kr; replace hs := gi hs
 obtain ⟨y0, y1, yl⟩ := g2l kn.out
 go_wp2_with fail
 refine (PL.out _ hs.out).mono ?_
 rintro e w1 ⟨aT, aB, cT, cB, rfl, hly, s1⟩
 clear y0 y1 yl
 have hbl : w.heap.size + 1 < w1.heap.size := by have h9 := gu kr.out; have h8 := s1.size; omega
 replace kn := gi (s1.at kn.out id); replace kr := gi (s1.at kr.out id)
 have hs1 := hs.out.same s1
 clear s1
 replace hly := gi hly; replace hs1 := gi hs1
 go_upto_region 2 with fail
 have kl := gv w1 (.cells #[.slice aT m cT, .slice aB m cB, .int .i64 n, .bool em] 92)
 have s2 : qad w1 (w1.alloc (.cells #[.slice aT m cT, .slice aB m cB, .int .i64 n, .bool em] 92)) := fs2
 have hly2 := hly.out.same s2
 replace kn := gi (s2.at kn.out id); replace kr := gi (s2.at kr.out id)
 have hs2 := hs1.out.same s2
 clear s2 hly hs1 hs
 generalize w1.alloc (.cells #[.slice aT m cT, .slice aB m cB, .int .i64 n, .bool em] 92) = W1 at *
 generalize w1.heap.size = bl at *
 replace kl := gi kl; replace hly2 := gi hly2; replace hs2 := gi hs2
 obtain ⟨x0, x1, x2, x3, xl⟩ := g4l kl.out
 obtain ⟨y0, y1, yl⟩ := g2l kn.out
 go_wp2_with fail
 refine (VA.out _ _ _ _ _ _ hs2.out hly2.out kn.out).mono ?_
 intro e w3 hM
 obtain ⟨a3, c3, L3, r3, rfl, d3, tt3, s3⟩ := hM.open
 clear hly2
 replace kr := gi (s3.at kr.out id)
 have hs3 := hs2.out.same s3
 clear hM s3
 replace d3 := gi d3; replace tt3 := gi tt3; replace hs3 := gi hs3
 obtain ⟨x0, x1, x2, z0, z1, z2, xl⟩ := qar kr.out
 go_wp2_with fail
 obtain ⟨q0, q1, q2, hdF, hsF⟩ := qaI hs3.out (by omega) (d := ⟨n, a3, c3, L3, r3⟩) d3.out kr.out
 refine bodyPost_ret (v := .tuple #[.agg #[.int .i64 n, .slice a3 L3.length c3, .int .i64 r3], .int .i64 0]) (by simp [results, Tryz.results33, go_sem, q0, q1, q2]) rfl ?_
 exact ⟨_, rfl, hdF, ⟨rfl, tt3.out⟩, hsF⟩
theorem wr2 {x y : Nat} (h : y = 2 * x) (hx : x ≤ 100000) : wrap64 (2 * (x : Int)) = (y : Int) ∧ IntKind.i64.wrap (2 * (x : Int)) = (y : Int) := by
 obtain ⟨h1, h2⟩ := qhr (x := 2 * (x : Int)) (by omega) (by omega)
 exact ⟨by rw [h1]; omega, by rw [h2]; omega⟩
theorem qnG {As : List Au} {e : Int} (h : (As.any fun A => A.n.toNat == 0) = true) (x y : List Nat) : qcu As e x y = false := by unfold qcu; rw [h]; rfl
theorem qnH {As : List Au} {e : Int} (h : (As.any fun A => decide (e ∈ A.al)) = false) (x y : List Nat) : qcu As e x y = false := by unfold qcu; rw [h]; simp
theorem qiu {As : List Au} {e : Int} (h1 : (As.any fun A => A.n.toNat == 0) = false) (h2 : (As.any fun A => decide (e ∈ A.al)) = true) (x y : List Nat) : qcu As e x y = qdG As e As.length x y := by unfold qcu; rw [h1, h2]; rfl
theorem Nw.emp_eq (N : Nw) : N.emp = N.As.any fun A => A.n.toNat == 0 := by unfold Nw.emp Nw.ns; rw [List.any_map]; rfl
def knK (As : List Au) (e : Int) (k : Nat) : Bool := (As.take k).any fun A => decide (e ∈ A.al)
theorem qpo (As : List Au) (e : Int) {k : Nat} (hk : k < As.length) : knK As e (k + 1) = (knK As e k || decide (e ∈ As[k].al)) := by
 unfold knK
 rw [List.take_add_one, List.getElem?_eq_getElem hk, List.any_append]
 simp only [Option.toList_some, List.any_cons, List.any_nil, Bool.or_false]
theorem qnI {A : Au} (h : qc1 A) : ∀ i j, i ≤ j → j < A.al.length → toF A.al i ≤ toF A.al j := qbU h.al
theorem qht {A : Au} (h : qc1 A) {e : Int} (he : e ∈ A.al) : 0 ≤ e ∧ e < 32 := by
 have H := qbT A.al.length 0 h.al
 obtain ⟨i, hi, rfl⟩ := (qhd A.al e).1 he
 have := H i (by omega) (by omega)
 omega
theorem qpp {A : Au} (h : qc1 A) (h0 : qbC A = 0) {e : Int} (he : e ∈ A.al) : qfY A [e] = 0 := by
 have := qht h he
 unfold qfY
 rw [if_neg (by simpa using h0)]
 rw [show ([e] : List Int).length = 0 + 1 from rfl, qaw]
 have e0 : toF [e] 0 = e := rfl
 exact (if_neg (by rw [e0]; omega)).trans ((if_neg (by omega)).trans rfl)
theorem qqp {n : Nat} : ∀ p ∈ idL n, p.1 < n ∧ p.2 < n := fun p hp => by
 obtain ⟨i, hi, rfl⟩ := List.mem_map.1 hp
 have := List.mem_range.1 hi
 exact ⟨this, this⟩
theorem qkH {A : Au} (h : qc1 A) (e : Int) : ∀ p ∈ auP A e, p.1 < A.n.toNat ∧ p.2 < A.n.toNat := fun p hp => by
 unfold auP at hp
 split at hp
 · exact qqm h [e] p hp
 · exact qqp p hp
theorem qf4 : ∀ {l : List Au}, qbP l = 0 → ∀ A ∈ l, qbC A = 0
 | [], _, A, hA => by simp at hA
 | B :: l, h, A, hA => by
  rw [qbP] at h
  by_cases hB : qbC B = 0
  · rw [if_neg (by simpa using hB)] at h
    rcases List.mem_cons.1 hA with rfl | hA
    · exact hB
    · exact qf4 h A hA
  · rw [if_pos hB] at h
    exact absurd h hB
theorem qby.au0 {N : Nw} (h : qby N) : ∀ A ∈ N.As, qbC A = 0 := by
 have h1 : qbx N.As = 0 := by
  by_cases hp : qbx N.As = 0
  · exact hp
  · have := h.err
    unfold Nw.err at this
    rw [if_pos hp] at this
    exact absurd this hp
 have h12 := h.ok.m12
 unfold qbx at h1
 rw [if_neg (by omega)] at h1
 exact qf4 h1
structure StA (ev : Int) (w : World) (n2 : Nat) (t tP tI : List Bool) (fA : Option Addr) (qA gA x : Nat) (fM : Option Addr) (qM gM : Nat) (fE : Option Addr) (qE gE p2 b2 : Nat) (inA : Bool) : Prop where
 id : ∀ W, Calls Tryz.prog 118 #[.int .i64 x] W (DgN b2 tI W)
 ct : ∀ W, qad w W → Calls Tryz.prog 57 #[.slice fA qA gA, .int .i64 ev] W fun e W' => e = .returned (.bool inA) ∧ qad W W'
 fr : inA = true → ∀ aV cV W, qad w W → qan W (.slice aV 1 cV) 1 (gw [ev]) → Calls Tryz.prog 119 #[.agg #[.slice fA qA gA, .int .i64 x, .slice fM qM gM, .slice fE qE gE], .slice aV 1 cV] W (DgN b2 tP W)
 ip : inA = false → tI = tP
 rn : ∀ a c L r aQ cQ W, Dg.at W ⟨b2, a, c, L, r⟩ → qbN b2 tP L r → qan W (.slice aQ b2 cQ) b2 (gw (gL (fun k => p2 + k) b2)) → Calls Tryz.prog 120 #[.agg #[.int .i64 b2, .slice a L.length c, .int .i64 r], .int .i64 n2, .slice aQ b2 cQ] W (DgN n2 t W)
theorem StA.of (N : Nw) (OK : qby N) (ev : Int) (w : World) (hat : N.at w) {k n2 p2 b2 : Nat} (hk : k < N.As.length) (hn2 : n2 = 2 * N.all) (hp2 : p2 = 2 * N.at' k) (hb2 : b2 = 2 * N.bs k) :
 StA ev w n2 (N.rel fun x y => decide ((x.getD k 0, y.getD k 0) ∈ auP N.As[k] ev)) (qiX (N.bs k) (auP N.As[k] ev)) (qiX (N.bs k) (idL (N.ns.getD k 0))) N.As[k].aA N.As[k].al.length N.As[k].cA (N.ns.getD k 0) N.As[k].aM N.As[k].ma.length N.As[k].cM N.As[k].aE N.As[k].es.length N.As[k].cE p2 b2 (decide (ev ∈ N.As[k].al)) := by
 subst hn2 hp2 hb2
 have hA := OK.ok.au _ (List.getElem_mem hk)
 have h0 := OK.au0 _ (List.getElem_mem hk)
 have hs := OK.sm _ (List.getElem_mem hk)
 have h64 := OK.n64 _ (List.getElem_mem hk)
 have hx := (OK.ok.n4 hk).2
 have hx64 := OK.ns64 hk
 have h10 := OK.h10
 have hle := OK.ok.le hk
 have hAt := hat.au.each _ (List.getElem_mem hk)
 have hbs : qa1 (N.ns.getD k 0) = N.bs k := rfl
 have hxn : N.As[k].n.toNat = N.ns.getD k 0 := by rw [hx]; exact Int.toNat_natCast _
 refine ⟨fun W => qim (n := N.ns.getD k 0) hx64 W, fun W hW => ?_, fun hin aV cV W hW hV => ?_, fun hin => ?_, fun a c L r aQ cQ W hd hT hQ => ?_⟩
 · exact qcy N.As[k].al ev N.As[k].aA N.As[k].cA W hs.al ((hAt.same hW).al) (qnI hA)
 · have hin' : ev ∈ N.As[k].al := of_decide_eq_true hin
   have := qpi N.As[k] W (hAt.same hW) hs h64 [ev] aV 1 cV rfl hV (by omega)
   unfold Au.v at this
   rw [hx] at this
   rw [show ((N.ns.getD k 0 : Nat) : Int).toNat = N.ns.getD k 0 from Int.toNat_natCast _] at this
   refine this.mono fun e w' h => ?_
   have e1 : auP N.As[k] ev = evP N.As[k].es [ev] := by unfold auP; rw [if_pos hin']
   rw [e1]
   rcases h with ⟨h, _⟩ | ⟨_, h⟩
   · exact absurd (qpp hA h0 hin') h
   · exact h
 · have hin' : ¬ ev ∈ N.As[k].al := of_decide_eq_false hin
   unfold auP
   rw [if_neg hin', hxn]
 · have hP := qkH hA ev
   rw [hxn] at hP
   have hb := OK.ok.bits hk
   have htb := qpe (bs := N.bs) (at' := N.at') (m := N.As.length) (n := N.all) (fun j hj => OK.ok.le hj) hk (P := auP N.As[k] ev) (fun p hp => by have := hP p hp; omega)
   have := qfS ⟨(2 * N.bs k : Nat), a, c, L, r⟩ (2 * N.bs k) (2 * N.all) _ (fun j => 2 * N.at' k + j) aQ cQ W (by omega) (by omega) (fun j hj => by omega) (fun j hj => by omega) hd ⟨rfl, hT⟩ hQ
   rw [htb] at this
   exact this
def qpq (As : List Au) (e : Int) (k : Nat) (x y : List Nat) : Bool := match As[k]? with | some A => decide ((x.getD k 0, y.getD k 0) ∈ auP A e) | none => true
theorem qlE (As : List Au) (e : Int) (k : Nat) (x y : List Nat) : qdG As e (k + 1) x y = (qdG As e k x y && qpq As e k x y) := by
 unfold qdG qpq
 rw [List.range_succ, List.all_append]
 simp only [List.all_cons, List.all_nil, Bool.and_true]
 rfl
theorem qnJ (N : Nw) (OK : qby N) (ev : Int) (aT aB : Option Addr) (cT cB : Nat) (w : World) (hat : N.at w) (hly : qgz N aT aB cT cB w) (hsh : ∀ k, k ≤ N.As.length → (qal (2 * N.all) [] 0 (N.rel (qdG N.As ev k))).1.length ≤ 16384) :
 Calls Tryz.prog 92 #[.agg #[.slice aT N.As.length cT, .slice aB N.As.length cB, .int .i64 N.all, .bool N.emp], .agg #[.slice N.aA N.As.length N.cA, .slice N.aO N.o.length N.cO], .int .i64 ev] w (DgN (2 * N.all) (N.rel (qcu N.As ev)) w) := by
 have hm12 := OK.ok.m12
 have h10 := OK.h10
 obtain ⟨n2, hn2⟩ : ∃ n2, n2 = 2 * N.all := ⟨_, rfl⟩
 obtain ⟨hw1, hw2⟩ := wr2 hn2 (by omega)
 rw [← hn2] at hsh ⊢
 obtain ⟨ts, hts⟩ : ∃ ts : Nat → List Bool, ts = fun k => N.rel (qpq N.As ev k) := ⟨_, rfl⟩
 obtain ⟨acc, hacc⟩ : ∃ acc : Nat → List Bool, acc = fun k => N.rel (qdG N.As ev k) := ⟨_, rfl⟩
 have hac0 : acc 0 = tru n2 := by rw [hacc, qnl, hn2]; rfl
 have hac1 : ∀ k, qbE (acc k) (ts k) (fls n2) = acc (k + 1) := fun k => by
  rw [hacc, hts, hn2]
  show qbE (qgq _ _ _ _ _) (qgq _ _ _ _ _) _ = qgq _ _ _ _ _
  rw [rel_and]
  congr 1
  funext x y
  rw [qlE]
 have hsh' : ∀ k, k ≤ N.As.length → (qal n2 [] 0 (acc k)).1.length ≤ 16384 := by rw [hacc]; exact hsh
 obtain ⟨R, hR⟩ : ∃ R, R = N.rel (qcu N.As ev) := ⟨_, rfl⟩
 rw [← hR]
 have hfl : (N.emp = true ∨ knK N.As ev N.As.length = false) → fls n2 = R := fun h => by
  rw [hR, qhl, hn2]
  show tbF _ _ = tbF _ _
  congr 1
  funext x
  rcases h with h | h
  · exact (qnG (by rw [← N.emp_eq]; exact h) _ _).symm
  · exact (qnH (by unfold knK at h; rwa [List.take_length] at h) _ _).symm
 have hyes : N.emp = false → knK N.As ev N.As.length = true → acc N.As.length = R := fun h1 h2 => by
  rw [hR, hacc]
  show tbF _ _ = tbF _ _
  congr 1
  funext x
  exact (qiu (by rw [← N.emp_eq]; exact h1) (by unfold knK at h2; rwa [List.take_length] at h2) _ _).symm
 have CF : ∀ W, Calls Tryz.prog 95 #[.int .i64 n2, .bool false] W (DgN n2 (fls n2) W) := fun W => qhp (n := n2) (by omega) false W
 have FO := fun base v W (h : qgO base n2 ts N.As.length v W) => foldD h 36 qgP true (by omega) (by omega) acc (by rw [hac0]; rfl) (fun j d d' W' hj hW hd hd' hT hT' => by
  have := qf2 (n := n2) (by omega) hd hd' hT hT' (by rw [hac1]; exact hsh' _ (by omega))
  rw [hac1] at this
  exact this)
 have SA : ∀ (k : Nat) (hk : k < N.As.length) (p2 b2 : Nat), p2 = 2 * N.at' k → b2 = 2 * N.bs k → StA ev w n2 (ts k) (qiX (N.bs k) (auP N.As[k] ev)) (qiX (N.bs k) (idL (N.ns.getD k 0))) N.As[k].aA N.As[k].al.length N.As[k].cA (N.ns.getD k 0) N.As[k].aM N.As[k].ma.length N.As[k].cM N.As[k].aE N.As[k].es.length N.As[k].cE p2 b2 (decide (ev ∈ N.As[k].al)) := fun k hk p2 b2 h1 h2 => by
  have := StA.of N OK ev w hat hk hn2 h1 h2
  have e : ts k = N.rel fun x y => decide ((x.getD k 0, y.getD k 0) ∈ auP N.As[k] ev) := by
   rw [hts]
   show N.rel _ = N.rel _
   congr 1
   funext x y
   unfold qpq
   rw [List.getElem?_eq_getElem hk]
  rw [e]
  exact this
 have hrow : ∀ (k : Nat) (hk : k < N.As.length) W, qad w W → ∃ b off, N.aA = some ⟨b, off, none⟩ ∧ b < W.heap.size ∧ W.cell? ⟨b, off + k * 4, none⟩ = some (.slice N.As[k].aA N.As[k].al.length N.As[k].cA) ∧ W.cell? ⟨b, off + k * 4 + 1, none⟩ = some (.int .i64 ((N.ns.getD k 0 : Nat) : Int)) ∧
  W.cell? ⟨b, off + k * 4 + 2, none⟩ = some (.slice N.As[k].aM N.As[k].ma.length N.As[k].cM) ∧ W.cell? ⟨b, off + k * 4 + 3, none⟩ = some (.slice N.As[k].aE N.As[k].es.length N.As[k].cE) := fun k hk W hW => by
  have := (hat.au.same hW).row hk
  rw [(OK.ok.n4 hk).2] at this
  exact this
 have hT := fun (k : Nat) (hk : k < N.As.length) W (hW : qad w W) => (hly.t.same hW).row.nat hk
 have hB := fun (k : Nat) (hk : k < N.As.length) W (hW : qad w W) => (hly.b.same hW).row.nat hk
 have hTe : ∀ k, k < N.As.length → ((List.range N.As.length).map N.at').getD k 0 = N.at' k := fun k hk => by simp [List.getD, hk]
 have hBe : ∀ k, k < N.As.length → ((List.range N.As.length).map N.bs).getD k 0 = N.bs k := fun k hk => by simp [List.getD, hk]
 have hkn := fun (k : Nat) (hk : k < N.As.length) => qpo N.As ev hk
 have hle := fun (k : Nat) (hk : k < N.As.length) => OK.ok.le hk
 have hk0 : knK N.As ev 0 = false := rfl
 have SQ := fun (p b : Nat) W (h1 : p ≤ 1000) (h2 : b ≤ 1000) => qdn p b W (by omega) (by omega)
 obtain ⟨i3, hi3, hi3z, hi3s, hi3b⟩ := info_parts qnC
 obtain ⟨kf, hkf⟩ : ∃ kf : Nat → Bool, kf = knK N.As ev := ⟨_, rfl⟩
 rw [← hkf] at hkn hk0 hfl hyes
 clear hat hly hsh hsh' hac0 hac1 hts hacc hR hkf
 generalize hnn : N.all = n at *
 generalize N.aA = aA at *
 generalize N.cA = cA at *
 generalize N.aO = aO at *
 generalize N.cO = cO at *
 generalize N.o.length = qo at *
 obtain ⟨em, hem⟩ : ∃ em, em = N.emp := ⟨_, rfl⟩
 rw [← hem] at hfl hyes ⊢
 replace SA := gi SA; replace hrow := gi hrow; replace hT := gi hT; replace hB := gi hB; replace hTe := gi hTe; replace hBe := gi hBe; replace hkn := gi hkn; replace hle := gi hle; replace hk0 := gi hk0; replace SQ := gi SQ; replace hfl := gi hfl; replace hyes := gi hyes; replace CF := gi CF; replace FO := gi FO; replace hn2 := gi hn2; replace hem := gi hem; replace hnn := gi hnn
 go_enter Tryz.func92, Tryz.ntmps92
 go_upto_region 1 with fail
 have kl := qab (qab (gv w (.cells #[.slice aT N.As.length cT, .slice aB N.As.length cB, .int .i64 n, .bool em] 92)) (.cells #[.slice aA N.As.length cA, .slice aO qo cO] 35)) (.cells #[.int .i64 0, .slice none 0 0, .int .i64 0] 46)
 have kn := qab (gv (w.alloc (.cells #[.slice aT N.As.length cT, .slice aB N.As.length cB, .int .i64 n, .bool em] 92)) (.cells #[.slice aA N.As.length cA, .slice aO qo cO] 35)) (.cells #[.int .i64 0, .slice none 0 0, .int .i64 0] 46)
 have kr := gv ((w.alloc (.cells #[.slice aT N.As.length cT, .slice aB N.As.length cB, .int .i64 n, .bool em] 92)).alloc (.cells #[.slice aA N.As.length cA, .slice aO qo cO] 35)) (.cells #[.int .i64 0, .slice none 0 0, .int .i64 0] 46)
 have hs : qad w (((w.alloc (.cells #[.slice aT N.As.length cT, .slice aB N.As.length cB, .int .i64 n, .bool em] 92)).alloc (.cells #[.slice aA N.As.length cA, .slice aO qo cO] 35)).alloc (.cells #[.int .i64 0, .slice none 0 0, .int .i64 0] 46)) := fs2
 have hz1 : (w.alloc (.cells #[.slice aT N.As.length cT, .slice aB N.As.length cB, .int .i64 n, .bool em] 92)).heap.size = w.heap.size + 1 := by simp
 have hz2 : ((w.alloc (.cells #[.slice aT N.As.length cT, .slice aB N.As.length cB, .int .i64 n, .bool em] 92)).alloc (.cells #[.slice aA N.As.length cA, .slice aO qo cO] 35)).heap.size = w.heap.size + 1 + 1 := by simp
 rw [hz1] at kn
 rw [hz2] at kr
 generalize ((w.alloc (.cells #[.slice aT N.As.length cT, .slice aB N.As.length cB, .int .i64 n, .bool em] 92)).alloc (.cells #[.slice aA N.As.length cA, .slice aO qo cO] 35)).alloc (.cells #[.int .i64 0, .slice none 0 0, .int .i64 0] 46) = W0 at *
 clear hz1 hz2
 replace kl := gi kl; replace kn := gi kn; replace kr := gi kr; replace hs := gi hs
 have hB0 : w.heap.size + 1 + 1 < W0.heap.size := gu kr.out
 obtain ⟨x0, x1, x2, x3, xl⟩ := g4l kl.out
 obtain ⟨y0, y1, yl⟩ := g2l kn.out
 go_upto_region 5 with fail
 clear x0 x1 x2 x3 xl
 clear y0 y1 yl
 go_loopw [8, 10, 21] (fun v kv i wr => ∃ k : Nat, kv = .bool (kf k) ∧ i = .int .i64 k ∧ k ≤ N.As.length ∧ qgO W0.heap.size n2 ts k v wr ∧ qad W0 wr) (fun _ _ i _ => N.As.length - (intOf i).toNat)
 case atStart => exact ⟨0, by rw [hk0.out], rfl, Nat.zero_le _, qgO.nil _ _ _ _, Fr.refl _ _⟩
 case round =>
  obtain ⟨k, rfl, rfl, hk, hD, hs1⟩ := hrel
  have hzr := hs1.size
  have kl1 := hs1.at kl.out id
  have kn1 := hs1.at kn.out id
  have kr1 := hs1.at kr.out id
  have hsw := hs.out.same hs1
  obtain ⟨kv, hkv⟩ : ∃ kv, kv = kf k := ⟨_, rfl⟩
  rw [← hkv]
  by_cases hlt : k < N.As.length
  · obtain ⟨ds, aR, cR, rfl, hds, hown, hall, htab⟩ := hD.ex
    have hk1 := hkn.out k hlt
    rw [← hkv] at hk1
    obtain ⟨p2, hp2⟩ : ∃ p2, p2 = 2 * N.at' k := ⟨_, rfl⟩
    obtain ⟨b2, hb2⟩ : ∃ b2, b2 = 2 * N.bs k := ⟨_, rfl⟩
    have SAk := SA.out k hlt p2 b2 hp2 hb2
    obtain ⟨b0, off0, ha0, hb0, x0, x1, x2, x3⟩ := hrow.out k hlt _ hsw
    obtain ⟨inA, hinA⟩ : ∃ x, x = decide (ev ∈ N.As[k].al) := ⟨_, rfl⟩
    rw [← hinA] at SAk hk1
    generalize qiX (N.bs k) (auP N.As[k] ev) = tP at *
    generalize qiX (N.bs k) (idL (N.ns.getD k 0)) = tI at *
    generalize N.As[k].aA = fA at *
    generalize N.As[k].al.length = qA at *
    generalize N.As[k].cA = gA at *
    generalize N.As[k].aM = fM at *
    generalize N.As[k].ma.length = qM at *
    generalize N.As[k].cM = gM at *
    generalize N.As[k].aE = fE at *
    generalize N.As[k].es.length = qE at *
    generalize N.As[k].cE = gE at *
    generalize N.ns.getD k 0 = xk at *
    subst ha0
    replace kl1 := gi kl1; replace kn1 := gi kn1; replace kr1 := gi kr1; replace hsw := gi hsw; replace hs1 := gi hs1; replace hds := gi hds; replace hown := gi hown; replace hall := gi hall; replace htab := gi htab; replace hD := gi hD; replace hk1 := gi hk1; replace hp2 := gi hp2; replace hb2 := gi hb2; replace SAk := gi SAk; replace hinA := gi hinA; replace hkv := gi hkv
    go_upto_region 7 with fail
    have ka := gv wr (.cells #[.slice fA qA gA, .int .i64 xk, .slice fM qM gM, .slice fE qE gE] 39)
    have s2 : qad wr (wr.alloc (.cells #[.slice fA qA gA, .int .i64 xk, .slice fM qM gM, .slice fE qE gE] 39)) := fs2
    generalize wr.alloc (.cells #[.slice fA qA gA, .int .i64 xk, .slice fM qM gM, .slice fE qE gE] 39) = W2 at *
    clear x0 x1 x2 x3 hb0
    replace ka := gi ka; replace s2 := gi s2
    obtain ⟨x0, x1, x2, x3, xl⟩ := g4l ka.out
    go_wp2_with fail
    refine (SAk.out.id _).mono ?_
    intro e w3 hM
    obtain ⟨a3, c3, L3, r3, rfl, d3, t3, s3⟩ := hM.open
    clear x0 x1 x2 x3 xl
    have hba : wr.heap.size < w3.heap.size := by have h1 := gu ka.out; have h2 := s3.size; omega
    replace ka := gi (s3.at ka.out id)
    have s3 := s2.out.same s3
    clear s2 hM
    replace d3 := gi d3; replace t3 := gi t3; replace s3 := gi s3
    go_upto_region 8 with fail
    have kd := gv w3 (.cells #[.int .i64 b2, .slice a3 L3.length c3, .int .i64 r3] 46)
    have s4 : qad w3 (w3.alloc (.cells #[.int .i64 b2, .slice a3 L3.length c3, .int .i64 r3] 46)) := fs2
    generalize w3.alloc (.cells #[.int .i64 b2, .slice a3 L3.length c3, .int .i64 r3] 46) = W4 at *
    replace d3 := gi (d3.out.same s4); replace ka := gi (s4.at ka.out id)
    have s4 := s3.out.same s4
    clear s3
    generalize w3.heap.size = bd at *
    replace kd := gi kd; replace s4 := gi s4
    obtain ⟨x0, x1, x2, x3, xl⟩ := g4l ka.out
    go_wp2_with fail
    refine (SAk.out.ct _ (hsw.out.same s4.out)).mono ?_
    rintro e w5 ⟨rfl, s5⟩
    clear x0 x1 x2 x3 xl
    replace d3 := gi (d3.out.same s5); replace ka := gi (s5.at ka.out id); replace kd := gi (s5.at kd.out id)
    have s5' := s4.out.same s5
    clear s4 s5
    replace s5' := gi s5'
    cases inA
    case' false =>
     have t9 : qbN b2 tP L3 r3 := by have := t3.out; rwa [SAk.out.ip rfl] at this
     have d9 := d3
     have kv1 : kf (k + 1) = kv := by rw [hk1.out]; simp
     have s9 := s5'
     replace t9 := gi t9; replace kv1 := gi kv1
     go_upto_region 13 with fail
     clear d3 t3 s5' ka hk1
    case' true =>
     have kv1 : kf (k + 1) = true := by rw [hk1.out]; simp
     replace kv1 := gi kv1
     obtain ⟨x0, x1, x2, x3, xl⟩ := g4l ka.out
     go_wp2_with fail
     have hV : qan (w5.alloc (.cells #[.int .i64 ev] 3)) (.slice (some ⟨w5.heap.size, 0, none⟩) 1 1) 1 (gw [ev]) := (qaa.of_owns (qaL (base := 0) (xs := gw [ev]) (n := 1) (sz := 1) (gv _ _) (Nat.zero_le _) rfl rfl (by unfold maxLen; omega))).row
     refine (SAk.out.fr rfl _ _ _ ((hsw.out.same s5'.out).same fs2) hV).mono ?_
     intro e w6 hM
     obtain ⟨a6, c6, L6, r6, rfl, d6, t9, s6⟩ := hM.open
     have s6 := (show qad w5 _ from fs2).same s6
     replace kd := gi (s6.at kd.out id)
     have s9 := s5'.out.same s6
     clear x0 x1 x2 x3 xl
     clear hM s6 hV s5' ka d3 t3 hk1
     replace d6 := gi d6; replace t9 := gi t9; replace s9 := gi s9
     obtain ⟨x0, x1, x2, z0, z1, z2, xl⟩ := qar kd.out
     go_upto_region 11 with fail
     clear x0 x1 x2 z0 z1 z2 xl
     obtain ⟨k7, f7⟩ := qcA (u0 := .int .i64 b2) (u1 := .slice a6 L6.length c6) (u2 := .int .i64 r6) kd.out
     have d9 := qaa.fr d6.out f7 (fun i cur hk' e => by rw [show i = bd from e, kd.out] at hk'; simp at hk')
     have s9 := s9.out.trans f7 (fun i hi e => by have : i = bd := e; omega)
     clear kd d6
     have kd := k7
     clear k7
     generalize ((w6.setCell ⟨bd, 0, none⟩ (.int .i64 b2)).setCell ⟨bd, 1, none⟩ (.slice a6 L6.length c6)).setCell ⟨bd, 2, none⟩ (.int .i64 r6) = w5 at *
     clear f7
     replace kd := gi kd; replace d9 := gi d9; replace s9 := gi s9
     go_upto_region 13 with fail
    all_goals
     have hsw9 := hsw.out.same s9.out
     obtain ⟨hp1, hp3⟩ := wr2 hp2.out (by have := (hle.out k hlt); omega)
     obtain ⟨hb1, hb3⟩ := wr2 hb2.out (by have := (hle.out k hlt); omega)
     obtain ⟨b1, off1, ha1, hb1l, z1⟩ := hT.out k hlt _ hsw9
     obtain ⟨b3, off3, ha3, hb3l, z2⟩ := hB.out k hlt _ hsw9
     rw [hTe.out k hlt] at z1
     rw [hBe.out k hlt] at z2
     have kl9 := s9.out.at kl1.out id
     have kr9 := s9.out.at kr1.out id
     subst ha1 ha3
     replace kl9 := gi kl9; replace kr9 := gi kr9; replace hsw9 := gi hsw9
     obtain ⟨x0, x1, x2, x3, xl⟩ := g4l kl9.out
     obtain ⟨y0, y1, y2, yl⟩ := g3l kd.out
     refine qac (fun k => k = bd ∨ k = w.heap.size ∨ k = b1 ∨ k = b3) [1, 0, 1, 0, 0, 1, 0, 0, 1, 0, 0, 1, 0, 0, 1, 0, 2, 3, 0, 0, 0, 3, 0] [1, 4, 6, 10, 12, 0, 2, 3, 5, 7, 8, 9, 11, 13, 14, 15, 16, 17, 18, 19, 20, 21, 22] (by kernel_rfl) (by kernel_rfl) ?_
     repeat ((first | refine gB rfl rfl fun _ k => ?_ | refine gC rfl rfl fun _ k => ?_); go_simp; (first | refine k _ ?_ | refine ⟨_, fun _ => rfl, k _ ?_⟩); clear k)
     refine gF rfl rfl (fun _ hK => ?_)
     go_simp
     have hle9 := hle.out k hlt
     refine (SQ.out p2 b2 _ (by have := hp2.out; omega) (by have := hb2.out; omega)).mono ?_
     rintro e w10 ⟨aq, cq, rfl, hQ, s10⟩
     refine hK _ _ (Kp.of_same s10) ?_
     clear hK
     (try simp only [Act.put, gj])
     clear x0 x1 x2 x3 xl
     clear y0 y1 y2 yl
     clear z1 z2 hb1l hb3l hp1 hp3 hb1 hb3
     replace s10 := (show qad w5 _ from fs3).same s10
     replace d9 := gi (d9.out.same s10); replace kd := gi (s10.at kd.out id); replace kr9 := gi (s10.at kr9.out id)
     have s11 := s9.out.same s10
     have hQ := (qaa.of_owns hQ).row
     have hbd10 : wr.heap.size ≤ bd := by omega
     clear s10 s9 kl9 hsw9
     replace hQ := gi hQ; replace s11 := gi s11
     refine gD rfl (by decide) (fun _ hK => ?_); go_simp
     refine (SAk.out.rn _ _ _ _ _ _ _ d9.out t9.out hQ.out).mono ?_
     intro e w12 hM
     obtain ⟨a12, c12, L12, r12, rfl, d12, t12, s12⟩ := hM.open
     refine hK _ _ ?_; clear hK; try simp only [Act.put, gj]
     replace kd := gi (s12.at kd.out id)
     have s13 := s11.out.same s12
     clear hM s12 hQ s11 d9 t9 kr9
     replace d12 := gi d12; replace t12 := gi t12; replace s13 := gi s13
     repeat ((first | refine gB rfl rfl fun _ k => ?_ | refine gC rfl rfl fun _ k => ?_); go_simp; (first | refine k _ ?_ | refine ⟨_, fun _ => rfl, k _ ?_⟩); clear k)
     obtain ⟨x0, x1, x2, z0, z1, z2, xl⟩ := qar kd.out
     refine gD rfl (by decide) (fun _ hK => ?_); go_simp
     refine hK _ _ ?_; clear hK; try simp only [Act.put, gj]
     repeat ((first | refine gB rfl rfl fun _ k => ?_ | refine gC rfl rfl fun _ k => ?_); go_simp; (first | refine k _ ?_ | refine ⟨_, fun _ => rfl, k _ ?_⟩); clear k)
     refine gO (NoPanic.normal ?_)
     clear x0 x1 x2 z0 z1 z2 xl
     obtain ⟨k14, f14⟩ := qcA (u0 := .int .i64 n2) (u1 := .slice a12 L12.length c12) (u2 := .int .i64 r12) kd.out
     have d14 := qaa.fr d12.out f14 (fun i cur hk' e => by rw [show i = bd from e, kd.out] at hk'; simp at hk')
     have s14 := s13.out.trans f14 (fun i hi e => by have : i = bd := e; omega)
     clear kd d12 s13
     generalize ((w12.setCell ⟨bd, 0, none⟩ (.int .i64 n2)).setCell ⟨bd, 1, none⟩ (.slice a12 L12.length c12)).setCell ⟨bd, 2, none⟩ (.int .i64 r12) = W14 at *
     clear f14
     have hown14 := qag hown.out s14
     have hall14 : ∀ d ∈ ds, d.at W14 := fun d hd => qaa.same (hall.out d hd) s14
     have hs14 := hs1.out.same s14
     have hz14 := s14.size
     clear s14
     replace k14 := gi k14; replace d14 := gi d14; replace hown14 := gi hown14; replace hall14 := gi hall14; replace hs14 := gi hs14
     obtain ⟨x0, x1, x2, xl⟩ := g3l k14.out
     go_upto_region 16 with fail
     go_wp2_with (at_builtin; refine qai rfl (.tmp 72) (.tmp 74) 147 rfl W0.heap.size 46 i3 (.agg #[.int .i64 0, .slice none 0 0, .int .i64 0]) 3 40 Tryz.underlying147 hi3 hi3z hi3s hi3b rfl (by decide) (by decide) aR k cR (qbg ds) rfl (qag hown14.out fs2) (by omega) W14.heap.size [.int .i64 n2, .slice a12 L12.length c12, .int .i64 r12] rfl rfl (gv _ _) (by simp [Value.oneCell']) (by have := hs14.out.size; simp; omega) ?_; intro a15 c15 w15 ho15 hG15)
     have hR15 := qgO.push (base := W0.heap.size) (n := n2) (ts := ts) (k := k) (W := W14.alloc (.cells #[.int .i64 n2, .slice a12 L12.length c12, .int .i64 r12] 46)) (d := ⟨n2, a12, c12, L12, r12⟩) hds.out (fun d hd => qaa.same (hall14.out d hd) fs2) htab.out (qaa.same d14.out fs2) ⟨rfl, t12.out⟩ (qag hown14.out fs2) ho15 hG15
     have hs15 : qad W0 w15 := qas (hs14.out.same fs2) hG15 (fun k hk => (hown14.out.lt k hk).1)
     clear ho15 hG15 x0 x1 x2 xl
     replace hR15 := gi hR15; replace hs15 := gi hs15
     go_roundw
     case rel => exact ⟨k + 1, by rw [kv1.out], by go_num, by omega, hR15.out, hs15.out⟩
     case measure => simp [intOf]; omega
  · have hkm : k = N.As.length := by omega
    have FOk := FO.out _ _ _ (hkm ▸ hD)
    rw [hkm] at hkv
    replace kl1 := gi kl1; replace kn1 := gi kn1; replace kr1 := gi kr1; replace hsw := gi hsw; replace hs1 := gi hs1; replace hD := gi hD; replace FOk := gi FOk; replace hkv := gi hkv; replace hkm := gi hkm
    obtain ⟨ds, aR, cR, rfl, -⟩ := hD.out.ex
    cases em with
    | true =>
     have hR := hfl.out (Or.inl rfl)
     replace hR := gi hR
     obtain ⟨x0, x1, x2, x3, xl⟩ := g4l kl1.out
     go_wp2_with fail
     refine (CF.out _).mono ?_
     intro e w3 hM
     obtain ⟨a3, c3, L3, r3, rfl, d3, tt3, s3⟩ := hM.open
     clear x0 x1 x2 x3 xl
     replace kr1 := gi (s3.at kr1.out id)
     have hs3 := hsw.out.same s3
     clear hM s3
     replace d3 := gi d3; replace tt3 := gi tt3; replace hs3 := gi hs3
     obtain ⟨x0, x1, x2, z0, z1, z2, xl⟩ := qar kr1.out
     go_wp2_with fail
     obtain ⟨q0, q1, q2, hdF, hsF⟩ := qaI hs3.out (by omega) (d := ⟨n2, a3, c3, L3, r3⟩) d3.out kr1.out
     refine bodyPost_ret (v := .tuple #[.agg #[.int .i64 n2, .slice a3 L3.length c3, .int .i64 r3], .int .i64 0]) (by simp [results, Tryz.results92, go_sem, q0, q1, q2]) rfl ?_
     exact ⟨_, rfl, hdF, ⟨rfl, by rw [← hR.out]; exact tt3.out⟩, hsF⟩
    | false =>
     cases kv with
     | false =>
      have hR := hfl.out (Or.inr hkv.out.symm)
      replace hR := gi hR
      obtain ⟨x0, x1, x2, x3, xl⟩ := g4l kl1.out
      go_wp2_with fail
      refine (CF.out _).mono ?_
      intro e w3 hM
      obtain ⟨a3, c3, L3, r3, rfl, d3, tt3, s3⟩ := hM.open
      clear x0 x1 x2 x3 xl
      replace kr1 := gi (s3.at kr1.out id)
      have hs3 := hsw.out.same s3
      clear hM s3
      replace d3 := gi d3; replace tt3 := gi tt3; replace hs3 := gi hs3
      obtain ⟨x0, x1, x2, z0, z1, z2, xl⟩ := qar kr1.out
      go_wp2_with fail
      obtain ⟨q0, q1, q2, hdF, hsF⟩ := qaI hs3.out (by omega) (d := ⟨n2, a3, c3, L3, r3⟩) d3.out kr1.out
      refine bodyPost_ret (v := .tuple #[.agg #[.int .i64 n2, .slice a3 L3.length c3, .int .i64 r3], .int .i64 0]) (by simp [results, Tryz.results92, go_sem, q0, q1, q2]) rfl ?_
      exact ⟨_, rfl, hdF, ⟨rfl, by rw [← hR.out]; exact tt3.out⟩, hsF⟩
     | true =>
      have hR := hyes.out rfl hkv.out.symm
      replace hR := gi hR
      obtain ⟨x0, x1, x2, x3, xl⟩ := g4l kl1.out
      go_wp2_with fail
      refine FOk.out.mono ?_
      intro e w3 hM
      obtain ⟨a3, c3, L3, r3, rfl, d3, tt3, s3⟩ := hM.open
      clear x0 x1 x2 x3 xl
      replace kr1 := gi (s3.at kr1.out id)
      have hs3 := hsw.out.same s3
      clear hM s3
      replace d3 := gi d3; replace tt3 := gi tt3; replace hs3 := gi hs3
      obtain ⟨x0, x1, x2, z0, z1, z2, xl⟩ := qar kr1.out
      go_wp2_with fail
      obtain ⟨q0, q1, q2, hdF, hsF⟩ := qaI hs3.out (by omega) (d := ⟨n2, a3, c3, L3, r3⟩) d3.out kr1.out
      refine bodyPost_ret (v := .tuple #[.agg #[.int .i64 n2, .slice a3 L3.length c3, .int .i64 r3], .int .i64 0]) (by simp [results, Tryz.results92, go_sem, q0, q1, q2]) rfl ?_
      exact ⟨_, rfl, hdF, ⟨rfl, by rw [← hR.out]; exact tt3.out⟩, hsF⟩
theorem qan.ints {w : World} {a : Option Addr} {q cap : Nat} {l : List Int} (h : qan w (.slice a q cap) q (gw l)) {k : Nat} (hk : k < q) :
 ∃ b off, a = some ⟨b, off, none⟩ ∧ b < w.heap.size ∧ w.cell? ⟨b, off + k, none⟩ = some (.int .i64 (toF l k)) := by
 have hq : l.length = q := by have := h.1; simpa [gw] using this
 obtain ⟨b, off, h1, h2, h3⟩ := h.cell (by omega)
 exact ⟨b, off, h1, h2, h3 k _ (by simp [gw, toF, List.getD, show k < l.length by omega])⟩
structure Fits (N : Nw) : Prop where
 pre : ∀ (e : Int) (k : Nat), k ≤ N.As.length → (qal (2 * N.all) [] 0 (N.rel (qdG N.As e k))).1.length ≤ 16384
 thin : ∀ E : List Int, qgr (2 * N.all) (N.rel (qau N.As E))
theorem Nw.rel_len (N : Nw) (F : List Nat → List Nat → Bool) : (N.rel F).length = 2 ^ (2 * N.all) := qdz _ _ _ _ _
theorem Nw.set_len (N : Nw) (F : List Nat → Bool) : (N.set F).length = 2 ^ N.all := qfi _ _ _ _ _
theorem qjN (As : List Au) (E : List Int) {j : Nat} (hj : j < E.length) (x y : List Nat) : qau As (E.take (j + 1)) x y = (qau As (E.take j) x y || qcu As (toF E j) x y) := by
 unfold qau
 rw [List.take_add_one, List.getElem?_eq_getElem hj, List.any_append]
 simp [toF, List.getD, hj]
theorem qnK (N : Nw) (OK : qby N) (FI : Fits N) (E : List Int) (aE : Option Addr) (qE cE : Nat) (aT aB : Option Addr) (cT cB : Nat) (w : World) (hat : N.at w) (hly : qgz N aT aB cT cB w) (hqE : E.length = qE) (hE : qan w (.slice aE qE cE) qE (gw E)) (hq9 : qE ≤ 1000) :
 Calls Tryz.prog 60 #[.agg #[.slice aT N.As.length cT, .slice aB N.As.length cB, .int .i64 N.all, .bool N.emp], .agg #[.slice N.aA N.As.length N.cA, .slice N.aO N.o.length N.cO], .slice aE qE cE] w (DgN (2 * N.all) (N.rel (qau N.As E)) w) := by
 have h10 := OK.h10
 obtain ⟨n2, hn2⟩ : ∃ n2, n2 = 2 * N.all := ⟨_, rfl⟩
 obtain ⟨hw1, hw2⟩ := wr2 hn2 (by omega)
 obtain ⟨ts, hts⟩ : ∃ ts : Nat → List Bool, ts = fun k => N.rel (qcu N.As (toF E k)) := ⟨_, rfl⟩
 obtain ⟨acc, hacc⟩ : ∃ acc : Nat → List Bool, acc = fun k => N.rel (qau N.As (E.take k)) := ⟨_, rfl⟩
 have hac0 : acc 0 = fls n2 := by rw [hacc, qhl, hn2]; rfl
 have hac1 : ∀ k, k < qE → qbE (acc k) (tru n2) (ts k) = acc (k + 1) := fun k hk => by
  rw [hacc, hts, hn2]
  show qbE (qgq _ _ _ _ _) _ (qgq _ _ _ _ _) = qgq _ _ _ _ _
  rw [rel_or]
  congr 1
  funext x y
  rw [qjN N.As E (by omega)]
 have hsh' : ∀ k, (qal n2 [] 0 (acc k)).1.length ≤ 16384 := fun k => by
  rw [hacc, hn2]
  exact (FI.thin _).short (by omega) (N.rel_len _)
 have hR : acc qE = N.rel (qau N.As E) := by rw [hacc, ← hqE]; show N.rel (qau N.As (E.take E.length)) = _; rw [List.take_length]
 have FO := fun base v W (h : qgO base n2 ts qE v W) => foldD h 94 qnD false (by omega) (by omega) acc (by rw [hac0]; rfl) (fun j d d' W' hj hW hd hd' hT hT' => by
  have := qqn (n := n2) (by omega) hd hd' hT hT' (by rw [hac1 j hj]; exact hsh' _)
  rw [hac1 j hj] at this
  exact this)
 rw [hR] at FO
 have ST := fun (k : Nat) W (hW : qad w W) => qnJ N OK (toF E k) aT aB cT cB W (hat.same hW) (hly.same hW) (FI.pre (toF E k))
 have ST' : ∀ (k : Nat) W, qad w W → Calls Tryz.prog 92 #[.agg #[.slice aT N.As.length cT, .slice aB N.As.length cB, .int .i64 N.all, .bool N.emp], .agg #[.slice N.aA N.As.length N.cA, .slice N.aO N.o.length N.cO], .int .i64 (toF E k)] W (DgN n2 (ts k) W) := by
  rw [hts, hn2]; exact ST
 have hrow := fun (k : Nat) (hk : k < qE) W (hW : qad w W) => (hE.same hW).ints hk
 rw [← hn2]
 generalize N.rel (qau N.As E) = R at *
 obtain ⟨ev, hev⟩ : ∃ ev : Nat → Int, ev = toF E := ⟨_, rfl⟩
 rw [← hev] at ST' hrow
 clear ST hat hly hE hac0 hac1 hsh' hacc hts hR OK FI hqE hev
 obtain ⟨i3, hi3, hi3z, hi3s, hi3b⟩ := info_parts qnC
 generalize N.all = n at *
 generalize N.emp = em at *
 generalize N.As.length = m at *
 generalize N.o.length = qo at *
 generalize N.aA = aA at *
 generalize N.cA = cA at *
 generalize N.aO = aO at *
 generalize N.cO = cO at *
 replace FO := gi FO; replace ST' := gi ST'; replace hrow := gi hrow; replace hn2 := gi hn2
 go_enter Tryz.func60, Tryz.ntmps60
 go_upto_region 1 with fail
 have kl := qab (qab (gv w (.cells #[.slice aT m cT, .slice aB m cB, .int .i64 n, .bool em] 92)) (.cells #[.slice aA m cA, .slice aO qo cO] 35)) (.cells #[.int .i64 0, .slice none 0 0, .int .i64 0] 46)
 have kn := qab (gv (w.alloc (.cells #[.slice aT m cT, .slice aB m cB, .int .i64 n, .bool em] 92)) (.cells #[.slice aA m cA, .slice aO qo cO] 35)) (.cells #[.int .i64 0, .slice none 0 0, .int .i64 0] 46)
 have kr := gv ((w.alloc (.cells #[.slice aT m cT, .slice aB m cB, .int .i64 n, .bool em] 92)).alloc (.cells #[.slice aA m cA, .slice aO qo cO] 35)) (.cells #[.int .i64 0, .slice none 0 0, .int .i64 0] 46)
 have hs : qad w (((w.alloc (.cells #[.slice aT m cT, .slice aB m cB, .int .i64 n, .bool em] 92)).alloc (.cells #[.slice aA m cA, .slice aO qo cO] 35)).alloc (.cells #[.int .i64 0, .slice none 0 0, .int .i64 0] 46)) := fs2
 have hz1 : (w.alloc (.cells #[.slice aT m cT, .slice aB m cB, .int .i64 n, .bool em] 92)).heap.size = w.heap.size + 1 := by simp
 have hz2 : ((w.alloc (.cells #[.slice aT m cT, .slice aB m cB, .int .i64 n, .bool em] 92)).alloc (.cells #[.slice aA m cA, .slice aO qo cO] 35)).heap.size = w.heap.size + 1 + 1 := by simp
 rw [hz1] at kn
 rw [hz2] at kr
 generalize ((w.alloc (.cells #[.slice aT m cT, .slice aB m cB, .int .i64 n, .bool em] 92)).alloc (.cells #[.slice aA m cA, .slice aO qo cO] 35)).alloc (.cells #[.int .i64 0, .slice none 0 0, .int .i64 0] 46) = W0 at *
 clear hz1 hz2
 replace kl := gi kl; replace kn := gi kn; replace kr := gi kr; replace hs := gi hs
 have hB0 : w.heap.size + 1 + 1 < W0.heap.size := gu kr.out
 go_upto_region 3 with fail
 go_loopw [8, 15] (fun v i wr => ∃ k : Nat, i = .int .i64 k ∧ k ≤ qE ∧ qgO W0.heap.size n2 ts k v wr ∧ qad W0 wr) (fun _ i _ => qE - (intOf i).toNat)
 case atStart => exact ⟨0, rfl, Nat.zero_le _, qgO.nil _ _ _ _, Fr.refl _ _⟩
 case round =>
  obtain ⟨k, rfl, hk, hD, hs1⟩ := hrel
  have hzr := hs1.size
  have kl1 := hs1.at kl.out id
  have kn1 := hs1.at kn.out id
  have kr1 := hs1.at kr.out id
  have hsw := hs.out.same hs1
  by_cases hlt : k < qE
  · obtain ⟨ds, aR, cR, rfl, hds, hown, hall, htab⟩ := hD.ex
    obtain ⟨b0, off0, ha0, hb0, x9⟩ := hrow.out k hlt _ hsw
    have STk := ST'.out k
    generalize ev k = ek at *
    subst ha0
    replace kl1 := gi kl1; replace kn1 := gi kn1; replace kr1 := gi kr1; replace hsw := gi hsw; replace hs1 := gi hs1; replace hds := gi hds; replace hown := gi hown; replace hall := gi hall; replace htab := gi htab; replace hD := gi hD; replace STk := gi STk
    obtain ⟨x0, x1, x2, x3, xl⟩ := g4l kl1.out
    obtain ⟨y0, y1, yl⟩ := g2l kn1.out
    go_wp2_with fail
    refine (STk.out _ hsw.out).mono ?_
    intro e w3 hM
    obtain ⟨a3, c3, L3, r3, rfl, d3, t3, s3⟩ := hM.open
    clear x0 x1 x2 x3 xl
    clear y0 y1 yl
    clear hM kl1 kn1 kr1 hsw hb0 x9
    replace d3 := gi d3; replace t3 := gi t3; replace s3 := gi s3
    go_upto_region 6 with fail
    have kd := gv w3 (.cells #[.int .i64 n2, .slice a3 L3.length c3, .int .i64 r3] 46)
    have s4 : qad w3 (w3.alloc (.cells #[.int .i64 n2, .slice a3 L3.length c3, .int .i64 r3] 46)) := fs2
    generalize w3.alloc (.cells #[.int .i64 n2, .slice a3 L3.length c3, .int .i64 r3] 46) = W4 at *
    replace d3 := gi (d3.out.same s4)
    have s4 := s3.out.same s4
    have hown4 := qag hown.out s4
    have hall4 : ∀ d ∈ ds, d.at W4 := fun d hd => qaa.same (hall.out d hd) s4
    have hs14 := hs1.out.same s4
    clear s3 s4 hown hall hs1 hD
    generalize w3.heap.size = bd at *
    replace kd := gi kd; replace hown4 := gi hown4; replace hall4 := gi hall4; replace hs14 := gi hs14
    go_upto_region 8 with fail
    obtain ⟨x0, x1, x2, xl⟩ := g3l kd.out
    go_wp2_with (at_builtin; refine qai rfl (.tmp 30) (.tmp 32) 147 rfl W0.heap.size 46 i3 (.agg #[.int .i64 0, .slice none 0 0, .int .i64 0]) 3 40 Tryz.underlying147 hi3 hi3z hi3s hi3b rfl (by decide) (by decide) aR k cR (qbg ds) rfl (qag hown4.out fs2) (by omega) W4.heap.size [.int .i64 n2, .slice a3 L3.length c3, .int .i64 r3] rfl rfl (gv _ _) (by simp [Value.oneCell']) (by have := hs14.out.size; simp; omega) ?_; intro a9 c9 w9 ho9 hG9)
    have hR9 := qgO.push (base := W0.heap.size) (n := n2) (ts := ts) (k := k) (W := W4.alloc (.cells #[.int .i64 n2, .slice a3 L3.length c3, .int .i64 r3] 46)) (d := ⟨n2, a3, c3, L3, r3⟩) hds.out (fun d hd => qaa.same (hall4.out d hd) fs2) htab.out (qaa.same d3.out fs2) ⟨rfl, t3.out⟩ (qag hown4.out fs2) ho9 hG9
    have hs9 : qad W0 w9 := qas (hs14.out.same fs2) hG9 (fun k hk => (hown4.out.lt k hk).1)
    clear ho9 hG9 x0 x1 x2 xl
    replace hR9 := gi hR9; replace hs9 := gi hs9
    go_roundw
    case rel => exact ⟨k + 1, by go_num, by omega, hR9.out, hs9.out⟩
    case measure => simp [intOf]; omega
  · have hkm : k = qE := by omega
    have FOk := FO.out _ _ _ (hkm ▸ hD)
    replace kl1 := gi kl1; replace kn1 := gi kn1; replace kr1 := gi kr1; replace hsw := gi hsw; replace hs1 := gi hs1; replace hD := gi hD; replace FOk := gi FOk; replace hkm := gi hkm
    obtain ⟨ds, aR, cR, rfl, -⟩ := hD.out.ex
    obtain ⟨x0, x1, x2, x3, xl⟩ := g4l kl1.out
    go_wp2_with fail
    refine FOk.out.mono ?_
    intro e w3 hM
    obtain ⟨a3, c3, L3, r3, rfl, d3, tt3, s3⟩ := hM.open
    clear x0 x1 x2 x3 xl
    replace kr1 := gi (s3.at kr1.out id)
    have hs3 := hsw.out.same s3
    clear hM s3
    replace d3 := gi d3; replace tt3 := gi tt3; replace hs3 := gi hs3
    obtain ⟨x0, x1, x2, z0, z1, z2, xl⟩ := qar kr1.out
    go_wp2_with fail
    obtain ⟨q0, q1, q2, hdF, hsF⟩ := qaI hs3.out (by omega) (d := ⟨n2, a3, c3, L3, r3⟩) d3.out kr1.out
    refine bodyPost_ret (v := .tuple #[.agg #[.int .i64 n2, .slice a3 L3.length c3, .int .i64 r3], .int .i64 0]) (by simp [results, Tryz.results60, go_sem, q0, q1, q2]) rfl ?_
    exact ⟨_, rfl, hdF, ⟨rfl, tt3.out⟩, hsF⟩
def qcU : List Int → List Int → List Int
 | [], b => b
 | x :: a, [] => x :: a
 | x :: a, y :: b => if x < y then x :: qcU a (y :: b) else if y < x then y :: qcU (x :: a) b else x :: qcU a b
termination_by a b => a.length + b.length
theorem qeq (b : List Int) : qcU [] b = b := by rw [qcU]
theorem qer : ∀ (a : List Int), qcU a [] = a
 | [] => by rw [qcU]
 | x :: a => by rw [qcU]
theorem qdp (x y : Int) (a b : List Int) : qcU (x :: a) (y :: b) = if x < y then x :: qcU a (y :: b) else if y < x then y :: qcU (x :: a) b else x :: qcU a b := by rw [qcU]
theorem qcV : ∀ (k : Nat) (a b : List Int), a.length + b.length ≤ k → ∀ z, z ∈ qcU a b ↔ z ∈ a ∨ z ∈ b
 | k, [], b, _, z => by rw [qeq]; simp
 | k, x :: a, [], _, z => by rw [qer]; simp
 | 0, x :: a, y :: b, h, z => by simp at h
 | k + 1, x :: a, y :: b, h, z => by
  simp only [List.length_cons] at h
  rw [qdp]
  split
  · rw [List.mem_cons, qcV k a (y :: b) (by simp only [List.length_cons]; omega) z]
    simp [List.mem_cons, or_assoc]
  · split
    · rw [List.mem_cons, qcV k (x :: a) b (by simp only [List.length_cons]; omega) z]
      simp only [List.mem_cons]
      constructor
      · rintro (h | h | h)
        · exact .inr (.inl h)
        · exact .inl h
        · exact .inr (.inr h)
      · rintro (h | h | h)
        · exact .inr (.inl h)
        · exact .inl h
        · exact .inr (.inr h)
    · have e : x = y := by omega
      subst e
      rw [List.mem_cons, qcV k a b (by omega) z]
      simp only [List.mem_cons]
      constructor
      · rintro (h | h | h)
        · exact .inl (.inl h)
        · exact .inl (.inr h)
        · exact .inr (.inr h)
      · rintro ((h | h) | (h | h))
        · exact .inl h
        · exact .inr (.inl h)
        · exact .inl h
        · exact .inr (.inr h)
def qnL (l : List Int) : Prop := l.Pairwise (· < ·)
theorem qfm : ∀ (k : Nat) (a b : List Int), a.length + b.length ≤ k → qnL a → qnL b → qnL (qcU a b)
 | k, [], b, _, _, hb => by rw [qeq]; exact hb
 | k, x :: a, [], _, ha, _ => by rw [qer]; exact ha
 | 0, x :: a, y :: b, h, _, _ => by simp at h
 | k + 1, x :: a, y :: b, h, ha, hb => by
  simp only [List.length_cons] at h
  obtain ⟨ha1, ha2⟩ := List.pairwise_cons.1 ha
  obtain ⟨hb1, hb2⟩ := List.pairwise_cons.1 hb
  rw [qdp]
  split
  · rename_i hxy
    refine List.pairwise_cons.2 ⟨fun z hz => ?_, qfm k a (y :: b) (by simp only [List.length_cons]; omega) ha2 hb⟩
    rcases (qcV _ a (y :: b) (Nat.le_refl _) z).1 hz with hz | hz
    · exact ha1 z hz
    · rcases List.mem_cons.1 hz with rfl | hz
      · exact hxy
      · have := hb1 z hz; omega
  · split
    · rename_i _ hyx
      refine List.pairwise_cons.2 ⟨fun z hz => ?_, qfm k (x :: a) b (by simp only [List.length_cons]; omega) ha hb2⟩
      rcases (qcV _ (x :: a) b (Nat.le_refl _) z).1 hz with hz | hz
      · rcases List.mem_cons.1 hz with rfl | hz
        · exact hyx
        · have := ha1 z hz; omega
      · exact hb1 z hz
    · have e : x = y := by omega
      subst e
      refine List.pairwise_cons.2 ⟨fun z hz => ?_, qfm k a b (by omega) ha2 hb2⟩
      rcases (qcV _ a b (Nat.le_refl _) z).1 hz with hz | hz
      · exact ha1 z hz
      · exact hb1 z hz
theorem qan.tail {w : World} {b off n c : Nat} {u : Value} {us : List Value} (h : qan w (.slice (some ⟨b, off, none⟩) (n + 1) c) (n + 1) (u :: us)) :
 qan w (.slice (if c = 1 then some ⟨b, off, none⟩ else some ⟨b, off + 1, none⟩) n (c - 1)) n us := by
 obtain ⟨hl, a', c', he, h1, h2, h3, h4⟩ := h
 cases he
 obtain ⟨b', off', e, hb, hc⟩ := h4 (by omega)
 cases e
 refine ⟨by simpa using hl, _, _, rfl, by omega, by omega, fun e => by split at e <;> simp at e, fun hn => ?_⟩
 rw [if_neg (by omega)]
 refine ⟨b, off + 1, rfl, hb, fun j u' hu => ?_⟩
 have := hc (j + 1) u' (by simpa using hu)
 rwa [show off + 1 + j = off + (j + 1) by omega]
def qkI : Value → Nat
 | .slice _ n _ => n
 | _ => 0
theorem qlF (x y : Bool) (w : World) : Calls Tryz.prog 113 #[.bool x, .bool y] w fun e w' => e = .returned (.bool (x || y)) ∧ qad w w' := by
 cases x
 all_goals
  go_enter Tryz.func113, Tryz.ntmps113
  go_wp2_with fail
  go_ret
  exact ⟨rfl, fs2⟩
theorem qnM (A0 B0 : List Int) (aA aB : Option Addr) (qA cA qB cB : Nat) (w : World) (hqA : A0.length = qA) (hqB : B0.length = qB) (hA0 : qan w (.slice aA qA cA) qA (gw A0)) (hB0 : qan w (.slice aB qB cB) qB (gw B0)) (h9 : qA + qB ≤ 1000000) :
 Calls Tryz.prog 112 #[.slice aA qA cA, .slice aB qB cB, .func (.func 113) #[] #[]] w fun e w' => ∃ a c, e = .returned (.slice a (qcU A0 B0).length c) ∧ w'.ownsRow w.heap.size 3 1 (.slice a (qcU A0 B0).length c) (qcU A0 B0).length (gw (qcU A0 B0)) ∧ qad w w' := by
 obtain ⟨i3, hi3, hi3z, hi3s, hi3b⟩ := info_parts qc0
 have U1 := fun x y W => qlF x y W
 obtain ⟨U, hU⟩ : ∃ U, U = qcU A0 B0 := ⟨_, rfl⟩
 rw [← hU]
 have h0 : ∃ (A B R : List Int), A = A0 ∧ B = B0 ∧ R = [] := ⟨_, _, _, rfl, rfl, rfl⟩
 replace U1 := gi U1; replace hA0 := gi hA0; replace hB0 := gi hB0; replace hU := gi hU
 go_enter Tryz.func112, Tryz.ntmps112
 go_wp2_with fail
 go_loopw [0, 1, 7] (fun v0 v1 v7 wr => ∃ (A B R : List Int) (a : Option Addr) (na ca : Nat) (b : Option Addr) (nb cb : Nat) (ar : Option Addr) (q cr : Nat), v0 = .slice a na ca ∧ v1 = .slice b nb cb ∧ v7 = .slice ar q cr ∧ A.length = na ∧ B.length = nb ∧ qan w (.slice a na ca) na (gw A) ∧ qan w (.slice b nb cb) nb (gw B) ∧ wr.ownsRow w.heap.size 3 1 (.slice ar q cr) q (gw R) ∧ U = R ++ qcU A B ∧ na + nb + q ≤ 1000000 ∧ qad w wr) (fun v0 v1 _ _ => qkI v0 + qkI v1)
 case atStart => exact ⟨A0, B0, [], aA, qA, cA, aB, qB, cB, none, 0, 0, rfl, rfl, rfl, hqA, hqB, hA0.out, hB0.out, World.ownsRow_nil _ _ _ _, hU.out, by omega, Fr.refl _ _⟩
 case round =>
  obtain ⟨A, B, R, a, na, ca, b, nb, cb, ar, q, cr, rfl, rfl, rfl, hna, hnb, hA, hB, ho, hu, hq9, hs⟩ := hrel
  have hws := hs.size
  cases A with
  | nil =>
   obtain rfl : na = 0 := by simpa using hna.symm
   cases B with
   | nil =>
    obtain rfl : nb = 0 := by simpa using hnb.symm
    rw [qeq, List.append_nil] at hu
    have hqU : U.length = q := by have := ho.1; rw [← hu] at this; simpa [gw] using this
    replace ho := gi ho; replace hs := gi hs; replace hu := gi hu
    go_wp2_with fail
    go_ret
    exact ⟨ar, cr, by rw [hqU]; rfl, by rw [hqU, hu.out]; exact ho.out, hs.out⟩
   | cons y B =>
    obtain ⟨nb, rfl⟩ : ∃ k, nb = k + 1 := ⟨B.length, by simpa using hnb.symm⟩
    obtain ⟨bb, ob, rfl, hbb, hcb⟩ := (hB.same hs).cell (by omega)
    have xb := hcb 0 _ (show (gw (y :: B))[0]? = some (.int .i64 y) from rfl)
    rw [Nat.add_zero] at xb
    have hBt := hB.tail
    obtain ⟨a8', c8', he8, hB1, hB2⟩ := hB.form
    cases he8
    have pb1 : ((0 : Int) < (nb : Int) + 1) = True := by simp; try omega
    have pb2 : ((nb : Int) + 1 == 0) = false := by simp; omega
    have pb3 : (1 : Int) ≤ (nb : Int) + 1 := by omega
    have pb4 : (nb : Int) + 1 ≤ cb := by omega
    have pb5 : 1 ≤ nb + 1 := by omega
    clear hcb
    have hst : qcU [] (y :: B) = y :: qcU [] B := by rw [qeq, qeq]
    replace hA := gi hA; replace hB := gi hB; replace ho := gi ho; replace hs := gi hs; replace hu := gi hu; replace hBt := gi hBt; replace hst := gi hst
    go_upto_region 3 with fail
    refine qac (L2 bb bb) [0, 0, 0, 0, 0, 0, 0, 0, 0, 0, 1, 0, 0, 1, 0, 0, 0, 0] [0, 1, 2, 3, 4, 5, 6, 7, 8, 9, 11, 12, 10, 13, 14, 15, 16, 17] (by kernel_rfl) (by kernel_rfl) ?_
    repeat ((first | refine gB rfl rfl fun _ k => ?_ | refine gC rfl rfl fun _ k => ?_); go_simp; (first | refine k _ ?_ | refine ⟨_, fun _ => rfl, k _ ?_⟩); clear k)
    refine gO (NoPanic.normal ?_)
    go_upto_region 4 with fail
    refine qac (L2 bb bb) [0, 0, 0, 0, 0, 0, 0, 0, 0, 0, 1, 0, 0, 1, 0, 0, 0, 0] [0, 1, 2, 3, 4, 5, 6, 7, 8, 9, 11, 12, 10, 13, 14, 15, 16, 17] (by kernel_rfl) (by kernel_rfl) ?_
    repeat ((first | refine gB rfl rfl fun _ k => ?_ | refine gC rfl rfl fun _ k => ?_); go_simp; (first | refine k _ ?_ | refine ⟨_, fun _ => rfl, k _ ?_⟩); clear k)
    refine gO (NoPanic.normal ?_)
    by_cases hc : cb = 1
    · have hBt := hBt.out
      rw [if_pos hc] at hBt
      subst hc
      obtain rfl : nb = 0 := by omega
      replace hBt := gi hBt
      go_upto_region 9 with fail
      refine qac (Lk bb) [0, 0, 1, 0, 0, 0, 0] [0, 1, 3, 4, 2, 5, 6] (by kernel_rfl) (by kernel_rfl) ?_
      repeat ((first | refine gB rfl rfl fun _ k => ?_ | refine gC rfl rfl fun _ k => ?_); go_simp; (first | refine k _ ?_ | refine ⟨_, fun _ => rfl, k _ ?_⟩); clear k)
      refine gO (NoPanic.normal ?_)
      go_wp2_with fail
      refine (U1.out _ _ _).mono ?_
      rintro e w5 ⟨rfl, s5⟩
      replace s5 := (show qad wr _ from fs3).same s5
      have ho5 := qag ho.out s5
      have hs5 := hs.out.same s5
      have hz5 := s5.size
      clear s5
      replace ho5 := gi ho5; replace hs5 := gi hs5
      go_wp2_with (at_builtin; refine qai rfl (.tmp 69) (.tmp 71) 33 rfl w.heap.size 3 i3 (.int .i64 0) 1 8 Tryz.underlying33 hi3 hi3z hi3s hi3b rfl (by decide) (by decide) ar q cr (gw R) rfl (qag ho5.out fs2) (by omega) w5.heap.size [.int .i64 y] rfl rfl (gv _ _) (by simp [Value.oneCell']) (by simp; omega) ?_; intro a7 c7 w7 ho7 hG7)
      have hs7 : qad w w7 := qas (hs5.out.same fs2) hG7 (fun k hk => (ho5.out.lt k hk).1)
      have ho7' : w7.ownsRow w.heap.size 3 1 (.slice a7 (q + 1) c7) (q + 1) (gw (R ++ [y])) := by simpa [gw] using ho7
      clear ho7 hG7
      replace hs7 := gi hs7; replace ho7' := gi ho7'
      go_roundw
      case rel => exact ⟨_, _, R ++ [y], _, _, _, _, _, _, a7, q + 1, c7, rfl, rfl, rfl, rfl, by simpa using hnb, hA.out, hBt.out, ho7'.out, by rw [hu.out, hst.out, List.append_assoc]; rfl, by omega, hs7.out⟩
      case measure => (simp [qkI] <;> omega)
    · have hBt := hBt.out
      rw [if_neg hc] at hBt
      replace hBt := gi hBt
      go_upto_region 9 with fail
      refine qac (Lk bb) [0, 0, 1, 0, 0, 0, 0] [0, 1, 3, 4, 2, 5, 6] (by kernel_rfl) (by kernel_rfl) ?_
      repeat ((first | refine gB rfl rfl fun _ k => ?_ | refine gC rfl rfl fun _ k => ?_); go_simp; (first | refine k _ ?_ | refine ⟨_, fun _ => rfl, k _ ?_⟩); clear k)
      refine gO (NoPanic.normal ?_)
      go_wp2_with fail
      refine (U1.out _ _ _).mono ?_
      rintro e w5 ⟨rfl, s5⟩
      replace s5 := (show qad wr _ from fs3).same s5
      have ho5 := qag ho.out s5
      have hs5 := hs.out.same s5
      have hz5 := s5.size
      clear s5
      replace ho5 := gi ho5; replace hs5 := gi hs5
      go_wp2_with (at_builtin; refine qai rfl (.tmp 69) (.tmp 71) 33 rfl w.heap.size 3 i3 (.int .i64 0) 1 8 Tryz.underlying33 hi3 hi3z hi3s hi3b rfl (by decide) (by decide) ar q cr (gw R) rfl (qag ho5.out fs2) (by omega) w5.heap.size [.int .i64 y] rfl rfl (gv _ _) (by simp [Value.oneCell']) (by simp; omega) ?_; intro a7 c7 w7 ho7 hG7)
      have hs7 : qad w w7 := qas (hs5.out.same fs2) hG7 (fun k hk => (ho5.out.lt k hk).1)
      have ho7' : w7.ownsRow w.heap.size 3 1 (.slice a7 (q + 1) c7) (q + 1) (gw (R ++ [y])) := by simpa [gw] using ho7
      clear ho7 hG7
      replace hs7 := gi hs7; replace ho7' := gi ho7'
      go_roundw
      case rel => exact ⟨_, _, R ++ [y], _, _, _, _, _, _, a7, q + 1, c7, rfl, rfl, rfl, rfl, by simpa using hnb, hA.out, hBt.out, ho7'.out, by rw [hu.out, hst.out, List.append_assoc]; rfl, by omega, hs7.out⟩
      case measure => (simp [qkI] <;> omega)
  | cons x A =>
   obtain ⟨na, rfl⟩ : ∃ k, na = k + 1 := ⟨A.length, by simpa using hna.symm⟩
   obtain ⟨ba, oa, rfl, hba, hca⟩ := (hA.same hs).cell (by omega)
   have xa := hca 0 _ (show (gw (x :: A))[0]? = some (.int .i64 x) from rfl)
   rw [Nat.add_zero] at xa
   have hAt := hA.tail
   obtain ⟨a9', c9', he9, hA1, hA2⟩ := hA.form
   cases he9
   have pa1 : ((0 : Int) < (na : Int) + 1) = True := by simp; try omega
   have pa2 : ((na : Int) + 1 == 0) = false := by simp; omega
   have pa3 : (1 : Int) ≤ (na : Int) + 1 := by omega
   have pa4 : (na : Int) + 1 ≤ ca := by omega
   have pa5 : 1 ≤ na + 1 := by omega
   clear hca
   cases B with
   | nil =>
    obtain rfl : nb = 0 := by simpa using hnb.symm
    have hst : qcU (x :: A) [] = x :: qcU A [] := by rw [qer, qer]
    replace hA := gi hA; replace hB := gi hB; replace ho := gi ho; replace hs := gi hs; replace hu := gi hu; replace hAt := gi hAt; replace hst := gi hst
    go_upto_region 3 with fail
    refine qac (L2 ba ba) [0, 0, 0, 0, 0, 0, 0, 0, 0, 0, 1, 0, 0, 1, 0, 0, 0, 0] [0, 1, 2, 3, 4, 5, 6, 7, 8, 9, 11, 12, 10, 13, 14, 15, 16, 17] (by kernel_rfl) (by kernel_rfl) ?_
    repeat ((first | refine gB rfl rfl fun _ k => ?_ | refine gC rfl rfl fun _ k => ?_); go_simp; (first | refine k _ ?_ | refine ⟨_, fun _ => rfl, k _ ?_⟩); clear k)
    refine gO (NoPanic.normal ?_)
    go_upto_region 4 with fail
    refine qac (L2 ba ba) [0, 0, 0, 0, 0, 0, 0, 0, 0, 0, 1, 0, 0, 1, 0, 0, 0, 0] [0, 1, 2, 3, 4, 5, 6, 7, 8, 9, 11, 12, 10, 13, 14, 15, 16, 17] (by kernel_rfl) (by kernel_rfl) ?_
    repeat ((first | refine gB rfl rfl fun _ k => ?_ | refine gC rfl rfl fun _ k => ?_); go_simp; (first | refine k _ ?_ | refine ⟨_, fun _ => rfl, k _ ?_⟩); clear k)
    refine gO (NoPanic.normal ?_)
    by_cases hc : ca = 1
    · have hAt := hAt.out
      rw [if_pos hc] at hAt
      subst hc
      obtain rfl : na = 0 := by omega
      replace hAt := gi hAt
      go_upto_region 7 with fail
      refine qac (Lk ba) [0, 0, 1, 0, 0, 0, 0] [0, 1, 3, 4, 2, 5, 6] (by kernel_rfl) (by kernel_rfl) ?_
      repeat ((first | refine gB rfl rfl fun _ k => ?_ | refine gC rfl rfl fun _ k => ?_); go_simp; (first | refine k _ ?_ | refine ⟨_, fun _ => rfl, k _ ?_⟩); clear k)
      refine gO (NoPanic.normal ?_)
      go_wp2_with fail
      refine (U1.out _ _ _).mono ?_
      rintro e w5 ⟨rfl, s5⟩
      replace s5 := (show qad wr _ from fs3).same s5
      have ho5 := qag ho.out s5
      have hs5 := hs.out.same s5
      have hz5 := s5.size
      clear s5
      replace ho5 := gi ho5; replace hs5 := gi hs5
      go_wp2_with (at_builtin; refine qai rfl (.tmp 69) (.tmp 71) 33 rfl w.heap.size 3 i3 (.int .i64 0) 1 8 Tryz.underlying33 hi3 hi3z hi3s hi3b rfl (by decide) (by decide) ar q cr (gw R) rfl (qag ho5.out fs2) (by omega) w5.heap.size [.int .i64 x] rfl rfl (gv _ _) (by simp [Value.oneCell']) (by simp; omega) ?_; intro a7 c7 w7 ho7 hG7)
      have hs7 : qad w w7 := qas (hs5.out.same fs2) hG7 (fun k hk => (ho5.out.lt k hk).1)
      have ho7' : w7.ownsRow w.heap.size 3 1 (.slice a7 (q + 1) c7) (q + 1) (gw (R ++ [x])) := by simpa [gw] using ho7
      clear ho7 hG7
      replace hs7 := gi hs7; replace ho7' := gi ho7'
      go_roundw
      case rel => exact ⟨_, _, R ++ [x], _, _, _, _, _, _, a7, q + 1, c7, rfl, rfl, rfl, by simpa using hna, rfl, hAt.out, hB.out, ho7'.out, by rw [hu.out, hst.out, List.append_assoc]; rfl, by omega, hs7.out⟩
      case measure => (simp [qkI] <;> omega)
    · have hAt := hAt.out
      rw [if_neg hc] at hAt
      replace hAt := gi hAt
      go_upto_region 7 with fail
      refine qac (Lk ba) [0, 0, 1, 0, 0, 0, 0] [0, 1, 3, 4, 2, 5, 6] (by kernel_rfl) (by kernel_rfl) ?_
      repeat ((first | refine gB rfl rfl fun _ k => ?_ | refine gC rfl rfl fun _ k => ?_); go_simp; (first | refine k _ ?_ | refine ⟨_, fun _ => rfl, k _ ?_⟩); clear k)
      refine gO (NoPanic.normal ?_)
      go_wp2_with fail
      refine (U1.out _ _ _).mono ?_
      rintro e w5 ⟨rfl, s5⟩
      replace s5 := (show qad wr _ from fs3).same s5
      have ho5 := qag ho.out s5
      have hs5 := hs.out.same s5
      have hz5 := s5.size
      clear s5
      replace ho5 := gi ho5; replace hs5 := gi hs5
      go_wp2_with (at_builtin; refine qai rfl (.tmp 69) (.tmp 71) 33 rfl w.heap.size 3 i3 (.int .i64 0) 1 8 Tryz.underlying33 hi3 hi3z hi3s hi3b rfl (by decide) (by decide) ar q cr (gw R) rfl (qag ho5.out fs2) (by omega) w5.heap.size [.int .i64 x] rfl rfl (gv _ _) (by simp [Value.oneCell']) (by simp; omega) ?_; intro a7 c7 w7 ho7 hG7)
      have hs7 : qad w w7 := qas (hs5.out.same fs2) hG7 (fun k hk => (ho5.out.lt k hk).1)
      have ho7' : w7.ownsRow w.heap.size 3 1 (.slice a7 (q + 1) c7) (q + 1) (gw (R ++ [x])) := by simpa [gw] using ho7
      clear ho7 hG7
      replace hs7 := gi hs7; replace ho7' := gi ho7'
      go_roundw
      case rel => exact ⟨_, _, R ++ [x], _, _, _, _, _, _, a7, q + 1, c7, rfl, rfl, rfl, by simpa using hna, rfl, hAt.out, hB.out, ho7'.out, by rw [hu.out, hst.out, List.append_assoc]; rfl, by omega, hs7.out⟩
      case measure => (simp [qkI] <;> omega)
   | cons y B =>
    obtain ⟨nb, rfl⟩ : ∃ k, nb = k + 1 := ⟨B.length, by simpa using hnb.symm⟩
    obtain ⟨bb, ob, rfl, hbb, hcb⟩ := (hB.same hs).cell (by omega)
    have xb := hcb 0 _ (show (gw (y :: B))[0]? = some (.int .i64 y) from rfl)
    rw [Nat.add_zero] at xb
    have hBt := hB.tail
    obtain ⟨a8', c8', he8, hB1, hB2⟩ := hB.form
    cases he8
    have pb1 : ((0 : Int) < (nb : Int) + 1) = True := by simp; try omega
    have pb2 : ((nb : Int) + 1 == 0) = false := by simp; omega
    have pb3 : (1 : Int) ≤ (nb : Int) + 1 := by omega
    have pb4 : (nb : Int) + 1 ≤ cb := by omega
    have pb5 : 1 ≤ nb + 1 := by omega
    clear hcb
    rcases Int.lt_trichotomy x y with hlt | heq | hgt
    · have hst : qcU (x :: A) (y :: B) = x :: qcU A (y :: B) := by rw [qdp, if_pos hlt]
      have q1 : x ≤ y := by omega
      have q2 : ¬ y ≤ x := by omega
      replace hA := gi hA; replace hB := gi hB; replace ho := gi ho; replace hs := gi hs; replace hu := gi hu; replace hAt := gi hAt; replace hBt := gi hBt; replace hst := gi hst; replace hlt := gi hlt
      go_upto_region 3 with fail
      refine qac (L2 ba bb) [0, 0, 0, 0, 0, 0, 0, 0, 0, 0, 1, 0, 0, 1, 0, 0, 0, 0] [0, 1, 2, 3, 4, 5, 6, 7, 8, 9, 11, 12, 10, 13, 14, 15, 16, 17] (by kernel_rfl) (by kernel_rfl) ?_
      repeat ((first | refine gB rfl rfl fun _ k => ?_ | refine gC rfl rfl fun _ k => ?_); go_simp; (first | refine k _ ?_ | refine ⟨_, fun _ => rfl, k _ ?_⟩); clear k)
      refine gO (NoPanic.normal ?_)
      go_upto_region 4 with fail
      refine qac (L2 ba bb) [0, 0, 0, 0, 0, 0, 0, 0, 0, 0, 1, 0, 0, 1, 0, 0, 0, 0] [0, 1, 2, 3, 4, 5, 6, 7, 8, 9, 11, 12, 10, 13, 14, 15, 16, 17] (by kernel_rfl) (by kernel_rfl) ?_
      repeat ((first | refine gB rfl rfl fun _ k => ?_ | refine gC rfl rfl fun _ k => ?_); go_simp; (first | refine k _ ?_ | refine ⟨_, fun _ => rfl, k _ ?_⟩); clear k)
      refine gO (NoPanic.normal ?_)
      by_cases hc : ca = 1
      · have hAt := hAt.out
        rw [if_pos hc] at hAt
        subst hc
        obtain rfl : na = 0 := by omega
        replace hAt := gi hAt
        go_upto_region 7 with fail
        refine qac (Lk ba) [0, 0, 1, 0, 0, 0, 0] [0, 1, 3, 4, 2, 5, 6] (by kernel_rfl) (by kernel_rfl) ?_
        repeat ((first | refine gB rfl rfl fun _ k => ?_ | refine gC rfl rfl fun _ k => ?_); go_simp; (first | refine k _ ?_ | refine ⟨_, fun _ => rfl, k _ ?_⟩); clear k)
        refine gO (NoPanic.normal ?_)
        go_wp2_with fail
        refine (U1.out _ _ _).mono ?_
        rintro e w5 ⟨rfl, s5⟩
        replace s5 := (show qad wr _ from fs3).same s5
        have ho5 := qag ho.out s5
        have hs5 := hs.out.same s5
        have hz5 := s5.size
        clear s5
        replace ho5 := gi ho5; replace hs5 := gi hs5
        go_wp2_with (at_builtin; refine qai rfl (.tmp 69) (.tmp 71) 33 rfl w.heap.size 3 i3 (.int .i64 0) 1 8 Tryz.underlying33 hi3 hi3z hi3s hi3b rfl (by decide) (by decide) ar q cr (gw R) rfl (qag ho5.out fs2) (by omega) w5.heap.size [.int .i64 x] rfl rfl (gv _ _) (by simp [Value.oneCell']) (by simp; omega) ?_; intro a7 c7 w7 ho7 hG7)
        have hs7 : qad w w7 := qas (hs5.out.same fs2) hG7 (fun k hk => (ho5.out.lt k hk).1)
        have ho7' : w7.ownsRow w.heap.size 3 1 (.slice a7 (q + 1) c7) (q + 1) (gw (R ++ [x])) := by simpa [gw] using ho7
        clear ho7 hG7
        replace hs7 := gi hs7; replace ho7' := gi ho7'
        go_roundw
        case rel => exact ⟨_, _, R ++ [x], _, _, _, _, _, _, a7, q + 1, c7, rfl, rfl, rfl, by simpa using hna, hnb, hAt.out, hB.out, ho7'.out, by rw [hu.out, hst.out, List.append_assoc]; rfl, by omega, hs7.out⟩
        case measure => (simp [qkI] <;> omega)
      · have hAt := hAt.out
        rw [if_neg hc] at hAt
        replace hAt := gi hAt
        go_upto_region 7 with fail
        refine qac (Lk ba) [0, 0, 1, 0, 0, 0, 0] [0, 1, 3, 4, 2, 5, 6] (by kernel_rfl) (by kernel_rfl) ?_
        repeat ((first | refine gB rfl rfl fun _ k => ?_ | refine gC rfl rfl fun _ k => ?_); go_simp; (first | refine k _ ?_ | refine ⟨_, fun _ => rfl, k _ ?_⟩); clear k)
        refine gO (NoPanic.normal ?_)
        go_wp2_with fail
        refine (U1.out _ _ _).mono ?_
        rintro e w5 ⟨rfl, s5⟩
        replace s5 := (show qad wr _ from fs3).same s5
        have ho5 := qag ho.out s5
        have hs5 := hs.out.same s5
        have hz5 := s5.size
        clear s5
        replace ho5 := gi ho5; replace hs5 := gi hs5
        go_wp2_with (at_builtin; refine qai rfl (.tmp 69) (.tmp 71) 33 rfl w.heap.size 3 i3 (.int .i64 0) 1 8 Tryz.underlying33 hi3 hi3z hi3s hi3b rfl (by decide) (by decide) ar q cr (gw R) rfl (qag ho5.out fs2) (by omega) w5.heap.size [.int .i64 x] rfl rfl (gv _ _) (by simp [Value.oneCell']) (by simp; omega) ?_; intro a7 c7 w7 ho7 hG7)
        have hs7 : qad w w7 := qas (hs5.out.same fs2) hG7 (fun k hk => (ho5.out.lt k hk).1)
        have ho7' : w7.ownsRow w.heap.size 3 1 (.slice a7 (q + 1) c7) (q + 1) (gw (R ++ [x])) := by simpa [gw] using ho7
        clear ho7 hG7
        replace hs7 := gi hs7; replace ho7' := gi ho7'
        go_roundw
        case rel => exact ⟨_, _, R ++ [x], _, _, _, _, _, _, a7, q + 1, c7, rfl, rfl, rfl, by simpa using hna, hnb, hAt.out, hB.out, ho7'.out, by rw [hu.out, hst.out, List.append_assoc]; rfl, by omega, hs7.out⟩
        case measure => (simp [qkI] <;> omega)
    · subst heq
      have hst : qcU (x :: A) (x :: B) = x :: qcU A B := by rw [qdp, if_neg (by omega), if_neg (by omega)]
      have q1 : x ≤ x := by omega
      replace hA := gi hA; replace hB := gi hB; replace ho := gi ho; replace hs := gi hs; replace hu := gi hu; replace hAt := gi hAt; replace hBt := gi hBt; replace hst := gi hst
      go_upto_region 3 with fail
      refine qac (L2 ba bb) [0, 0, 0, 0, 0, 0, 0, 0, 0, 0, 1, 0, 0, 1, 0, 0, 0, 0] [0, 1, 2, 3, 4, 5, 6, 7, 8, 9, 11, 12, 10, 13, 14, 15, 16, 17] (by kernel_rfl) (by kernel_rfl) ?_
      repeat ((first | refine gB rfl rfl fun _ k => ?_ | refine gC rfl rfl fun _ k => ?_); go_simp; (first | refine k _ ?_ | refine ⟨_, fun _ => rfl, k _ ?_⟩); clear k)
      refine gO (NoPanic.normal ?_)
      go_upto_region 4 with fail
      refine qac (L2 ba bb) [0, 0, 0, 0, 0, 0, 0, 0, 0, 0, 1, 0, 0, 1, 0, 0, 0, 0] [0, 1, 2, 3, 4, 5, 6, 7, 8, 9, 11, 12, 10, 13, 14, 15, 16, 17] (by kernel_rfl) (by kernel_rfl) ?_
      repeat ((first | refine gB rfl rfl fun _ k => ?_ | refine gC rfl rfl fun _ k => ?_); go_simp; (first | refine k _ ?_ | refine ⟨_, fun _ => rfl, k _ ?_⟩); clear k)
      refine gO (NoPanic.normal ?_)
      by_cases hc : ca = 1
      · have hAt := hAt.out
        rw [if_pos hc] at hAt
        subst hc
        obtain rfl : na = 0 := by omega
        replace hAt := gi hAt
        go_upto_region 7 with fail
        refine qac (Lk ba) [0, 0, 1, 0, 0, 0, 0] [0, 1, 3, 4, 2, 5, 6] (by kernel_rfl) (by kernel_rfl) ?_
        repeat ((first | refine gB rfl rfl fun _ k => ?_ | refine gC rfl rfl fun _ k => ?_); go_simp; (first | refine k _ ?_ | refine ⟨_, fun _ => rfl, k _ ?_⟩); clear k)
        refine gO (NoPanic.normal ?_)
        by_cases hd : cb = 1
        · have hBt := hBt.out
          rw [if_pos hd] at hBt
          subst hd
          obtain rfl : nb = 0 := by omega
          replace hBt := gi hBt
          go_upto_region 9 with fail
          refine qac (Lk bb) [0, 0, 1, 0, 0, 0, 0] [0, 1, 3, 4, 2, 5, 6] (by kernel_rfl) (by kernel_rfl) ?_
          repeat ((first | refine gB rfl rfl fun _ k => ?_ | refine gC rfl rfl fun _ k => ?_); go_simp; (first | refine k _ ?_ | refine ⟨_, fun _ => rfl, k _ ?_⟩); clear k)
          refine gO (NoPanic.normal ?_)
          go_wp2_with fail
          refine (U1.out _ _ _).mono ?_
          rintro e w5 ⟨rfl, s5⟩
          replace s5 := (show qad wr _ from fs3).same s5
          have ho5 := qag ho.out s5
          have hs5 := hs.out.same s5
          have hz5 := s5.size
          clear s5
          replace ho5 := gi ho5; replace hs5 := gi hs5
          go_wp2_with (at_builtin; refine qai rfl (.tmp 69) (.tmp 71) 33 rfl w.heap.size 3 i3 (.int .i64 0) 1 8 Tryz.underlying33 hi3 hi3z hi3s hi3b rfl (by decide) (by decide) ar q cr (gw R) rfl (qag ho5.out fs2) (by omega) w5.heap.size [.int .i64 x] rfl rfl (gv _ _) (by simp [Value.oneCell']) (by simp; omega) ?_; intro a7 c7 w7 ho7 hG7)
          have hs7 : qad w w7 := qas (hs5.out.same fs2) hG7 (fun k hk => (ho5.out.lt k hk).1)
          have ho7' : w7.ownsRow w.heap.size 3 1 (.slice a7 (q + 1) c7) (q + 1) (gw (R ++ [x])) := by simpa [gw] using ho7
          clear ho7 hG7
          replace hs7 := gi hs7; replace ho7' := gi ho7'
          go_roundw
          case rel => exact ⟨_, _, R ++ [x], _, _, _, _, _, _, a7, q + 1, c7, rfl, rfl, rfl, by simpa using hna, by simpa using hnb, hAt.out, hBt.out, ho7'.out, by rw [hu.out, hst.out, List.append_assoc]; rfl, by omega, hs7.out⟩
          case measure => (simp [qkI] <;> omega)
        · have hBt := hBt.out
          rw [if_neg hd] at hBt
          replace hBt := gi hBt
          go_upto_region 9 with fail
          refine qac (Lk bb) [0, 0, 1, 0, 0, 0, 0] [0, 1, 3, 4, 2, 5, 6] (by kernel_rfl) (by kernel_rfl) ?_
          repeat ((first | refine gB rfl rfl fun _ k => ?_ | refine gC rfl rfl fun _ k => ?_); go_simp; (first | refine k _ ?_ | refine ⟨_, fun _ => rfl, k _ ?_⟩); clear k)
          refine gO (NoPanic.normal ?_)
          go_wp2_with fail
          refine (U1.out _ _ _).mono ?_
          rintro e w5 ⟨rfl, s5⟩
          replace s5 := (show qad wr _ from fs3).same s5
          have ho5 := qag ho.out s5
          have hs5 := hs.out.same s5
          have hz5 := s5.size
          clear s5
          replace ho5 := gi ho5; replace hs5 := gi hs5
          go_wp2_with (at_builtin; refine qai rfl (.tmp 69) (.tmp 71) 33 rfl w.heap.size 3 i3 (.int .i64 0) 1 8 Tryz.underlying33 hi3 hi3z hi3s hi3b rfl (by decide) (by decide) ar q cr (gw R) rfl (qag ho5.out fs2) (by omega) w5.heap.size [.int .i64 x] rfl rfl (gv _ _) (by simp [Value.oneCell']) (by simp; omega) ?_; intro a7 c7 w7 ho7 hG7)
          have hs7 : qad w w7 := qas (hs5.out.same fs2) hG7 (fun k hk => (ho5.out.lt k hk).1)
          have ho7' : w7.ownsRow w.heap.size 3 1 (.slice a7 (q + 1) c7) (q + 1) (gw (R ++ [x])) := by simpa [gw] using ho7
          clear ho7 hG7
          replace hs7 := gi hs7; replace ho7' := gi ho7'
          go_roundw
          case rel => exact ⟨_, _, R ++ [x], _, _, _, _, _, _, a7, q + 1, c7, rfl, rfl, rfl, by simpa using hna, by simpa using hnb, hAt.out, hBt.out, ho7'.out, by rw [hu.out, hst.out, List.append_assoc]; rfl, by omega, hs7.out⟩
          case measure => (simp [qkI] <;> omega)
      · have hAt := hAt.out
        rw [if_neg hc] at hAt
        replace hAt := gi hAt
        go_upto_region 7 with fail
        refine qac (Lk ba) [0, 0, 1, 0, 0, 0, 0] [0, 1, 3, 4, 2, 5, 6] (by kernel_rfl) (by kernel_rfl) ?_
        repeat ((first | refine gB rfl rfl fun _ k => ?_ | refine gC rfl rfl fun _ k => ?_); go_simp; (first | refine k _ ?_ | refine ⟨_, fun _ => rfl, k _ ?_⟩); clear k)
        refine gO (NoPanic.normal ?_)
        by_cases hd : cb = 1
        · have hBt := hBt.out
          rw [if_pos hd] at hBt
          subst hd
          obtain rfl : nb = 0 := by omega
          replace hBt := gi hBt
          go_upto_region 9 with fail
          refine qac (Lk bb) [0, 0, 1, 0, 0, 0, 0] [0, 1, 3, 4, 2, 5, 6] (by kernel_rfl) (by kernel_rfl) ?_
          repeat ((first | refine gB rfl rfl fun _ k => ?_ | refine gC rfl rfl fun _ k => ?_); go_simp; (first | refine k _ ?_ | refine ⟨_, fun _ => rfl, k _ ?_⟩); clear k)
          refine gO (NoPanic.normal ?_)
          go_wp2_with fail
          refine (U1.out _ _ _).mono ?_
          rintro e w5 ⟨rfl, s5⟩
          replace s5 := (show qad wr _ from fs3).same s5
          have ho5 := qag ho.out s5
          have hs5 := hs.out.same s5
          have hz5 := s5.size
          clear s5
          replace ho5 := gi ho5; replace hs5 := gi hs5
          go_wp2_with (at_builtin; refine qai rfl (.tmp 69) (.tmp 71) 33 rfl w.heap.size 3 i3 (.int .i64 0) 1 8 Tryz.underlying33 hi3 hi3z hi3s hi3b rfl (by decide) (by decide) ar q cr (gw R) rfl (qag ho5.out fs2) (by omega) w5.heap.size [.int .i64 x] rfl rfl (gv _ _) (by simp [Value.oneCell']) (by simp; omega) ?_; intro a7 c7 w7 ho7 hG7)
          have hs7 : qad w w7 := qas (hs5.out.same fs2) hG7 (fun k hk => (ho5.out.lt k hk).1)
          have ho7' : w7.ownsRow w.heap.size 3 1 (.slice a7 (q + 1) c7) (q + 1) (gw (R ++ [x])) := by simpa [gw] using ho7
          clear ho7 hG7
          replace hs7 := gi hs7; replace ho7' := gi ho7'
          go_roundw
          case rel => exact ⟨_, _, R ++ [x], _, _, _, _, _, _, a7, q + 1, c7, rfl, rfl, rfl, by simpa using hna, by simpa using hnb, hAt.out, hBt.out, ho7'.out, by rw [hu.out, hst.out, List.append_assoc]; rfl, by omega, hs7.out⟩
          case measure => (simp [qkI] <;> omega)
        · have hBt := hBt.out
          rw [if_neg hd] at hBt
          replace hBt := gi hBt
          go_upto_region 9 with fail
          refine qac (Lk bb) [0, 0, 1, 0, 0, 0, 0] [0, 1, 3, 4, 2, 5, 6] (by kernel_rfl) (by kernel_rfl) ?_
          repeat ((first | refine gB rfl rfl fun _ k => ?_ | refine gC rfl rfl fun _ k => ?_); go_simp; (first | refine k _ ?_ | refine ⟨_, fun _ => rfl, k _ ?_⟩); clear k)
          refine gO (NoPanic.normal ?_)
          go_wp2_with fail
          refine (U1.out _ _ _).mono ?_
          rintro e w5 ⟨rfl, s5⟩
          replace s5 := (show qad wr _ from fs3).same s5
          have ho5 := qag ho.out s5
          have hs5 := hs.out.same s5
          have hz5 := s5.size
          clear s5
          replace ho5 := gi ho5; replace hs5 := gi hs5
          go_wp2_with (at_builtin; refine qai rfl (.tmp 69) (.tmp 71) 33 rfl w.heap.size 3 i3 (.int .i64 0) 1 8 Tryz.underlying33 hi3 hi3z hi3s hi3b rfl (by decide) (by decide) ar q cr (gw R) rfl (qag ho5.out fs2) (by omega) w5.heap.size [.int .i64 x] rfl rfl (gv _ _) (by simp [Value.oneCell']) (by simp; omega) ?_; intro a7 c7 w7 ho7 hG7)
          have hs7 : qad w w7 := qas (hs5.out.same fs2) hG7 (fun k hk => (ho5.out.lt k hk).1)
          have ho7' : w7.ownsRow w.heap.size 3 1 (.slice a7 (q + 1) c7) (q + 1) (gw (R ++ [x])) := by simpa [gw] using ho7
          clear ho7 hG7
          replace hs7 := gi hs7; replace ho7' := gi ho7'
          go_roundw
          case rel => exact ⟨_, _, R ++ [x], _, _, _, _, _, _, a7, q + 1, c7, rfl, rfl, rfl, by simpa using hna, by simpa using hnb, hAt.out, hBt.out, ho7'.out, by rw [hu.out, hst.out, List.append_assoc]; rfl, by omega, hs7.out⟩
          case measure => (simp [qkI] <;> omega)
    · have hst : qcU (x :: A) (y :: B) = y :: qcU (x :: A) B := by rw [qdp, if_neg (by omega), if_pos hgt]
      have q1 : y ≤ x := by omega
      have q2 : ¬ x ≤ y := by omega
      replace hA := gi hA; replace hB := gi hB; replace ho := gi ho; replace hs := gi hs; replace hu := gi hu; replace hAt := gi hAt; replace hBt := gi hBt; replace hst := gi hst; replace hgt := gi hgt
      go_upto_region 3 with fail
      refine qac (L2 ba bb) [0, 0, 0, 0, 0, 0, 0, 0, 0, 0, 1, 0, 0, 1, 0, 0, 0, 0] [0, 1, 2, 3, 4, 5, 6, 7, 8, 9, 11, 12, 10, 13, 14, 15, 16, 17] (by kernel_rfl) (by kernel_rfl) ?_
      repeat ((first | refine gB rfl rfl fun _ k => ?_ | refine gC rfl rfl fun _ k => ?_); go_simp; (first | refine k _ ?_ | refine ⟨_, fun _ => rfl, k _ ?_⟩); clear k)
      refine gO (NoPanic.normal ?_)
      go_upto_region 4 with fail
      refine qac (L2 ba bb) [0, 0, 0, 0, 0, 0, 0, 0, 0, 0, 1, 0, 0, 1, 0, 0, 0, 0] [0, 1, 2, 3, 4, 5, 6, 7, 8, 9, 11, 12, 10, 13, 14, 15, 16, 17] (by kernel_rfl) (by kernel_rfl) ?_
      repeat ((first | refine gB rfl rfl fun _ k => ?_ | refine gC rfl rfl fun _ k => ?_); go_simp; (first | refine k _ ?_ | refine ⟨_, fun _ => rfl, k _ ?_⟩); clear k)
      refine gO (NoPanic.normal ?_)
      by_cases hd : cb = 1
      · have hBt := hBt.out
        rw [if_pos hd] at hBt
        subst hd
        obtain rfl : nb = 0 := by omega
        replace hBt := gi hBt
        go_upto_region 9 with fail
        refine qac (Lk bb) [0, 0, 1, 0, 0, 0, 0] [0, 1, 3, 4, 2, 5, 6] (by kernel_rfl) (by kernel_rfl) ?_
        repeat ((first | refine gB rfl rfl fun _ k => ?_ | refine gC rfl rfl fun _ k => ?_); go_simp; (first | refine k _ ?_ | refine ⟨_, fun _ => rfl, k _ ?_⟩); clear k)
        refine gO (NoPanic.normal ?_)
        go_wp2_with fail
        refine (U1.out _ _ _).mono ?_
        rintro e w5 ⟨rfl, s5⟩
        replace s5 := (show qad wr _ from fs3).same s5
        have ho5 := qag ho.out s5
        have hs5 := hs.out.same s5
        have hz5 := s5.size
        clear s5
        replace ho5 := gi ho5; replace hs5 := gi hs5
        go_wp2_with (at_builtin; refine qai rfl (.tmp 69) (.tmp 71) 33 rfl w.heap.size 3 i3 (.int .i64 0) 1 8 Tryz.underlying33 hi3 hi3z hi3s hi3b rfl (by decide) (by decide) ar q cr (gw R) rfl (qag ho5.out fs2) (by omega) w5.heap.size [.int .i64 y] rfl rfl (gv _ _) (by simp [Value.oneCell']) (by simp; omega) ?_; intro a7 c7 w7 ho7 hG7)
        have hs7 : qad w w7 := qas (hs5.out.same fs2) hG7 (fun k hk => (ho5.out.lt k hk).1)
        have ho7' : w7.ownsRow w.heap.size 3 1 (.slice a7 (q + 1) c7) (q + 1) (gw (R ++ [y])) := by simpa [gw] using ho7
        clear ho7 hG7
        replace hs7 := gi hs7; replace ho7' := gi ho7'
        go_roundw
        case rel => exact ⟨_, _, R ++ [y], _, _, _, _, _, _, a7, q + 1, c7, rfl, rfl, rfl, hna, by simpa using hnb, hA.out, hBt.out, ho7'.out, by rw [hu.out, hst.out, List.append_assoc]; rfl, by omega, hs7.out⟩
        case measure => (simp [qkI] <;> omega)
      · have hBt := hBt.out
        rw [if_neg hd] at hBt
        replace hBt := gi hBt
        go_upto_region 9 with fail
        refine qac (Lk bb) [0, 0, 1, 0, 0, 0, 0] [0, 1, 3, 4, 2, 5, 6] (by kernel_rfl) (by kernel_rfl) ?_
        repeat ((first | refine gB rfl rfl fun _ k => ?_ | refine gC rfl rfl fun _ k => ?_); go_simp; (first | refine k _ ?_ | refine ⟨_, fun _ => rfl, k _ ?_⟩); clear k)
        refine gO (NoPanic.normal ?_)
        go_wp2_with fail
        refine (U1.out _ _ _).mono ?_
        rintro e w5 ⟨rfl, s5⟩
        replace s5 := (show qad wr _ from fs3).same s5
        have ho5 := qag ho.out s5
        have hs5 := hs.out.same s5
        have hz5 := s5.size
        clear s5
        replace ho5 := gi ho5; replace hs5 := gi hs5
        go_wp2_with (at_builtin; refine qai rfl (.tmp 69) (.tmp 71) 33 rfl w.heap.size 3 i3 (.int .i64 0) 1 8 Tryz.underlying33 hi3 hi3z hi3s hi3b rfl (by decide) (by decide) ar q cr (gw R) rfl (qag ho5.out fs2) (by omega) w5.heap.size [.int .i64 y] rfl rfl (gv _ _) (by simp [Value.oneCell']) (by simp; omega) ?_; intro a7 c7 w7 ho7 hG7)
        have hs7 : qad w w7 := qas (hs5.out.same fs2) hG7 (fun k hk => (ho5.out.lt k hk).1)
        have ho7' : w7.ownsRow w.heap.size 3 1 (.slice a7 (q + 1) c7) (q + 1) (gw (R ++ [y])) := by simpa [gw] using ho7
        clear ho7 hG7
        replace hs7 := gi hs7; replace ho7' := gi ho7'
        go_roundw
        case rel => exact ⟨_, _, R ++ [y], _, _, _, _, _, _, a7, q + 1, c7, rfl, rfl, rfl, hna, by simpa using hnb, hA.out, hBt.out, ho7'.out, by rw [hu.out, hst.out, List.append_assoc]; rfl, by omega, hs7.out⟩
        case measure => (simp [qkI] <;> omega)
theorem qnL.of_err {n : Int} {l : List Int} (h : qaw n l l.length 0 = 0) : qnL l ∧ ∀ x ∈ l, 0 ≤ x ∧ x < n := by
 have H := qbT l.length 0 h
 refine ⟨?_, fun x hx => ?_⟩
 · unfold qnL
   rw [List.pairwise_iff_getElem]
   intro i j hi hj hij
   have key : ∀ d, i + d + 1 < l.length → toF l i < toF l (i + d + 1) := by
    intro d
    induction d with
    | zero =>
     intro h1
     have := (H (i + 1) (by omega) (by omega)).2.2 (by omega)
     simpa using this
    | succ d ih =>
     intro h1
     have h2 := ih (by omega)
     have h3 := (H (i + (d + 1) + 1) (by omega) (by omega)).2.2 (by omega)
     rw [show i + (d + 1) + 1 - 1 = i + d + 1 by omega] at h3
     omega
   have := key (j - i - 1) (by omega)
   rw [show i + (j - i - 1) + 1 = j by omega] at this
   simpa [toF, List.getD, hi, hj] using this
 · obtain ⟨i, hi, rfl⟩ := (qhd l x).1 hx
   have := H i (by omega) (by omega)
   omega
theorem qnL.err {n : Int} {l : List Int} (h : qnL l) (hr : ∀ x ∈ l, 0 ≤ x ∧ x < n) : qaw n l l.length 0 = 0 := by
 have key : ∀ k i, i + k = l.length → qaw n l k i = 0 := by
  intro k
  induction k with
  | zero => intro i _; rfl
  | succ k ih =>
   intro i hi
   have hil : i < l.length := by omega
   have e : toF l i = l[i] := by simp [toF, List.getD, hil]
   have h1 := hr _ (List.getElem_mem hil)
   rw [qaw, if_neg (by rw [e]; omega), if_neg ?_]
   · exact ih (i + 1) (by omega)
   · rintro ⟨h0, h2⟩
     have h3 := List.pairwise_iff_getElem.1 h (i - 1) i (by omega) hil (by omega)
     have e2 : toF l (i - 1) = l[i - 1] := by simp [toF, List.getD, show i - 1 < l.length by omega]
     rw [e, e2] at h2
     omega
 exact key _ _ (by omega)
theorem qnN (A0 B0 : List Int) (aA aB : Option Addr) (qA cA qB cB : Nat) (w : World) (hqA : A0.length = qA) (hqB : B0.length = qB) (hA0 : qan w (.slice aA qA cA) qA (gw A0)) (hB0 : qan w (.slice aB qB cB) qB (gw B0)) (h9 : qA + qB ≤ 1000000) :
 Calls Tryz.prog 88 #[.slice aA qA cA, .slice aB qB cB] w fun e w' => ∃ a c, e = .returned (.slice a (qcU A0 B0).length c) ∧ w'.ownsRow w.heap.size 3 1 (.slice a (qcU A0 B0).length c) (qcU A0 B0).length (gw (qcU A0 B0)) ∧ qad w w' := by
 have M := qnM A0 B0 aA aB qA cA qB cB w hqA hqB hA0 hB0 h9
 generalize qcU A0 B0 = U at *
 replace M := gi M; replace hA0 := gi hA0; replace hB0 := gi hB0
 go_enter Tryz.func88, Tryz.ntmps88
 go_wp2_with fail
 refine M.out.mono ?_
 rintro e w1 ⟨a, c, rfl, ho, hs⟩
 go_wp2_with fail
 go_ret
 exact ⟨a, c, rfl, ho, hs⟩
def qaJ (As : List Au) : List Int := As.foldl (fun out A => qcU out A.al) []
theorem qpr (As : List Au) (A : Au) : qaJ (As ++ [A]) = qcU (qaJ As) A.al := by simp [qaJ]
theorem qkJ {As : List Au} {k : Nat} (hk : k < As.length) : qaJ (As.take (k + 1)) = qcU (qaJ (As.take k)) As[k].al := by
 rw [List.take_add_one, List.getElem?_eq_getElem hk]
 exact qpr _ _
theorem qnO {As : List Au} (h : ∀ A ∈ As, qc1 A) : ∀ k, k ≤ As.length → qnL (qaJ (As.take k)) ∧ ∀ x, x ∈ qaJ (As.take k) ↔ ∃ A ∈ As.take k, x ∈ A.al
 | 0, _ => ⟨List.Pairwise.nil, fun x => by simp [qaJ]⟩
 | k + 1, hk => by
  obtain ⟨h1, h2⟩ := qnO h k (by omega)
  have hA := (qnL.of_err (h _ (List.getElem_mem (show k < As.length by omega))).al).1
  rw [qkJ (by omega)]
  refine ⟨qfm _ _ _ (Nat.le_refl _) h1 hA, fun x => ?_⟩
  rw [qcV _ _ _ (Nat.le_refl _), h2, List.take_add_one, List.getElem?_eq_getElem (show k < As.length by omega)]
  simp only [Option.toList_some, List.mem_append, List.mem_singleton]
  constructor
  · rintro (⟨A, hA, hx⟩ | hx)
    · exact ⟨A, .inl hA, hx⟩
    · exact ⟨_, .inr rfl, hx⟩
  · rintro ⟨A, hA | rfl, hx⟩
    · exact .inl ⟨A, hA, hx⟩
    · exact .inr hx
theorem inc_len : ∀ {l : List Int} {n : Nat}, qnL l → (∀ x ∈ l, 0 ≤ x ∧ x < n) → l.length ≤ n := fun {l n} h hr => by
 have h1 := qep (l := l.map Int.toNat) (k := List.range n) (by
  rw [List.nodup_iff_pairwise_ne, List.pairwise_map]
  exact List.Pairwise.imp_of_mem (fun {a b} ha hb hab e => by have := hr a ha; have := hr b hb; omega) h) (fun x hx => by
  obtain ⟨y, hy, rfl⟩ := List.mem_map.1 hx
  have := hr y hy
  rw [List.mem_range]; omega)
 simpa using h1
theorem qes {As : List Au} (h : ∀ A ∈ As, qc1 A) (k : Nat) (hk : k ≤ As.length) : (∀ x ∈ qaJ (As.take k), 0 ≤ x ∧ x < 32) ∧ (qaJ (As.take k)).length ≤ 32 := by
 obtain ⟨h1, h2⟩ := qnO h k hk
 have h3 : ∀ x ∈ qaJ (As.take k), 0 ≤ x ∧ x < 32 := fun x hx => by
  obtain ⟨A, hA, hx⟩ := (h2 x).1 hx
  exact qht (h A (List.mem_of_mem_take hA)) hx
 exact ⟨h3, inc_len (n := 32) h1 h3⟩
theorem qf5 (As : List Au) (hl : As.length ≤ 1000) (h : ∀ A ∈ As, qc1 A) (hz : ∀ A ∈ As, A.small) (aA : Option Addr) (cA : Nat) (w : World) (hat : qdm w aA cA As) :
 Calls Tryz.prog 52 #[.slice aA As.length cA] w fun e w' => ∃ a c, e = .returned (.slice a (qaJ As).length c) ∧ qaa w' 3 1 (.slice a (qaJ As).length c) (qaJ As).length (gw (qaJ As)) ∧ qad w w' := by
 have hrow := fun (k : Nat) (hk : k < As.length) W (hW : qad w W) => (hat.same hW).row hk
 have hr := fun (k : Nat) (hk : k ≤ As.length) => (qes h k hk).2
 have UN : ∀ (k : Nat) (hk : k < As.length) a c W, qad w W → qan W (.slice a (qaJ (As.take k)).length c) (qaJ (As.take k)).length (gw (qaJ (As.take k))) → Calls Tryz.prog 88 #[.slice a (qaJ (As.take k)).length c, .slice As[k].aA As[k].al.length As[k].cA] W fun e w' => ∃ a' c', e = .returned (.slice a' (qaJ (As.take (k + 1))).length c') ∧ qaa w' 3 1 (.slice a' (qaJ (As.take (k + 1))).length c') (qaJ (As.take (k + 1))).length (gw (qaJ (As.take (k + 1)))) ∧ qad W w' := fun k hk a c W hW hR => by
  have hal := (hat.same hW).each _ (List.getElem_mem hk)
  have := qnN (qaJ (As.take k)) As[k].al a As[k].aA _ c _ As[k].cA W rfl rfl hR hal.al (by have := hr k (by omega); have := (hz _ (List.getElem_mem hk)).al; omega)
  rw [← qkJ hk] at this
  exact this.mono fun e w' ⟨a', c', h1, h2, h3⟩ => ⟨a', c', h1, qaa.of_owns h2, h3⟩
 obtain ⟨U, hU⟩ : ∃ U : Nat → List Int, U = fun k => qaJ (As.take k) := ⟨_, rfl⟩
 have hUe : qaJ As = U As.length := by rw [hU]; show _ = qaJ (As.take As.length); rw [List.take_length]
 have hU0 : U 0 = [] := by rw [hU]; rfl
 have UN' : ∀ (k : Nat) (hk : k < As.length) a c W, qad w W → qan W (.slice a (U k).length c) (U k).length (gw (U k)) → Calls Tryz.prog 88 #[.slice a (U k).length c, .slice As[k].aA As[k].al.length As[k].cA] W fun e w' => ∃ a' c', e = .returned (.slice a' (U (k + 1)).length c') ∧ qaa w' 3 1 (.slice a' (U (k + 1)).length c') (U (k + 1)).length (gw (U (k + 1))) ∧ qad W w' := by rw [hU]; exact UN
 rw [hUe]
 clear UN hr hat h hz hU hUe
 replace hrow := gi hrow; replace UN' := gi UN'; replace hU0 := gi hU0
 go_enter Tryz.func52, Tryz.ntmps52
 go_wp2_with fail
 go_loopw [3, 8] (fun v i wr => ∃ (k : Nat) (a : Option Addr) (c : Nat), i = .int .i64 k ∧ k ≤ As.length ∧ v = .slice a (U k).length c ∧ qaa wr 3 1 (.slice a (U k).length c) (U k).length (gw (U k)) ∧ qad w wr) (fun _ i _ => As.length - (intOf i).toNat)
 case atStart => exact ⟨0, none, 0, rfl, Nat.zero_le _, by rw [hU0.out]; rfl, by rw [hU0.out]; exact qaa.nil _ _ _, Fr.refl _ _⟩
 case round =>
  obtain ⟨k, a, c, rfl, hk, rfl, hR, hs⟩ := hrel
  by_cases hlt : k < As.length
  · obtain ⟨b, off, ha, hb, x0, x1, x2, x3⟩ := hrow.out k hlt _ hs
    have UNk := UN'.out k hlt a c
    generalize As[k].aA = fA at *
    generalize As[k].al.length = qA at *
    generalize As[k].cA = gA at *
    generalize As[k].n = nA at *
    generalize As[k].aM = fM at *
    generalize As[k].ma.length = qM at *
    generalize As[k].cM = gM at *
    generalize As[k].aE = fE at *
    generalize As[k].es.length = qE at *
    generalize As[k].cE = gE at *
    subst ha
    replace hR := gi hR; replace hs := gi hs; replace UNk := gi UNk
    go_wp2_with fail
    refine (UNk.out _ (hs.out.same fs2) (hR.out.row.same fs2)).mono ?_
    rintro e w3 ⟨a3, c3, rfl, hR3, s3⟩
    have hs3 := (show qad w _ from hs.out.same fs2).same s3
    clear s3 x0 x1 x2 x3 hb
    replace hR3 := gi hR3; replace hs3 := gi hs3
    go_wp2_with fail
    go_roundw
    case rel => exact ⟨k + 1, a3, c3, by go_num, by omega, rfl, hR3.out, hs3.out⟩
    case measure => simp [intOf]; omega
  · obtain rfl : k = As.length := by omega
    replace hR := gi hR; replace hs := gi hs
    go_wp2_with fail
    go_ret
    exact ⟨a, c, rfl, hR.out, hs.out⟩
theorem qlG (As : List Au) (hl : As.length ≤ 1000) (h : ∀ A ∈ As, qc1 A) (hz : ∀ A ∈ As, A.small) (aA : Option Addr) (cA : Nat) (w : World) (hat : qdm w aA cA As) :
 Calls Tryz.prog 52 #[.slice aA As.length cA] w fun e w' => ∃ a c, e = .returned (.slice a (qaJ As).length c) ∧ qan w' (.slice a (qaJ As).length c) (qaJ As).length (gw (qaJ As)) ∧ qad w w' :=
 (qf5 As hl h hz aA cA w hat).mono fun e w' ⟨a, c, h1, h2, h3⟩ => ⟨a, c, h1, h2.row, h3⟩
theorem qiv (N : Nw) (OK : qby N) (w : World) (hat : N.at w) :
 Calls Tryz.prog 59 #[.slice N.aA N.As.length N.cA] w fun e w' => ∃ a c, e = .returned (.tuple #[.slice a (qaJ N.As).length c, .int .i64 0]) ∧ qan w' (.slice a (qaJ N.As).length c) (qaJ N.As).length (gw (qaJ N.As)) ∧ qad w w' := by
 have h12 := OK.ok.m12
 have PC := fun W (hW : qad w W) => qdU N.As N.aA N.cA W (hat.au.same hW) OK.sm (by omega)
 have h0 : qbx N.As = 0 := by
  by_cases hp : qbx N.As = 0
  · exact hp
  · have := OK.err
    unfold Nw.err at this
    rw [if_pos hp] at this
    exact absurd this hp
 rw [h0] at PC
 have EV := fun W (hW : qad w W) => qlG N.As (by omega) OK.ok.au OK.sm N.aA N.cA W (hat.au.same hW)
 generalize qaJ N.As = U at *
 clear hat OK h0
 generalize N.As.length = m at *
 generalize N.aA = aA at *
 generalize N.cA = cA at *
 replace PC := gi PC; replace EV := gi EV
 go_enter Tryz.func59, Tryz.ntmps59
 go_wp2_with fail
 refine (PC.out _ fs2).mono ?_
 rintro e w1 ⟨rfl, s1⟩
 have s1 := (show qad w _ from fs2).same s1
 replace s1 := gi s1
 go_wp2_with fail
 refine (EV.out _ s1.out).mono ?_
 rintro e w2 ⟨a2, c2, rfl, hR, s2⟩
 have s2 := s1.out.same s2
 replace s2 := gi s2; replace hR := gi hR
 go_wp2_with fail
 go_ret2
 exact ⟨a2, c2, rfl, hR.out, s2.out⟩
theorem qiw {al : List Int} {n : Int} {es : List Nd} : ∀ (m i : Nat), qct al n es m i = 0 → ∀ j, i ≤ j → j < i + m → 0 < j → ¬ qdT (es.getD (j - 1) (0, 0, 0)) (es.getD j (0, 0, 0))
 | 0, i, _, j, h1, h2, _ => by omega
 | m + 1, i, h, j, h1, h2, h3 => by
  rw [qct] at h
  by_cases hb : qdF al n (es.getD i (0, 0, 0)) = 0
  · rw [if_neg (by simpa using hb)] at h
    by_cases ho : 0 < i ∧ qdT (es.getD (i - 1) (0, 0, 0)) (es.getD i (0, 0, 0))
    · rw [if_pos ho] at h; omega
    · rw [if_neg ho] at h
      by_cases e : j = i
      · subst e; exact fun hc => ho ⟨h3, hc⟩
      · exact qiw m (i + 1) h j (by omega) (by omega) h3
  · rw [if_pos (by simpa using hb)] at h
    exact absurd h hb
theorem qc1.sorted {A : Au} (h : qc1 A) : ∀ (d i : Nat) (hd : i + d + 1 < A.es.length), A.es[i].1 < A.es[i + d + 1].1 ∨ A.es[i].1 = A.es[i + d + 1].1 ∧ A.es[i].2.1 < A.es[i + d + 1].2.1
 | 0, i, hd => by
  have := qiw _ _ h.es (i + 1) (by omega) (by omega) (by omega)
  rw [Nat.add_sub_cancel, qcC (show i < A.es.length by omega), qcC (show i + 1 < A.es.length from hd)] at this
  unfold qdT at this
  show A.es[i].1 < A.es[i + 1].1 ∨ A.es[i].1 = A.es[i + 1].1 ∧ A.es[i].2.1 < A.es[i + 1].2.1
  omega
 | d + 1, i, hd => by
  have h1 := qc1.sorted h d i (by omega)
  have h2 := qc1.sorted h 0 (i + d + 1) (by omega)
  have e : A.es[i + (d + 1) + 1] = A.es[i + d + 1 + 0 + 1] := by congr 1
  rw [e]
  omega
theorem qc1.det {A : Au} (h : qc1 A) {x y : Nd} (hx : x ∈ A.es) (hy : y ∈ A.es) (h1 : x.1 = y.1) (h2 : x.2.1 = y.2.1) : x = y := by
 obtain ⟨i, hi, rfl⟩ := List.mem_iff_getElem.1 hx
 obtain ⟨j, hj, rfl⟩ := List.mem_iff_getElem.1 hy
 rcases Nat.lt_trichotomy i j with hl | rfl | hl
 · have := h.sorted (j - i - 1) i (by omega)
   simp only [show i + (j - i - 1) + 1 = j by omega] at this
   omega
 · rfl
 · have := h.sorted (i - j - 1) j (by omega)
   simp only [show j + (i - j - 1) + 1 = i by omega] at this
   omega
theorem qnP {A : Au} (h : qc1 A) {e : Int} {x y y' : Nat} (h1 : (x, y) ∈ auP A e) (h2 : (x, y') ∈ auP A e) : y = y' := by
 unfold auP at h1 h2
 by_cases he : e ∈ A.al
 · rw [if_pos he] at h1 h2
   obtain ⟨a, ha, e1⟩ := List.mem_map.1 h1
   obtain ⟨b, hb, e2⟩ := List.mem_map.1 h2
   obtain ⟨ha1, ha2⟩ := List.mem_filter.1 ha
   obtain ⟨hb1, hb2⟩ := List.mem_filter.1 hb
   simp only [List.mem_singleton, decide_eq_true_eq] at ha2 hb2
   simp only [Prod.mk.injEq] at e1 e2
   have k1 := h.edge ha1
   have k2 := h.edge hb1
   have := h.det ha1 hb1 (by omega) (by omega)
   subst this
   omega
 · rw [if_neg he] at h1 h2
   obtain ⟨a, _, e1⟩ := List.mem_map.1 h1
   obtain ⟨b, _, e2⟩ := List.mem_map.1 h2
   simp only [Prod.mk.injEq] at e1 e2
   omega
theorem qcc {As : List Au} {e : Int} {k : Nat} {x y : List Nat} (h : qdG As e k x y = true) {i : Nat} (hi : i < k) (hm : i < As.length) : (x.getD i 0, y.getD i 0) ∈ auP As[i] e := by
 unfold qdG at h
 have := List.all_eq_true.1 h i (List.mem_range.2 hi)
 rw [List.getElem?_eq_getElem hm] at this
 exact of_decide_eq_true this
theorem qcL {As : List Au} {e : Int} {x y : List Nat} (h : qcu As e x y = true) : qdG As e As.length x y = true ∧ (As.any fun A => A.n.toNat == 0) = false ∧ (∃ A ∈ As, e ∈ A.al) := by
 unfold qcu at h
 simp only [Bool.and_eq_true, Bool.not_eq_true', List.any_eq_true, decide_eq_true_eq] at h
 exact ⟨h.2, h.1.1, h.1.2⟩
theorem qnQ {α : Type} [BEq α] [LawfulBEq α] (p : Nat → Bool) (f : Nat → α) (M : Nat) (L : List α) (hL : ∀ i, i < M → p i = true → f i ∈ L) (hinj : ∀ i j, i < M → j < M → p i = true → p j = true → f i = f j → i = j) : ((List.range M).map p).count true ≤ L.length := by
 have e : ((List.range M).map p).count true = (((List.range M).filter p).map f).length := by
  rw [List.length_map, List.count_eq_countP, List.countP_map, List.countP_eq_length_filter]
  congr 1
  refine List.filter_congr (fun x _ => ?_)
  simp only [Function.comp]
  cases p x <;> rfl
 rw [e]
 refine qep ?_ (fun x hx => ?_)
 · rw [List.nodup_iff_pairwise_ne, List.pairwise_map]
   refine List.Pairwise.imp_of_mem (fun {a b} ha hb hab hf => ?_) ((List.nodup_iff_pairwise_ne.1 List.nodup_range).filter _)
   obtain ⟨a1, a2⟩ := List.mem_filter.1 ha
   obtain ⟨b1, b2⟩ := List.mem_filter.1 hb
   exact hab (hinj a b (List.mem_range.1 a1) (List.mem_range.1 b1) a2 b2 hf)
 · obtain ⟨i, hi, rfl⟩ := List.mem_map.1 hx
   obtain ⟨a1, a2⟩ := List.mem_filter.1 hi
   exact hL i (List.mem_range.1 a1) a2
theorem qhu : ∀ (ns : List Nat) (c : Nat), (∀ n ∈ ns, n ≤ c) → (qaA ns).length ≤ c ^ ns.length := by
 have key : ∀ (k : Nat) (ns : List Nat) (c : Nat), ns.length = k → (∀ n ∈ ns, n ≤ c) → (qaA ns).length ≤ c ^ k := by
  intro k
  induction k with
  | zero =>
   intro ns c h _
   obtain rfl := List.length_eq_zero_iff.1 h
   simp [qaA]
  | succ k ih =>
   intro ns c h hc
   obtain ⟨ms, n, rfl⟩ : ∃ ms n, ns = ms ++ [n] := by
    rcases List.eq_nil_or_concat ns with rfl | ⟨ms, n, e⟩
    · simp at h
    · exact ⟨ms, n, by rw [e, List.concat_eq_append]⟩
   have h1 := ih ms c (by simpa using h) (fun x hx => hc x (List.mem_append_left _ hx))
   have h2 := hc n (List.mem_append_right _ List.mem_cons_self)
   rw [qfX, List.length_flatMap]
   have e : ((qaA ms).map fun t => ((List.range n).map fun s => t ++ [s]).length) = (qaA ms).map fun _ => n := List.map_congr_left (fun t _ => by simp)
   rw [e]
   have e2 : ((qaA ms).map fun _ => n).sum = (qaA ms).length * n := by
    rw [List.map_const', List.sum_replicate_nat]
   rw [e2, Nat.pow_succ]
   exact Nat.mul_le_mul h1 h2
 exact fun ns c hc => key ns.length ns c rfl hc
theorem qfn {N : Nw} (h : qbs N) {ρ σ : Nat → Bool} (he : qb1 N.bs N.at' N.As.length ρ = qb1 N.bs N.at' N.As.length σ) : ∀ v, v < N.all → ρ v = σ v := by
 have h1 := qfW (bs := N.bs) h.pm ρ
 have h2 := qfW (bs := N.bs) h.pm σ
 have e : (qb1 N.bs (atB N.bs N.on) N.As.length ρ) = qb1 N.bs (atB N.bs N.on) N.As.length σ := he
 rw [e, h2] at h1
 intro v hv
 have h3 := congrArg (fun l : List Bool => l.getD v false) h1
 simp only [qck] at h3
 rw [show qcd N.bs N.on = N.all from rfl] at h3
 simpa [List.getD, hv] using h3.symm
theorem qkK {n i j : Nat} (hi : i < 2 ^ n) (hj : j < 2 ^ n) (h : ∀ v, v < n → qaY n i v = qaY n j v) : i = j := by
 rw [← qb9 hi, ← qb9 hj]
 exact qaZ n h
theorem qkL {N : Nw} (h : qbs N) (e : Int) : (N.rel (qcu N.As e)).count true ≤ (qaA N.ns).length := by
 refine qnQ _ (fun k => qb1 N.bs N.at' N.As.length fun v => qaY (2 * N.all) k (2 * v)) (2 ^ (2 * N.all)) (qaA N.ns) (fun k _ hp => ?_) (fun i j hi hj hpi hpj hf => ?_)
 · obtain ⟨h1, h2, _⟩ := qcL hp
   refine qbH.2 ⟨by rw [qcB, N.ns_len], qcr.2 (fun i hi => ?_)⟩
   rw [N.ns_len] at hi
   have := qkH (h.au _ (List.getElem_mem hi)) e _ (qcc h1 hi hi)
   rw [N.ns_get hi]
   exact this.1
 · obtain ⟨a1, _, _⟩ := qcL hpi
   obtain ⟨b1, _, _⟩ := qcL hpj
   have hy : (qb1 N.bs N.at' N.As.length fun v => qaY (2 * N.all) i (2 * v + 1)) = qb1 N.bs N.at' N.As.length fun v => qaY (2 * N.all) j (2 * v + 1) := by
    refine qbQ (qcB _ _ _ _) (qcB _ _ _ _) (fun q hq => ?_)
    have c1 := qcc a1 hq hq
    have c2 := qcc b1 hq hq
    rw [hf] at c1
    exact qnP (h.au _ (List.getElem_mem hq)) c1 c2
   have e1 := qfn h hf
   have e2 := qfn h hy
   refine qkK hi hj (fun v hv => ?_)
   rcases (show v % 2 = 0 ∨ v % 2 = 1 by omega) with hp | hp
   · have := e1 (v / 2) (by omega)
     rwa [show 2 * (v / 2) = v by omega] at this
   · have := e2 (v / 2) (by omega)
     rwa [show 2 * (v / 2) + 1 = v by omega] at this
theorem qqq : ∀ (p q : Nat → Bool) (l : List Nat), (l.map fun i => p i || q i).count true ≤ (l.map p).count true + (l.map q).count true
 | p, q, [] => by simp
 | p, q, x :: l => by
  have := qqq p q l
  simp only [List.map_cons, List.count_cons]
  cases p x <;> cases q x <;> simp <;> omega
theorem qix {N : Nw} (h : qbs N) : ∀ E : List Int, (N.rel (qau N.As E)).count true ≤ E.length * (qaA N.ns).length
 | [] => by
  have : N.rel (qau N.As []) = fls (2 * N.all) := by rw [qhl]; rfl
  rw [this]
  unfold fls
  rw [List.count_replicate]
  simp
 | e :: E => by
  have ih := qix h E
  have h1 := qkL h e
  have h2 := qqq (fun k => qcu N.As e (qb1 N.bs N.at' N.As.length fun v => qaY (2 * N.all) k (2 * v)) (qb1 N.bs N.at' N.As.length fun v => qaY (2 * N.all) k (2 * v + 1)))
   (fun k => qau N.As E (qb1 N.bs N.at' N.As.length fun v => qaY (2 * N.all) k (2 * v)) (qb1 N.bs N.at' N.As.length fun v => qaY (2 * N.all) k (2 * v + 1))) (List.range (2 ^ (2 * N.all)))
  have e1 : N.rel (qau N.As (e :: E)) = ((List.range (2 ^ (2 * N.all))).map fun k => qcu N.As e (qb1 N.bs N.at' N.As.length fun v => qaY (2 * N.all) k (2 * v)) (qb1 N.bs N.at' N.As.length fun v => qaY (2 * N.all) k (2 * v + 1)) || qau N.As E (qb1 N.bs N.at' N.As.length fun v => qaY (2 * N.all) k (2 * v)) (qb1 N.bs N.at' N.As.length fun v => qaY (2 * N.all) k (2 * v + 1))) := rfl
  rw [e1, List.length_cons, Nat.add_mul, Nat.one_mul]
  have h3 : (N.rel (qcu N.As e)).count true = ((List.range (2 ^ (2 * N.all))).map fun k => qcu N.As e (qb1 N.bs N.at' N.As.length fun v => qaY (2 * N.all) k (2 * v)) (qb1 N.bs N.at' N.As.length fun v => qaY (2 * N.all) k (2 * v + 1))).count true := rfl
  have h4 : (N.rel (qau N.As E)).count true = ((List.range (2 ^ (2 * N.all))).map fun k => qau N.As E (qb1 N.bs N.at' N.As.length fun v => qaY (2 * N.all) k (2 * v)) (qb1 N.bs N.at' N.As.length fun v => qaY (2 * N.all) k (2 * v + 1))).count true := rfl
  omega
theorem kV_or (V W : Nat → Bool) : ∀ d v, kV (fun u => V u || W u) d v ≤ kV V d v + kV W d v
 | 0, _ => Nat.zero_le _
 | d + 1, v => by
  have := kV_or V W d (v + 1)
  rw [kV, kV, kV]
  cases V v <;> cases W v <;> simp <;> omega
theorem qqr (a b : Nat) : ∀ d v, kV (fun u => decide (a ≤ u ∧ u < b)) d v ≤ b - (max a v)
 | 0, _ => Nat.zero_le _
 | d + 1, v => by
  have := qqr a b d (v + 1)
  rw [kV]
  by_cases h : a ≤ v ∧ v < b
  · rw [if_pos (decide_eq_true h)]
    omega
  · rw [if_neg (by simpa using h)]
    omega
theorem qjO {V W : Nat → Bool} (h : ∀ u, V u = true → W u = true) : ∀ d v, kV V d v ≤ kV W d v
 | 0, _ => Nat.le_refl _
 | d + 1, v => by
  have := qjO h d (v + 1)
  rw [kV, kV]
  by_cases hv : V v = true
  · rw [if_pos hv, if_pos (h v hv)]; omega
  · rw [if_neg hv]; omega
def Nw.vs (N : Nw) (k u : Nat) : Bool := (List.range k).any fun i => decide (2 * N.at' i ≤ u ∧ u < 2 * N.at' i + 2 * N.bs i)
theorem vs_le (N : Nw) (hb : ∀ i, N.bs i ≤ 3) : ∀ k d v, kV (N.vs k) d v ≤ 6 * k
 | 0, d, v => by
  have : kV (N.vs 0) d v ≤ kV (fun _ => false) d v := qjO (fun u h => by simp [Nw.vs] at h) d v
  have h2 : ∀ d v, kV (fun _ => false) d v = 0 := by
   intro d
   induction d with
   | zero => intro v; rfl
   | succ d ih => intro v; rw [kV, ih]; rfl
  have := h2 d v
  omega
 | k + 1, d, v => by
  have h1 := vs_le N hb k d v
  have h2 : kV (N.vs (k + 1)) d v ≤ kV (fun u => N.vs k u || decide (2 * N.at' k ≤ u ∧ u < 2 * N.at' k + 2 * N.bs k)) d v := qjO (fun u h => by
   unfold Nw.vs at h ⊢
   rw [List.range_succ, List.any_append] at h
   simpa using h) d v
  have h3 := kV_or (N.vs k) (fun u => decide (2 * N.at' k ≤ u ∧ u < 2 * N.at' k + 2 * N.bs k)) d v
  have h4 := qqr (2 * N.at' k) (2 * N.at' k + 2 * N.bs k) d v
  have := hb k
  omega
theorem qnR {N : Nw} (h : qbs N) (e : Int) {k : Nat} (hk : k ≤ N.As.length) : qoy (N.vs k) (2 * N.all) 0 (N.rel (qdG N.As e k)) := by
 refine indV_ev _ (qdz _ _ _ _ _) (fun ρ u b hu hV => ?_)
 unfold Nw.rel
 rw [qhk (fun j hj => h.le hj), qhk (fun j hj => h.le hj)]
 unfold qdG
 rw [Bool.eq_iff_iff, List.all_eq_true, List.all_eq_true]
 have key : ∀ i, i < k → (qb1 N.bs N.at' N.As.length fun v => qbI ρ u b (2 * v)).getD i 0 = (qb1 N.bs N.at' N.As.length fun v => ρ (2 * v)).getD i 0 ∧
  (qb1 N.bs N.at' N.As.length fun v => qbI ρ u b (2 * v + 1)).getD i 0 = (qb1 N.bs N.at' N.As.length fun v => ρ (2 * v + 1)).getD i 0 := by
  intro i hi
  have hn : ¬ (2 * N.at' i ≤ u ∧ u < 2 * N.at' i + 2 * N.bs i) := fun hc => by
   have : N.vs k u = true := by
    unfold Nw.vs
    exact List.any_eq_true.2 ⟨i, List.mem_range.2 hi, decide_eq_true hc⟩
   rw [this] at hV
   exact Bool.noConfusion hV
  rw [qch _ _ _ (by omega), qch _ _ _ (by omega), qch _ _ _ (by omega), qch _ _ _ (by omega)]
  have e0 := fun σ : Nat → Bool => (qb2 σ (N.at' i) (N.bs i) 0).symm
  simp only [Nat.add_zero] at e0
  rw [e0, e0, e0 (fun v => qbI ρ u b (2 * v + 1)), e0 (fun v => ρ (2 * v + 1))]
  exact ⟨qaZ _ (fun v hv => qik _ _ (by omega)), qaZ _ (fun v hv => qik _ _ (by omega))⟩
 constructor
 · intro hh i hi
   have := hh i hi
   obtain ⟨k1, k2⟩ := key i (List.mem_range.1 hi)
   revert this
   cases N.As[i]? with
   | none => exact fun _ => rfl
   | some A => simp only [k1, k2]; exact id
 · intro hh i hi
   have := hh i hi
   obtain ⟨k1, k2⟩ := key i (List.mem_range.1 hi)
   revert this
   cases N.As[i]? with
   | none => exact fun _ => rfl
   | some A => simp only [k1, k2]; exact id
structure ql6 (N : Nw) : Prop where
 ok : qbs N
 m3 : N.As.length ≤ 3
 n5 : ∀ A ∈ N.As, A.n ≤ 5
 al : ∀ A ∈ N.As, ∀ e ∈ A.al, e < 5
theorem ql6.ns {N : Nw} (h : ql6 N) (i : Nat) : N.ns.getD i 0 ≤ 5 := by
 by_cases hi : i < N.As.length
 · rw [N.ns_get hi]
   have := h.n5 _ (List.getElem_mem hi)
   omega
 · simp [List.getD, Nw.ns, show N.As.length ≤ i by omega]
theorem ql6.bs {N : Nw} (h : ql6 N) (i : Nat) : N.bs i ≤ 3 := (qcz (n := N.ns.getD i 0) (by have := h.ns i; omega)).bd (by have := h.ns i; omega)
theorem ql6.all {N : Nw} (h : ql6 N) : N.all ≤ 9 := by
 have key : ∀ l : List Nat, qcd N.bs l ≤ l.length * 3 := by
  intro l
  induction l with
  | nil => exact Nat.zero_le _
  | cons j l ih => have := h.bs j; rw [qcd, List.length_cons]; omega
 have h1 := key N.on
 have h2 := h.ok.len
 have h3 := h.m3
 unfold Nw.all
 omega
theorem ql6.tups {N : Nw} (h : ql6 N) : (qaA N.ns).length ≤ 125 := by
 have h1 := qhu N.ns 5 (fun n hn => by
  obtain ⟨i, hi, rfl⟩ := List.mem_iff_getElem.1 hn
  have := h.ns i
  simpa [List.getD, hi] using this)
 have h2 : 5 ^ N.ns.length ≤ 5 ^ 3 := Nat.pow_le_pow_right (by omega) (by rw [N.ns_len]; exact h.m3)
 omega
theorem qgr.of_cnt {n c : Nat} {t : List Bool} (hn : n ≤ 18) (hc : t.count true ≤ 625) : qgr n t := by
 by_cases h : n ≤ 14
 · exact qgr.of14 h t
 · refine ⟨9, by omega, ?_⟩
   have h1 : (n - 9) * t.count true ≤ 9 * 625 := Nat.mul_le_mul (by omega) hc
   have h2 : (2 : Nat) ^ 9 = 512 := by decide
   omega
theorem qjP {As : List Au} (hal : ∀ A ∈ As, ∀ e ∈ A.al, 0 ≤ e ∧ e < 5) (E : List Int) (x y : List Nat) (h : qau As E x y = true) : qau As [0, 1, 2, 3, 4] x y = true := by
 unfold qau at h ⊢
 obtain ⟨e, _, he2⟩ := List.any_eq_true.1 h
 obtain ⟨_, _, A, hA, hm⟩ := qcL he2
 have := hal A hA e hm
 refine List.any_eq_true.2 ⟨e, ?_, he2⟩
 simp only [List.mem_cons, List.not_mem_nil, or_false]
 omega
theorem ql6.fits {N : Nw} (h : ql6 N) : Fits N := by
 have hall := h.all
 have ht := h.tups
 refine ⟨fun e k hk => ?_, fun E => ?_⟩
 · by_cases h2 : k ≤ 2
   · refine qij (N.vs k) (by omega) (qdz _ _ _ _ _) (qnR h.ok e hk) ?_
     have := vs_le N h.bs k (2 * N.all) 0
     omega
   · have hk3 : k = N.As.length := by have := h.m3; omega
     subst hk3
     by_cases he : (∃ A ∈ N.As, e ∈ A.al) ∧ (N.As.any fun A => A.n.toNat == 0) = false
     · have e1 : N.rel (qdG N.As e N.As.length) = N.rel (qcu N.As e) := by
         show tbF _ _ = tbF _ _
         congr 1
         funext q
         refine (qiu he.2 ?_ _ _).symm
         obtain ⟨A, hA, hm⟩ := he.1
         exact List.any_eq_true.2 ⟨A, hA, decide_eq_true hm⟩
       rw [e1]
       have := qkL h.ok e
       exact (qgr.of_cnt (c := 0) (by omega) (by omega)).short (by omega) (qdz _ _ _ _ _)
     · refine (qgr.of_cnt (c := 0) (by omega) ?_).short (by omega) (qdz _ _ _ _ _)
       refine Nat.le_trans (qnQ _ (fun k => qb1 N.bs N.at' N.As.length fun v => qaY (2 * N.all) k (2 * v)) (2 ^ (2 * N.all)) (qaA N.ns) (fun k _ hp => ?_) (fun i j hi hj hpi hpj hf => ?_)) (by omega)
       · refine qbH.2 ⟨by rw [qcB, N.ns_len], qcr.2 (fun i hi => ?_)⟩
         rw [N.ns_len] at hi
         have := qkH (h.ok.au _ (List.getElem_mem hi)) e _ (qcc hp hi hi)
         rw [N.ns_get hi]
         exact this.1
       · have hy : (qb1 N.bs N.at' N.As.length fun v => qaY (2 * N.all) i (2 * v + 1)) = qb1 N.bs N.at' N.As.length fun v => qaY (2 * N.all) j (2 * v + 1) := by
           refine qbQ (qcB _ _ _ _) (qcB _ _ _ _) (fun q hq => ?_)
           have c1 := qcc hpi hq hq
           have c2 := qcc hpj hq hq
           rw [hf] at c1
           exact qnP (h.ok.au _ (List.getElem_mem hq)) c1 c2
         have e1 := qfn h.ok hf
         have e2 := qfn h.ok hy
         refine qkK hi hj (fun v hv => ?_)
         rcases (show v % 2 = 0 ∨ v % 2 = 1 by omega) with hp | hp
         · have := e1 (v / 2) (by omega)
           rwa [show 2 * (v / 2) = v by omega] at this
         · have := e2 (v / 2) (by omega)
           rwa [show 2 * (v / 2) + 1 = v by omega] at this
 · have hal : ∀ A ∈ N.As, ∀ e ∈ A.al, 0 ≤ e ∧ e < 5 := fun A hA e he => ⟨(qht (h.ok.au A hA) he).1, h.al A hA e he⟩
   refine qgr.rel (G := qau N.As [0, 1, 2, 3, 4]) ?_ (fun x y => qjP hal E x y)
   refine qgr.of_cnt (c := 0) (by omega) ?_
   have := qix h.ok [0, 1, 2, 3, 4]
   simp only [List.length_cons, List.length_nil] at this
   have h5 : (0 + 1 + 1 + 1 + 1 + 1) * (qaA N.ns).length ≤ 5 * 125 := Nat.mul_le_mul (by omega) ht
   exact Nat.le_trans this h5
def mkB (As : List Au) (x : List Nat) : Bool := (List.range As.length).all fun i => match As[i]? with | some A => decide (((x.getD i 0 : Nat) : Int) ∈ A.ma) | none => true
theorem mkB_yes {As : List Au} {x : List Nat} (h : ∀ i (hi : i < As.length), ((x.getD i 0 : Nat) : Int) ∈ As[i].ma) : mkB As x = true := by
 unfold mkB
 refine List.all_eq_true.2 (fun i hi => ?_)
 have hi := List.mem_range.1 hi
 simp only [List.getElem?_eq_getElem hi]
 exact decide_eq_true (h i hi)
theorem mkB_no {As : List Au} {x : List Nat} {i : Nat} (hi : i < As.length) (h : ¬ ((x.getD i 0 : Nat) : Int) ∈ As[i].ma) : mkB As x = false := by
 rw [Bool.eq_false_iff]
 intro hh
 unfold mkB at hh
 have := List.all_eq_true.1 hh i (List.mem_range.2 hi)
 simp only [List.getElem?_eq_getElem hi] at this
 exact h (of_decide_eq_true this)
theorem ql0 (As : List Au) (hl : As.length ≤ 1000) (hok : ∀ A ∈ As, qc1 A) (hz : ∀ A ∈ As, A.small) (aA : Option Addr) (cA : Nat) (x : List Nat) (hxl : x.length = As.length) (aX : Option Addr) (cX : Nat) (V V' : Value) (w : World) (hat : qdm w aA cA As)
 (hX : qan w (.slice aX As.length cX) As.length (gw (qaz x))) :
 Calls Tryz.prog 28 #[.agg #[.slice aA As.length cA, V, V'], .slice aX As.length cX] w fun e w' => e = .returned (.bool (mkB As x)) ∧ qad w w' := by
 obtain ⟨m, hmm⟩ : ∃ m, m = As.length := ⟨_, rfl⟩
 have hlt : ∀ k, k < m → k < As.length := fun k h => hmm ▸ h
 have hrow := fun (k : Nat) (hk : k < m) W (hW : qad w W) => (hat.same hW).row (hlt k hk)
 have CT := fun (k : Nat) (hk : k < m) (v : Int) W (hW : qad w W) => qcy (As[k]'(hlt k hk)).ma v (As[k]'(hlt k hk)).aM (As[k]'(hlt k hk)).cM W (hz _ (List.getElem_mem (hlt k hk))).ma ((hat.each _ (List.getElem_mem (hlt k hk))).same hW).ma (qbU (hok _ (List.getElem_mem (hlt k hk))).ma)
 have hxr := fun (k : Nat) (hk : k < m) W (hW : qad w W) => (hX.same hW).nat (show k < As.length from hlt k hk)
 have hno := fun (k : Nat) (hk : k < m) (h : ¬ ((x.getD k 0 : Nat) : Int) ∈ (As[k]'(hlt k hk)).ma) => mkB_no (hlt k hk) h
 have hyes : (∀ i (hi : i < m), ((x.getD i 0 : Nat) : Int) ∈ (As[i]'(hlt i hi)).ma) → mkB As x = true := fun h => mkB_yes (fun i hi => h i (hmm ▸ hi))
 obtain ⟨R, hR⟩ : ∃ R, R = mkB As x := ⟨_, rfl⟩
 rw [← hR] at hno hyes ⊢
 simp only [← hmm] at hl ⊢
 clear hX hat hz hxl hR hmm hok
 replace hlt := gi hlt; replace hrow := gi hrow; replace CT := gi CT; replace hxr := gi hxr; replace hno := gi hno; replace hyes := gi hyes
 go_enter Tryz.func28, Tryz.ntmps28
 go_wp2_with fail
 go_loopw [10] (fun i wr => ∃ k : Nat, i = .int .i64 k ∧ k ≤ m ∧ (∀ i (hi : i < m), i < k → ((x.getD i 0 : Nat) : Int) ∈ (As[i]'(hlt.out i hi)).ma) ∧ qad w wr) (fun i _ => m - (intOf i).toNat)
 case atStart => exact ⟨0, rfl, by omega, fun i _ hi => absurd hi (by omega), fs2⟩
 case round =>
  obtain ⟨k, rfl, hk, hm, hs⟩ := hrel
  by_cases hkm : k < m
  · obtain ⟨b, off, rfl, hb, x0, x1, x2, x3⟩ := hrow.out k hkm _ hs
    have CTk := CT.out k hkm (x.getD k 0 : Nat)
    have hnk := hno.out k hkm
    have hmk : ((x.getD k 0 : Nat) : Int) ∈ (As[k]'(hlt.out k hkm)).ma → ∀ i (hi : i < m), i < k + 1 → ((x.getD i 0 : Nat) : Int) ∈ (As[i]'(hlt.out i hi)).ma := fun h i hi hik => by
     by_cases e : i < k
     · exact hm i hi e
     · obtain rfl : i = k := by omega
       exact h
    replace hmk := gi hmk
    have hxk := fun W hW => hxr.out k hkm W hW
    generalize As[k]'(hlt.out k hkm) = A at *
    generalize x.getD k 0 = xk at *
    replace hs := gi hs; replace hm := gi hm; replace CTk := gi CTk; replace hnk := gi hnk; replace hxk := gi hxk
    go_upto_region 4 with fail
    clear x0 x1 x2 x3
    have ka := gv wr (.cells #[.slice A.aA A.al.length A.cA, .int .i64 A.n, .slice A.aM A.ma.length A.cM, .slice A.aE A.es.length A.cE] 39)
    have sP : qad wr (wr.alloc (.cells #[.slice A.aA A.al.length A.cA, .int .i64 A.n, .slice A.aM A.ma.length A.cM, .slice A.aE A.es.length A.cE] 39)) := fs2
    generalize wr.alloc (.cells #[.slice A.aA A.al.length A.cA, .int .i64 A.n, .slice A.aM A.ma.length A.cM, .slice A.aE A.es.length A.cE] 39) = W3 at *
    generalize wr.heap.size = ba at *
    have hs3 := hs.out.same sP
    obtain ⟨bx, ox, rfl, hbx, z0⟩ := hxk.out _ hs3
    clear sP hxk
    replace hs3 := gi hs3; replace ka := gi ka
    obtain ⟨v0, v1, v2, v3, vl⟩ := g4l ka.out
    refine qac (fun q => q = ba ∨ q = bx) [0, 1, 0, 0, 0, 1, 3, 0] [0, 1, 2, 3, 4, 5, 6, 7] (by kernel_rfl) (by kernel_rfl) ?_
    repeat ((first | refine gB rfl rfl fun _ k => ?_ | refine gC rfl rfl fun _ k => ?_); go_simp; (first | refine k _ ?_ | refine ⟨_, fun _ => rfl, k _ ?_⟩); clear k)
    refine gD rfl (by decide) (fun _ hK => ?_); go_simp
    refine (CTk.out _ (hs3.out.same fs3)).mono ?_
    rintro e w4 ⟨rfl, sP⟩
    refine hK _ _ ?_; clear hK; try simp only [Act.put, gj]
    repeat ((first | refine gB rfl rfl fun _ k => ?_ | refine gC rfl rfl fun _ k => ?_); go_simp; (first | refine k _ ?_ | refine ⟨_, fun _ => rfl, k _ ?_⟩); clear k)
    refine gO (NoPanic.normal ?_)
    clear v0 v1 v2 v3 vl
    have hs4 := (show qad w _ from hs3.out.same fs3).same sP
    clear sP z0 hs3 ka
    replace hs4 := gi hs4
    by_cases hin : (xk : Int) ∈ A.ma
    · rw [decide_eq_true hin]
      go_wp2_with fail
      go_roundw
      case rel => exact ⟨k + 1, by go_num, by omega, hmk.out hin, hs4.out⟩
      case measure => simp [intOf]; omega
    · have e : R = false := hnk.out hin
      subst e
      rw [decide_eq_false hin]
      go_wp2_with fail
      go_ret
      exact ⟨rfl, hs4.out⟩
  · obtain rfl : k = m := by omega
    have e : R = true := hyes.out (fun i hi => hm i hi hi)
    subst e
    replace hs := gi hs; replace hm := gi hm
    go_wp2_with fail
    go_ret
    exact ⟨rfl, hs.out⟩
def IniE (As : List Au) (w : World) (E : Ending) (w' : World) : Prop :=
 qad w w' ∧ (((∃ A ∈ As, A.n = 0) ∧ E = .returned (.tuple #[.slice none 0 0, .bool false])) ∨
  ((∀ A ∈ As, A.n ≠ 0) ∧ ∃ a c, E = .returned (.tuple #[.slice a As.length c, .bool true]) ∧ qaa w' 3 1 (.slice a As.length c) As.length (gw (qaz (List.replicate As.length 0)))))
theorem qka (As : List Au) (hl : As.length ≤ 1000) (aA : Option Addr) (cA : Nat) (V V' : Value) (w : World) (hat : qdm w aA cA As) :
 Calls Tryz.prog 26 #[.agg #[.slice aA As.length cA, V, V']] w (IniE As w) := by
 obtain ⟨i3, hi3, hi3z, hi3s, hi3b⟩ := info_parts qc0
 have hmk := fun W => qjK (P := Tryz.prog) 33 3 i3 Tryz.underlying33 hi3 hi3z hi3s hi3b As.length (by omega) W
 have hrow := fun (k : Nat) (hk : k < As.length) W (hW : qad w W) => (hat.same hW).row hk
 unfold IniE
 clear hat
 replace hrow := gi hrow
 go_enter Tryz.func26, Tryz.ntmps26
 go_upto_region 1 with fail
 have kn := gv w (.cells #[.slice aA As.length cA, V, V'] 72)
 have s0 : qad w (w.alloc (.cells #[.slice aA As.length cA, V, V'] 72)) := fs2
 generalize w.alloc (.cells #[.slice aA As.length cA, V, V'] 72) = W0 at *
 generalize w.heap.size = bn at *
 replace kn := gi kn; replace s0 := gi s0
 have t0 := gn kn.out 0
 have tl := gu kn.out
 go_wp2_with fail
 clear t0 tl
 go_loopw [9] (fun i wr => ∃ (k : Nat), i = .int .i64 k ∧ k ≤ As.length ∧ (∀ i (hi : i < As.length), i < k → As[i].n ≠ 0) ∧ qad W0 wr) (fun i _ => As.length - (intOf i).toNat)
 case atStart => exact ⟨0, rfl, by omega, fun i _ hi => absurd hi (by omega), Fr.refl _ _⟩
 case round =>
  obtain ⟨k, rfl, hk, hm, hs⟩ := hrel
  by_cases hkm : k < As.length
  · obtain ⟨b, off, rfl, hb, x0, x1, x2, x3⟩ := hrow.out k hkm _ (s0.out.same hs)
    have hex : As[k].n = 0 → ∃ A ∈ As, A.n = 0 := fun h => ⟨_, List.getElem_mem hkm, h⟩
    have hne : As[k].n ≠ 0 → ∀ i (hi : i < As.length), i < k + 1 → As[i].n ≠ 0 := fun h i hi hik => by
     by_cases e : i < k
     · exact hm i hi e
     · obtain rfl : i = k := by omega
       exact h
    generalize As[k] = A at *
    replace hs := gi hs; replace hm := gi hm; replace hex := gi hex; replace hne := gi hne
    by_cases hz : A.n = 0
    · have hx := hex.out hz
      rw [hz] at x1
      replace hx := gi hx; replace hz := gi hz
      go_wp2_with fail
      go_ret2
      exact ⟨(s0.out.same hs.out).same fs2, .inl ⟨hx.out, rfl⟩⟩
    · have hx := hne.out hz
      have hz2 : (A.n == 0) = false := by simpa using hz
      replace hx := gi hx; replace hz := gi hz
      go_wp2_with fail
      go_roundw
      case rel => exact ⟨k + 1, by go_num, by omega, hx.out, hs.out.same fs2⟩
      case measure => simp [intOf]; omega
  · obtain rfl : k = As.length := by omega
    have kn2 := hs.at kn.out id
    have t0 := gn kn2 0
    have tl := gu kn2
    have hall : ∀ A ∈ As, A.n ≠ 0 := fun A hA => by
     obtain ⟨i, hi, rfl⟩ := List.mem_iff_getElem.1 hA
     exact hm i hi hi
    replace hs := gi hs; replace hm := gi hm; replace kn2 := gi kn2; replace hall := gi hall
    go_wp2_with fail
    go_ret2
    exact ⟨(s0.out.same hs.out).same fs2, .inr ⟨hall.out, _, _, rfl, qaa.of_owns (qaL (gv _ _) (Nat.le_refl _) (by simp [gw, qaz]) rfl (by unfold maxLen; omega))⟩⟩
end Go.Proofs.YticcpnekjddanaaGreatDoor
