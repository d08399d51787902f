/-  -/
import Derived.Test.YtcipnkemnepbaaaGreatCLRig
import Derived.Test.YtcipnkemnepbaaaGreatCSrt
import Derived.Test.YtcipnkemnepbaaaGreatCGrpW
import Derived.Test.YtcipnkemnepbaaaGreatCAll
import Derived.Test.YtcipnkemnepbaaaGreatCCtsP
import Derived.Test.YtcipnkemnepbaaaGreatCNetQ
set_option maxRecDepth 100000
set_option maxHeartbeats 8000000
set_option linter.unusedVariables false
set_option linter.unusedSimpArgs false
namespace Go.Proofs.YtcipnkemnepbaaaGreat
open Go.RowKit
def Nw.tp (N : Nw) (L : List Bool) : List Nat := tupA N.bs N.at' N.As.length fun v => L.getD v false
theorem Nw.tp_len (N : Nw) (L : List Bool) : (N.tp L).length = N.As.length := tupA_len _ _ _ _
theorem Nw.tp_get (N : Nw) (L : List Bool) {i : Nat} (h : i < N.As.length) : (N.tp L).getD i 0 = placeF (fun v => L.getD v false) (N.bs i) (N.at' i) := tupA_get _ _ _ h
theorem seg_col (L : List Bool) (p b : Nat) (h : p + b ≤ L.length) : (L.drop p).take b = colF (fun u => L.getD (p + u) false) b := by
 refine List.ext_getElem? (fun i => ?_)
 rw [List.getElem?_take]
 by_cases hi : i < b
 · rw [if_pos hi, List.getElem?_drop]
   have h2 : p + i < L.length := by omega
   simp [colF, hi, List.getD, h2]
 · rw [if_neg hi]
   symm
   exact List.getElem?_eq_none (by rw [colF_length]; omega)
theorem seg_num {N : Nw} (L : List Bool) {i : Nat} (hi : i < N.As.length) (h : N.at' i + N.bs i ≤ L.length) : numB ((L.drop (N.at' i)).take (N.bs i)) = (N.tp L).getD i 0 := by
 rw [seg_col L _ _ h, numB_col, N.tp_get L hi]
 have := place_shift (fun v => L.getD v false) (N.at' i) (N.bs i) 0
 rw [Nat.add_zero] at this
 exact this
theorem cut_row {w : World} {a : Option Addr} {n cap p b : Nat} {L : List Bool} (h : RowAt w (.slice a n cap) n (gz L)) (hn : 0 < n) (hp : p + b ≤ n) (hpc : p < cap) :
 ∃ b' off, a = some ⟨b', off, none⟩ ∧ RowAt w (.slice (some ⟨b', off + p, none⟩) b (cap - p)) b (gz ((L.drop p).take b)) := by
 obtain ⟨hlen, a', cap', he, h1, h2, h3, hb⟩ := id h
 cases he
 by_cases hpn : p < n
 · obtain ⟨b', off, rfl, hR⟩ := h.cut hn p (p + b) (by omega) hp hpn
   refine ⟨b', off, rfl, ?_⟩
   rw [Nat.add_sub_cancel_left] at hR
   have e : ((gz L).drop p).take b = gz ((L.drop p).take b) := by simp [gz, List.map_drop, List.map_take]
   rw [e] at hR
   exact hR
 · have hb0 : b = 0 := by omega
   subst hb0
   obtain ⟨b', off, rfl, hlt, hc⟩ := hb hn
   exact ⟨b', off, rfl, by simp [gz], _, _, rfl, by omega, by omega, by simp, fun h0 => by omega⟩
theorem empty_row {w : World} {a : Option Addr} {n cap p : Nat} {L : List Bool} (h : RowAt w (.slice a n cap) n (gz L)) : RowAt w (.slice a 0 cap) 0 (gz ((L.drop p).take 0)) := by
 obtain ⟨hlen, a', cap', he, h1, h2, h3, hb⟩ := id h
 cases he
 exact ⟨by simp [gz], _, _, rfl, by omega, h2, h3, fun h0 => by omega⟩
theorem empty_row0 (w : World) (a : Option Addr) (L : List Bool) (p : Nat) : RowAt w (.slice a 0 0) 0 (gz ((L.drop p).take 0)) := ⟨by simp [gz], _, _, rfl, Nat.le_refl _, by unfold maxLen; omega, fun _ => rfl, fun h0 => by omega⟩
def DcE (N : Nw) (L : List Bool) (w : World) (e : Ending) (w' : World) : Prop :=
 (okT N.ns (N.tp L) = false ∧ e = .returned (.tuple #[.slice none 0 0, .bool false]) ∧ Same w w') ∨
 (okT N.ns (N.tp L) = true ∧ ∃ g, e = .returned (.tuple #[.slice (some ⟨g, 0, none⟩) N.As.length N.As.length, .bool true]) ∧ w'.heap[g]? = some (.cells (gw (natI (N.tp L))).toArray 3 (0, 0)) ∧ w.heap.size ≤ g ∧ Same w w')
def tpK (x : List Nat) (m k : Nat) : List Nat := x.take k ++ List.replicate (m - k) 0
theorem tpK_set {x : List Nat} {m k : Nat} (hx : x.length = m) (hk : k < m) : (tpK x m k).set k (x.getD k 0) = tpK x m (k + 1) := by
 unfold tpK
 have hkx : k < x.length := by omega
 have e : m - k = (m - (k + 1)) + 1 := by omega
 rw [e, List.replicate_succ, List.set_append_right _ _ (by rw [List.length_take]; omega), List.length_take]
 have e2 : k - min k x.length = 0 := by omega
 rw [e2, List.set_cons_zero, List.take_succ_eq_append_getElem hkx]
 have e3 : x.getD k 0 = x[k] := by simp [List.getD, hkx]
 rw [e3, List.append_assoc]
 rfl
theorem ok_not {ns x : List Nat} {k : Nat} (hk : k < ns.length) (h : ns.getD k 0 ≤ x.getD k 0) : okT ns x = false := by
 cases e : okT ns x with
 | false => rfl
 | true => have := okT_iff.1 e k hk; omega
theorem ok_all {ns x : List Nat} (h : ∀ i, i < ns.length → x.getD i 0 < ns.getD i 0) : okT ns x = true := okT_iff.2 h
theorem decode_any (N : Nw) (OK : NetOk N) (L : List Bool) (hL : L.length = N.all) (aL : Option Addr) (cL : Nat) (aT aB : Option Addr) (cT cB : Nat) (w : World) (hat : N.at w) (hly : LyAt N aT aB cT cB w) (hR : RowAt w (.slice aL N.all cL) N.all (gz L)) :
 Calls Tryz.prog 54 #[.agg #[.slice aT N.As.length cT, .slice aB N.As.length cB, .int .i64 N.all, .bool N.emp], .agg #[.slice N.aA N.As.length N.cA, .slice N.aO N.o.length N.cO], .slice aL N.all cL] w (DcE N L w) := by
 obtain ⟨i3, hi3, hi3z, hi3s, hi3b⟩ := info_parts info3
 have hm12 := OK.ok.m12
 have h10 := OK.h10
 obtain ⟨m, hmm⟩ : ∃ m, m = N.As.length := ⟨_, rfl⟩
 have hlt : ∀ k, k < m → k < N.As.length := fun k h => hmm ▸ h
 have hRA : ∀ (k : Nat) (hk : k < m) W (hW : Same w W), ∃ b off, N.aA = some ⟨b, off, none⟩ ∧ b < W.heap.size ∧ W.cell? ⟨b, off + k * 4, none⟩ = some (.slice (N.As[k]'(hlt k hk)).aA (N.As[k]'(hlt k hk)).al.length (N.As[k]'(hlt k hk)).cA) ∧ W.cell? ⟨b, off + k * 4 + 1, none⟩ = some (.int .i64 ((N.ns.getD k 0 : Nat) : Int)) ∧
  W.cell? ⟨b, off + k * 4 + 2, none⟩ = some (.slice (N.As[k]'(hlt k hk)).aM (N.As[k]'(hlt k hk)).ma.length (N.As[k]'(hlt k hk)).cM) ∧ W.cell? ⟨b, off + k * 4 + 3, none⟩ = some (.slice (N.As[k]'(hlt k hk)).aE (N.As[k]'(hlt k hk)).es.length (N.As[k]'(hlt k hk)).cE) := fun k hk W hW => by
  have := (hat.au.same hW).row (hlt k hk)
  rw [(OK.ok.n4 (hlt k hk)).2] at this
  exact this
 have hT := fun (k : Nat) (hk : k < N.As.length) W (hW : Same w W) => (hly.t.same hW).row.nat hk
 have hBB := fun (k : Nat) (hk : k < N.As.length) W (hW : Same w W) => (hly.b.same hW).row.nat hk
 have hTe : ∀ k, k < N.As.length → ((List.range N.As.length).map N.at').getD k 0 = N.at' k := fun k hk => by simp [List.getD, hk]
 have hBe : ∀ k, k < N.As.length → ((List.range N.As.length).map N.bs).getD k 0 = N.bs k := fun k hk => by simp [List.getD, hk]
 have hle := fun (k : Nat) (hk : k < N.As.length) => OK.ok.le hk
 have hLr := fun W (hW : Same w W) => hR.same hW
 have hcap : N.all ≤ cL := by
  obtain ⟨_, a', cap', he, h1, _⟩ := hR
  cases he; exact h1
 have DE := fun (k : Nat) (hk : k < N.As.length) (a : Option Addr) (c : Nat) W (h : RowAt W (.slice a (N.bs k) c) (N.bs k) (gz ((L.drop (N.at' k)).take (N.bs k)))) => Decode_ok (n := N.ns.getD k 0) ((L.drop (N.at' k)).take (N.bs k)) a (N.bs k) c (OK.ok.n4 hk).1 (by rw [List.length_take, List.length_drop]; have := OK.ok.le hk; omega) rfl W h
 have hsn := fun (k : Nat) (hk : k < N.As.length) => seg_num (N := N) L hk (by have := OK.ok.le hk; omega)
 unfold decR at DE
 have hbad := fun (k : Nat) (hk : k < N.As.length) (h : N.ns.getD k 0 ≤ (N.tp L).getD k 0) => ok_not (ns := N.ns) (x := N.tp L) (by rw [N.ns_len]; exact hk) h
 have hgood := fun (h : ∀ i, i < N.ns.length → (N.tp L).getD i 0 < N.ns.getD i 0) => ok_all h
 have hxl := N.tp_len L
 rw [N.ns_len] at hgood
 unfold DcE
 have hset := fun (k : Nat) (hk : k < N.As.length) => tpK_set (x := N.tp L) hxl hk
 have hx64 : ∀ k, k < N.As.length → N.bs k ≤ 12 := fun k _ => OK.ok.bs12 k
 simp only [← hmm] at hm12 hT hBB hTe hBe hle DE hsn hbad hgood hxl hset hx64 ⊢
 generalize N.tp L = x at *
 generalize okT N.ns x = okx at *
 clear hat hly hR OK hL
 obtain ⟨pf, hpf⟩ : ∃ f : Nat → Nat, f = N.at' := ⟨_, rfl⟩
 obtain ⟨bf, hbf⟩ : ∃ f : Nat → Nat, f = N.bs := ⟨_, rfl⟩
 obtain ⟨nf, hnf⟩ : ∃ f : Nat → Nat, f = fun k => N.ns.getD k 0 := ⟨_, rfl⟩
 have hnf' : ∀ k, N.ns.getD k 0 = nf k := fun k => by rw [hnf]
 simp only [hnf'] at hRA DE hbad hgood
 rw [← hpf] at hT hTe hle hsn DE
 rw [← hbf] at hBB hBe hle hsn DE hx64
 clear hnf hnf' hpf hbf
 generalize N.all = n at *
 generalize N.emp = em at *
 generalize N.aA = aA at *
 generalize N.cA = cA at *
 generalize N.aO = aO at *
 generalize N.cO = cO at *
 generalize N.o.length = qo at *
 generalize N.As = As at *
 clear hmm
 replace hRA := gi hRA; replace hT := gi hT; replace hBB := gi hBB; replace hTe := gi hTe; replace hBe := gi hBe; replace hle := gi hle; replace hLr := gi hLr; replace DE := gi DE; replace hsn := gi hsn; replace hbad := gi hbad; replace hgood := gi hgood; replace hxl := gi hxl; replace hset := gi hset; replace hx64 := gi hx64
 go_enter Tryz.func54, Tryz.ntmps54
 go_upto_region 1 with fail
 have kl := heap_old (gv w (.cells #[.slice aT m cT, .slice aB m cB, .int .i64 n, .bool em] 89)) (.cells #[.slice aA m cA, .slice aO qo cO] 36)
 have kn := gv (w.alloc (.cells #[.slice aT m cT, .slice aB m cB, .int .i64 n, .bool em] 89)) (.cells #[.slice aA m cA, .slice aO qo cO] 36)
 rw [← al1] at kn
 have hs : Same w ((w.alloc (.cells #[.slice aT m cT, .slice aB m cB, .int .i64 n, .bool em] 89)).alloc (.cells #[.slice aA m cA, .slice aO qo cO] 36)) := fs2
 generalize (w.alloc (.cells #[.slice aT m cT, .slice aB m cB, .int .i64 n, .bool em] 89)).alloc (.cells #[.slice aA m cA, .slice aO qo cO] 36) = W0 at *
 replace kl := gi kl; replace kn := gi kn; replace hs := gi hs
 obtain ⟨y0, y1, yl⟩ := g2l kn.out
 have hmk := fun W => run_mkI (P := Tryz.prog) 31 3 i3 Tryz.underlying31 hi3 hi3z hi3s hi3b m (by omega) W
 go_upto_region 2 with fail
 clear hmk
 have kg := gv W0 (.cells (gw (natI (List.replicate m 0))).toArray 3)
 have sP : Same W0 (W0.alloc (.cells (gw (natI (List.replicate m 0))).toArray 3)) := fs2
 have hz : w.heap.size + 1 < W0.heap.size := gu kn.out
 generalize W0.alloc (.cells (gw (natI (List.replicate m 0))).toArray 3) = W1 at *
 generalize W0.heap.size = g at *
 have e0 : List.replicate m 0 = tpK x m 0 := by simp [tpK]
 rw [e0] at kg
 clear y0 y1 yl
 replace kl := gi (sP.at kl.out id)
 replace kn := gi (sP.at kn.out id)
 have hs1 := hs.out.same sP
 clear sP hs e0
 replace kg := gi kg; replace hs1 := gi hs1
 obtain ⟨y0, y1, yl⟩ := g2l kn.out
 go_wp2_with fail
 clear y0 y1 yl
 go_loopw [21] (fun i wr => ∃ k : Nat, i = .int .i64 k ∧ k ≤ m ∧ wr.heap[g]? = some (.cells (gw (natI (tpK x m k))).toArray 3 (0, 0)) ∧ (∀ i, i < k → x.getD i 0 < nf i) ∧ Fr (fun q => q = g) W1 wr) (fun i _ => m - (intOf i).toNat)
 case atStart => exact ⟨0, rfl, by omega, kg.out, fun i h => by omega, Fr.refl _ _⟩
 case round =>
  clear kg
  obtain ⟨k, rfl, hk, kg, hup, hf⟩ := hrel
  have hsw : Same w wr := hs1.out.trans hf (fun i hi e => by have : i = g := e; omega)
  have kl1 := hf.at kl.out (fun e => by have : w.heap.size = g := e; omega)
  by_cases hkm : k < m
  · obtain ⟨b0, off0, ha0, hb0, x0, x1, x2, x3⟩ := hRA.out k hkm _ hsw
    obtain ⟨b1, off1, ha1, hb1, y0⟩ := hT.out k hkm _ hsw
    obtain ⟨b2, off2, ha2, hb2, z0⟩ := hBB.out k hkm _ hsw
    rw [hTe.out k hkm] at y0
    rw [hBe.out k hkm] at z0
    have hlek := hle.out k hkm
    have hb12 := hx64.out k hkm
    have hbadk := hbad.out k hkm
    have hsetk := hset.out k hkm
    have DEk := fun a c W h => DE.out k hkm a c W h
    rw [hsn.out k hkm] at DEk
    generalize (As[k]'(hlt k hkm)).aA = fA at *
    generalize (As[k]'(hlt k hkm)).al.length = qA at *
    generalize (As[k]'(hlt k hkm)).cA = gA at *
    generalize (As[k]'(hlt k hkm)).aM = fM at *
    generalize (As[k]'(hlt k hkm)).ma.length = qM at *
    generalize (As[k]'(hlt k hkm)).cM = gM at *
    generalize (As[k]'(hlt k hkm)).aE = fE at *
    generalize (As[k]'(hlt k hkm)).es.length = qE at *
    generalize (As[k]'(hlt k hkm)).cE = gE at *
    obtain ⟨nk, hnk⟩ : ∃ q, q = nf k := ⟨_, rfl⟩
    obtain ⟨xk, hxk⟩ : ∃ q, q = x.getD k 0 := ⟨_, rfl⟩
    rw [← hnk] at x1 hbadk DEk
    rw [← hxk] at hbadk hsetk DEk
    generalize pf k = p at *
    generalize bf k = b at *
    subst ha0 ha1 ha2
    replace kg := gi kg; replace hup := gi hup; replace hf := gi hf; replace hsw := gi hsw; replace kl1 := gi kl1; replace hbadk := gi hbadk; replace hsetk := gi hsetk; replace DEk := gi DEk; replace hnk := gi hnk; replace hxk := gi hxk
    go_upto_region 5 with fail
    have ka := gv wr (.cells #[.slice fA qA gA, .int .i64 nk, .slice fM qM gM, .slice fE qE gE] 44)
    have sP : Same wr (wr.alloc (.cells #[.slice fA qA gA, .int .i64 nk, .slice fM qM gM, .slice fE qE gE] 44)) := fs2
    have y0 := sP.cell? ⟨b1, off1 + k, none⟩ hb1 y0
    have z0 := sP.cell? ⟨b2, off2 + k, none⟩ hb2 z0
    have hb1 := Nat.lt_of_lt_of_le hb1 sP.size
    have hb2 := Nat.lt_of_lt_of_le hb2 sP.size
    clear x0 x1 x2 x3 hb0
    generalize wr.alloc (.cells #[.slice fA qA gA, .int .i64 nk, .slice fM qM gM, .slice fE qE gE] 44) = W2 at *
    generalize wr.heap.size = ba at *
    replace kg := gi (sP.at kg.out id)
    replace kl1 := gi (sP.at kl1.out id)
    replace hf := gi (hf.out.same sP)
    replace hsw := gi (hsw.out.same sP)
    clear sP
    replace ka := gi ka
    obtain ⟨u0, u1, u2, u3, ul⟩ := g4l ka.out
    obtain ⟨v0, v1, v2, v3, vl⟩ := g4l kl1.out
    obtain ⟨h, hh⟩ : ∃ h, h = p + b := ⟨_, rfl⟩
    have e1 : IntKind.i64.wrap ((p : Int) + (b : Int)) = ((h : Nat) : Int) := by rw [IntWalk.i64_in _ (by omega)]; omega
    have e2 : (0 : Int) ≤ (p : Int) := by omega
    have e3 : (p : Int) ≤ (h : Int) := by omega
    have e4 : (h : Int) ≤ (cL : Int) := by omega
    have e5 : h ≤ cL := by omega
    have e6 : p ≤ h := by omega
    have e8 : h - p = b := by omega
    have hLr2 := hLr.out _ hsw.out
    have htl : (tpK x m k).length = m := by have := hxl.out; simp [tpK]; omega
    replace hLr2 := gi hLr2; replace hh := gi hh
    by_cases hpc : cL = p
    · have hh := hh.out
      obtain rfl : b = 0 := by omega
      obtain rfl : cL = p := hpc
      obtain rfl : cL = h := by omega
      clear e1 e2 e3 e4 e5 e6 e8 hh
      have hc9 : (cL : Int) ≤ 9223372036854775807 := by have := hLr2.out; obtain ⟨_, a9, c9, he9, _, h9, _⟩ := this; cases he9; unfold maxLen at h9; omega
      have e1 : IntKind.i64.wrap (cL : Int) = ((cL : Nat) : Int) := IntWalk.i64_in _ (by omega)
      have e2 : (0 : Int) ≤ (cL : Int) := by omega
      refine wp_region_sched (fun q => q = ba ∨ q = w.heap.size ∨ q = b1 ∨ q = b2) [0, 1, 0, 0, 1, 0, 0, 1, 0, 1, 0, 0, 1, 0, 1, 0, 0, 1, 0, 0, 2, 0, 0, 0, 0, 0, 0, 0] [0, 2, 3, 5, 8, 10, 13, 15, 1, 4, 6, 7, 9, 11, 12, 14, 16, 17, 18, 19, 20, 21, 22, 23, 24, 25, 26, 27] (by kernel_rfl) (by kernel_rfl) ?_
      repeat ((first | refine gB rfl rfl fun _ k => ?_ | refine gC rfl rfl fun _ k => ?_); go_simp; (first | refine k _ ?_ | refine ⟨_, fun _ => rfl, k _ ?_⟩); clear k)
      refine gF rfl rfl (fun _ hK => ?_)
      go_simp
      refine (DEk.out _ _ _ (empty_row0 _ _ L _)).mono ?_
      rintro e wu1 ⟨he, s5⟩
      by_cases hx : xk < nk
      · rw [if_pos hx] at he
        subst he
        refine hK _ _ (Kp.of_same s5) ?_
        clear hK
        have sP := (show Same W2 _ from fs3).same s5
        (try simp only [Act.put, gj])
        repeat ((first | refine gB rfl rfl fun _ k => ?_ | refine gC rfl rfl fun _ k => ?_); go_simp; (first | refine k _ ?_ | refine ⟨_, fun _ => rfl, k _ ?_⟩); clear k)
        refine gO (NoPanic.normal ?_)
        replace kg := gi (sP.at kg.out id)
        have hf5 := hf.out.same sP
        clear s5 sP
        replace hf5 := gi hf5; replace hx := gi hx
        go_upto_region 8 with fail
        obtain ⟨u0, u1, ul⟩ := g2l kg.out
        have t0 : wu1.cell? ⟨g, k, none⟩ = some (.int .i64 ((tpK x m k).getD k 0 : Nat)) := by rw [gn kg.out]; simp [gw, natI, List.getD, htl, hkm]
        have t1 := free_at kg.out k
        have t2 := gu kg.out
        have hf9 := hf5.out.setCell ⟨g, k, none⟩ (.int .i64 xk) (fun _ => rfl)
        have hg9 : (wu1.setCell ⟨g, k, none⟩ (.int .i64 xk)).heap[g]? = some (.cells (gw (natI (tpK x m (k + 1)))).toArray 3 (0, 0)) := by
         rw [heap_setCell_same kg.out]
         simp only [intCells_set, natI_set, hsetk.out]
        replace hf9 := gi hf9; replace hg9 := gi hg9
        go_wp2_with fail
        go_roundw
        case rel =>
         refine ⟨k + 1, by go_num, by omega, hg9.out, fun i hi => ?_, hf9.out.same fs2⟩
         rcases Nat.lt_succ_iff_lt_or_eq.1 hi with h9 | rfl
         · exact hup.out i h9
         · rw [← hxk.out, ← hnk.out]; exact hx.out
        case measure => simp [intOf]; omega
      · rw [if_neg hx] at he
        subst he
        refine hK _ _ (Kp.of_same s5) ?_
        clear hK
        have sP := (show Same W2 _ from fs3).same s5
        (try simp only [Act.put, gj])
        repeat ((first | refine gB rfl rfl fun _ k => ?_ | refine gC rfl rfl fun _ k => ?_); go_simp; (first | refine k _ ?_ | refine ⟨_, fun _ => rfl, k _ ?_⟩); clear k)
        refine gO (NoPanic.normal ?_)
        have hsw5 := hsw.out.same sP
        have hbb := hbadk.out (by omega)
        clear s5 sP
        replace hsw5 := gi hsw5; replace hx := gi hx; replace hbb := gi hbb
        go_wp2_with fail
        go_ret2
        exact Or.inl ⟨hbb.out, rfl, hsw5.out.same fs3⟩
    by_cases hn0 : 0 < n
    · obtain ⟨b3, off3, rfl, hcut⟩ := cut_row hLr2.out hn0 hlek (by omega)
      replace hcut := gi hcut
      refine wp_region_sched (fun q => q = ba ∨ q = w.heap.size ∨ q = b1 ∨ q = b2) [0, 1, 0, 0, 1, 0, 0, 1, 0, 1, 0, 0, 1, 0, 1, 0, 0, 1, 0, 0, 2, 0, 0, 0, 0, 0, 0, 0] [0, 2, 3, 5, 8, 10, 13, 15, 1, 4, 6, 7, 9, 11, 12, 14, 16, 17, 18, 19, 20, 21, 22, 23, 24, 25, 26, 27] (by kernel_rfl) (by kernel_rfl) ?_
      repeat ((first | refine gB rfl rfl fun _ k => ?_ | refine gC rfl rfl fun _ k => ?_); go_simp; (first | refine k _ ?_ | refine ⟨_, fun _ => rfl, k _ ?_⟩); clear k)
      refine gF rfl rfl (fun _ hK => ?_)
      go_simp
      refine (DEk.out _ _ _ (hcut.out.same fs3)).mono ?_
      rintro e wu1 ⟨he, s5⟩
      by_cases hx : xk < nk
      · rw [if_pos hx] at he
        subst he
        refine hK _ _ (Kp.of_same s5) ?_
        clear hK
        have sP := (show Same W2 _ from fs3).same s5
        (try simp only [Act.put, gj])
        repeat ((first | refine gB rfl rfl fun _ k => ?_ | refine gC rfl rfl fun _ k => ?_); go_simp; (first | refine k _ ?_ | refine ⟨_, fun _ => rfl, k _ ?_⟩); clear k)
        refine gO (NoPanic.normal ?_)
        replace kg := gi (sP.at kg.out id)
        have hf5 := hf.out.same sP
        clear s5 sP
        replace hf5 := gi hf5; replace hx := gi hx
        go_upto_region 8 with fail
        obtain ⟨u0, u1, ul⟩ := g2l kg.out
        have t0 : wu1.cell? ⟨g, k, none⟩ = some (.int .i64 ((tpK x m k).getD k 0 : Nat)) := by rw [gn kg.out]; simp [gw, natI, List.getD, htl, hkm]
        have t1 := free_at kg.out k
        have t2 := gu kg.out
        have hf9 := hf5.out.setCell ⟨g, k, none⟩ (.int .i64 xk) (fun _ => rfl)
        have hg9 : (wu1.setCell ⟨g, k, none⟩ (.int .i64 xk)).heap[g]? = some (.cells (gw (natI (tpK x m (k + 1)))).toArray 3 (0, 0)) := by
         rw [heap_setCell_same kg.out]
         simp only [intCells_set, natI_set, hsetk.out]
        replace hf9 := gi hf9; replace hg9 := gi hg9
        go_wp2_with fail
        go_roundw
        case rel =>
         refine ⟨k + 1, by go_num, by omega, hg9.out, fun i hi => ?_, hf9.out.same fs2⟩
         rcases Nat.lt_succ_iff_lt_or_eq.1 hi with h9 | rfl
         · exact hup.out i h9
         · rw [← hxk.out, ← hnk.out]; exact hx.out
        case measure => simp [intOf]; omega
      · rw [if_neg hx] at he
        subst he
        refine hK _ _ (Kp.of_same s5) ?_
        clear hK
        have sP := (show Same W2 _ from fs3).same s5
        (try simp only [Act.put, gj])
        repeat ((first | refine gB rfl rfl fun _ k => ?_ | refine gC rfl rfl fun _ k => ?_); go_simp; (first | refine k _ ?_ | refine ⟨_, fun _ => rfl, k _ ?_⟩); clear k)
        refine gO (NoPanic.normal ?_)
        have hsw5 := hsw.out.same sP
        have hbb := hbadk.out (by omega)
        clear s5 sP
        replace hsw5 := gi hsw5; replace hx := gi hx; replace hbb := gi hbb
        go_wp2_with fail
        go_ret2
        exact Or.inl ⟨hbb.out, rfl, hsw5.out.same fs3⟩
    · have hh := hh.out
      obtain rfl : p = 0 := by omega
      obtain rfl : h = 0 := by omega
      obtain rfl : b = 0 := by omega
      clear e1 e2 e3 e4 e5 e6 e8 hh hn0
      have e1 : IntKind.i64.wrap 0 = 0 := rfl
      refine wp_region_sched (fun q => q = ba ∨ q = w.heap.size ∨ q = b1 ∨ q = b2) [0, 1, 0, 0, 1, 0, 0, 1, 0, 1, 0, 0, 1, 0, 1, 0, 0, 1, 0, 0, 2, 0, 0, 0, 0, 0, 0, 0] [0, 2, 3, 5, 8, 10, 13, 15, 1, 4, 6, 7, 9, 11, 12, 14, 16, 17, 18, 19, 20, 21, 22, 23, 24, 25, 26, 27] (by kernel_rfl) (by kernel_rfl) ?_
      repeat ((first | refine gB rfl rfl fun _ k => ?_ | refine gC rfl rfl fun _ k => ?_); go_simp; (first | refine k _ ?_ | refine ⟨_, fun _ => rfl, k _ ?_⟩); clear k)
      refine gF rfl rfl (fun _ hK => ?_)
      go_simp
      refine (DEk.out _ _ _ (empty_row (hLr2.out.same fs3))).mono ?_
      rintro e wu1 ⟨he, s5⟩
      by_cases hx : xk < nk
      · rw [if_pos hx] at he
        subst he
        refine hK _ _ (Kp.of_same s5) ?_
        clear hK
        have sP := (show Same W2 _ from fs3).same s5
        (try simp only [Act.put, gj])
        repeat ((first | refine gB rfl rfl fun _ k => ?_ | refine gC rfl rfl fun _ k => ?_); go_simp; (first | refine k _ ?_ | refine ⟨_, fun _ => rfl, k _ ?_⟩); clear k)
        refine gO (NoPanic.normal ?_)
        replace kg := gi (sP.at kg.out id)
        have hf5 := hf.out.same sP
        clear s5 sP
        replace hf5 := gi hf5; replace hx := gi hx
        go_upto_region 8 with fail
        obtain ⟨u0, u1, ul⟩ := g2l kg.out
        have t0 : wu1.cell? ⟨g, k, none⟩ = some (.int .i64 ((tpK x m k).getD k 0 : Nat)) := by rw [gn kg.out]; simp [gw, natI, List.getD, htl, hkm]
        have t1 := free_at kg.out k
        have t2 := gu kg.out
        have hf9 := hf5.out.setCell ⟨g, k, none⟩ (.int .i64 xk) (fun _ => rfl)
        have hg9 : (wu1.setCell ⟨g, k, none⟩ (.int .i64 xk)).heap[g]? = some (.cells (gw (natI (tpK x m (k + 1)))).toArray 3 (0, 0)) := by
         rw [heap_setCell_same kg.out]
         simp only [intCells_set, natI_set, hsetk.out]
        replace hf9 := gi hf9; replace hg9 := gi hg9
        go_wp2_with fail
        go_roundw
        case rel =>
         refine ⟨k + 1, by go_num, by omega, hg9.out, fun i hi => ?_, hf9.out.same fs2⟩
         rcases Nat.lt_succ_iff_lt_or_eq.1 hi with h9 | rfl
         · exact hup.out i h9
         · rw [← hxk.out, ← hnk.out]; exact hx.out
        case measure => simp [intOf]; omega
      · rw [if_neg hx] at he
        subst he
        refine hK _ _ (Kp.of_same s5) ?_
        clear hK
        have sP := (show Same W2 _ from fs3).same s5
        (try simp only [Act.put, gj])
        repeat ((first | refine gB rfl rfl fun _ k => ?_ | refine gC rfl rfl fun _ k => ?_); go_simp; (first | refine k _ ?_ | refine ⟨_, fun _ => rfl, k _ ?_⟩); clear k)
        refine gO (NoPanic.normal ?_)
        have hsw5 := hsw.out.same sP
        have hbb := hbadk.out (by omega)
        clear s5 sP
        replace hsw5 := gi hsw5; replace hx := gi hx; replace hbb := gi hbb
        go_wp2_with fail
        go_ret2
        exact Or.inl ⟨hbb.out, rfl, hsw5.out.same fs3⟩
  · obtain rfl : k = m := by omega
    have hgd := hgood.out hup
    have hsE := gi (hs1.out.trans hf (fun i hi e => by have : i = g := e; omega))
    have htk : tpK x k k = x := by simp [tpK, List.take_of_length_le (Nat.le_of_eq hxl.out)]
    rw [htk] at kg
    go_wp2_with fail
    go_ret2
    exact Or.inr ⟨hgd, g, rfl, kg, by omega, hsE.out⟩
theorem RowsIs.nth {W : World} {n : Nat} : ∀ {vs : List Value} {rs : List (List Bool)}, RowsIs W n vs rs → ∀ k, k < rs.length → ∃ a c, vs[k]? = some (.slice a n c) ∧ RowAt W (.slice a n c) n (gz (rs.getD k [])) ∧ (rs.getD k []).length = n
 | v :: vs, r :: rs, h, 0, _ => by
  obtain ⟨a, c, he, _⟩ := h.1.2.form
  subst he
  exact ⟨a, c, rfl, h.1.2.row, h.1.1⟩
 | v :: vs, r :: rs, h, k + 1, hk => by
  obtain ⟨a, c, h1, h2, h3⟩ := RowsIs.nth h.2 k (by simpa using hk)
  exact ⟨a, c, by simpa using h1, by simpa using h2, by simpa using h3⟩
 | [], [], _, k, hk => by simp at hk
def tusF (N : Nw) (t : List Bool) : List (List Nat) := (tupsF N.ns).filter fun x => t.getD (numB (codeL N.bs N.on x)) false
theorem mErr_zero {N : Nw} {v : Nat} {t : List Bool} (h : N.mErr v t = 0) : v = N.all ∧ ite3 t (N.set (okT N.ns)) (fls N.all) = t := by
 unfold Nw.mErr at h
 split at h
 · simp at h
 · next h1 =>
   split at h
   · next h2 => exact ⟨by simpa using h1, h2⟩
   · simp at h
theorem mErr_ok {N : Nw} {t : List Bool} (ht : t.length = 2 ^ N.all) (h : ite3 t (N.set (okT N.ns)) (fls N.all) = t) {i : Nat} (hi : i < 2 ^ N.all) (hti : t.getD i false = true) : okT N.ns (N.T i) = true := by
 have h1 : (ite3 t (N.set (okT N.ns)) (fls N.all)).getD i false = t.getD i false := by rw [h]
 rw [ite3_get ht (show (N.set (okT N.ns)).length = 2 ^ N.all from tbF_len _ _) (fls_len _) hi, hti, if_pos rfl] at h1
 have h2 : (N.set (okT N.ns)).getD i false = okT N.ns (N.T i) := tbF_get _ _ hi
 rw [← h2]
 exact h1
theorem truesF_mem {t : List Bool} {m i : Nat} : i ∈ truesF t m ↔ i < m ∧ t.getD i false = true := by
 unfold truesF
 rw [List.mem_filter, List.mem_range]
theorem truesF_nodup (t : List Bool) (m : Nat) : (truesF t m).Nodup := List.Pairwise.filter _ (List.nodup_range (n := m))
theorem tus_perm {N : Nw} (h : NwOk N) {t : List Bool} (ht : t.length = 2 ^ N.all) (hm : ite3 t (N.set (okT N.ns)) (fls N.all) = t) : ((truesF t (2 ^ N.all)).map N.T).Perm (tusF N t) := by
 refine (List.perm_ext_iff_of_nodup ?_ ?_).2 (fun x => ?_)
 · show List.Pairwise _ _
   rw [List.pairwise_map]
   exact List.Pairwise.imp_of_mem (fun {a b} ha hb hab e => hab (h.T_inj (truesF_mem.1 ha).1 (truesF_mem.1 hb).1 e)) (truesF_nodup t (2 ^ N.all))
 · exact List.Pairwise.filter _ (tups_nodup N.ns)
 · unfold tusF
   rw [List.mem_map, List.mem_filter]
   constructor
   · rintro ⟨i, hi, rfl⟩
     obtain ⟨h1, h2⟩ := truesF_mem.1 hi
     have h3 := mErr_ok ht hm h1 h2
     have h4 := N.T_mem h3
     obtain ⟨k, k1, k2, k3⟩ := h.tup_of h4
     have : k = i := h.T_inj k1 h1 k2
     subst this
     exact ⟨h4, by rw [k3]; exact h2⟩
   · rintro ⟨h1, h2⟩
     obtain ⟨k, k1, k2, k3⟩ := h.tup_of h1
     rw [k3] at h2
     exact ⟨k, truesF_mem.2 ⟨k1, h2⟩, k2⟩
theorem tus_sorted (N : Nw) (t : List Bool) : ((tusF N t).map natI).Pairwise fun x y => cmpL x y < 0 := by
 rw [List.pairwise_map]
 exact ((tups_lex _ N.ns rfl).filter _).imp (fun {x y} h => lex_cmp h)
theorem rowB_T {N : Nw} (h : NwOk N) (i : Nat) : N.tp (rowB N.all i) = N.T i := by
 refine tupA_cong (n := N.all) (fun i hi => h.le hi) (fun u hu => ?_)
 exact colF_get _ _ _ hu
def TusE (N : Nw) (E : Int) (t : List Bool) (w : World) (e : Ending) (w' : World) : Prop :=
 (E ≠ 0 ∧ e = .returned (.tuple #[.slice none 0 0, .int .i64 E]) ∧ Same w w') ∨
 (E = 0 ∧ ∃ a k c gs, e = .returned (.tuple #[.slice a k c, .int .i64 0]) ∧ TG w.heap.size w' a k c gs ∧ lst gs = (tusF N t).map natI ∧ k = (tusF N t).length ∧ Same w w')
theorem Tuples_net (N : Nw) (OK : NetOk N) (d : Dg) (v : Nat) (t : List Bool) (w : World) (hat : N.at w) (hd : d.at w) (T : d.tab v t) :
 Calls Tryz.prog 22 #[.agg #[.slice N.aA N.As.length N.cA, .slice N.aO N.o.length N.cO], .agg #[.int .i64 d.n, .slice d.a d.L.length d.cap, .int .i64 d.r]] w (TusE N (N.mErr v t) t w) := by
 have ME := fun W (hW : Same w W) => measured_net N OK d v t W (hat.same hW) (SliceAt.same hd hW) T
 have h10 := OK.h10
 unfold TusE
 by_cases hE0 : N.mErr v t = 0
 · obtain ⟨hv, hm⟩ := mErr_zero hE0
   subst hv
   rw [hE0] at ME ⊢
   have htl : t.length = 2 ^ N.all := T.2.len
   have hc : t.count true ≤ 1024 := by
    have h1 : t.count true ≤ t.length := List.count_le_length
    have h2 : 2 ^ N.all ≤ 2 ^ 10 := Nat.pow_le_pow_right (by omega) h10
    omega
   have AL := fun W (hW : Same w W) => all_rows d N.all t W (SliceAt.same hd hW) T hc
   rw [rowsL_all T.2] at AL
   have hbl : ∀ r ∈ (truesF t (2 ^ N.all)).map (rowB N.all), r.length = N.all ∧ okT N.ns (N.tp r) = true := fun r hr => by
    obtain ⟨i, hi, rfl⟩ := List.mem_map.1 hr
    obtain ⟨h1, h2⟩ := truesF_mem.1 hi
    exact ⟨rowB_length _ _, by rw [rowB_T OK.ok]; exact mErr_ok htl hm h1 h2⟩
   have hpm : (((truesF t (2 ^ N.all)).map (rowB N.all)).map fun r => natI (N.tp r)).Perm ((tusF N t).map natI) := by
    have h1 := (tus_perm OK.ok htl hm).map natI
    rw [List.map_map] at h1 ⊢
    have h2 : (natI ∘ N.T) = ((fun r => natI (N.tp r)) ∘ rowB N.all) := by
     funext i
     show natI (N.T i) = natI (N.tp (rowB N.all i))
     rw [rowB_T OK.ok]
    rwa [h2] at h1
   obtain ⟨rs, hrs⟩ : ∃ rs, rs = (truesF t (2 ^ N.all)).map (rowB N.all) := ⟨_, rfl⟩
   rw [← hrs] at AL hbl hpm
   have hrk : ∀ k, k < rs.length → rs.getD k [] ∈ rs := fun k hk => by
    simp only [List.getD, List.getElem?_eq_getElem hk, Option.getD_some]
    exact List.getElem_mem hk
   have DC := fun (k : Nat) (hk : k < rs.length) aL cL aT aB cT cB W (hW : Same w W) (hly : LyAt N aT aB cT cB W) (hR : RowAt W (.slice aL N.all cL) N.all (gz (rs.getD k []))) =>
    (decode_any N OK (rs.getD k []) (hbl _ (hrk k hk)).1 aL cL aT aB cT cB W (hat.same hW) hly hR).mono fun e w' h => (show ∃ g, e = .returned (.tuple #[.slice (some ⟨g, 0, none⟩) N.As.length N.As.length, .bool true]) ∧ w'.heap[g]? = some (.cells (gw (natI (N.tp (rs.getD k [])))).toArray 3 (0, 0)) ∧ W.heap.size ≤ g ∧ Same W w' from by
     rcases h with ⟨h1, _⟩ | ⟨_, h⟩
     · rw [(hbl _ (hrk k hk)).2] at h1; simp at h1
     · exact h)
   have hum : rs.map (fun r => natI (N.tp r)) = (List.range rs.length).map fun k => natI (N.tp (rs.getD k [])) := by
    apply List.ext_getElem
    · simp
    · intro i h1 h2
      simp only [List.length_map] at h1
      simp [List.getD, h1]
   rw [hum] at hpm
   have hul : ∀ k, (natI (N.tp (rs.getD k []))).length = N.As.length := fun k => by rw [natI_len, N.tp_len]
   obtain ⟨us, hus⟩ : ∃ us : Nat → List Int, us = fun k => natI (N.tp (rs.getD k [])) := ⟨_, rfl⟩
   have hus' : ∀ k, natI (N.tp (rs.getD k [])) = us k := fun k => by rw [hus]
   simp only [hus'] at DC hpm hul
   have hso := tus_sorted N t
   have hK : rs.length = (tusF N t).length := by have := hpm.length_eq; simpa using this
   have hKl : rs.length ≤ 1024 := by
    rw [hrs, List.length_map]
    have h1 : (truesF t (2 ^ N.all)).length ≤ (List.range (2 ^ N.all)).length := List.length_filter_le _ _
    have h2 : 2 ^ N.all ≤ 2 ^ 10 := Nat.pow_le_pow_right (by omega) h10
    simp only [List.length_range] at h1
    omega
   have hm12 := OK.ok.m12
   rw [← hK]
   generalize hTT : (tusF N t).map natI = TT at *
   have hdn := T.1
   simp only [Dg.v] at AL
   rw [hdn] at ME AL ⊢
   generalize hvs : rs.getD = rg at *
   clear hus hus' hbl hum hrk htl hc hm hE0 hK hat hd T hdn OK hTT
   obtain ⟨K, hKd⟩ : ∃ K, K = rs.length := ⟨_, rfl⟩
   simp only [← hKd] at AL DC hpm hKl ⊢
   unfold MeE at ME
   generalize N.all = n at *
   generalize N.emp = em at *
   generalize N.As.length = m at *
   generalize N.o.length = qo at *
   generalize N.aA = aA at *
   generalize N.cA = cA at *
   generalize N.aO = aO at *
   generalize N.cO = cO at *
   generalize d.a = da at *
   generalize d.L.length = dq at *
   generalize d.cap = dc at *
   generalize d.r = dr at *
   have hmk := info_parts info_iiT
   obtain ⟨i3, hi3, hi3z, hi3s, hi3b⟩ := hmk
   replace ME := gi ME; replace AL := gi AL; replace DC := gi DC; replace hpm := gi hpm; replace hul := gi hul; replace hso := gi hso; replace hKd := gi hKd; replace hvs := gi hvs; replace hrs := gi hrs
   go_enter Tryz.func22, Tryz.ntmps22
   go_upto_region 1 with fail
   have kn := heap_old (gv w (.cells #[.slice aA m cA, .slice aO qo cO] 36)) (.cells #[.int .i64 n, .slice da dq dc, .int .i64 dr] 56)
   have kf := gv (w.alloc (.cells #[.slice aA m cA, .slice aO qo cO] 36)) (.cells #[.int .i64 n, .slice da dq dc, .int .i64 dr] 56)
   rw [← al1] at kf
   have hs : Same w ((w.alloc (.cells #[.slice aA m cA, .slice aO qo cO] 36)).alloc (.cells #[.int .i64 n, .slice da dq dc, .int .i64 dr] 56)) := fs2
   generalize (w.alloc (.cells #[.slice aA m cA, .slice aO qo cO] 36)).alloc (.cells #[.int .i64 n, .slice da dq dc, .int .i64 dr] 56) = W0 at *
   replace kn := gi kn; replace kf := gi kf; replace hs := gi hs
   obtain ⟨y0, y1, yl⟩ := g2l kn.out
   obtain ⟨x0, x1, x2, xl⟩ := g3l kf.out
   go_wp2_with fail
   refine (ME.out _ hs.out).mono ?_
   intro e w1 hM
   clear y0 y1 yl
   clear x0 x1 x2 xl
   rcases hM with ⟨h0, _⟩ | ⟨_, aT, aB, cT, cB, rfl, hly, s1⟩
   · exact absurd rfl h0
   replace kf := gi (s1.at kf.out id)
   replace kn := gi (s1.at kn.out id)
   replace hs := gi (hs.out.same s1)
   clear s1
   replace hly := gi hly
   go_upto_region 2 with fail
   have kl := gv w1 (.cells #[.slice aT m cT, .slice aB m cB, .int .i64 n, .bool em] 89)
   have s2 : Same w1 (w1.alloc (.cells #[.slice aT m cT, .slice aB m cB, .int .i64 n, .bool em] 89)) := fs2
   replace kf := gi (s2.at kf.out id)
   replace kn := gi (s2.at kn.out id)
   replace hs := gi (hs.out.same s2)
   replace hly := gi (hly.out.same s2)
   clear s2
   generalize w1.alloc (.cells #[.slice aT m cT, .slice aB m cB, .int .i64 n, .bool em] 89) = W2 at *
   generalize w1.heap.size = bl at *
   replace kl := gi kl
   obtain ⟨x0, x1, x2, xl⟩ := g3l kf.out
   go_wp2_with fail
   refine (AL.out _ hs.out).mono ?_
   rintro e w3 ⟨aR, cR, vals, rfl, ho3, hr3, s3⟩
   clear x0 x1 x2 xl
   replace kn := gi (s3.at kn.out id)
   replace kl := gi (s3.at kl.out id)
   replace hs := gi (hs.out.same s3)
   replace hly := gi (hly.out.same s3)
   clear s3
   have hRS := (SliceAt.of_owns ho3).row
   replace ho3 := gi ho3; replace hr3 := gi hr3; replace hRS := gi hRS
   go_wp2_with fail
   go_loopw [9, 33] (fun v i wr => ∃ (k : Nat) (gs : List Grp) (a : Option Addr) (c : Nat), i = .int .i64 k ∧ k ≤ K ∧ v = .slice a k c ∧ TG w3.heap.size wr a k c gs ∧ lst gs = (List.range k).map us ∧ Same w3 wr) (fun _ i _ => K - (intOf i).toNat)
   case atStart => exact ⟨0, [], none, 0, rfl, Nat.zero_le _, rfl, TG.nil _ _, rfl, Fr.refl _ _⟩
   case round =>
    obtain ⟨k, gs, a, c, rfl, hk, rfl, hT, hL, hs1⟩ := hrel
    have hsw := hs.out.same hs1
    have hly1 := hly.out.same hs1
    have kn1 := hs1.at kn.out id
    have kl1 := hs1.at kl.out id
    have hzw := hsw.size
    by_cases hlt : k < K
    · obtain ⟨aB', cB', hv1, hv2, hv3⟩ := (hr3.out.same hs1).nth k (by rw [← hKd.out]; exact hlt)
      obtain ⟨b, off, rfl, hb, hc⟩ := (hRS.out.same hs1).cell (by omega)
      have hcb := hc k _ hv1
      rw [hvs.out] at hv2
      have DK := fun W (hW : Same wr W) => DC.out k hlt aB' cB' aT aB cT cB W (hsw.same hW) (hly1.same hW) (hv2.same hW)
      have hulk := hul.out k
      generalize huk : us k = uk at *
      clear hc hv1 hv2 hv3
      replace hsw := gi hsw; replace hly1 := gi hly1; replace hT := gi hT; replace hL := gi hL; replace hs1 := gi hs1; replace DK := gi DK; replace hulk := gi hulk; replace kn1 := gi kn1; replace kl1 := gi kl1; replace huk := gi huk
      obtain ⟨x0, x1, x2, x3, xl⟩ := g4l kl1.out
      obtain ⟨y0, y1, yl⟩ := g2l kn1.out
      go_wp2_with fail
      refine (DK.out _ (Fr.refl _ _)).mono ?_
      rintro e w5 ⟨g, rfl, hg5, hgw, s5⟩
      clear x0 x1 x2 x3 xl
      clear y0 y1 yl
      clear hb hcb
      have hs5 := hs1.out.same s5
      have hz5 := s5.size
      have hT5 := hT.out.same s5
      have hgl := gu hg5
      have hSl : SliceAt w5 3 1 (.slice (some ⟨g, 0, none⟩) m m) m (gw uk) := ⟨by rw [intCells_length, hulk.out, Nat.mul_one], some ⟨g, 0, none⟩, m, rfl, Nat.le_refl _, by unfold maxLen; omega, by simp, fun _ => ⟨g, 0, _, rfl, hg5, by rw [Nat.mul_one]; exact List.take_of_length_le (by show (List.drop 0 (gw uk)).length ≤ m; rw [List.drop_zero, intCells_length, hulk.out]; omega)⟩⟩
      clear s5 hgw
      replace hs5 := gi hs5; replace hT5 := gi hT5; replace hSl := gi hSl; replace hg5 := gi hg5
      go_wp2_with (at_builtin; refine wpList_append1 rfl (.tmp 44) (.tmp 46) 51 rfl w3.heap.size 31 i3 (.slice none 0 0) 1 24 Tryz.underlying51 hi3 hi3z hi3s hi3b rfl (by decide) (by decide) a k c (gs.map Grp.v) rfl (owns_same hT5.out.own fs2) (by omega) w5.heap.size [.slice (some ⟨g, 0, none⟩) m m] rfl rfl (gv _ _) (by simp [Value.oneCell']) (by have := hs5.out.size; simp; omega) ?_; intro a9 c9 w9 ho9 hG9)
      have hT9 : TG w3.heap.size w9 a9 (k + 1) c9 (gs ++ [⟨some ⟨g, 0, none⟩, m, uk⟩]) := hT5.out.push (W := w5.alloc (.cells #[.slice (some ⟨g, 0, none⟩) m m] 31)) fs2 (by have := hSl.out.same (show Same w5 (w5.alloc (.cells #[.slice (some ⟨g, 0, none⟩) m m] 31)) from fs2); rw [← hulk.out] at this; simpa [Grp.v, hulk.out] using this) (by simpa [Grp.v, hulk.out] using ho9) hG9
      have hs9 : Same w3 w9 := grew_fresh (hs5.out.same fs2) hG9 (fun k hk => (hT5.out.own.lt k hk).1)
      clear ho9 hG9
      replace hT9 := gi hT9; replace hs9 := gi hs9
      go_roundw
      case rel => exact ⟨k + 1, _, a9, c9, by go_num, by omega, rfl, hT9.out, by have h8 : gs.map Grp.l = _ := hL.out; show (gs ++ [_]).map Grp.l = _; rw [List.map_append, h8, List.range_succ, List.map_append]; simp [huk.out], hs9.out⟩
      case measure => simp [intOf]; omega
    · obtain rfl : k = K := by omega
      have hz3 := hs1.size
      have hSO := fun W (hW : Same wr W) => sort_tg gs TT w3.heap.size k c a W (hT.same hW) (by omega) (by rw [hL]; exact hpm.out) hso.out
      have hol : ∀ i, (Value.slice a k c).ownBlock = some i → w3.heap.size ≤ i := fun i hi => (hT.own.lt i hi).1
      clear hT
      replace hSO := gi hSO; replace hsw := gi hsw; replace hs1 := gi hs1; replace hL := gi hL; replace hol := gi hol
      go_wp2_with fail
      refine (hSO.out _ (Fr.refl _ _)).mono ?_
      rintro e w5 ⟨rfl, gs', hL', hT5, hG5⟩
      have hs5 : Same w w5 := grew_fresh hsw.out hG5 (fun i hi => by have h1 := hol.out i hi; have h2 := hs.out.size; omega)
      have hT6 : TG w.heap.size w5 a k c gs' := hT5.down (by have := hs.out.size; omega)
      replace hL' := gi hL'; replace hT6 := gi hT6; replace hs5 := gi hs5
      go_wp2_with fail
      go_ret2
      exact .inr ⟨by trivial, a, k, c, gs', rfl, hT6.out, hL'.out, rfl, hs5.out⟩
 · generalize N.mErr v t = EE at *
   have hdn := T.1
   rw [hdn] at ME ⊢
   clear hat hd T hdn OK h10
   unfold MeE at ME
   generalize N.all = n at *
   generalize N.emp = em at *
   generalize N.As.length = m at *
   generalize N.o.length = qo at *
   generalize N.aA = aA at *
   generalize N.cA = cA at *
   generalize N.aO = aO at *
   generalize N.cO = cO at *
   generalize d.a = da at *
   generalize d.L.length = dq at *
   generalize d.cap = dc at *
   generalize d.r = dr at *
   replace ME := gi ME
   go_enter Tryz.func22, Tryz.ntmps22
   go_upto_region 1 with fail
   have kn := heap_old (gv w (.cells #[.slice aA m cA, .slice aO qo cO] 36)) (.cells #[.int .i64 v, .slice da dq dc, .int .i64 dr] 56)
   have kf := gv (w.alloc (.cells #[.slice aA m cA, .slice aO qo cO] 36)) (.cells #[.int .i64 v, .slice da dq dc, .int .i64 dr] 56)
   rw [← al1] at kf
   have hs : Same w ((w.alloc (.cells #[.slice aA m cA, .slice aO qo cO] 36)).alloc (.cells #[.int .i64 v, .slice da dq dc, .int .i64 dr] 56)) := fs2
   generalize (w.alloc (.cells #[.slice aA m cA, .slice aO qo cO] 36)).alloc (.cells #[.int .i64 v, .slice da dq dc, .int .i64 dr] 56) = W0 at *
   replace kn := gi kn; replace kf := gi kf; replace hs := gi hs
   obtain ⟨y0, y1, yl⟩ := g2l kn.out
   obtain ⟨x0, x1, x2, xl⟩ := g3l kf.out
   go_wp2_with fail
   refine (ME.out _ hs.out).mono ?_
   intro e w1 hM
   clear y0 y1 yl
   clear x0 x1 x2 xl
   rcases hM with ⟨h0, rfl, s1⟩ | ⟨h0, _⟩
   · have hb : (EE != 0) = true := by simpa using h0
     have hs1 := hs.out.same s1
     clear s1
     have h0' := hE0
     replace h0 := gi h0; replace h0' := gi h0'; replace hE0 := gi hE0; replace hs1 := gi hs1
     go_wp2_with fail
     go_ret2
     exact .inl ⟨h0'.out, rfl, hs1.out.same fs2⟩
   · exact absurd h0 hE0
end Go.Proofs.YtcipnkemnepbaaaGreat
