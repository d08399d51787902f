/- package network: Decode walked. package network: decode, Decode walked. -/
import Derived.Test.YtknlkcfnfjchdaaGreatCLRig
import Derived.Test.YtknlkcfnfjchdaaGreatCLCod
import Derived.Test.YtknlkcfnfjchdaaGreatCGrpW
namespace Go.Proofs.YtknlkcfnfjchdaaGreat
open Go.RowKit
set_option linter.unusedVariables false
set_option linter.unusedSimpArgs false

/-- The tuple of a list of bits. -/
def Nw.tp (N : Nw) (L : List Bool) : List Nat := tupA N.bs N.at' N.As.length fun v => L.getD v false
theorem Nw.tp_len (N : Nw) (L : List Bool) : (N.tp L).length = N.As.length := tupA_len _ _ _ _
theorem Nw.tp_get (N : Nw) (L : List Bool) {i : Nat} (h : i < N.As.length) : (N.tp L).getD i 0 = placeF (fun v => L.getD v false) (N.bs i) (N.at' i) := tupA_get _ _ _ h
theorem seg_col (L : List Bool) (p b : Nat) (h : p + b ≤ L.length) : (L.drop p).take b = colF (fun u => L.getD (p + u) false) b := by
  refine List.ext_getElem? (fun i => ?_)
  rw [List.getElem?_take]
  by_cases hi : i < b
  · rw [if_pos hi, List.getElem?_drop]
    have h2 : p + i < L.length := by omega
    simp [colF, hi, List.getD, h2]
  · rw [if_neg hi]
    symm
    exact List.getElem?_eq_none (by rw [colF_length]; omega)
theorem seg_num {N : Nw} (L : List Bool) {i : Nat} (hi : i < N.As.length) (h : N.at' i + N.bs i ≤ L.length) : numB ((L.drop (N.at' i)).take (N.bs i)) = (N.tp L).getD i 0 := by
  rw [seg_col L _ _ h, numB_col, N.tp_get L hi]
  have := place_shift (fun v => L.getD v false) (N.at' i) (N.bs i) 0
  rw [Nat.add_zero] at this
  exact this
/-- A part of a row of bools, as Go cuts it. -/
theorem cut_row {w : World} {a : Option Addr} {n cap p b : Nat} {L : List Bool} (h : RowAt w (.slice a n cap) n (boolCells L)) (hn : 0 < n) (hp : p + b ≤ n) (hpc : p < cap) :
    ∃ b' off, a = some ⟨b', off, none⟩ ∧ RowAt w (.slice (some ⟨b', off + p, none⟩) b (cap - p)) b (boolCells ((L.drop p).take b)) := by
  obtain ⟨hlen, a', cap', he, h1, h2, h3, hb⟩ := id h
  cases he
  by_cases hpn : p < n
  · obtain ⟨b', off, rfl, hR⟩ := h.cut hn p (p + b) (by omega) hp hpn
    refine ⟨b', off, rfl, ?_⟩
    rw [Nat.add_sub_cancel_left] at hR
    have e : ((boolCells L).drop p).take b = boolCells ((L.drop p).take b) := by simp [boolCells, List.map_drop, List.map_take]
    rw [e] at hR
    exact hR
  · have hb0 : b = 0 := by omega
    subst hb0
    obtain ⟨b', off, rfl, hlt, hc⟩ := hb hn
    exact ⟨b', off, rfl, by simp [boolCells], _, _, rfl, by omega, by omega, by simp, fun h0 => by omega⟩
theorem empty_row {w : World} {a : Option Addr} {n cap p : Nat} {L : List Bool} (h : RowAt w (.slice a n cap) n (boolCells L)) : RowAt w (.slice a 0 cap) 0 (boolCells ((L.drop p).take 0)) := by
  obtain ⟨hlen, a', cap', he, h1, h2, h3, hb⟩ := id h
  cases he
  exact ⟨by simp [boolCells], _, _, rfl, by omega, h2, h3, fun h0 => by omega⟩
theorem empty_row0 (w : World) (a : Option Addr) (L : List Bool) (p : Nat) : RowAt w (.slice a 0 0) 0 (boolCells ((L.drop p).take 0)) := ⟨by simp [boolCells], _, _, rfl, Nat.le_refl _, by unfold maxLen; omega, fun _ => rfl, fun h0 => by omega⟩

/-- What decode returns. -/
def DcE (N : Nw) (L : List Bool) (w : World) (e : Ending) (w' : World) : Prop :=
  (okT N.ns (N.tp L) = false ∧ e = .returned (.tuple #[.slice none 0 0, .bool false]) ∧ Same w w') ∨
  (okT N.ns (N.tp L) = true ∧ ∃ g, e = .returned (.tuple #[.slice (some ⟨g, 0, none⟩) N.As.length N.As.length, .bool true]) ∧ w'.heap[g]? = some (.cells (intCells (natI (N.tp L))).toArray 3 (0, 0)) ∧ w.heap.size ≤ g ∧ Same w w')
/-- The first k numbers of a tuple, and zeros. -/
def tpK (x : List Nat) (m k : Nat) : List Nat := x.take k ++ List.replicate (m - k) 0
theorem tpK_set {x : List Nat} {m k : Nat} (hx : x.length = m) (hk : k < m) : (tpK x m k).set k (x.getD k 0) = tpK x m (k + 1) := by
  unfold tpK
  have hkx : k < x.length := by omega
  have e : m - k = (m - (k + 1)) + 1 := by omega
  rw [e, List.replicate_succ, List.set_append_right _ _ (by rw [List.length_take]; omega), List.length_take]
  have e2 : k - min k x.length = 0 := by omega
  rw [e2, List.set_cons_zero, List.take_succ_eq_append_getElem hkx]
  have e3 : x.getD k 0 = x[k] := by simp [List.getD, hkx]
  rw [e3, List.append_assoc]
  rfl
theorem ok_not {ns x : List Nat} {k : Nat} (hk : k < ns.length) (h : ns.getD k 0 ≤ x.getD k 0) : okT ns x = false := by
  cases e : okT ns x with
  | false => rfl
  | true => have := okT_iff.1 e k hk; omega
theorem ok_all {ns x : List Nat} (h : ∀ i, i < ns.length → x.getD i 0 < ns.getD i 0) : okT ns x = true := okT_iff.2 h
set_option maxRecDepth 100000 in
set_option maxHeartbeats 8000000 in
theorem decode_any (N : Nw) (OK : NetOk N) (L : List Bool) (hL : L.length = N.all) (aL : Option Addr) (cL : Nat) (aT aB : Option Addr) (cT cB : Nat) (w : World) (hat : N.at w) (hly : LyAt N aT aB cT cB w) (hR : RowAt w (.slice aL N.all cL) N.all (boolCells L)) :
    Calls Tryz.prog 110 #[.agg #[.slice aT N.As.length cT, .slice aB N.As.length cB, .int .i64 N.all, .bool N.emp], .agg #[.slice N.aA N.As.length N.cA, .slice N.aO N.o.length N.cO], .slice aL N.all cL] w (DcE N L w) := by
  obtain ⟨i3, hi3, hi3z, hi3s, hi3b⟩ := info_parts info3
  have hm12 := OK.ok.m12
  have h10 := OK.h10
  obtain ⟨m, hmm⟩ : ∃ m, m = N.As.length := ⟨_, rfl⟩
  have hlt : ∀ k, k < m → k < N.As.length := fun k h => hmm ▸ h
  have hRA : ∀ (k : Nat) (hk : k < m) W (hW : Same w W), ∃ b off, N.aA = some ⟨b, off, none⟩ ∧ b < W.heap.size ∧ W.cell? ⟨b, off + k * 4, none⟩ = some (.slice (N.As[k]'(hlt k hk)).aA (N.As[k]'(hlt k hk)).al.length (N.As[k]'(hlt k hk)).cA) ∧ W.cell? ⟨b, off + k * 4 + 1, none⟩ = some (.int .i64 ((N.ns.getD k 0 : Nat) : Int)) ∧
      W.cell? ⟨b, off + k * 4 + 2, none⟩ = some (.slice (N.As[k]'(hlt k hk)).aM (N.As[k]'(hlt k hk)).ma.length (N.As[k]'(hlt k hk)).cM) ∧ W.cell? ⟨b, off + k * 4 + 3, none⟩ = some (.slice (N.As[k]'(hlt k hk)).aE (N.As[k]'(hlt k hk)).es.length (N.As[k]'(hlt k hk)).cE) := fun k hk W hW => by
    have := (hat.au.same hW).row (hlt k hk)
    rw [(OK.ok.n4 (hlt k hk)).2] at this
    exact this
  have hT := fun (k : Nat) (hk : k < N.As.length) W (hW : Same w W) => (hly.t.same hW).row.nat hk
  have hBB := fun (k : Nat) (hk : k < N.As.length) W (hW : Same w W) => (hly.b.same hW).row.nat hk
  have hTe : ∀ k, k < N.As.length → ((List.range N.As.length).map N.at').getD k 0 = N.at' k := fun k hk => by simp [List.getD, hk]
  have hBe : ∀ k, k < N.As.length → ((List.range N.As.length).map N.bs).getD k 0 = N.bs k := fun k hk => by simp [List.getD, hk]
  have hle := fun (k : Nat) (hk : k < N.As.length) => OK.ok.le hk
  have hLr := fun W (hW : Same w W) => hR.same hW
  have hcap : N.all ≤ cL := by
    obtain ⟨_, a', cap', he, h1, _⟩ := hR
    cases he; exact h1
  have DE := fun (k : Nat) (hk : k < N.As.length) (a : Option Addr) (c : Nat) W (h : RowAt W (.slice a (N.bs k) c) (N.bs k) (boolCells ((L.drop (N.at' k)).take (N.bs k)))) => Decode_ok (n := N.ns.getD k 0) ((L.drop (N.at' k)).take (N.bs k)) a (N.bs k) c (OK.ok.n4 hk).1 (by rw [List.length_take, List.length_drop]; have := OK.ok.le hk; omega) rfl W h
  have hsn := fun (k : Nat) (hk : k < N.As.length) => seg_num (N := N) L hk (by have := OK.ok.le hk; omega)
  unfold decR at DE
  have hbad := fun (k : Nat) (hk : k < N.As.length) (h : N.ns.getD k 0 ≤ (N.tp L).getD k 0) => ok_not (ns := N.ns) (x := N.tp L) (by rw [N.ns_len]; exact hk) h
  have hgood := fun (h : ∀ i, i < N.ns.length → (N.tp L).getD i 0 < N.ns.getD i 0) => ok_all h
  have hxl := N.tp_len L
  rw [N.ns_len] at hgood
  unfold DcE
  have hset := fun (k : Nat) (hk : k < N.As.length) => tpK_set (x := N.tp L) hxl hk
  have hx64 : ∀ k, k < N.As.length → N.bs k ≤ 12 := fun k _ => OK.ok.bs12 k
  simp only [← hmm] at hm12 hT hBB hTe hBe hle DE hsn hbad hgood hxl hset hx64 ⊢
  generalize N.tp L = x at *
  generalize okT N.ns x = okx at *
  clear hat hly hR OK hL
  obtain ⟨pf, hpf⟩ : ∃ f : Nat → Nat, f = N.at' := ⟨_, rfl⟩
  obtain ⟨bf, hbf⟩ : ∃ f : Nat → Nat, f = N.bs := ⟨_, rfl⟩
  obtain ⟨nf, hnf⟩ : ∃ f : Nat → Nat, f = fun k => N.ns.getD k 0 := ⟨_, rfl⟩
  have hnf' : ∀ k, N.ns.getD k 0 = nf k := fun k => by rw [hnf]
  simp only [hnf'] at hRA DE hbad hgood
  rw [← hpf] at hT hTe hle hsn DE
  rw [← hbf] at hBB hBe hle hsn DE hx64
  clear hnf hnf' hpf hbf
  generalize N.all = n at *
  generalize N.emp = em at *
  generalize N.aA = aA at *
  generalize N.cA = cA at *
  generalize N.aO = aO at *
  generalize N.cO = cO at *
  generalize N.o.length = qo at *
  generalize N.As = As at *
  clear hmm
  replace hRA := Lib.hid hRA; replace hT := Lib.hid hT; replace hBB := Lib.hid hBB; replace hTe := Lib.hid hTe; replace hBe := Lib.hid hBe; replace hle := Lib.hid hle; replace hLr := Lib.hid hLr; replace DE := Lib.hid DE; replace hsn := Lib.hid hsn; replace hbad := Lib.hid hbad; replace hgood := Lib.hid hgood; replace hxl := Lib.hid hxl; replace hset := Lib.hid hset; replace hx64 := Lib.hid hx64
  go_enter Tryz.func110, Tryz.ntmps110
  go_upto_region 1 with fail
  have kl := heap_old (heap_new w (.cells #[.slice aT m cT, .slice aB m cB, .int .i64 n, .bool em] 124)) (.cells #[.slice aA m cA, .slice aO qo cO] 36)
  have kn := heap_new (w.alloc (.cells #[.slice aT m cT, .slice aB m cB, .int .i64 n, .bool em] 124)) (.cells #[.slice aA m cA, .slice aO qo cO] 36)
  rw [← al1] at kn
  have hs : Same w ((w.alloc (.cells #[.slice aT m cT, .slice aB m cB, .int .i64 n, .bool em] 124)).alloc (.cells #[.slice aA m cA, .slice aO qo cO] 36)) := fs2
  generalize (w.alloc (.cells #[.slice aT m cT, .slice aB m cB, .int .i64 n, .bool em] 124)).alloc (.cells #[.slice aA m cA, .slice aO qo cO] 36) = W0 at *
  replace kl := Lib.hid kl; replace kn := Lib.hid kn; replace hs := Lib.hid hs
  have y0 := cell_at kn.out 0
  have y1 := cell_at kn.out 1
  have yl := lt_of_heap kn.out
  have hmk := fun W => run_mkI (P := Tryz.prog) 31 3 i3 Tryz.underlying31 hi3 hi3z hi3s hi3b m (by omega) W
  go_upto_region 2 with fail
  clear hmk
  have kg := heap_new W0 (.cells (intCells (natI (List.replicate m 0))).toArray 3)
  have sP : Same W0 (W0.alloc (.cells (intCells (natI (List.replicate m 0))).toArray 3)) := fs2
  have hz : w.heap.size + 1 < W0.heap.size := lt_of_heap kn.out
  generalize W0.alloc (.cells (intCells (natI (List.replicate m 0))).toArray 3) = W1 at *
  generalize W0.heap.size = g at *
  have e0 : List.replicate m 0 = tpK x m 0 := by simp [tpK]
  rw [e0] at kg
  clear y0 y1 yl
  replace kl := Lib.hid (sP.at kl.out id)
  replace kn := Lib.hid (sP.at kn.out id)
  have hs1 := hs.out.same sP
  clear sP hs e0
  replace kg := Lib.hid kg; replace hs1 := Lib.hid hs1
  have y0 := cell_at kn.out 0
  have y1 := cell_at kn.out 1
  have yl := lt_of_heap kn.out
  go_wp2_with fail
  clear y0 y1 yl
  go_loopw [21] (fun i wr => ∃ k : Nat, i = .int .i64 k ∧ k ≤ m ∧ wr.heap[g]? = some (.cells (intCells (natI (tpK x m k))).toArray 3 (0, 0)) ∧ (∀ i, i < k → x.getD i 0 < nf i) ∧ Fr (fun q => q = g) W1 wr) (fun i _ => m - (intOf i).toNat)
  case atStart => exact ⟨0, rfl, by omega, kg.out, fun i h => by omega, Fr.refl _ _⟩
  case round =>
    clear kg
    obtain ⟨k, rfl, hk, kg, hup, hf⟩ := hrel
    have hsw : Same w wr := hs1.out.trans hf (fun i hi e => by have : i = g := e; omega)
    have kl1 := hf.at kl.out (fun e => by have : w.heap.size = g := e; omega)
    by_cases hkm : k < m
    · obtain ⟨b0, off0, ha0, hb0, x0, x1, x2, x3⟩ := hRA.out k hkm _ hsw
      obtain ⟨b1, off1, ha1, hb1, y0⟩ := hT.out k hkm _ hsw
      obtain ⟨b2, off2, ha2, hb2, z0⟩ := hBB.out k hkm _ hsw
      rw [hTe.out k hkm] at y0
      rw [hBe.out k hkm] at z0
      have hlek := hle.out k hkm
      have hb12 := hx64.out k hkm
      have hbadk := hbad.out k hkm
      have hsetk := hset.out k hkm
      have DEk := fun a c W h => DE.out k hkm a c W h
      rw [hsn.out k hkm] at DEk
      generalize (As[k]'(hlt k hkm)).aA = fA at *
      generalize (As[k]'(hlt k hkm)).al.length = qA at *
      generalize (As[k]'(hlt k hkm)).cA = gA at *
      generalize (As[k]'(hlt k hkm)).aM = fM at *
      generalize (As[k]'(hlt k hkm)).ma.length = qM at *
      generalize (As[k]'(hlt k hkm)).cM = gM at *
      generalize (As[k]'(hlt k hkm)).aE = fE at *
      generalize (As[k]'(hlt k hkm)).es.length = qE at *
      generalize (As[k]'(hlt k hkm)).cE = gE at *
      obtain ⟨nk, hnk⟩ : ∃ q, q = nf k := ⟨_, rfl⟩
      obtain ⟨xk, hxk⟩ : ∃ q, q = x.getD k 0 := ⟨_, rfl⟩
      rw [← hnk] at x1 hbadk DEk
      rw [← hxk] at hbadk hsetk DEk
      generalize pf k = p at *
      generalize bf k = b at *
      subst ha0 ha1 ha2
      replace kg := Lib.hid kg; replace hup := Lib.hid hup; replace hf := Lib.hid hf; replace hsw := Lib.hid hsw; replace kl1 := Lib.hid kl1; replace hbadk := Lib.hid hbadk; replace hsetk := Lib.hid hsetk; replace DEk := Lib.hid DEk; replace hnk := Lib.hid hnk; replace hxk := Lib.hid hxk
      go_upto_region 5 with fail
      have ka := heap_new wr (.cells #[.slice fA qA gA, .int .i64 nk, .slice fM qM gM, .slice fE qE gE] 44)
      have sP : Same wr (wr.alloc (.cells #[.slice fA qA gA, .int .i64 nk, .slice fM qM gM, .slice fE qE gE] 44)) := fs2
      have y0 := sP.cell? ⟨b1, off1 + k, none⟩ hb1 y0
      have z0 := sP.cell? ⟨b2, off2 + k, none⟩ hb2 z0
      have hb1 := Nat.lt_of_lt_of_le hb1 sP.size
      have hb2 := Nat.lt_of_lt_of_le hb2 sP.size
      clear x0 x1 x2 x3 hb0
      generalize wr.alloc (.cells #[.slice fA qA gA, .int .i64 nk, .slice fM qM gM, .slice fE qE gE] 44) = W2 at *
      generalize wr.heap.size = ba at *
      replace kg := Lib.hid (sP.at kg.out id)
      replace kl1 := Lib.hid (sP.at kl1.out id)
      replace hf := Lib.hid (hf.out.same sP)
      replace hsw := Lib.hid (hsw.out.same sP)
      clear sP
      replace ka := Lib.hid ka
      have u0 := cell_at ka.out 0
      have u1 := cell_at ka.out 1
      have u2 := cell_at ka.out 2
      have u3 := cell_at ka.out 3
      have ul := lt_of_heap ka.out
      have v0 := cell_at kl1.out 0
      have v1 := cell_at kl1.out 1
      have v2 := cell_at kl1.out 2
      have v3 := cell_at kl1.out 3
      have vl := lt_of_heap kl1.out
      obtain ⟨h, hh⟩ : ∃ h, h = p + b := ⟨_, rfl⟩
      have e1 : IntKind.i64.wrap ((p : Int) + (b : Int)) = ((h : Nat) : Int) := by rw [IntWalk.i64_in _ (by omega)]; omega
      have e2 : (0 : Int) ≤ (p : Int) := by omega
      have e3 : (p : Int) ≤ (h : Int) := by omega
      have e4 : (h : Int) ≤ (cL : Int) := by omega
      have e5 : h ≤ cL := by omega
      have e6 : p ≤ h := by omega
      have e8 : h - p = b := by omega
      have hLr2 := hLr.out _ hsw.out
      have htl : (tpK x m k).length = m := by have := hxl.out; simp [tpK]; omega
      replace hLr2 := Lib.hid hLr2; replace hh := Lib.hid hh
      by_cases hpc : cL = p
      · have hh := hh.out
        obtain rfl : b = 0 := by omega
        obtain rfl : cL = p := hpc
        obtain rfl : cL = h := by omega
        clear e1 e2 e3 e4 e5 e6 e8 hh
        have hc9 : (cL : Int) ≤ 9223372036854775807 := by have := hLr2.out; obtain ⟨_, a9, c9, he9, _, h9, _⟩ := this; cases he9; unfold maxLen at h9; omega
        have e1 : IntKind.i64.wrap (cL : Int) = ((cL : Nat) : Int) := IntWalk.i64_in _ (by omega)
        have e2 : (0 : Int) ≤ (cL : Int) := by omega
        refine wp_region_sched (fun q => q = ba ∨ q = w.heap.size ∨ q = b1 ∨ q = b2) [0, 1, 0, 0, 1, 0, 0, 1, 0, 1, 0, 0, 1, 0, 1, 0, 0, 1, 0, 0, 2, 0, 0, 0, 0, 0, 0, 0] [0, 2, 3, 5, 8, 10, 13, 15, 1, 4, 6, 7, 9, 11, 12, 14, 16, 17, 18, 19, 20, 21, 22, 23, 24, 25, 26, 27] (by kernel_rfl) (by kernel_rfl) ?_
        repeat (first | (refine sched_w rfl rfl (fun _ hK => ?_); go_simp; refine hK _ ?_; clear hK) | (refine sched_s rfl rfl (fun _ hK => ?_); go_simp; first | (refine hK _ ?_; clear hK) | (refine ⟨_, fun _ => rfl, hK _ ?_⟩; clear hK)))
        refine sched_g rfl rfl (fun _ hK => ?_)
        go_simp
        refine (DEk.out _ _ _ (empty_row0 _ _ L _)).mono ?_
        rintro e wu1 ⟨he, s5⟩
        by_cases hx : xk < nk
        · rw [if_pos hx] at he
          subst he
          refine hK _ _ (Kp.of_same s5) ?_
          clear hK
          have sP := (show Same W2 _ from fs3).same s5
          (try simp only [Act.put, List.setIfInBounds_toArray, List.set_cons_zero, List.set_cons_succ])
          repeat (first | (refine sched_w rfl rfl (fun _ hK => ?_); go_simp; refine hK _ ?_; clear hK) | (refine sched_s rfl rfl (fun _ hK => ?_); go_simp; first | (refine hK _ ?_; clear hK) | (refine ⟨_, fun _ => rfl, hK _ ?_⟩; clear hK)))
          refine sched_nil (NoPanic.normal ?_)
          replace kg := Lib.hid (sP.at kg.out id)
          have hf5 := hf.out.same sP
          clear s5 sP
          replace hf5 := Lib.hid hf5; replace hx := Lib.hid hx
          go_upto_region 8 with fail
          have u0 := cell_at kg.out 0
          have u1 := cell_at kg.out 1
          have ul := lt_of_heap kg.out
          have t0 : wu1.cell? ⟨g, k, none⟩ = some (.int .i64 ((tpK x m k).getD k 0 : Nat)) := by rw [cell_at kg.out]; simp [intCells, natI, List.getD, htl, hkm]
          have t1 := free_at kg.out k
          have t2 := lt_of_heap kg.out
          have hf9 := hf5.out.setCell ⟨g, k, none⟩ (.int .i64 xk) (fun _ => rfl)
          have hg9 : (wu1.setCell ⟨g, k, none⟩ (.int .i64 xk)).heap[g]? = some (.cells (intCells (natI (tpK x m (k + 1)))).toArray 3 (0, 0)) := by
            rw [heap_setCell_same kg.out]
            simp only [intCells_set, natI_set, hsetk.out]
          replace hf9 := Lib.hid hf9; replace hg9 := Lib.hid hg9
          go_wp2_with fail
          go_roundw
          case rel =>
            refine ⟨k + 1, by go_num, by omega, hg9.out, fun i hi => ?_, hf9.out.same fs2⟩
            rcases Nat.lt_succ_iff_lt_or_eq.1 hi with h9 | rfl
            · exact hup.out i h9
            · rw [← hxk.out, ← hnk.out]; exact hx.out
          case measure => simp [intOf]; omega
        · rw [if_neg hx] at he
          subst he
          refine hK _ _ (Kp.of_same s5) ?_
          clear hK
          have sP := (show Same W2 _ from fs3).same s5
          (try simp only [Act.put, List.setIfInBounds_toArray, List.set_cons_zero, List.set_cons_succ])
          repeat (first | (refine sched_w rfl rfl (fun _ hK => ?_); go_simp; refine hK _ ?_; clear hK) | (refine sched_s rfl rfl (fun _ hK => ?_); go_simp; first | (refine hK _ ?_; clear hK) | (refine ⟨_, fun _ => rfl, hK _ ?_⟩; clear hK)))
          refine sched_nil (NoPanic.normal ?_)
          have hsw5 := hsw.out.same sP
          have hbb := hbadk.out (by omega)
          clear s5 sP
          replace hsw5 := Lib.hid hsw5; replace hx := Lib.hid hx; replace hbb := Lib.hid hbb
          go_wp2_with fail
          go_ret2
          exact Or.inl ⟨hbb.out, rfl, hsw5.out.same fs3⟩
      by_cases hn0 : 0 < n
      · obtain ⟨b3, off3, rfl, hcut⟩ := cut_row hLr2.out hn0 hlek (by omega)
        replace hcut := Lib.hid hcut
        refine wp_region_sched (fun q => q = ba ∨ q = w.heap.size ∨ q = b1 ∨ q = b2) [0, 1, 0, 0, 1, 0, 0, 1, 0, 1, 0, 0, 1, 0, 1, 0, 0, 1, 0, 0, 2, 0, 0, 0, 0, 0, 0, 0] [0, 2, 3, 5, 8, 10, 13, 15, 1, 4, 6, 7, 9, 11, 12, 14, 16, 17, 18, 19, 20, 21, 22, 23, 24, 25, 26, 27] (by kernel_rfl) (by kernel_rfl) ?_
        repeat (first | (refine sched_w rfl rfl (fun _ hK => ?_); go_simp; refine hK _ ?_; clear hK) | (refine sched_s rfl rfl (fun _ hK => ?_); go_simp; first | (refine hK _ ?_; clear hK) | (refine ⟨_, fun _ => rfl, hK _ ?_⟩; clear hK)))
        refine sched_g rfl rfl (fun _ hK => ?_)
        go_simp
        refine (DEk.out _ _ _ (hcut.out.same fs3)).mono ?_
        rintro e wu1 ⟨he, s5⟩
        by_cases hx : xk < nk
        · rw [if_pos hx] at he
          subst he
          refine hK _ _ (Kp.of_same s5) ?_
          clear hK
          have sP := (show Same W2 _ from fs3).same s5
          (try simp only [Act.put, List.setIfInBounds_toArray, List.set_cons_zero, List.set_cons_succ])
          repeat (first | (refine sched_w rfl rfl (fun _ hK => ?_); go_simp; refine hK _ ?_; clear hK) | (refine sched_s rfl rfl (fun _ hK => ?_); go_simp; first | (refine hK _ ?_; clear hK) | (refine ⟨_, fun _ => rfl, hK _ ?_⟩; clear hK)))
          refine sched_nil (NoPanic.normal ?_)
          replace kg := Lib.hid (sP.at kg.out id)
          have hf5 := hf.out.same sP
          clear s5 sP
          replace hf5 := Lib.hid hf5; replace hx := Lib.hid hx
          go_upto_region 8 with fail
          have u0 := cell_at kg.out 0
          have u1 := cell_at kg.out 1
          have ul := lt_of_heap kg.out
          have t0 : wu1.cell? ⟨g, k, none⟩ = some (.int .i64 ((tpK x m k).getD k 0 : Nat)) := by rw [cell_at kg.out]; simp [intCells, natI, List.getD, htl, hkm]
          have t1 := free_at kg.out k
          have t2 := lt_of_heap kg.out
          have hf9 := hf5.out.setCell ⟨g, k, none⟩ (.int .i64 xk) (fun _ => rfl)
          have hg9 : (wu1.setCell ⟨g, k, none⟩ (.int .i64 xk)).heap[g]? = some (.cells (intCells (natI (tpK x m (k + 1)))).toArray 3 (0, 0)) := by
            rw [heap_setCell_same kg.out]
            simp only [intCells_set, natI_set, hsetk.out]
          replace hf9 := Lib.hid hf9; replace hg9 := Lib.hid hg9
          go_wp2_with fail
          go_roundw
          case rel =>
            refine ⟨k + 1, by go_num, by omega, hg9.out, fun i hi => ?_, hf9.out.same fs2⟩
            rcases Nat.lt_succ_iff_lt_or_eq.1 hi with h9 | rfl
            · exact hup.out i h9
            · rw [← hxk.out, ← hnk.out]; exact hx.out
          case measure => simp [intOf]; omega
        · rw [if_neg hx] at he
          subst he
          refine hK _ _ (Kp.of_same s5) ?_
          clear hK
          have sP := (show Same W2 _ from fs3).same s5
          (try simp only [Act.put, List.setIfInBounds_toArray, List.set_cons_zero, List.set_cons_succ])
          repeat (first | (refine sched_w rfl rfl (fun _ hK => ?_); go_simp; refine hK _ ?_; clear hK) | (refine sched_s rfl rfl (fun _ hK => ?_); go_simp; first | (refine hK _ ?_; clear hK) | (refine ⟨_, fun _ => rfl, hK _ ?_⟩; clear hK)))
          refine sched_nil (NoPanic.normal ?_)
          have hsw5 := hsw.out.same sP
          have hbb := hbadk.out (by omega)
          clear s5 sP
          replace hsw5 := Lib.hid hsw5; replace hx := Lib.hid hx; replace hbb := Lib.hid hbb
          go_wp2_with fail
          go_ret2
          exact Or.inl ⟨hbb.out, rfl, hsw5.out.same fs3⟩
      · have hh := hh.out
        obtain rfl : p = 0 := by omega
        obtain rfl : h = 0 := by omega
        obtain rfl : b = 0 := by omega
        clear e1 e2 e3 e4 e5 e6 e8 hh hn0
        have e1 : IntKind.i64.wrap 0 = 0 := rfl
        refine wp_region_sched (fun q => q = ba ∨ q = w.heap.size ∨ q = b1 ∨ q = b2) [0, 1, 0, 0, 1, 0, 0, 1, 0, 1, 0, 0, 1, 0, 1, 0, 0, 1, 0, 0, 2, 0, 0, 0, 0, 0, 0, 0] [0, 2, 3, 5, 8, 10, 13, 15, 1, 4, 6, 7, 9, 11, 12, 14, 16, 17, 18, 19, 20, 21, 22, 23, 24, 25, 26, 27] (by kernel_rfl) (by kernel_rfl) ?_
        repeat (first | (refine sched_w rfl rfl (fun _ hK => ?_); go_simp; refine hK _ ?_; clear hK) | (refine sched_s rfl rfl (fun _ hK => ?_); go_simp; first | (refine hK _ ?_; clear hK) | (refine ⟨_, fun _ => rfl, hK _ ?_⟩; clear hK)))
        refine sched_g rfl rfl (fun _ hK => ?_)
        go_simp
        refine (DEk.out _ _ _ (empty_row (hLr2.out.same fs3))).mono ?_
        rintro e wu1 ⟨he, s5⟩
        by_cases hx : xk < nk
        · rw [if_pos hx] at he
          subst he
          refine hK _ _ (Kp.of_same s5) ?_
          clear hK
          have sP := (show Same W2 _ from fs3).same s5
          (try simp only [Act.put, List.setIfInBounds_toArray, List.set_cons_zero, List.set_cons_succ])
          repeat (first | (refine sched_w rfl rfl (fun _ hK => ?_); go_simp; refine hK _ ?_; clear hK) | (refine sched_s rfl rfl (fun _ hK => ?_); go_simp; first | (refine hK _ ?_; clear hK) | (refine ⟨_, fun _ => rfl, hK _ ?_⟩; clear hK)))
          refine sched_nil (NoPanic.normal ?_)
          replace kg := Lib.hid (sP.at kg.out id)
          have hf5 := hf.out.same sP
          clear s5 sP
          replace hf5 := Lib.hid hf5; replace hx := Lib.hid hx
          go_upto_region 8 with fail
          have u0 := cell_at kg.out 0
          have u1 := cell_at kg.out 1
          have ul := lt_of_heap kg.out
          have t0 : wu1.cell? ⟨g, k, none⟩ = some (.int .i64 ((tpK x m k).getD k 0 : Nat)) := by rw [cell_at kg.out]; simp [intCells, natI, List.getD, htl, hkm]
          have t1 := free_at kg.out k
          have t2 := lt_of_heap kg.out
          have hf9 := hf5.out.setCell ⟨g, k, none⟩ (.int .i64 xk) (fun _ => rfl)
          have hg9 : (wu1.setCell ⟨g, k, none⟩ (.int .i64 xk)).heap[g]? = some (.cells (intCells (natI (tpK x m (k + 1)))).toArray 3 (0, 0)) := by
            rw [heap_setCell_same kg.out]
            simp only [intCells_set, natI_set, hsetk.out]
          replace hf9 := Lib.hid hf9; replace hg9 := Lib.hid hg9
          go_wp2_with fail
          go_roundw
          case rel =>
            refine ⟨k + 1, by go_num, by omega, hg9.out, fun i hi => ?_, hf9.out.same fs2⟩
            rcases Nat.lt_succ_iff_lt_or_eq.1 hi with h9 | rfl
            · exact hup.out i h9
            · rw [← hxk.out, ← hnk.out]; exact hx.out
          case measure => simp [intOf]; omega
        · rw [if_neg hx] at he
          subst he
          refine hK _ _ (Kp.of_same s5) ?_
          clear hK
          have sP := (show Same W2 _ from fs3).same s5
          (try simp only [Act.put, List.setIfInBounds_toArray, List.set_cons_zero, List.set_cons_succ])
          repeat (first | (refine sched_w rfl rfl (fun _ hK => ?_); go_simp; refine hK _ ?_; clear hK) | (refine sched_s rfl rfl (fun _ hK => ?_); go_simp; first | (refine hK _ ?_; clear hK) | (refine ⟨_, fun _ => rfl, hK _ ?_⟩; clear hK)))
          refine sched_nil (NoPanic.normal ?_)
          have hsw5 := hsw.out.same sP
          have hbb := hbadk.out (by omega)
          clear s5 sP
          replace hsw5 := Lib.hid hsw5; replace hx := Lib.hid hx; replace hbb := Lib.hid hbb
          go_wp2_with fail
          go_ret2
          exact Or.inl ⟨hbb.out, rfl, hsw5.out.same fs3⟩
    · obtain rfl : k = m := by omega
      have hgd := hgood.out hup
      have hsE := Lib.hid (hs1.out.trans hf (fun i hi e => by have : i = g := e; omega))
      have htk : tpK x k k = x := by simp [tpK, List.take_of_length_le (Nat.le_of_eq hxl.out)]
      rw [htk] at kg
      go_wp2_with fail
      go_ret2
      exact Or.inr ⟨hgd, g, rfl, kg, by omega, hsE.out⟩

/-- What Decode returns. -/
def DkE (N : Nw) (L : List Bool) (w : World) (e : Ending) (w' : World) : Prop :=
  (L.length ≠ N.all ∧ e = .returned (.tuple #[.slice none 0 0, .bool false, .int .i64 4]) ∧ Same w w') ∨
  (L.length = N.all ∧ okT N.ns (N.tp L) = false ∧ e = .returned (.tuple #[.slice none 0 0, .bool false, .int .i64 0]) ∧ Same w w') ∨
  (L.length = N.all ∧ okT N.ns (N.tp L) = true ∧ ∃ g, e = .returned (.tuple #[.slice (some ⟨g, 0, none⟩) N.As.length N.As.length, .bool true, .int .i64 0]) ∧ w'.heap[g]? = some (.cells (intCells (natI (N.tp L))).toArray 3 (0, 0)) ∧ w.heap.size ≤ g ∧ Same w w')
set_option maxRecDepth 100000 in
set_option maxHeartbeats 8000000 in
theorem Decode_net (N : Nw) (OK : NetOk N) (L : List Bool) (nL : Nat) (hL : L.length = nL) (aL : Option Addr) (cL : Nat) (w : World) (hat : N.at w) (hR : RowAt w (.slice aL nL cL) nL (boolCells L)) :
    Calls Tryz.prog 43 #[.agg #[.slice N.aA N.As.length N.cA, .slice N.aO N.o.length N.cO], .slice aL nL cL] w (DkE N L w) := by
  have PL := fun W (hW : Same w W) => OK.place W (hat.same hW)
  have VA := fun (h : nL = N.all) aT aB cT cB W (hW : Same w W) (hly : LyAt N aT aB cT cB W) => decode_any N OK L (hL.trans h) aL cL aT aB cT cB W (hat.same hW) hly (by have := hR.same hW; rw [h] at this; exact this)
  obtain ⟨Q, hQ⟩ : ∃ Q, Q = DkE N L w := ⟨_, rfl⟩
  rw [← hQ]
  have hQ1 : ∀ e w', DkE N L w e w' → Q e w' := fun e w' h => by rw [hQ]; exact h
  clear hQ
  unfold DkE at hQ1
  unfold DcE at VA
  rw [hL] at hQ1
  have hn9 : nL ≤ maxLen := by obtain ⟨_, a9, c9, he9, h8, h9, _⟩ := hR; omega
  generalize okT N.ns (N.tp L) = okx at *
  generalize natI (N.tp L) = xs at *
  clear hat OK hR hL
  unfold maxLen at hn9
  generalize N.all = n at *
  generalize N.emp = em at *
  generalize N.As.length = m at *
  generalize N.o.length = qo at *
  generalize N.aA = aA at *
  generalize N.cA = cA at *
  generalize N.aO = aO at *
  generalize N.cO = cO at *
  replace PL := Lib.hid PL; replace VA := Lib.hid VA; replace hQ1 := Lib.hid hQ1
  go_enter Tryz.func43, Tryz.ntmps43
  go_upto_region 1 with fail
  have kn := heap_new w (.cells #[.slice aA m cA, .slice aO qo cO] 36)
  have hs : Same w (w.alloc (.cells #[.slice aA m cA, .slice aO qo cO] 36)) := fs2
  generalize w.alloc (.cells #[.slice aA m cA, .slice aO qo cO] 36) = W0 at *
  replace kn := Lib.hid kn; replace hs := Lib.hid hs
  have y0 := cell_at kn.out 0
  have y1 := cell_at kn.out 1
  have yl := lt_of_heap kn.out
  go_wp2_with fail
  refine (PL.out _ hs.out).mono ?_
  rintro e w1 ⟨aT, aB, cT, cB, rfl, hly, s1⟩
  clear y0 y1 yl
  have hbl : w.heap.size < w1.heap.size := by have h9 := lt_of_heap kn.out; have h8 := s1.size; omega
  replace kn := Lib.hid (s1.at kn.out id)
  have hs1 := hs.out.same s1
  clear s1
  replace hly := Lib.hid hly; replace hs1 := Lib.hid hs1
  go_upto_region 2 with fail
  have kl := heap_new w1 (.cells #[.slice aT m cT, .slice aB m cB, .int .i64 n, .bool em] 124)
  have s2 : Same w1 (w1.alloc (.cells #[.slice aT m cT, .slice aB m cB, .int .i64 n, .bool em] 124)) := fs2
  have hly2 := hly.out.same s2
  replace kn := Lib.hid (s2.at kn.out id)
  have hs2 := hs1.out.same s2
  clear s2 hly hs1 hs
  generalize w1.alloc (.cells #[.slice aT m cT, .slice aB m cB, .int .i64 n, .bool em] 124) = W1 at *
  generalize w1.heap.size = bl at *
  replace kl := Lib.hid kl; replace hly2 := Lib.hid hly2; replace hs2 := Lib.hid hs2
  have x0 := cell_at kl.out 0
  have x1 := cell_at kl.out 1
  have x2 := cell_at kl.out 2
  have x3 := cell_at kl.out 3
  have xl := lt_of_heap kl.out
  have y0 := cell_at kn.out 0
  have y1 := cell_at kn.out 1
  have yl := lt_of_heap kn.out
  by_cases hn : nL = n
  · subst hn
    have VA2 := VA.out rfl
    clear VA
    replace VA2 := Lib.hid VA2
    go_wp2_with fail
    refine (VA2.out _ _ _ _ _ hs2.out hly2.out).mono ?_
    rintro e w4 (⟨h1, rfl, s4⟩ | ⟨h1, g, rfl, hB, hg, s4⟩)
    · clear x0 x1 x2 x3 xl
      clear y0 y1 yl
      have hs4 := hs2.out.same s4
      clear s4 hs2 hly2
      replace hs4 := Lib.hid hs4; replace h1 := Lib.hid h1
      go_wp2_with fail
      go_ret3
      exact hQ1.out _ _ (Or.inr (Or.inl ⟨by trivial, h1.out, rfl, hs4.out.same fs2⟩))
    · clear x0 x1 x2 x3 xl
      clear y0 y1 yl
      have hs4 := hs2.out.same s4
      have hg2 : w.heap.size ≤ g := Nat.le_trans hs2.out.size hg
      clear s4 hs2 hly2 hg
      replace hB := Lib.hid hB; replace hg2 := Lib.hid hg2; replace hs4 := Lib.hid hs4; replace h1 := Lib.hid h1
      go_wp2_with fail
      go_ret3
      exact hQ1.out _ _ (Or.inr (Or.inr ⟨by trivial, h1.out, g, rfl, hB.out, hg2.out, hs4.out.same fs2⟩))
  · have hn1 : ((nL : Int) = (n : Int)) = False := by simp; omega
    go_wp2_with fail
    go_ret3
    exact hQ1.out _ _ (Or.inl ⟨hn, rfl, hs2.out.same fs2⟩)
end Go.Proofs.YtknlkcfnfjchdaaGreat
