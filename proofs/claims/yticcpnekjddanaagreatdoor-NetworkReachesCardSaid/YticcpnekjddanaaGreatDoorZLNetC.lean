/-  -/
import Derived.Test.YticcpnekjddanaaGreatDoorZMchI
import Derived.Laws.CopyOwn
import Derived.Test.YticcpnekjddanaaGreatDoorZIdxG
set_option maxRecDepth 100000
set_option maxHeartbeats 8000000
set_option linter.unusedVariables false
set_option linter.unusedSimpArgs false
namespace Go.Proofs.YticcpnekjddanaaGreatDoor
open Go.RowKit
theorem Fr.cell? {w w' : World} (h : qad w w') (p : Addr) {v : Value} (hp : p.block < w.heap.size) (hc : w.cell? p = some v) : w'.cell? p = some v := by
 unfold World.cell? at hc ⊢
 rw [h.block p.block hp id]
 exact hc
def ql7 (L : List Bool) (off : Nat) (cs : List Bool) : List Bool := L.take off ++ (cs ++ L.drop (off + cs.length))
theorem qpw {L cs : List Bool} {off : Nat} (h : off + cs.length ≤ L.length) : (ql7 L off cs).length = L.length := by simp [ql7]; omega
theorem splB_in {L cs : List Bool} {off v : Nat} (h : off + cs.length ≤ L.length) (h1 : off ≤ v) (h2 : v < off + cs.length) : (ql7 L off cs).getD v false = cs.getD (v - off) false := by
 unfold ql7
 simp only [List.getD_eq_getElem?_getD]
 rw [List.getElem?_append_right (by simp; omega), List.getElem?_append_left (by simp; omega)]
 simp only [List.length_take]
 congr 2
 omega
theorem qpx {L cs : List Bool} {off v : Nat} (h : off + cs.length ≤ L.length) (h1 : v < off ∨ off + cs.length ≤ v) : (ql7 L off cs).getD v false = L.getD v false := by
 unfold ql7
 simp only [List.getD_eq_getElem?_getD]
 rcases h1 with h1 | h1
 · rw [List.getElem?_append_left (by simp; omega), List.getElem?_take, if_pos h1]
 · rw [List.getElem?_append_right (by simp; omega), List.getElem?_append_right (by simp; omega), List.getElem?_drop]
   simp only [List.length_take]
   congr 2
   omega
theorem qkU (bs : Nat → Nat) (x : List Nat) : ∀ {o : List Nat}, o.Nodup → ∀ {i u : Nat}, i ∈ o → u < bs i → (qbl bs o x).getD (atB bs o i + u) false = (qhh (bs i) (x.getD i 0)).getD u false
 | j :: l, hn, i, u, hi, hu => by
  have hnd := List.nodup_cons.1 hn
  rw [qdA, atB]
  simp only [List.getD_eq_getElem?_getD]
  by_cases e : i = j
  · subst e
    rw [if_pos rfl, Nat.zero_add, List.getElem?_append_left (by rw [qbM]; exact hu)]
  · rw [if_neg e, List.getElem?_append_right (by rw [qbM]; omega), qbM]
    have := qkU bs x hnd.2 (i := i) (u := u) (by rcases List.mem_cons.1 hi with h | h; exact absurd h e; exact h) hu
    simp only [List.getD_eq_getElem?_getD] at this
    rw [← this]
    congr 2
    omega
theorem qhB (L cs : List Bool) (off : Nat) : (gz L).take off ++ (gz cs ++ (gz L).drop (off + (gz cs).length)) = gz (ql7 L off cs) := by
 simp [gz, ql7, List.map_take, List.map_drop]
theorem qpy (L : List Bool) (off : Nat) : ql7 L off [] = L := by simp [ql7]
theorem qn4 : (Tryz.prog.info? 4).map (·.size) = some 1 := by kernel_rfl
def Nw.encO (N : Nw) (x : List Nat) : Nat → List Bool
 | 0 => List.replicate N.all false
 | k + 1 => ql7 (N.encO x k) (N.at' k) (qhh (N.bs k) (x.getD k 0))
theorem qbs.encO_len {N : Nw} (h : qbs N) (x : List Nat) : ∀ k, k ≤ N.As.length → (N.encO x k).length = N.all
 | 0, _ => by simp [Nw.encO]
 | k + 1, hk => by
  have ih := h.encO_len x k (by omega)
  have := h.le (i := k) (by omega)
  rw [Nw.encO, qpw (by rw [qbM, ih]; exact this), ih]
theorem qbs.encO_get {N : Nw} (h : qbs N) (x : List Nat) : ∀ k, k ≤ N.As.length → ∀ i, i < k → ∀ u, u < N.bs i → (N.encO x k).getD (N.at' i + u) false = (qhh (N.bs i) (x.getD i 0)).getD u false
 | 0, _, i, hi, _, _ => by omega
 | k + 1, hk, i, hi, u, hu => by
  have hl := h.encO_len x k (by omega)
  have hle := h.le (i := k) (by omega)
  rw [Nw.encO]
  by_cases e : i = k
  · subst e
    rw [splB_in (by rw [qbM, hl]; exact hle) (by omega) (by rw [qbM]; omega)]
    congr 1
    omega
  · rw [qpx (by rw [qbM, hl]; exact hle)]
    · exact h.encO_get x k (by omega) i (by omega) u hu
    · rw [qbM]
      have := qqj N.bs ((h.pm.mem i).2 (by omega)) ((h.pm.mem k).2 (by omega)) e
      show N.at' i + u < N.at' k ∨ N.at' k + N.bs k ≤ N.at' i + u
      unfold Nw.at'
      omega
theorem qbs.encO_end {N : Nw} (h : qbs N) (x : List Nat) : N.encO x N.As.length = qbl N.bs N.on x := by
 have h1 := h.encO_len x N.As.length (Nat.le_refl _)
 have h2 : (qbl N.bs N.on x).length = N.all := qcb _ _ _
 refine qb6 h1 h2 (fun v hv => ?_)
 obtain ⟨i, hi, a1, a2⟩ := qin N.bs h.pm.nodup (v := v) hv
 have e : v = N.at' i + (v - N.at' i) := by unfold Nw.at'; omega
 have hu : v - N.at' i < N.bs i := by unfold Nw.at'; omega
 rw [e, h.encO_get x _ (Nat.le_refl _) i ((h.pm.mem i).1 hi) _ hu]
 exact (qkU N.bs x h.pm.nodup hi hu).symm
theorem qn5 (N : Nw) (OK : qby N) (x : List Nat) (aX : Option Addr) (cX : Nat) (aT aB : Option Addr) (cT cB : Nat) (w : World) (hat : N.at w) (hly : qgz N aT aB cT cB w) (hxl : x.length = N.As.length) (hx : ∀ i, i < N.As.length → x.getD i 0 < N.ns.getD i 0) (hX : qan w (.slice aX N.As.length cX) N.As.length (gw (qaz x))) :
 Calls Tryz.prog 44 #[.agg #[.slice aT N.As.length cT, .slice aB N.As.length cB, .int .i64 N.all, .bool N.emp], .agg #[.slice N.aA N.As.length N.cA, .slice N.aO N.o.length N.cO], .slice aX N.As.length cX] w fun e w' => ∃ g, e = .returned (.tuple #[.slice (some ⟨g, 0, none⟩) N.all N.all, .int .i64 0]) ∧ qa9 w' g (qbl N.bs N.on x) ∧ w.heap.size ≤ g ∧ qad w w' := by
 have hm12 := OK.ok.m12
 have h10 := OK.h10
 have hR : ∀ (k : Nat) (hk : k < N.As.length) W (hW : qad w W), ∃ b off, N.aA = some ⟨b, off, none⟩ ∧ b < W.heap.size ∧ W.cell? ⟨b, off + k * 4, none⟩ = some (.slice N.As[k].aA N.As[k].al.length N.As[k].cA) ∧ W.cell? ⟨b, off + k * 4 + 1, none⟩ = some (.int .i64 ((N.ns.getD k 0 : Nat) : Int)) ∧
  W.cell? ⟨b, off + k * 4 + 2, none⟩ = some (.slice N.As[k].aM N.As[k].ma.length N.As[k].cM) ∧ W.cell? ⟨b, off + k * 4 + 3, none⟩ = some (.slice N.As[k].aE N.As[k].es.length N.As[k].cE) := fun k hk W hW => by
  have := (hat.au.same hW).row hk
  rw [(OK.ok.n4 hk).2] at this
  exact this
 have hXr := fun (k : Nat) (hk : k < N.As.length) W (hW : qad w W) => (hX.same hW).nat hk
 have hT := fun (k : Nat) (hk : k < N.As.length) W (hW : qad w W) => (hly.t.same hW).row.nat hk
 have hTe : ∀ k, k < N.As.length → ((List.range N.As.length).map N.at').getD k 0 = N.at' k := fun k hk => by simp [List.getD, hk]
 have EN := fun (k : Nat) (hk : k < N.As.length) W => qmV (n := N.ns.getD k 0) (s := x.getD k 0) (OK.ok.n4 hk).1 (hx k hk) W
 have hbe : ∀ k, qa1 (N.ns.getD k 0) = N.bs k := fun _ => rfl
 simp only [hbe] at EN
 have hle := fun (k : Nat) (hk : k < N.As.length) => OK.ok.le hk
 have hOl := fun (k : Nat) (hk : k ≤ N.As.length) => OK.ok.encO_len x k hk
 have hOs : ∀ k, N.encO x (k + 1) = ql7 (N.encO x k) (N.at' k) (qhh (N.bs k) (x.getD k 0)) := fun _ => rfl
 have hO0 : N.encO x 0 = List.replicate N.all false := rfl
 have hOe := OK.ok.encO_end x
 have hel : ∀ k, (qhh (N.bs k) (x.getD k 0)).length = N.bs k := fun k => qbM _ _
 generalize qbl N.bs N.on x = CO at *
 obtain ⟨i3, hi3, hi3z, hi3s, hi3b⟩ := info_parts qmF
 clear hat hly hx hX hxl hbe
 generalize N.aA = aA at *
 generalize N.cA = cA at *
 generalize N.aO = aO at *
 generalize N.cO = cO at *
 generalize N.o.length = qo at *
 generalize N.emp = em at *
 generalize hnn : N.all = n at *
 replace hR := gi hR; replace hXr := gi hXr; replace hT := gi hT; replace hTe := gi hTe; replace EN := gi EN; replace hle := gi hle; replace hOl := gi hOl; replace hOs := gi hOs; replace hO0 := gi hO0; replace hOe := gi hOe; replace hel := gi hel; replace hnn := gi hnn
 go_enter Tryz.func44, Tryz.ntmps44
 go_upto_region 1 with fail
 have kl := qab (gv w (.cells #[.slice aT N.As.length cT, .slice aB N.As.length cB, .int .i64 n, .bool em] 92)) (.cells #[.slice aA N.As.length cA, .slice aO qo cO] 35)
 have kn := gv (w.alloc (.cells #[.slice aT N.As.length cT, .slice aB N.As.length cB, .int .i64 n, .bool em] 92)) (.cells #[.slice aA N.As.length cA, .slice aO qo cO] 35)
 rw [← al1] at kn
 have hs : qad w ((w.alloc (.cells #[.slice aT N.As.length cT, .slice aB N.As.length cB, .int .i64 n, .bool em] 92)).alloc (.cells #[.slice aA N.As.length cA, .slice aO qo cO] 35)) := fs2
 generalize (w.alloc (.cells #[.slice aT N.As.length cT, .slice aB N.As.length cB, .int .i64 n, .bool em] 92)).alloc (.cells #[.slice aA N.As.length cA, .slice aO qo cO] 35) = W0 at *
 replace kl := gi kl; replace kn := gi kn; replace hs := gi hs
 obtain ⟨x0, x1, x2, x3, xl⟩ := g4l kl.out
 obtain ⟨y0, y1, yl⟩ := g2l kn.out
 go_upto_region 4 with (first | (at_make; refine qeK _ rfl (.tmp 20) (.tmp 20) 55 rfl 4 i3 Tryz.underlying55 hi3 hi3z hi3s hi3b n rfl rfl (by omega) ?_))
 have hB0 : qa9 (W0.alloc (.cells (gz (List.replicate n false)).toArray 4)) W0.heap.size (List.replicate n false) := gv _ _
 have s1 : qad W0 (W0.alloc (.cells (gz (List.replicate n false)).toArray 4)) := fs2
 have hg0 : w.heap.size + 1 < W0.heap.size := gu kn.out
 clear x0 x1 x2 x3 xl
 clear y0 y1 yl
 have kl := s1.at kl.out id
 have kn := s1.at kn.out id
 have hs1 := hs.out.same s1
 clear s1 hs
 generalize W0.alloc (.cells (gz (List.replicate n false)).toArray 4) = W1 at *
 generalize W0.heap.size = g at *
 rw [← hO0.out] at hB0
 replace kl := gi kl; replace kn := gi kn; replace hs1 := gi hs1; replace hB0 := gi hB0
 obtain ⟨y0, y1, yl⟩ := g2l kn.out
 go_upto_region 5 with fail
 clear y0 y1 yl
 go_loopw [25] (fun i wr => ∃ k : Nat, i = .int .i64 k ∧ k ≤ N.As.length ∧ qa9 wr g (N.encO x k) ∧ Fr (fun b => b = g) W1 wr) (fun i _ => N.As.length - (intOf i).toNat)
 case atStart => exact ⟨0, rfl, Nat.zero_le _, hB0.out, Fr.refl _ _⟩
 case round =>
  obtain ⟨k, rfl, hk, hB, hf⟩ := hrel
  have hsw : qad w wr := hs1.out.trans hf (fun i hi e => by have : i = g := e; omega)
  have kl1 := hf.at kl.out (by omega)
  have kn1 := hf.at kn.out (by omega)
  by_cases hlt : k < N.As.length
  · obtain ⟨b0, off0, ha0, hb0, x0, x1, x2, x3⟩ := hR.out k hlt _ hsw
    obtain ⟨b1, off1, ha1, hb1, y0⟩ := hXr.out k hlt _ hsw
    have ENk := EN.out k hlt
    have hlek := hle.out k hlt
    have hOlk := hOl.out k hk
    have hOsk := hOs.out k
    have helk := hel.out k
    generalize N.As[k].aA = fA at *
    generalize N.As[k].al.length = qA at *
    generalize N.As[k].cA = gA at *
    generalize N.As[k].aM = fM at *
    generalize N.As[k].ma.length = qM at *
    generalize N.As[k].cM = gM at *
    generalize N.As[k].aE = fE at *
    generalize N.As[k].es.length = qE at *
    generalize N.As[k].cE = gE at *
    generalize qhh (N.bs k) (x.getD k 0) = cl at *
    generalize N.bs k = bk at *
    generalize N.ns.getD k 0 = nk at *
    generalize x.getD k 0 = xk at *
    have hTk := fun W hW => hT.out k hlt W hW
    rw [hTe.out k hlt] at hTk
    generalize N.at' k = pk at *
    subst ha0 ha1
    replace hB := gi hB; replace hf := gi hf; replace hsw := gi hsw; replace kl1 := gi kl1; replace kn1 := gi kn1; replace ENk := gi ENk; replace hOlk := gi hOlk; replace hOsk := gi hOsk; replace helk := gi helk; replace hTk := gi hTk
    go_upto_region 7 with fail
    have ka := gv wr (.cells #[.slice fA qA gA, .int .i64 nk, .slice fM qM gM, .slice fE qE gE] 39)
    have s2 : qad wr (wr.alloc (.cells #[.slice fA qA gA, .int .i64 nk, .slice fM qM gM, .slice fE qE gE] 39)) := fs2
    have y0 := s2.cell? ⟨b1, off1 + k, none⟩ hb1 y0
    have hb1 : b1 < (wr.alloc (.cells #[.slice fA qA gA, .int .i64 nk, .slice fM qM gM, .slice fE qE gE] 39)).heap.size := Nat.lt_of_lt_of_le hb1 s2.size
    generalize wr.alloc (.cells #[.slice fA qA gA, .int .i64 nk, .slice fM qM gM, .slice fE qE gE] 39) = W2 at *
    clear x0 x1 x2 x3 hb0
    replace ka := gi ka; replace s2 := gi s2
    obtain ⟨x0, x1, x2, x3, xl⟩ := g4l ka.out
    refine qac (fun k => k = wr.heap.size ∨ k = b1) [0, 1, 0, 0, 0, 1, 2, 0, 0, 0, 0, 0] [0, 2, 3, 4, 1, 5, 6, 7, 8, 9, 10, 11] (by kernel_rfl) (by kernel_rfl) ?_
    repeat ((first | refine gB rfl rfl fun _ k => ?_ | refine gC rfl rfl fun _ k => ?_); go_simp; (first | refine k _ ?_ | refine ⟨_, fun _ => rfl, k _ ?_⟩); clear k)
    refine gF rfl rfl (fun _ hK => ?_)
    go_simp
    refine (ENk.out _).mono ?_
    rintro e w3 ⟨a3, c3, rfl, hE3, s3⟩
    refine hK _ _ (Kp.of_same s3) ?_
    clear hK
    (try simp only [Act.put, gj])
    clear x0 x1 x2 x3 xl
    clear y0 hb1
    replace s3 := (show qad W2 _ from fs3).same s3
    have s3 := s2.out.same s3
    have hE3 := (qaa.of_owns hE3).row
    clear ka s2
    replace s3 := gi s3; replace hE3 := gi hE3
    repeat ((first | refine gB rfl rfl fun _ k => ?_ | refine gC rfl rfl fun _ k => ?_); go_simp; (first | refine k _ ?_ | refine ⟨_, fun _ => rfl, k _ ?_⟩); clear k)
    refine gO (NoPanic.normal ?_)
    have hsw3 : qad w w3 := hsw.out.same s3.out
    obtain ⟨b2, off2, ha2, hb2, z0⟩ := hTk.out _ hsw3
    subst ha2
    have kl3 := s3.out.at kl1.out id
    have hB3 : qa9 w3 g (N.encO x k) := hB.out.fr s3.out id
    have hf3 := hf.out.same s3.out
    have hpk1 : (0 : Int) ≤ (pk : Int) := by omega
    have hpk2 : (pk : Int) ≤ n := by omega
    have hpk3 : pk ≤ n := by omega
    have hpk4 : ¬ (pk : Int) < 0 := by omega
    clear hB hf hsw kl1 kn1 s3
    replace kl3 := gi kl3; replace hB3 := gi hB3; replace hf3 := gi hf3; replace hsw3 := gi hsw3
    obtain ⟨x0, x1, x2, x3, xl⟩ := g4l kl3.out
    by_cases hbk : bk = 0
    · obtain rfl : cl = [] := List.length_eq_zero_iff.1 (by rw [helk.out]; exact hbk)
      have hB4 : qa9 w3 g (N.encO x (k + 1)) := by rw [hOsk.out, qpy]; exact hB3.out
      subst hbk
      replace hB4 := gi hB4
      by_cases hpn : n = pk
      · subst hpn
        have hcp := run_copy_none (P := Tryz.prog) w3 55 55 3 4 (some ⟨g, 0, none⟩) a3 0 0 0 c3 Tryz.underlying55 qn4 (by simp)
        go_wp2_with fail
        go_roundw
        case rel => exact ⟨k + 1, by go_num, by omega, hB4.out.fr (S := fun _ => False) fs2 id, hf3.out.same fs2⟩
        case measure => simp [intOf]; omega
      · have hcp := run_copy_none (P := Tryz.prog) w3 55 55 3 4 (some ⟨g, pk, none⟩) a3 (n - pk) (n - pk) 0 c3 Tryz.underlying55 qn4 (by simp)
        go_wp2_with fail
        go_roundw
        case rel => exact ⟨k + 1, by go_num, by omega, hB4.out.fr (S := fun _ => False) fs2 id, hf3.out.same fs2⟩
        case measure => simp [intOf]; omega
    · have hpn : ¬ n = pk := by omega
      obtain ⟨b3, o3, rfl, hb3, hc3⟩ := hE3.out.cell (by omega)
      have hcl : (gz cl).length = bk := by rw [qbS, helk.out]
      have hOl9 : (gz (N.encO x k)).length = n := by rw [qbS, hOlk.out]
      have hc4 : ∀ (j : Nat) (v : Value), (gz cl)[j]? = some v → w3.cell? (Addr.add ⟨b3, o3, none⟩ j) = some v := by
       intro j v hj
       have h := hc3 j v hj
       by_cases hj0 : j = 0
       · subst hj0
         simpa [Addr.add] using h
       · simpa [Addr.add, hj0] using h
      have hcp := run_copy_row Tryz.prog w3 55 55 3 4 g pk (n - pk) (n - pk) ⟨b3, o3, none⟩ bk c3 (gz (N.encO x k)).toArray 4 (gz cl) Tryz.underlying55 qn4 hB3.out (by rw [hcl]; exact (Nat.min_eq_left (by omega)).symm) hc4 (by rw [hcl]; simp only [List.size_toArray, hOl9]; omega) (fun u hu => by obtain ⟨z, _, rfl⟩ := List.mem_map.1 hu; rfl)
      obtain ⟨rw9, hrw⟩ : ∃ r, r = ((gz (N.encO x k)).toArray.toList.take pk ++ gz cl ++ (gz (N.encO x k)).toArray.toList.drop (pk + (gz cl).length)).toArray := ⟨_, rfl⟩
      rw [← hrw, hcl] at hcp
      have hB4 : qa9 (w3.setRow g rw9) g (N.encO x (k + 1)) := by
       rw [hOsk.out]
       unfold qa9
       rw [setRow_heap w3 g (gz (N.encO x k)).toArray rw9 4 (0, 0) hB3.out, hrw, ← qhB]
       simp only [List.append_assoc]
      have hf4 := hf3.out.setRow g rw9 (fun _ => rfl)
      clear hrw hc3 hc4
      replace hB4 := gi hB4; replace hbk := gi hbk; replace hf4 := gi hf4
      go_wp2_with fail
      generalize w3.setRow g rw9 = W4 at *
      go_roundw
      case rel => exact ⟨k + 1, by go_num, by omega, hB4.out.fr (S := fun _ => False) fs2 id, hf4.out.same fs2⟩
      case measure => simp [intOf]; omega
  · obtain rfl : k = N.As.length := by omega
    have hB1 := hB
    rw [hOe.out] at hB1
    replace hB1 := gi hB1; replace hsw := gi hsw; replace kl1 := gi kl1; replace kn1 := gi kn1; replace hf := gi hf; replace hB := gi hB
    go_wp2_with fail
    go_ret2
    exact ⟨g, rfl, hB1.out, by omega, hsw.out⟩
theorem qlJ (N : Nw) (OK : qby N) (x : List Nat) (aX : Option Addr) (cX : Nat) (w : World) (hat : N.at w) (hxl : x.length = N.As.length) (hx : ∀ i, i < N.As.length → x.getD i 0 < N.ns.getD i 0) (hX : qan w (.slice aX N.As.length cX) N.As.length (gw (qaz x))) :
 Calls Tryz.prog 18 #[.agg #[.slice N.aA N.As.length N.cA, .slice N.aO N.o.length N.cO], .slice aX N.As.length cX] w fun e w' => ∃ g, e = .returned (.tuple #[.slice (some ⟨g, 0, none⟩) N.all N.all, .int .i64 0]) ∧ qa9 w' g (qbl N.bs N.on x) ∧ w.heap.size ≤ g ∧ qad w w' := by
 have PL := fun W (hW : qad w W) => OK.place W (hat.same hW)
 have VA := fun aT aB cT cB W (hW : qad w W) (hly : qgz N aT aB cT cB W) => qn5 N OK x aX cX aT aB cT cB W (hat.same hW) hly hxl hx (hX.same hW)
 generalize qbl N.bs N.on x = R at *
 clear hat OK hxl hx hX
 generalize N.all = n at *
 generalize N.emp = em at *
 generalize N.As.length = m at *
 generalize N.o.length = qo at *
 generalize N.aA = aA at *
 generalize N.cA = cA at *
 generalize N.aO = aO at *
 generalize N.cO = cO at *
 replace PL := gi PL; replace VA := gi VA
 go_enter Tryz.func18, Tryz.ntmps18
 go_upto_region 1 with fail
 have kn := gv w (.cells #[.slice aA m cA, .slice aO qo cO] 35)
 have hs : qad w (w.alloc (.cells #[.slice aA m cA, .slice aO qo cO] 35)) := fs2
 generalize w.alloc (.cells #[.slice aA m cA, .slice aO qo cO] 35) = W0 at *
 replace kn := gi kn; replace hs := gi hs
 obtain ⟨y0, y1, yl⟩ := g2l kn.out
 go_wp2_with fail
 refine (PL.out _ hs.out).mono ?_
 rintro e w1 ⟨aT, aB, cT, cB, rfl, hly, s1⟩
 clear y0 y1 yl
 have hbl : w.heap.size < w1.heap.size := by have h9 := gu kn.out; have h8 := s1.size; omega
 replace kn := gi (s1.at kn.out id)
 have hs1 := hs.out.same s1
 clear s1
 replace hly := gi hly; replace hs1 := gi hs1
 go_upto_region 2 with fail
 have kl := gv w1 (.cells #[.slice aT m cT, .slice aB m cB, .int .i64 n, .bool em] 92)
 have s2 : qad w1 (w1.alloc (.cells #[.slice aT m cT, .slice aB m cB, .int .i64 n, .bool em] 92)) := fs2
 have hly2 := hly.out.same s2
 replace kn := gi (s2.at kn.out id)
 have hs2 := hs1.out.same s2
 clear s2 hly hs1 hs
 generalize w1.alloc (.cells #[.slice aT m cT, .slice aB m cB, .int .i64 n, .bool em] 92) = W1 at *
 generalize w1.heap.size = bl at *
 replace kl := gi kl; replace hly2 := gi hly2; replace hs2 := gi hs2
 obtain ⟨x0, x1, x2, x3, xl⟩ := g4l kl.out
 obtain ⟨y0, y1, yl⟩ := g2l kn.out
 go_wp2_with fail
 refine (VA.out _ _ _ _ _ hs2.out hly2.out).mono ?_
 rintro e w4 ⟨g, rfl, hB, hg, s4⟩
 clear x0 x1 x2 x3 xl
 clear y0 y1 yl
 have hs4 := hs2.out.same s4
 have hg2 : w.heap.size ≤ g := Nat.le_trans hs2.out.size hg
 clear s4 hs2 hly2 hg
 replace hB := gi hB; replace hg2 := gi hg2; replace hs4 := gi hs4
 go_wp2_with fail
 go_ret2
 exact ⟨g, rfl, hB.out.fr (S := fun _ => False) fs2 id, hg2.out, hs4.out.same fs2⟩
theorem qcW {w W : World} {T : TypeId} {sz n g : Nat} {xs : List Value} (h : W.heap[g]? = some (.cells xs.toArray T (0, 0))) (hl : xs.length = n * sz) (hm : n ≤ maxLen) : qaa W T sz (.slice (some ⟨g, 0, none⟩) n n) n xs :=
 qaa.of_owns (qaL (base := 0) h (Nat.zero_le _) hl rfl hm)
def qfb (al : List Int) (es : List Nd) (g : Nat) : Au := ⟨al, 2, [0], es, some ⟨g, 0, none⟩, al.length, some ⟨g + 1, 0, none⟩, 1, some ⟨g + 2, 0, none⟩, es.length⟩
theorem ex_at (al : List Int) (es : List Nd) (w : World) (h1 : al.length ≤ 100) (h2 : es.length ≤ 100) :
 (qfb al es w.heap.size).at (((w.alloc (.cells (gw al).toArray 3)).alloc (.cells #[.int .i64 0] 3)).alloc (.cells (qap es).toArray 57)) ∧
 qad w (((w.alloc (.cells (gw al).toArray 3)).alloc (.cells #[.int .i64 0] 3)).alloc (.cells (qap es).toArray 57)) := by
 have k0 := qab (qab (gv w (.cells (gw al).toArray 3)) (.cells #[.int .i64 0] 3)) (.cells (qap es).toArray 57)
 have k1 := qab (gv (w.alloc (.cells (gw al).toArray 3)) (.cells #[.int .i64 0] 3)) (.cells (qap es).toArray 57)
 have k2 := gv ((w.alloc (.cells (gw al).toArray 3)).alloc (.cells #[.int .i64 0] 3)) (.cells (qap es).toArray 57)
 rw [← al1] at k1
 rw [← al2] at k2
 refine ⟨⟨?_, ?_, ?_⟩, fs2⟩
 · exact (qcW (w := w) k0 (by simp [gw, qfb]) (by simp only [qfb]; unfold maxLen; omega)).row
 · exact (qcW (w := w) (n := 1) (xs := gw [0]) k1 (by simp [gw]) (by unfold maxLen; omega)).row
 · exact (qcW (w := w) k2 (qgt _) (by unfold maxLen; omega)).nds
theorem qgb (w : World) : Calls Tryz.prog 17 #[] w fun e w' => ∃ g g2 b, e = .returned (.slice (some ⟨b, 0, none⟩) 2 2) ∧ qdm w' (some ⟨b, 0, none⟩) 2 [qfb [0, 1] [(0, 0, 1), (1, 1, 0)] g, qfb [1, 2] [(0, 1, 1), (1, 2, 0)] g2] ∧ qad w w' := by
 go_enter Tryz.func17, Tryz.ntmps17
 go_upto_region 2 with fail
 obtain ⟨hA, sA⟩ := ex_at [0, 1] [(0, 0, 1), (1, 1, 0)] w (by decide) (by decide)
 have e1 : (((w.alloc (.cells (gw [0, 1]).toArray 3)).alloc (.cells #[.int .i64 0] 3)).alloc (.cells (qap [(0, 0, 1), (1, 1, 0)]).toArray 57)) = (((w.alloc (.cells #[.int .i64 0, .int .i64 1] 3)).alloc (.cells #[.int .i64 0] 3)).alloc (.cells #[.int .i64 0, .int .i64 0, .int .i64 1, .int .i64 1, .int .i64 1, .int .i64 0] 57)) := rfl
 rw [e1] at hA sA
 obtain ⟨W, hW⟩ : ∃ W, W = (((w.alloc (.cells #[.int .i64 0, .int .i64 1] 3)).alloc (.cells #[.int .i64 0] 3)).alloc (.cells #[.int .i64 0, .int .i64 0, .int .i64 1, .int .i64 1, .int .i64 1, .int .i64 0] 57)) := ⟨_, rfl⟩
 have hz : W.heap.size = w.heap.size + 3 := by rw [hW]; simp
 rw [← hW] at hA sA ⊢
 clear hW e1
 have kb := gv W (.cells #[.slice (some ⟨w.heap.size, 0, none⟩) 2 2, .int .i64 2, .slice (some ⟨w.heap.size + 1, 0, none⟩) 1 1, .slice (some ⟨w.heap.size + 2, 0, none⟩) 2 2] 39)
 have s1 : qad W (W.alloc (.cells #[.slice (some ⟨w.heap.size, 0, none⟩) 2 2, .int .i64 2, .slice (some ⟨w.heap.size + 1, 0, none⟩) 1 1, .slice (some ⟨w.heap.size + 2, 0, none⟩) 2 2] 39)) := fs2
 have hA1 := hA.same s1
 have sA1 := sA.same s1
 have hz1 : (W.alloc (.cells #[.slice (some ⟨w.heap.size, 0, none⟩) 2 2, .int .i64 2, .slice (some ⟨w.heap.size + 1, 0, none⟩) 1 1, .slice (some ⟨w.heap.size + 2, 0, none⟩) 2 2] 39)).heap.size = w.heap.size + 4 := by simp [hz]
 generalize W.alloc (.cells #[.slice (some ⟨w.heap.size, 0, none⟩) 2 2, .int .i64 2, .slice (some ⟨w.heap.size + 1, 0, none⟩) 1 1, .slice (some ⟨w.heap.size + 2, 0, none⟩) 2 2] 39) = W1 at *
 clear s1 hA sA
 replace kb := gi kb; replace hA1 := gi hA1; replace sA1 := gi sA1
 go_upto_region 3 with fail
 obtain ⟨hB, sB⟩ := ex_at [1, 2] [(0, 1, 1), (1, 2, 0)] W1 (by decide) (by decide)
 have e1 : (((W1.alloc (.cells (gw [1, 2]).toArray 3)).alloc (.cells #[.int .i64 0] 3)).alloc (.cells (qap [(0, 1, 1), (1, 2, 0)]).toArray 57)) = (((W1.alloc (.cells #[.int .i64 1, .int .i64 2] 3)).alloc (.cells #[.int .i64 0] 3)).alloc (.cells #[.int .i64 0, .int .i64 1, .int .i64 1, .int .i64 1, .int .i64 2, .int .i64 0] 57)) := rfl
 rw [e1] at hB sB
 obtain ⟨V, hV⟩ : ∃ V, V = (((W1.alloc (.cells #[.int .i64 1, .int .i64 2] 3)).alloc (.cells #[.int .i64 0] 3)).alloc (.cells #[.int .i64 0, .int .i64 1, .int .i64 1, .int .i64 1, .int .i64 2, .int .i64 0] 57)) := ⟨_, rfl⟩
 have hz2 : V.heap.size = w.heap.size + 4 + 1 + 1 + 1 := by rw [hV]; simp [hz1]
 rw [← hV] at hB sB ⊢
 clear hV e1
 rw [hz1] at hB
 have kc := gv V (.cells #[.slice (some ⟨w.heap.size + 4, 0, none⟩) 2 2, .int .i64 2, .slice (some ⟨w.heap.size + 4 + 1, 0, none⟩) 1 1, .slice (some ⟨w.heap.size + 4 + 1 + 1, 0, none⟩) 2 2] 39)
 have s2 : qad V (V.alloc (.cells #[.slice (some ⟨w.heap.size + 4, 0, none⟩) 2 2, .int .i64 2, .slice (some ⟨w.heap.size + 4 + 1, 0, none⟩) 1 1, .slice (some ⟨w.heap.size + 4 + 1 + 1, 0, none⟩) 2 2] 39)) := fs2
 have hB1 := hB.same s2
 have sB1 := sB.same s2
 have hA2 := hA1.out.same sB1
 have sA2 := sA1.out.same sB1
 have kb2 := (sB1.block _ (by rw [hz1, hz]; omega) id).trans kb.out
 rw [hz2] at kc
 rw [hz] at kb2
 generalize V.alloc (.cells #[.slice (some ⟨w.heap.size + 4, 0, none⟩) 2 2, .int .i64 2, .slice (some ⟨w.heap.size + 4 + 1, 0, none⟩) 1 1, .slice (some ⟨w.heap.size + 4 + 1 + 1, 0, none⟩) 2 2] 39) = W2 at *
 clear s2 sB1 hB sB hA1 sA1 kb hz hz1 hz2
 have sx := sA2.size
 replace kb2 := gi kb2; replace kc := gi kc; replace hA2 := gi hA2; replace sA2 := gi sA2; replace hB1 := gi hB1; replace sx := gi sx
 obtain ⟨x0, x1, x2, x3, xl⟩ := g4l kb2.out
 obtain ⟨y0, y1, y2, y3, yl⟩ := g4l kc.out
 go_wp2_with fail
 go_ret
 clear x0 x1 x2 x3 xl
 clear y0 y1 y2 y3 yl
 have k9 := gv W2 (.cells (qa4 [qfb [0, 1] [(0, 0, 1), (1, 1, 0)] w.heap.size, qfb [1, 2] [(0, 1, 1), (1, 2, 0)] (w.heap.size + 4)]).toArray 39)
 have s9 : qad W2 (W2.alloc (.cells (qa4 [qfb [0, 1] [(0, 0, 1), (1, 1, 0)] w.heap.size, qfb [1, 2] [(0, 1, 1), (1, 2, 0)] (w.heap.size + 4)]).toArray 39)) := fs2
 have hr := qcW (w := w) (n := 2) k9 (by rw [qfZ]; rfl) (by unfold maxLen; omega)
 refine ⟨w.heap.size, w.heap.size + 4, _, rfl, ⟨Nat.le_refl _, by unfold maxLen; omega, by simp, fun _ => ?_, ?_⟩, sA2.out.same s9⟩
 · exact hr.cell (by omega)
 · intro A hA
   rcases List.mem_cons.1 hA with rfl | hA
   · exact hA2.out.same s9
   · rcases List.mem_cons.1 hA with rfl | hA
     · exact hB1.out.same s9
     · simp at hA
def exN (o : List Int) (g g2 b : Nat) (aO : Option Addr) (cO : Nat) : Nw := ⟨[qfb [0, 1] [(0, 0, 1), (1, 1, 0)] g, qfb [1, 2] [(0, 1, 1), (1, 2, 0)] g2], o, some ⟨b, 0, none⟩, 2, aO, cO⟩
theorem qqu (g g2 b : Nat) (aO : Option Addr) (cO : Nat) : (exN [0, 1] g g2 b aO cO).err = 0 ∧ (exN [1, 0] g g2 b aO cO).err = 0 := ⟨by kernel_rfl, by kernel_rfl⟩
theorem qiG (g g2 b : Nat) (aO : Option Addr) (cO : Nat) : (exN [0, 1] g g2 b aO cO).all = 2 ∧ (exN [1, 0] g g2 b aO cO).all = 2 := ⟨by kernel_rfl, by kernel_rfl⟩
theorem qn6 (g g2 b : Nat) (aO : Option Addr) (cO : Nat) : qbl (exN [0, 1] g g2 b aO cO).bs (exN [0, 1] g g2 b aO cO).on [1, 0] = [true, false] ∧ qbl (exN [1, 0] g g2 b aO cO).bs (exN [1, 0] g g2 b aO cO).on [1, 0] = [false, true] := ⟨by kernel_rfl, by kernel_rfl⟩
theorem ex_S (g g2 b : Nat) (aO : Option Addr) (cO : Nat) : (exN [0, 1] g g2 b aO cO).set ((exN [0, 1] g g2 b aO cO).chosen fun _ => [0]) = [true, false, false, false] := by kernel_rfl
theorem ex_ev (g g2 b : Nat) (aO : Option Addr) (cO : Nat) : qaJ (exN [0, 1] g g2 b aO cO).As = [0, 1, 2] := by kernel_rfl
theorem ex_R (g g2 b : Nat) (aO : Option Addr) (cO : Nat) : (exN [0, 1] g g2 b aO cO).rel (qau (exN [0, 1] g g2 b aO cO).As [0, 1, 2]) = (exN [0, 1] 0 0 0 none 0).rel (qau (exN [0, 1] 0 0 0 none 0).As [0, 1, 2]) := by kernel_rfl
theorem ex_cl :
 let R := (exN [0, 1] 0 0 0 none 0).rel (qau (exN [0, 1] 0 0 0 none 0).As [0, 1, 2])
 let S := [true, false, false, false]
 clI 2 0 R S 0 = [true, false, false, false] ∧ clI 2 0 R S 1 = [true, false, true, false] ∧ clI 2 0 R S 2 = [true, true, true, false] ∧ clI 2 0 R S 3 = [true, true, true, true] ∧ clI 2 0 R S 4 = [true, true, true, true] := by
 decide +kernel
theorem ex_mErr (g g2 b : Nat) (aO : Option Addr) (cO : Nat) : (exN [0, 1] g g2 b aO cO).mErr 2 [true, true, true, true] = 0 := by kernel_rfl
end Go.Proofs.YticcpnekjddanaaGreatDoor
