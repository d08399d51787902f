/-  -/
import Derived.Test.YtcipnkemnepbaaaGreatCNetM
import Derived.Laws.CopyOwn
set_option maxRecDepth 100000
set_option maxHeartbeats 8000000
set_option linter.unusedVariables false
set_option linter.unusedSimpArgs false
namespace Go.Proofs.YtcipnkemnepbaaaGreat
open Go.RowKit
theorem Fr.cell? {w w' : World} (h : Same w w') (p : Addr) {v : Value} (hp : p.block < w.heap.size) (hc : w.cell? p = some v) : w'.cell? p = some v := by
 unfold World.cell? at hc ⊢
 rw [h.block p.block hp id]
 exact hc
def splB (L : List Bool) (off : Nat) (cs : List Bool) : List Bool := L.take off ++ (cs ++ L.drop (off + cs.length))
theorem splB_len {L cs : List Bool} {off : Nat} (h : off + cs.length ≤ L.length) : (splB L off cs).length = L.length := by simp [splB]; omega
theorem splB_in {L cs : List Bool} {off v : Nat} (h : off + cs.length ≤ L.length) (h1 : off ≤ v) (h2 : v < off + cs.length) : (splB L off cs).getD v false = cs.getD (v - off) false := by
 unfold splB
 simp only [List.getD_eq_getElem?_getD]
 rw [List.getElem?_append_right (by simp; omega), List.getElem?_append_left (by simp; omega)]
 simp only [List.length_take]
 congr 2
 omega
theorem splB_out {L cs : List Bool} {off v : Nat} (h : off + cs.length ≤ L.length) (h1 : v < off ∨ off + cs.length ≤ v) : (splB L off cs).getD v false = L.getD v false := by
 unfold splB
 simp only [List.getD_eq_getElem?_getD]
 rcases h1 with h1 | h1
 · rw [List.getElem?_append_left (by simp; omega), List.getElem?_take, if_pos h1]
 · rw [List.getElem?_append_right (by simp; omega), List.getElem?_append_right (by simp; omega), List.getElem?_drop]
   simp only [List.length_take]
   congr 2
   omega
theorem codeL_at (bs : Nat → Nat) (x : List Nat) : ∀ {o : List Nat}, o.Nodup → ∀ {i u : Nat}, i ∈ o → u < bs i → (codeL bs o x).getD (atB bs o i + u) false = (encL (bs i) (x.getD i 0)).getD u false
 | j :: l, hn, i, u, hi, hu => by
  have hnd := List.nodup_cons.1 hn
  rw [codeL_cons, atB]
  simp only [List.getD_eq_getElem?_getD]
  by_cases e : i = j
  · subst e
    rw [if_pos rfl, Nat.zero_add, List.getElem?_append_left (by rw [encL_len]; exact hu)]
  · rw [if_neg e, List.getElem?_append_right (by rw [encL_len]; omega), encL_len]
    have := codeL_at bs x hnd.2 (i := i) (u := u) (by rcases List.mem_cons.1 hi with h | h; exact absurd h e; exact h) hu
    simp only [List.getD_eq_getElem?_getD] at this
    rw [← this]
    congr 2
    omega
theorem boolCells_spl (L cs : List Bool) (off : Nat) : (gz L).take off ++ (gz cs ++ (gz L).drop (off + (gz cs).length)) = gz (splB L off cs) := by
 simp [gz, splB, List.map_take, List.map_drop]
theorem splB_nil (L : List Bool) (off : Nat) : splB L off [] = L := by simp [splB]
theorem infoB1 : (Tryz.prog.info? 4).map (·.size) = some 1 := by kernel_rfl
def Nw.encO (N : Nw) (x : List Nat) : Nat → List Bool
 | 0 => List.replicate N.all false
 | k + 1 => splB (N.encO x k) (N.at' k) (encL (N.bs k) (x.getD k 0))
theorem NwOk.encO_len {N : Nw} (h : NwOk N) (x : List Nat) : ∀ k, k ≤ N.As.length → (N.encO x k).length = N.all
 | 0, _ => by simp [Nw.encO]
 | k + 1, hk => by
  have ih := h.encO_len x k (by omega)
  have := h.le (i := k) (by omega)
  rw [Nw.encO, splB_len (by rw [encL_len, ih]; exact this), ih]
theorem NwOk.encO_get {N : Nw} (h : NwOk N) (x : List Nat) : ∀ k, k ≤ N.As.length → ∀ i, i < k → ∀ u, u < N.bs i → (N.encO x k).getD (N.at' i + u) false = (encL (N.bs i) (x.getD i 0)).getD u false
 | 0, _, i, hi, _, _ => by omega
 | k + 1, hk, i, hi, u, hu => by
  have hl := h.encO_len x k (by omega)
  have hle := h.le (i := k) (by omega)
  rw [Nw.encO]
  by_cases e : i = k
  · subst e
    rw [splB_in (by rw [encL_len, hl]; exact hle) (by omega) (by rw [encL_len]; omega)]
    congr 1
    omega
  · rw [splB_out (by rw [encL_len, hl]; exact hle)]
    · exact h.encO_get x k (by omega) i (by omega) u hu
    · rw [encL_len]
      have := atB_ne N.bs ((h.pm.mem i).2 (by omega)) ((h.pm.mem k).2 (by omega)) e
      show N.at' i + u < N.at' k ∨ N.at' k + N.bs k ≤ N.at' i + u
      unfold Nw.at'
      omega
theorem NwOk.encO_end {N : Nw} (h : NwOk N) (x : List Nat) : N.encO x N.As.length = codeL N.bs N.on x := by
 have h1 := h.encO_len x N.As.length (Nat.le_refl _)
 have h2 : (codeL N.bs N.on x).length = N.all := codeL_len _ _ _
 refine ext_getD h1 h2 (fun v hv => ?_)
 obtain ⟨i, hi, a1, a2⟩ := atB_cover N.bs h.pm.nodup (v := v) hv
 have e : v = N.at' i + (v - N.at' i) := by unfold Nw.at'; omega
 have hu : v - N.at' i < N.bs i := by unfold Nw.at'; omega
 rw [e, h.encO_get x _ (Nat.le_refl _) i ((h.pm.mem i).1 hi) _ hu]
 exact (codeL_at N.bs x h.pm.nodup hi hu).symm
theorem encode_ok (N : Nw) (OK : NetOk N) (x : List Nat) (aX : Option Addr) (cX : Nat) (aT aB : Option Addr) (cT cB : Nat) (w : World) (hat : N.at w) (hly : LyAt N aT aB cT cB w) (hxl : x.length = N.As.length) (hx : ∀ i, i < N.As.length → x.getD i 0 < N.ns.getD i 0) (hX : RowAt w (.slice aX N.As.length cX) N.As.length (gw (natI x))) :
 Calls Tryz.prog 44 #[.agg #[.slice aT N.As.length cT, .slice aB N.As.length cB, .int .i64 N.all, .bool N.emp], .agg #[.slice N.aA N.As.length N.cA, .slice N.aO N.o.length N.cO], .slice aX N.As.length cX] w fun e w' => ∃ g, e = .returned (.tuple #[.slice (some ⟨g, 0, none⟩) N.all N.all, .int .i64 0]) ∧ BoolsAt w' g (codeL N.bs N.on x) ∧ w.heap.size ≤ g ∧ Same w w' := by
 have hm12 := OK.ok.m12
 have h10 := OK.h10
 have hR : ∀ (k : Nat) (hk : k < N.As.length) W (hW : Same w W), ∃ b off, N.aA = some ⟨b, off, none⟩ ∧ b < W.heap.size ∧ W.cell? ⟨b, off + k * 4, none⟩ = some (.slice N.As[k].aA N.As[k].al.length N.As[k].cA) ∧ W.cell? ⟨b, off + k * 4 + 1, none⟩ = some (.int .i64 ((N.ns.getD k 0 : Nat) : Int)) ∧
  W.cell? ⟨b, off + k * 4 + 2, none⟩ = some (.slice N.As[k].aM N.As[k].ma.length N.As[k].cM) ∧ W.cell? ⟨b, off + k * 4 + 3, none⟩ = some (.slice N.As[k].aE N.As[k].es.length N.As[k].cE) := fun k hk W hW => by
  have := (hat.au.same hW).row hk
  rw [(OK.ok.n4 hk).2] at this
  exact this
 have hXr := fun (k : Nat) (hk : k < N.As.length) W (hW : Same w W) => (hX.same hW).nat hk
 have hT := fun (k : Nat) (hk : k < N.As.length) W (hW : Same w W) => (hly.t.same hW).row.nat hk
 have hTe : ∀ k, k < N.As.length → ((List.range N.As.length).map N.at').getD k 0 = N.at' k := fun k hk => by simp [List.getD, hk]
 have EN := fun (k : Nat) (hk : k < N.As.length) W => Encode_ok (n := N.ns.getD k 0) (s := x.getD k 0) (OK.ok.n4 hk).1 (hx k hk) W
 have hbe : ∀ k, bitsF (N.ns.getD k 0) = N.bs k := fun _ => rfl
 simp only [hbe] at EN
 have hle := fun (k : Nat) (hk : k < N.As.length) => OK.ok.le hk
 have hOl := fun (k : Nat) (hk : k ≤ N.As.length) => OK.ok.encO_len x k hk
 have hOs : ∀ k, N.encO x (k + 1) = splB (N.encO x k) (N.at' k) (encL (N.bs k) (x.getD k 0)) := fun _ => rfl
 have hO0 : N.encO x 0 = List.replicate N.all false := rfl
 have hOe := OK.ok.encO_end x
 have hel : ∀ k, (encL (N.bs k) (x.getD k 0)).length = N.bs k := fun k => encL_len _ _
 generalize codeL N.bs N.on x = CO at *
 obtain ⟨i3, hi3, hi3z, hi3s, hi3b⟩ := info_parts info4
 clear hat hly hx hX hxl hbe
 generalize N.aA = aA at *
 generalize N.cA = cA at *
 generalize N.aO = aO at *
 generalize N.cO = cO at *
 generalize N.o.length = qo at *
 generalize N.emp = em at *
 generalize hnn : N.all = n at *
 replace hR := gi hR; replace hXr := gi hXr; replace hT := gi hT; replace hTe := gi hTe; replace EN := gi EN; replace hle := gi hle; replace hOl := gi hOl; replace hOs := gi hOs; replace hO0 := gi hO0; replace hOe := gi hOe; replace hel := gi hel; replace hnn := gi hnn
 go_enter Tryz.func44, Tryz.ntmps44
 go_upto_region 1 with fail
 have kl := heap_old (gv w (.cells #[.slice aT N.As.length cT, .slice aB N.As.length cB, .int .i64 n, .bool em] 89)) (.cells #[.slice aA N.As.length cA, .slice aO qo cO] 36)
 have kn := gv (w.alloc (.cells #[.slice aT N.As.length cT, .slice aB N.As.length cB, .int .i64 n, .bool em] 89)) (.cells #[.slice aA N.As.length cA, .slice aO qo cO] 36)
 rw [← al1] at kn
 have hs : Same w ((w.alloc (.cells #[.slice aT N.As.length cT, .slice aB N.As.length cB, .int .i64 n, .bool em] 89)).alloc (.cells #[.slice aA N.As.length cA, .slice aO qo cO] 36)) := fs2
 generalize (w.alloc (.cells #[.slice aT N.As.length cT, .slice aB N.As.length cB, .int .i64 n, .bool em] 89)).alloc (.cells #[.slice aA N.As.length cA, .slice aO qo cO] 36) = W0 at *
 replace kl := gi kl; replace kn := gi kn; replace hs := gi hs
 obtain ⟨x0, x1, x2, x3, xl⟩ := g4l kl.out
 obtain ⟨y0, y1, yl⟩ := g2l kn.out
 go_upto_region 4 with (first | (at_make; refine wpList_mkb _ rfl (.tmp 20) (.tmp 20) 52 rfl 4 i3 Tryz.underlying52 hi3 hi3z hi3s hi3b n rfl rfl (by omega) ?_))
 have hB0 : BoolsAt (W0.alloc (.cells (gz (List.replicate n false)).toArray 4)) W0.heap.size (List.replicate n false) := gv _ _
 have s1 : Same W0 (W0.alloc (.cells (gz (List.replicate n false)).toArray 4)) := fs2
 have hg0 : w.heap.size + 1 < W0.heap.size := gu kn.out
 clear x0 x1 x2 x3 xl
 clear y0 y1 yl
 have kl := s1.at kl.out id
 have kn := s1.at kn.out id
 have hs1 := hs.out.same s1
 clear s1 hs
 generalize W0.alloc (.cells (gz (List.replicate n false)).toArray 4) = W1 at *
 generalize W0.heap.size = g at *
 rw [← hO0.out] at hB0
 replace kl := gi kl; replace kn := gi kn; replace hs1 := gi hs1; replace hB0 := gi hB0
 obtain ⟨y0, y1, yl⟩ := g2l kn.out
 go_upto_region 5 with fail
 clear y0 y1 yl
 go_loopw [25] (fun i wr => ∃ k : Nat, i = .int .i64 k ∧ k ≤ N.As.length ∧ BoolsAt wr g (N.encO x k) ∧ Fr (fun b => b = g) W1 wr) (fun i _ => N.As.length - (intOf i).toNat)
 case atStart => exact ⟨0, rfl, Nat.zero_le _, hB0.out, Fr.refl _ _⟩
 case round =>
  obtain ⟨k, rfl, hk, hB, hf⟩ := hrel
  have hsw : Same w wr := hs1.out.trans hf (fun i hi e => by have : i = g := e; omega)
  have kl1 := hf.at kl.out (by omega)
  have kn1 := hf.at kn.out (by omega)
  by_cases hlt : k < N.As.length
  · obtain ⟨b0, off0, ha0, hb0, x0, x1, x2, x3⟩ := hR.out k hlt _ hsw
    obtain ⟨b1, off1, ha1, hb1, y0⟩ := hXr.out k hlt _ hsw
    have ENk := EN.out k hlt
    have hlek := hle.out k hlt
    have hOlk := hOl.out k hk
    have hOsk := hOs.out k
    have helk := hel.out k
    generalize N.As[k].aA = fA at *
    generalize N.As[k].al.length = qA at *
    generalize N.As[k].cA = gA at *
    generalize N.As[k].aM = fM at *
    generalize N.As[k].ma.length = qM at *
    generalize N.As[k].cM = gM at *
    generalize N.As[k].aE = fE at *
    generalize N.As[k].es.length = qE at *
    generalize N.As[k].cE = gE at *
    generalize encL (N.bs k) (x.getD k 0) = cl at *
    generalize N.bs k = bk at *
    generalize N.ns.getD k 0 = nk at *
    generalize x.getD k 0 = xk at *
    have hTk := fun W hW => hT.out k hlt W hW
    rw [hTe.out k hlt] at hTk
    generalize N.at' k = pk at *
    subst ha0 ha1
    replace hB := gi hB; replace hf := gi hf; replace hsw := gi hsw; replace kl1 := gi kl1; replace kn1 := gi kn1; replace ENk := gi ENk; replace hOlk := gi hOlk; replace hOsk := gi hOsk; replace helk := gi helk; replace hTk := gi hTk
    go_upto_region 7 with fail
    have ka := gv wr (.cells #[.slice fA qA gA, .int .i64 nk, .slice fM qM gM, .slice fE qE gE] 44)
    have s2 : Same wr (wr.alloc (.cells #[.slice fA qA gA, .int .i64 nk, .slice fM qM gM, .slice fE qE gE] 44)) := fs2
    have y0 := s2.cell? ⟨b1, off1 + k, none⟩ hb1 y0
    have hb1 : b1 < (wr.alloc (.cells #[.slice fA qA gA, .int .i64 nk, .slice fM qM gM, .slice fE qE gE] 44)).heap.size := Nat.lt_of_lt_of_le hb1 s2.size
    generalize wr.alloc (.cells #[.slice fA qA gA, .int .i64 nk, .slice fM qM gM, .slice fE qE gE] 44) = W2 at *
    clear x0 x1 x2 x3 hb0
    replace ka := gi ka; replace s2 := gi s2
    obtain ⟨x0, x1, x2, x3, xl⟩ := g4l ka.out
    refine wp_region_sched (fun k => k = wr.heap.size ∨ k = b1) [0, 1, 0, 0, 0, 1, 2, 0, 0, 0, 0, 0] [0, 2, 3, 4, 1, 5, 6, 7, 8, 9, 10, 11] (by kernel_rfl) (by kernel_rfl) ?_
    repeat ((first | refine gB rfl rfl fun _ k => ?_ | refine gC rfl rfl fun _ k => ?_); go_simp; (first | refine k _ ?_ | refine ⟨_, fun _ => rfl, k _ ?_⟩); clear k)
    refine gF rfl rfl (fun _ hK => ?_)
    go_simp
    refine (ENk.out _).mono ?_
    rintro e w3 ⟨a3, c3, rfl, hE3, s3⟩
    refine hK _ _ (Kp.of_same s3) ?_
    clear hK
    (try simp only [Act.put, gj])
    clear x0 x1 x2 x3 xl
    clear y0 hb1
    replace s3 := (show Same W2 _ from fs3).same s3
    have s3 := s2.out.same s3
    have hE3 := (SliceAt.of_owns hE3).row
    clear ka s2
    replace s3 := gi s3; replace hE3 := gi hE3
    repeat ((first | refine gB rfl rfl fun _ k => ?_ | refine gC rfl rfl fun _ k => ?_); go_simp; (first | refine k _ ?_ | refine ⟨_, fun _ => rfl, k _ ?_⟩); clear k)
    refine gO (NoPanic.normal ?_)
    have hsw3 : Same w w3 := hsw.out.same s3.out
    obtain ⟨b2, off2, ha2, hb2, z0⟩ := hTk.out _ hsw3
    subst ha2
    have kl3 := s3.out.at kl1.out id
    have hB3 : BoolsAt w3 g (N.encO x k) := hB.out.fr s3.out id
    have hf3 := hf.out.same s3.out
    have hpk1 : (0 : Int) ≤ (pk : Int) := by omega
    have hpk2 : (pk : Int) ≤ n := by omega
    have hpk3 : pk ≤ n := by omega
    have hpk4 : ¬ (pk : Int) < 0 := by omega
    clear hB hf hsw kl1 kn1 s3
    replace kl3 := gi kl3; replace hB3 := gi hB3; replace hf3 := gi hf3; replace hsw3 := gi hsw3
    obtain ⟨x0, x1, x2, x3, xl⟩ := g4l kl3.out
    by_cases hbk : bk = 0
    · obtain rfl : cl = [] := List.length_eq_zero_iff.1 (by rw [helk.out]; exact hbk)
      have hB4 : BoolsAt w3 g (N.encO x (k + 1)) := by rw [hOsk.out, splB_nil]; exact hB3.out
      subst hbk
      replace hB4 := gi hB4
      by_cases hpn : n = pk
      · subst hpn
        have hcp := run_copy_none (P := Tryz.prog) w3 52 52 3 4 (some ⟨g, 0, none⟩) a3 0 0 0 c3 Tryz.underlying52 infoB1 (by simp)
        go_wp2_with fail
        go_roundw
        case rel => exact ⟨k + 1, by go_num, by omega, hB4.out.fr (S := fun _ => False) fs2 id, hf3.out.same fs2⟩
        case measure => simp [intOf]; omega
      · have hcp := run_copy_none (P := Tryz.prog) w3 52 52 3 4 (some ⟨g, pk, none⟩) a3 (n - pk) (n - pk) 0 c3 Tryz.underlying52 infoB1 (by simp)
        go_wp2_with fail
        go_roundw
        case rel => exact ⟨k + 1, by go_num, by omega, hB4.out.fr (S := fun _ => False) fs2 id, hf3.out.same fs2⟩
        case measure => simp [intOf]; omega
    · have hpn : ¬ n = pk := by omega
      obtain ⟨b3, o3, rfl, hb3, hc3⟩ := hE3.out.cell (by omega)
      have hcl : (gz cl).length = bk := by rw [boolCells_len, helk.out]
      have hOl9 : (gz (N.encO x k)).length = n := by rw [boolCells_len, hOlk.out]
      have hc4 : ∀ (j : Nat) (v : Value), (gz cl)[j]? = some v → w3.cell? (Addr.add ⟨b3, o3, none⟩ j) = some v := by
       intro j v hj
       have h := hc3 j v hj
       by_cases hj0 : j = 0
       · subst hj0
         simpa [Addr.add] using h
       · simpa [Addr.add, hj0] using h
      have hcp := run_copy_row Tryz.prog w3 52 52 3 4 g pk (n - pk) (n - pk) ⟨b3, o3, none⟩ bk c3 (gz (N.encO x k)).toArray 4 (gz cl) Tryz.underlying52 infoB1 hB3.out (by rw [hcl]; exact (Nat.min_eq_left (by omega)).symm) hc4 (by rw [hcl]; simp only [List.size_toArray, hOl9]; omega) (fun u hu => by obtain ⟨z, _, rfl⟩ := List.mem_map.1 hu; rfl)
      obtain ⟨rw9, hrw⟩ : ∃ r, r = ((gz (N.encO x k)).toArray.toList.take pk ++ gz cl ++ (gz (N.encO x k)).toArray.toList.drop (pk + (gz cl).length)).toArray := ⟨_, rfl⟩
      rw [← hrw, hcl] at hcp
      have hB4 : BoolsAt (w3.setRow g rw9) g (N.encO x (k + 1)) := by
       rw [hOsk.out]
       unfold BoolsAt
       rw [setRow_heap w3 g (gz (N.encO x k)).toArray rw9 4 (0, 0) hB3.out, hrw, ← boolCells_spl]
       simp only [List.append_assoc]
      have hf4 := hf3.out.setRow g rw9 (fun _ => rfl)
      clear hrw hc3 hc4
      replace hB4 := gi hB4; replace hbk := gi hbk; replace hf4 := gi hf4
      go_wp2_with fail
      generalize w3.setRow g rw9 = W4 at *
      go_roundw
      case rel => exact ⟨k + 1, by go_num, by omega, hB4.out.fr (S := fun _ => False) fs2 id, hf4.out.same fs2⟩
      case measure => simp [intOf]; omega
  · obtain rfl : k = N.As.length := by omega
    have hB1 := hB
    rw [hOe.out] at hB1
    replace hB1 := gi hB1; replace hsw := gi hsw; replace kl1 := gi kl1; replace kn1 := gi kn1; replace hf := gi hf; replace hB := gi hB
    go_wp2_with fail
    go_ret2
    exact ⟨g, rfl, hB1.out, by omega, hsw.out⟩
theorem Encode_net (N : Nw) (OK : NetOk N) (x : List Nat) (aX : Option Addr) (cX : Nat) (w : World) (hat : N.at w) (hxl : x.length = N.As.length) (hx : ∀ i, i < N.As.length → x.getD i 0 < N.ns.getD i 0) (hX : RowAt w (.slice aX N.As.length cX) N.As.length (gw (natI x))) :
 Calls Tryz.prog 33 #[.agg #[.slice N.aA N.As.length N.cA, .slice N.aO N.o.length N.cO], .slice aX N.As.length cX] w fun e w' => ∃ g, e = .returned (.tuple #[.slice (some ⟨g, 0, none⟩) N.all N.all, .int .i64 0]) ∧ BoolsAt w' g (codeL N.bs N.on x) ∧ w.heap.size ≤ g ∧ Same w w' := by
 have PL := fun W (hW : Same w W) => OK.place W (hat.same hW)
 have VA := fun aT aB cT cB W (hW : Same w W) (hly : LyAt N aT aB cT cB W) => encode_ok N OK x aX cX aT aB cT cB W (hat.same hW) hly hxl hx (hX.same hW)
 generalize codeL N.bs N.on x = R at *
 clear hat OK hxl hx hX
 generalize N.all = n at *
 generalize N.emp = em at *
 generalize N.As.length = m at *
 generalize N.o.length = qo at *
 generalize N.aA = aA at *
 generalize N.cA = cA at *
 generalize N.aO = aO at *
 generalize N.cO = cO at *
 replace PL := gi PL; replace VA := gi VA
 go_enter Tryz.func33, Tryz.ntmps33
 go_upto_region 1 with fail
 have kn := gv w (.cells #[.slice aA m cA, .slice aO qo cO] 36)
 have hs : Same w (w.alloc (.cells #[.slice aA m cA, .slice aO qo cO] 36)) := fs2
 generalize w.alloc (.cells #[.slice aA m cA, .slice aO qo cO] 36) = W0 at *
 replace kn := gi kn; replace hs := gi hs
 obtain ⟨y0, y1, yl⟩ := g2l kn.out
 go_wp2_with fail
 refine (PL.out _ hs.out).mono ?_
 rintro e w1 ⟨aT, aB, cT, cB, rfl, hly, s1⟩
 clear y0 y1 yl
 have hbl : w.heap.size < w1.heap.size := by have h9 := gu kn.out; have h8 := s1.size; omega
 replace kn := gi (s1.at kn.out id)
 have hs1 := hs.out.same s1
 clear s1
 replace hly := gi hly; replace hs1 := gi hs1
 go_upto_region 2 with fail
 have kl := gv w1 (.cells #[.slice aT m cT, .slice aB m cB, .int .i64 n, .bool em] 89)
 have s2 : Same w1 (w1.alloc (.cells #[.slice aT m cT, .slice aB m cB, .int .i64 n, .bool em] 89)) := fs2
 have hly2 := hly.out.same s2
 replace kn := gi (s2.at kn.out id)
 have hs2 := hs1.out.same s2
 clear s2 hly hs1 hs
 generalize w1.alloc (.cells #[.slice aT m cT, .slice aB m cB, .int .i64 n, .bool em] 89) = W1 at *
 generalize w1.heap.size = bl at *
 replace kl := gi kl; replace hly2 := gi hly2; replace hs2 := gi hs2
 obtain ⟨x0, x1, x2, x3, xl⟩ := g4l kl.out
 obtain ⟨y0, y1, yl⟩ := g2l kn.out
 go_wp2_with fail
 refine (VA.out _ _ _ _ _ hs2.out hly2.out).mono ?_
 rintro e w4 ⟨g, rfl, hB, hg, s4⟩
 clear x0 x1 x2 x3 xl
 clear y0 y1 yl
 have hs4 := hs2.out.same s4
 have hg2 : w.heap.size ≤ g := Nat.le_trans hs2.out.size hg
 clear s4 hs2 hly2 hg
 replace hB := gi hB; replace hg2 := gi hg2; replace hs4 := gi hs4
 go_wp2_with fail
 go_ret2
 exact ⟨g, rfl, hB.out.fr (S := fun _ => False) fs2 id, hg2.out, hs4.out.same fs2⟩
theorem toNat_getD {y : List Int} {k : Nat} (h : 0 ≤ y.getD k 0) : y.getD k 0 = (((y.map Int.toNat).getD k 0 : Nat) : Int) := by
 simp only [List.getD_eq_getElem?_getD, List.getElem?_map] at h ⊢
 cases e : y[k]? with
 | none => simp
 | some v => rw [e] at h; simp at h ⊢; omega
def okI (ns : List Nat) (y : List Int) (i : Nat) : Prop := 0 ≤ y.getD i 0 ∧ y.getD i 0 < (ns.getD i 0 : Nat)
theorem encode_bad (N : Nw) (OK : NetOk N) (y : List Int) (aX : Option Addr) (cX : Nat) (aT aB : Option Addr) (cT cB : Nat) (w : World) (hat : N.at w) (hly : LyAt N aT aB cT cB w) (hxl : y.length = N.As.length) (hx : ∃ i, i < N.As.length ∧ ¬ okI N.ns y i) (hX : RowAt w (.slice aX N.As.length cX) N.As.length (gw y)) :
 Calls Tryz.prog 44 #[.agg #[.slice aT N.As.length cT, .slice aB N.As.length cB, .int .i64 N.all, .bool N.emp], .agg #[.slice N.aA N.As.length N.cA, .slice N.aO N.o.length N.cO], .slice aX N.As.length cX] w fun e w' => e = .returned (.tuple #[.slice none 0 0, .int .i64 2]) ∧ Same w w' := by
 obtain ⟨x, hxd⟩ : ∃ x : List Nat, x = y.map Int.toNat := ⟨_, rfl⟩
 have hxy : ∀ k, okI N.ns y k → y.getD k 0 = ((x.getD k 0 : Nat) : Int) := fun k h => by rw [hxd]; exact toNat_getD h.1
 have hxlt : ∀ k, okI N.ns y k → x.getD k 0 < N.ns.getD k 0 := fun k h => by have h1 := hxy k h; have h2 := h.2; omega
 have hm12 := OK.ok.m12
 have h10 := OK.h10
 have hR : ∀ (k : Nat) (hk : k < N.As.length) W (hW : Same w W), ∃ b off, N.aA = some ⟨b, off, none⟩ ∧ b < W.heap.size ∧ W.cell? ⟨b, off + k * 4, none⟩ = some (.slice N.As[k].aA N.As[k].al.length N.As[k].cA) ∧ W.cell? ⟨b, off + k * 4 + 1, none⟩ = some (.int .i64 ((N.ns.getD k 0 : Nat) : Int)) ∧
  W.cell? ⟨b, off + k * 4 + 2, none⟩ = some (.slice N.As[k].aM N.As[k].ma.length N.As[k].cM) ∧ W.cell? ⟨b, off + k * 4 + 3, none⟩ = some (.slice N.As[k].aE N.As[k].es.length N.As[k].cE) := fun k hk W hW => by
  have := (hat.au.same hW).row hk
  rw [(OK.ok.n4 hk).2] at this
  exact this
 have hXr := fun (k : Nat) (hk : k < N.As.length) W (hW : Same w W) => (show ∃ b off, aX = some ⟨b, off, none⟩ ∧ b < W.heap.size ∧ W.cell? ⟨b, off + k, none⟩ = some (.int .i64 (y.getD k 0)) from (hX.same hW).ints hk)
 have hT := fun (k : Nat) (hk : k < N.As.length) W (hW : Same w W) => (hly.t.same hW).row.nat hk
 have hTe : ∀ k, k < N.As.length → ((List.range N.As.length).map N.at').getD k 0 = N.at' k := fun k hk => by simp [List.getD, hk]
 have EN := fun (k : Nat) (hk : k < N.As.length) (hg : okI N.ns y k) W => Encode_ok (n := N.ns.getD k 0) (s := x.getD k 0) (OK.ok.n4 hk).1 (hxlt k hg) W
 have EB := fun (k : Nat) (hk : k < N.As.length) (hg : ¬ okI N.ns y k) W => Encode_range (n := N.ns.getD k 0) (s := y.getD k 0) (OK.ok.n4 hk).1 (by unfold okI at hg; omega) W
 have hno : ¬ ∀ i, i < N.As.length → okI N.ns y i := fun h => by obtain ⟨i, h1, h2⟩ := hx; exact h2 (h i h1)
 have hbe : ∀ k, bitsF (N.ns.getD k 0) = N.bs k := fun _ => rfl
 simp only [hbe] at EN
 have hle := fun (k : Nat) (hk : k < N.As.length) => OK.ok.le hk
 have hOl := fun (k : Nat) (hk : k ≤ N.As.length) => OK.ok.encO_len x k hk
 have hOs : ∀ k, N.encO x (k + 1) = splB (N.encO x k) (N.at' k) (encL (N.bs k) (x.getD k 0)) := fun _ => rfl
 have hO0 : N.encO x 0 = List.replicate N.all false := rfl
 have hel : ∀ k, (encL (N.bs k) (x.getD k 0)).length = N.bs k := fun k => encL_len _ _
 obtain ⟨i3, hi3, hi3z, hi3s, hi3b⟩ := info_parts info4
 generalize okI N.ns y = ok at *
 clear hat hly hx hX hxl hbe hxd hxlt
 generalize N.aA = aA at *
 generalize N.cA = cA at *
 generalize N.aO = aO at *
 generalize N.cO = cO at *
 generalize N.o.length = qo at *
 generalize N.emp = em at *
 generalize hnn : N.all = n at *
 replace hR := gi hR; replace hXr := gi hXr; replace hT := gi hT; replace hTe := gi hTe; replace EN := gi EN; replace EB := gi EB; replace hno := gi hno; replace hxy := gi hxy; replace hle := gi hle; replace hOl := gi hOl; replace hOs := gi hOs; replace hO0 := gi hO0; replace hel := gi hel; replace hnn := gi hnn
 go_enter Tryz.func44, Tryz.ntmps44
 go_upto_region 1 with fail
 have kl := heap_old (gv w (.cells #[.slice aT N.As.length cT, .slice aB N.As.length cB, .int .i64 n, .bool em] 89)) (.cells #[.slice aA N.As.length cA, .slice aO qo cO] 36)
 have kn := gv (w.alloc (.cells #[.slice aT N.As.length cT, .slice aB N.As.length cB, .int .i64 n, .bool em] 89)) (.cells #[.slice aA N.As.length cA, .slice aO qo cO] 36)
 rw [← al1] at kn
 have hs : Same w ((w.alloc (.cells #[.slice aT N.As.length cT, .slice aB N.As.length cB, .int .i64 n, .bool em] 89)).alloc (.cells #[.slice aA N.As.length cA, .slice aO qo cO] 36)) := fs2
 generalize (w.alloc (.cells #[.slice aT N.As.length cT, .slice aB N.As.length cB, .int .i64 n, .bool em] 89)).alloc (.cells #[.slice aA N.As.length cA, .slice aO qo cO] 36) = W0 at *
 replace kl := gi kl; replace kn := gi kn; replace hs := gi hs
 obtain ⟨x0, x1, x2, x3, xl⟩ := g4l kl.out
 obtain ⟨y0, y1, yl⟩ := g2l kn.out
 go_upto_region 4 with (first | (at_make; refine wpList_mkb _ rfl (.tmp 20) (.tmp 20) 52 rfl 4 i3 Tryz.underlying52 hi3 hi3z hi3s hi3b n rfl rfl (by omega) ?_))
 have hB0 : BoolsAt (W0.alloc (.cells (gz (List.replicate n false)).toArray 4)) W0.heap.size (List.replicate n false) := gv _ _
 have s1 : Same W0 (W0.alloc (.cells (gz (List.replicate n false)).toArray 4)) := fs2
 have hg0 : w.heap.size + 1 < W0.heap.size := gu kn.out
 clear x0 x1 x2 x3 xl
 clear y0 y1 yl
 have kl := s1.at kl.out id
 have kn := s1.at kn.out id
 have hs1 := hs.out.same s1
 clear s1 hs
 generalize W0.alloc (.cells (gz (List.replicate n false)).toArray 4) = W1 at *
 generalize W0.heap.size = g at *
 rw [← hO0.out] at hB0
 replace kl := gi kl; replace kn := gi kn; replace hs1 := gi hs1; replace hB0 := gi hB0
 obtain ⟨y0, y1, yl⟩ := g2l kn.out
 go_upto_region 5 with fail
 clear y0 y1 yl
 go_loopw [25] (fun i wr => ∃ k : Nat, i = .int .i64 k ∧ k ≤ N.As.length ∧ (∀ i, i < k → ok i) ∧ BoolsAt wr g (N.encO x k) ∧ Fr (fun b => b = g) W1 wr) (fun i _ => N.As.length - (intOf i).toNat)
 case atStart => exact ⟨0, rfl, Nat.zero_le _, fun i h => by omega, hB0.out, Fr.refl _ _⟩
 case round =>
  obtain ⟨k, rfl, hk, hup, hB, hf⟩ := hrel
  have hsw : Same w wr := hs1.out.trans hf (fun i hi e => by have : i = g := e; omega)
  have kl1 := hf.at kl.out (by omega)
  have kn1 := hf.at kn.out (by omega)
  by_cases hlt : k < N.As.length
  · obtain ⟨b0, off0, ha0, hb0, x0, x1, x2, x3⟩ := hR.out k hlt _ hsw
    obtain ⟨b1, off1, ha1, hb1, y0⟩ := hXr.out k hlt _ hsw
    have ENk := EN.out k hlt
    have EBk := EB.out k hlt
    have hxyk := hxy.out k
    have hlek := hle.out k hlt
    have hOlk := hOl.out k hk
    have hOsk := hOs.out k
    have helk := hel.out k
    generalize N.As[k].aA = fA at *
    generalize N.As[k].al.length = qA at *
    generalize N.As[k].cA = gA at *
    generalize N.As[k].aM = fM at *
    generalize N.As[k].ma.length = qM at *
    generalize N.As[k].cM = gM at *
    generalize N.As[k].aE = fE at *
    generalize N.As[k].es.length = qE at *
    generalize N.As[k].cE = gE at *
    generalize encL (N.bs k) (x.getD k 0) = cl at *
    generalize N.bs k = bk at *
    generalize N.ns.getD k 0 = nk at *
    generalize x.getD k 0 = xk at *
    generalize y.getD k 0 = yk at *
    have hTk := fun W hW => hT.out k hlt W hW
    rw [hTe.out k hlt] at hTk
    generalize N.at' k = pk at *
    subst ha0 ha1
    replace hB := gi hB; replace hf := gi hf; replace hsw := gi hsw; replace kl1 := gi kl1; replace kn1 := gi kn1; replace ENk := gi ENk; replace EBk := gi EBk; replace hxyk := gi hxyk; replace hup := gi hup; replace hOlk := gi hOlk; replace hOsk := gi hOsk; replace helk := gi helk; replace hTk := gi hTk
    go_upto_region 7 with fail
    have ka := gv wr (.cells #[.slice fA qA gA, .int .i64 nk, .slice fM qM gM, .slice fE qE gE] 44)
    have s2 : Same wr (wr.alloc (.cells #[.slice fA qA gA, .int .i64 nk, .slice fM qM gM, .slice fE qE gE] 44)) := fs2
    have y0 := s2.cell? ⟨b1, off1 + k, none⟩ hb1 y0
    have hb1 : b1 < (wr.alloc (.cells #[.slice fA qA gA, .int .i64 nk, .slice fM qM gM, .slice fE qE gE] 44)).heap.size := Nat.lt_of_lt_of_le hb1 s2.size
    generalize wr.alloc (.cells #[.slice fA qA gA, .int .i64 nk, .slice fM qM gM, .slice fE qE gE] 44) = W2 at *
    clear x0 x1 x2 x3 hb0
    replace ka := gi ka; replace s2 := gi s2
    obtain ⟨x0, x1, x2, x3, xl⟩ := g4l ka.out
    by_cases hgk : ok k
    case neg =>
     refine wp_region_sched (fun k => k = wr.heap.size ∨ k = b1) [0, 1, 0, 0, 0, 1, 2, 0, 0, 0, 0, 0] [0, 2, 3, 4, 1, 5, 6, 7, 8, 9, 10, 11] (by kernel_rfl) (by kernel_rfl) ?_
     repeat ((first | refine gB rfl rfl fun _ k => ?_ | refine gC rfl rfl fun _ k => ?_); go_simp; (first | refine k _ ?_ | refine ⟨_, fun _ => rfl, k _ ?_⟩); clear k)
     refine gF rfl rfl (fun _ hK => ?_)
     go_simp
     refine (EBk.out hgk _).mono ?_
     rintro e w3 ⟨rfl, s3⟩
     refine hK _ _ (Kp.of_same s3) ?_
     clear hK
     (try simp only [Act.put, gj])
     replace s3 := (show Same W2 _ from fs3).same s3
     have s9 := hsw.out.same (s2.out.same s3)
     clear s3
     replace s9 := gi s9
     repeat ((first | refine gB rfl rfl fun _ k => ?_ | refine gC rfl rfl fun _ k => ?_); go_simp; (first | refine k _ ?_ | refine ⟨_, fun _ => rfl, k _ ?_⟩); clear k)
     refine gO (NoPanic.normal ?_)
     go_wp2_with fail
     go_ret2
     exact ⟨rfl, s9.out.same fs2⟩
    have hyk := hxyk.out hgk
    rw [hyk] at y0
    have hup1 : ∀ i, i < k + 1 → ok i := fun i hi => by
     rcases Nat.lt_succ_iff_lt_or_eq.1 hi with h9 | rfl
     · exact hup.out i h9
     · exact hgk
    replace hup1 := gi hup1; replace hgk := gi hgk; replace hyk := gi hyk
    refine wp_region_sched (fun k => k = wr.heap.size ∨ k = b1) [0, 1, 0, 0, 0, 1, 2, 0, 0, 0, 0, 0] [0, 2, 3, 4, 1, 5, 6, 7, 8, 9, 10, 11] (by kernel_rfl) (by kernel_rfl) ?_
    repeat ((first | refine gB rfl rfl fun _ k => ?_ | refine gC rfl rfl fun _ k => ?_); go_simp; (first | refine k _ ?_ | refine ⟨_, fun _ => rfl, k _ ?_⟩); clear k)
    refine gF rfl rfl (fun _ hK => ?_)
    go_simp
    refine (ENk.out hgk.out _).mono ?_
    rintro e w3 ⟨a3, c3, rfl, hE3, s3⟩
    refine hK _ _ (Kp.of_same s3) ?_
    clear hK
    (try simp only [Act.put, gj])
    clear x0 x1 x2 x3 xl
    clear y0 hb1
    replace s3 := (show Same W2 _ from fs3).same s3
    have s3 := s2.out.same s3
    have hE3 := (SliceAt.of_owns hE3).row
    clear ka s2
    replace s3 := gi s3; replace hE3 := gi hE3
    repeat ((first | refine gB rfl rfl fun _ k => ?_ | refine gC rfl rfl fun _ k => ?_); go_simp; (first | refine k _ ?_ | refine ⟨_, fun _ => rfl, k _ ?_⟩); clear k)
    refine gO (NoPanic.normal ?_)
    have hsw3 : Same w w3 := hsw.out.same s3.out
    obtain ⟨b2, off2, ha2, hb2, z0⟩ := hTk.out _ hsw3
    subst ha2
    have kl3 := s3.out.at kl1.out id
    have hB3 : BoolsAt w3 g (N.encO x k) := hB.out.fr s3.out id
    have hf3 := hf.out.same s3.out
    have hpk1 : (0 : Int) ≤ (pk : Int) := by omega
    have hpk2 : (pk : Int) ≤ n := by omega
    have hpk3 : pk ≤ n := by omega
    have hpk4 : ¬ (pk : Int) < 0 := by omega
    clear hB hf hsw kl1 kn1 s3
    replace kl3 := gi kl3; replace hB3 := gi hB3; replace hf3 := gi hf3; replace hsw3 := gi hsw3
    obtain ⟨x0, x1, x2, x3, xl⟩ := g4l kl3.out
    by_cases hbk : bk = 0
    · obtain rfl : cl = [] := List.length_eq_zero_iff.1 (by rw [helk.out]; exact hbk)
      have hB4 : BoolsAt w3 g (N.encO x (k + 1)) := by rw [hOsk.out, splB_nil]; exact hB3.out
      subst hbk
      replace hB4 := gi hB4
      by_cases hpn : n = pk
      · subst hpn
        have hcp := run_copy_none (P := Tryz.prog) w3 52 52 3 4 (some ⟨g, 0, none⟩) a3 0 0 0 c3 Tryz.underlying52 infoB1 (by simp)
        go_wp2_with fail
        go_roundw
        case rel => exact ⟨k + 1, by go_num, by omega, hup1.out, hB4.out.fr (S := fun _ => False) fs2 id, hf3.out.same fs2⟩
        case measure => simp [intOf]; omega
      · have hcp := run_copy_none (P := Tryz.prog) w3 52 52 3 4 (some ⟨g, pk, none⟩) a3 (n - pk) (n - pk) 0 c3 Tryz.underlying52 infoB1 (by simp)
        go_wp2_with fail
        go_roundw
        case rel => exact ⟨k + 1, by go_num, by omega, hup1.out, hB4.out.fr (S := fun _ => False) fs2 id, hf3.out.same fs2⟩
        case measure => simp [intOf]; omega
    · have hpn : ¬ n = pk := by omega
      obtain ⟨b3, o3, rfl, hb3, hc3⟩ := hE3.out.cell (by omega)
      have hcl : (gz cl).length = bk := by rw [boolCells_len, helk.out]
      have hOl9 : (gz (N.encO x k)).length = n := by rw [boolCells_len, hOlk.out]
      have hc4 : ∀ (j : Nat) (v : Value), (gz cl)[j]? = some v → w3.cell? (Addr.add ⟨b3, o3, none⟩ j) = some v := by
       intro j v hj
       have h := hc3 j v hj
       by_cases hj0 : j = 0
       · subst hj0
         simpa [Addr.add] using h
       · simpa [Addr.add, hj0] using h
      have hcp := run_copy_row Tryz.prog w3 52 52 3 4 g pk (n - pk) (n - pk) ⟨b3, o3, none⟩ bk c3 (gz (N.encO x k)).toArray 4 (gz cl) Tryz.underlying52 infoB1 hB3.out (by rw [hcl]; exact (Nat.min_eq_left (by omega)).symm) hc4 (by rw [hcl]; simp only [List.size_toArray, hOl9]; omega) (fun u hu => by obtain ⟨z, _, rfl⟩ := List.mem_map.1 hu; rfl)
      obtain ⟨rw9, hrw⟩ : ∃ r, r = ((gz (N.encO x k)).toArray.toList.take pk ++ gz cl ++ (gz (N.encO x k)).toArray.toList.drop (pk + (gz cl).length)).toArray := ⟨_, rfl⟩
      rw [← hrw, hcl] at hcp
      have hB4 : BoolsAt (w3.setRow g rw9) g (N.encO x (k + 1)) := by
       rw [hOsk.out]
       unfold BoolsAt
       rw [setRow_heap w3 g (gz (N.encO x k)).toArray rw9 4 (0, 0) hB3.out, hrw, ← boolCells_spl]
       simp only [List.append_assoc]
      have hf4 := hf3.out.setRow g rw9 (fun _ => rfl)
      clear hrw hc3 hc4
      replace hB4 := gi hB4; replace hbk := gi hbk; replace hf4 := gi hf4
      go_wp2_with fail
      generalize w3.setRow g rw9 = W4 at *
      go_roundw
      case rel => exact ⟨k + 1, by go_num, by omega, hup1.out, hB4.out.fr (S := fun _ => False) fs2 id, hf4.out.same fs2⟩
      case measure => simp [intOf]; omega
  · obtain rfl : k = N.As.length := by omega
    exact absurd hup hno.out
theorem encode_len (N : Nw) (OK : NetOk N) (nY : Nat) (hn9 : nY ≤ maxLen) (hne : nY ≠ N.As.length) (aX : Option Addr) (cX : Nat) (aT aB : Option Addr) (cT cB : Nat) (w : World) :
 Calls Tryz.prog 44 #[.agg #[.slice aT N.As.length cT, .slice aB N.As.length cB, .int .i64 N.all, .bool N.emp], .agg #[.slice N.aA N.As.length N.cA, .slice N.aO N.o.length N.cO], .slice aX nY cX] w fun e w' => e = .returned (.tuple #[.slice none 0 0, .int .i64 4]) ∧ Same w w' := by
 have hm12 := OK.ok.m12
 clear OK
 unfold maxLen at hn9
 generalize N.all = n at *
 generalize N.emp = em at *
 generalize N.As.length = m at *
 generalize N.o.length = qo at *
 generalize N.aA = aA at *
 generalize N.cA = cA at *
 generalize N.aO = aO at *
 generalize N.cO = cO at *
 have hn1 : ((nY : Int) = (m : Int)) = False := by simp; omega
 go_enter Tryz.func44, Tryz.ntmps44
 go_upto_region 1 with fail
 have kl := heap_old (gv w (.cells #[.slice aT m cT, .slice aB m cB, .int .i64 n, .bool em] 89)) (.cells #[.slice aA m cA, .slice aO qo cO] 36)
 have kn := gv (w.alloc (.cells #[.slice aT m cT, .slice aB m cB, .int .i64 n, .bool em] 89)) (.cells #[.slice aA m cA, .slice aO qo cO] 36)
 rw [← al1] at kn
 have hs : Same w ((w.alloc (.cells #[.slice aT m cT, .slice aB m cB, .int .i64 n, .bool em] 89)).alloc (.cells #[.slice aA m cA, .slice aO qo cO] 36)) := fs2
 generalize (w.alloc (.cells #[.slice aT m cT, .slice aB m cB, .int .i64 n, .bool em] 89)).alloc (.cells #[.slice aA m cA, .slice aO qo cO] 36) = W0 at *
 replace kl := gi kl; replace kn := gi kn; replace hs := gi hs
 obtain ⟨y0, y1, yl⟩ := g2l kn.out
 go_wp2_with fail
 go_ret2
 exact ⟨rfl, hs.out.same fs2⟩
theorem right_len (N : Nw) (OK : NetOk N) (nY : Nat) (hn9 : nY ≤ maxLen) (hne : nY ≠ N.As.length) (aX : Option Addr) (cX : Nat) (w : World) :
 Calls Tryz.prog 14 #[.agg #[.slice N.aA N.As.length N.cA, .slice N.aO N.o.length N.cO], .slice aX nY cX] w fun e w' => e = .returned (.int .i64 4) ∧ Same w w' := by
 have hm12 := OK.ok.m12
 clear OK
 unfold maxLen at hn9
 generalize N.all = n at *
 generalize N.emp = em at *
 generalize N.As.length = m at *
 generalize N.o.length = qo at *
 generalize N.aA = aA at *
 generalize N.cA = cA at *
 generalize N.aO = aO at *
 generalize N.cO = cO at *
 have hn1 : ((nY : Int) = (m : Int)) = False := by simp; omega
 go_enter Tryz.func14, Tryz.ntmps14
 go_upto_region 1 with fail
 have kn := gv w (.cells #[.slice aA m cA, .slice aO qo cO] 36)
 have hs : Same w (w.alloc (.cells #[.slice aA m cA, .slice aO qo cO] 36)) := fs2
 generalize w.alloc (.cells #[.slice aA m cA, .slice aO qo cO] 36) = W0 at *
 replace kn := gi kn; replace hs := gi hs
 obtain ⟨y0, y1, yl⟩ := g2l kn.out
 go_wp2_with fail
 go_ret
 exact ⟨rfl, hs.out.same fs2⟩
theorem right_in (N : Nw) (OK : NetOk N) (y : List Int) (hy : y.length = N.As.length) (aX : Option Addr) (cX : Nat) (E : Nat) (w : World) (hat : N.at w) (hX : RowAt w (.slice aX N.As.length cX) N.As.length (gw y)) (hE : E = 2 ∧ (∃ i, i < N.As.length ∧ ¬ okI N.ns y i) ∨ E = 0 ∧ ∀ i, i < N.As.length → okI N.ns y i) :
 Calls Tryz.prog 14 #[.agg #[.slice N.aA N.As.length N.cA, .slice N.aO N.o.length N.cO], .slice aX N.As.length cX] w fun e w' => e = .returned (.int .i64 E) ∧ Same w w' := by
 have hm12 := OK.ok.m12
 have h10 := OK.h10
 have hR : ∀ (k : Nat) (hk : k < N.As.length) W (hW : Same w W), ∃ b off, N.aA = some ⟨b, off, none⟩ ∧ b < W.heap.size ∧ W.cell? ⟨b, off + k * 4, none⟩ = some (.slice N.As[k].aA N.As[k].al.length N.As[k].cA) ∧ W.cell? ⟨b, off + k * 4 + 1, none⟩ = some (.int .i64 ((N.ns.getD k 0 : Nat) : Int)) ∧
  W.cell? ⟨b, off + k * 4 + 2, none⟩ = some (.slice N.As[k].aM N.As[k].ma.length N.As[k].cM) ∧ W.cell? ⟨b, off + k * 4 + 3, none⟩ = some (.slice N.As[k].aE N.As[k].es.length N.As[k].cE) := fun k hk W hW => by
  have := (hat.au.same hW).row hk
  rw [(OK.ok.n4 hk).2] at this
  exact this
 have hXr := fun (k : Nat) (hk : k < N.As.length) W (hW : Same w W) => (show ∃ b off, aX = some ⟨b, off, none⟩ ∧ b < W.heap.size ∧ W.cell? ⟨b, off + k, none⟩ = some (.int .i64 (y.getD k 0)) from (hX.same hW).ints hk)
 have hbd : ∀ k, k < N.As.length → ¬ okI N.ns y k → E = 2 := fun k hk h => by
  rcases hE with ⟨h1, _⟩ | ⟨_, h2⟩
  · exact h1
  · exact absurd (h2 k hk) h
 have hgd : (∀ i, i < N.As.length → okI N.ns y i) → E = 0 := fun h => by
  rcases hE with ⟨_, i, h1, h2⟩ | ⟨h1, _⟩
  · exact absurd (h i h1) h2
  · exact h1
 have hokd : ∀ k, okI N.ns y k ↔ (0 ≤ y.getD k 0 ∧ y.getD k 0 < (N.ns.getD k 0 : Nat)) := fun k => Iff.rfl
 generalize okI N.ns y = ok at *
 clear hat OK hX hE hy
 generalize N.aA = aA at *
 generalize N.cA = cA at *
 generalize N.aO = aO at *
 generalize N.cO = cO at *
 generalize N.o.length = qo at *
 replace hR := gi hR; replace hXr := gi hXr; replace hbd := gi hbd; replace hgd := gi hgd; replace hokd := gi hokd
 go_enter Tryz.func14, Tryz.ntmps14
 go_upto_region 1 with fail
 have kn := gv w (.cells #[.slice aA N.As.length cA, .slice aO qo cO] 36)
 have hs : Same w (w.alloc (.cells #[.slice aA N.As.length cA, .slice aO qo cO] 36)) := fs2
 generalize w.alloc (.cells #[.slice aA N.As.length cA, .slice aO qo cO] 36) = W0 at *
 replace kn := gi kn; replace hs := gi hs
 obtain ⟨y0, y1, yl⟩ := g2l kn.out
 go_upto_region 4 with fail
 clear y0 y1 yl
 go_loopw [16] (fun i wr => ∃ k : Nat, i = .int .i64 k ∧ k ≤ N.As.length ∧ (∀ i, i < k → ok i) ∧ Same W0 wr) (fun i _ => N.As.length - (intOf i).toNat)
 case atStart => exact ⟨0, rfl, Nat.zero_le _, fun i h => by omega, Fr.refl _ _⟩
 case round =>
  obtain ⟨k, rfl, hk, hup, hf⟩ := hrel
  have hsw : Same w wr := hs.out.same hf
  by_cases hlt : k < N.As.length
  · obtain ⟨b0, off0, ha0, hb0, x0, x1, x2, x3⟩ := hR.out k hlt _ hsw
    obtain ⟨b1, off1, ha1, hb1, y0⟩ := hXr.out k hlt _ hsw
    have hbk := hbd.out k hlt
    have hok := hokd.out k
    generalize N.As[k].aA = fA at *
    generalize N.As[k].al.length = qA at *
    generalize N.As[k].cA = gA at *
    generalize N.As[k].aM = fM at *
    generalize N.As[k].ma.length = qM at *
    generalize N.As[k].cM = gM at *
    generalize N.As[k].aE = fE at *
    generalize N.As[k].es.length = qE at *
    generalize N.As[k].cE = gE at *
    generalize N.ns.getD k 0 = nk at *
    generalize y.getD k 0 = yk at *
    subst ha0 ha1
    replace hup := gi hup; replace hf := gi hf; replace hsw := gi hsw; replace hbk := gi hbk; replace hok := gi hok
    go_upto_region 6 with fail
    have ka := gv wr (.cells #[.slice fA qA gA, .int .i64 nk, .slice fM qM gM, .slice fE qE gE] 44)
    have s2 : Same wr (wr.alloc (.cells #[.slice fA qA gA, .int .i64 nk, .slice fM qM gM, .slice fE qE gE] 44)) := fs2
    have y0 := s2.cell? ⟨b1, off1 + k, none⟩ hb1 y0
    have hb1 : b1 < (wr.alloc (.cells #[.slice fA qA gA, .int .i64 nk, .slice fM qM gM, .slice fE qE gE] 44)).heap.size := Nat.lt_of_lt_of_le hb1 s2.size
    have hs2 := hsw.out.same s2
    have hf2 := hf.out.same s2
    generalize wr.alloc (.cells #[.slice fA qA gA, .int .i64 nk, .slice fM qM gM, .slice fE qE gE] 44) = W2 at *
    generalize wr.heap.size = ba at *
    clear x0 x1 x2 x3 hb0 s2 hf hsw
    replace ka := gi ka; replace hs2 := gi hs2; replace hf2 := gi hf2
    obtain ⟨x0, x1, x2, x3, xl⟩ := g4l ka.out
    by_cases hneg : yk < 0
    · have he2 := hbk.out (fun h => by have := hok.out.1 h; omega)
      subst he2
      refine wp_region_sched (fun k => k = ba ∨ k = b1) [0, 0, 0, 1, 0, 0, 0, 0, 0, 1, 0, 1, 0, 0] [0, 1, 2, 3, 4, 5, 6, 7, 8, 10, 9, 11, 12, 13] (by kernel_rfl) (by kernel_rfl) ?_
      repeat ((first | refine gB rfl rfl fun _ k => ?_ | refine gC rfl rfl fun _ k => ?_); go_simp; (first | refine k _ ?_ | refine ⟨_, fun _ => rfl, k _ ?_⟩); clear k)
      refine gO (NoPanic.normal ?_)
      go_wp2_with fail
      go_ret
      exact ⟨rfl, hs2.out.same fs2⟩
    · by_cases hge : (nk : Int) ≤ yk
      · have he2 := hbk.out (fun h => by have := hok.out.1 h; omega)
        subst he2
        refine wp_region_sched (fun k => k = ba ∨ k = b1) [0, 0, 0, 1, 0, 0, 0, 0, 0, 1, 0, 1, 0, 0] [0, 1, 2, 3, 4, 5, 6, 7, 8, 10, 9, 11, 12, 13] (by kernel_rfl) (by kernel_rfl) ?_
        repeat ((first | refine gB rfl rfl fun _ k => ?_ | refine gC rfl rfl fun _ k => ?_); go_simp; (first | refine k _ ?_ | refine ⟨_, fun _ => rfl, k _ ?_⟩); clear k)
        refine gO (NoPanic.normal ?_)
        go_wp2_with fail
        go_ret
        exact ⟨rfl, hs2.out.same fs2⟩
      · have hgk : ok k := hok.out.2 ⟨by omega, by omega⟩
        have hup1 : ∀ i, i < k + 1 → ok i := fun i hi => by
         rcases Nat.lt_succ_iff_lt_or_eq.1 hi with h9 | rfl
         · exact hup.out i h9
         · exact hgk
        clear hgk
        replace hup1 := gi hup1
        refine wp_region_sched (fun k => k = ba ∨ k = b1) [0, 0, 0, 1, 0, 0, 0, 0, 0, 1, 0, 1, 0, 0] [0, 1, 2, 3, 4, 5, 6, 7, 8, 10, 9, 11, 12, 13] (by kernel_rfl) (by kernel_rfl) ?_
        repeat ((first | refine gB rfl rfl fun _ k => ?_ | refine gC rfl rfl fun _ k => ?_); go_simp; (first | refine k _ ?_ | refine ⟨_, fun _ => rfl, k _ ?_⟩); clear k)
        refine gO (NoPanic.normal ?_)
        go_wp2_with fail
        go_roundw
        case rel => exact ⟨k + 1, by go_num, by omega, hup1.out, hf2.out.same fs2⟩
        case measure => simp [intOf]; omega
  · obtain rfl : k = N.As.length := by omega
    have he0 := hgd.out hup
    subst he0
    replace hsw := gi hsw
    go_wp2_with fail
    go_ret
    exact ⟨rfl, hsw.out.same fs2⟩
theorem right13 (N : Nw) (OK : NetOk N) (y : List Int) (nY : Nat) (hy : y.length = nY) (aX : Option Addr) (cX : Nat) (E : Nat) (w : World) (hat : N.at w) (hX : RowAt w (.slice aX nY cX) nY (gw y))
 (hE : nY ≠ N.As.length ∧ E = 4 ∨ nY = N.As.length ∧ E = 2 ∧ (∃ i, i < N.As.length ∧ ¬ okI N.ns y i) ∨ nY = N.As.length ∧ E = 0 ∧ ∀ i, i < N.As.length → okI N.ns y i) :
 Calls Tryz.prog 14 #[.agg #[.slice N.aA N.As.length N.cA, .slice N.aO N.o.length N.cO], .slice aX nY cX] w fun e w' => e = .returned (.int .i64 E) ∧ Same w w' := by
 rcases hE with ⟨h1, rfl⟩ | ⟨rfl, h2⟩ | ⟨rfl, h2⟩
 · exact right_len N OK nY (by obtain ⟨_, a9, c9, he9, h8, h9, _⟩ := hX; omega) h1 aX cX w
 · exact right_in N OK y hy aX cX E w hat hX (Or.inl h2)
 · exact right_in N OK y hy aX cX E w hat hX (Or.inr h2)
end Go.Proofs.YtcipnkemnepbaaaGreat
