/-  -/
import Derived.Test.YtcipnkemnepbaaaGreatSNetT
import Derived.Laws.CopyOwn
import Derived.Test.YtcipnkemnepbaaaGreatSIdxG
import Derived.Test.YtcipnkemnepbaaaGreatSGrpW
set_option maxRecDepth 100000
set_option maxHeartbeats 8000000
set_option linter.unusedVariables false
set_option linter.unusedSimpArgs false
namespace Go.Proofs.YtcipnkemnepbaaaGreat
open Go.RowKit
theorem Fr.cell? {w w' : World} (h : Same w w') (p : Addr) {v : Value} (hp : p.block < w.heap.size) (hc : w.cell? p = some v) : w'.cell? p = some v := by
 unfold World.cell? at hc ⊢
 rw [h.block p.block hp id]
 exact hc
def splB (L : List Bool) (off : Nat) (cs : List Bool) : List Bool := L.take off ++ (cs ++ L.drop (off + cs.length))
theorem splB_len {L cs : List Bool} {off : Nat} (h : off + cs.length ≤ L.length) : (splB L off cs).length = L.length := by simp [splB]; omega
theorem splB_in {L cs : List Bool} {off v : Nat} (h : off + cs.length ≤ L.length) (h1 : off ≤ v) (h2 : v < off + cs.length) : (splB L off cs).getD v false = cs.getD (v - off) false := by
 unfold splB
 simp only [List.getD_eq_getElem?_getD]
 rw [List.getElem?_append_right (by simp; omega), List.getElem?_append_left (by simp; omega)]
 simp only [List.length_take]
 congr 2
 omega
theorem splB_out {L cs : List Bool} {off v : Nat} (h : off + cs.length ≤ L.length) (h1 : v < off ∨ off + cs.length ≤ v) : (splB L off cs).getD v false = L.getD v false := by
 unfold splB
 simp only [List.getD_eq_getElem?_getD]
 rcases h1 with h1 | h1
 · rw [List.getElem?_append_left (by simp; omega), List.getElem?_take, if_pos h1]
 · rw [List.getElem?_append_right (by simp; omega), List.getElem?_append_right (by simp; omega), List.getElem?_drop]
   simp only [List.length_take]
   congr 2
   omega
theorem codeL_at (bs : Nat → Nat) (x : List Nat) : ∀ {o : List Nat}, o.Nodup → ∀ {i u : Nat}, i ∈ o → u < bs i → (codeL bs o x).getD (atB bs o i + u) false = (encL (bs i) (x.getD i 0)).getD u false
 | j :: l, hn, i, u, hi, hu => by
  have hnd := List.nodup_cons.1 hn
  rw [codeL_cons, atB]
  simp only [List.getD_eq_getElem?_getD]
  by_cases e : i = j
  · subst e
    rw [if_pos rfl, Nat.zero_add, List.getElem?_append_left (by rw [encL_len]; exact hu)]
  · rw [if_neg e, List.getElem?_append_right (by rw [encL_len]; omega), encL_len]
    have := codeL_at bs x hnd.2 (i := i) (u := u) (by rcases List.mem_cons.1 hi with h | h; exact absurd h e; exact h) hu
    simp only [List.getD_eq_getElem?_getD] at this
    rw [← this]
    congr 2
    omega
theorem boolCells_spl (L cs : List Bool) (off : Nat) : (gz L).take off ++ (gz cs ++ (gz L).drop (off + (gz cs).length)) = gz (splB L off cs) := by
 simp [gz, splB, List.map_take, List.map_drop]
theorem splB_nil (L : List Bool) (off : Nat) : splB L off [] = L := by simp [splB]
theorem infoB1 : (Tryz.prog.info? 4).map (·.size) = some 1 := by kernel_rfl
def Nw.encO (N : Nw) (x : List Nat) : Nat → List Bool
 | 0 => List.replicate N.all false
 | k + 1 => splB (N.encO x k) (N.at' k) (encL (N.bs k) (x.getD k 0))
theorem NwOk.encO_len {N : Nw} (h : NwOk N) (x : List Nat) : ∀ k, k ≤ N.As.length → (N.encO x k).length = N.all
 | 0, _ => by simp [Nw.encO]
 | k + 1, hk => by
  have ih := h.encO_len x k (by omega)
  have := h.le (i := k) (by omega)
  rw [Nw.encO, splB_len (by rw [encL_len, ih]; exact this), ih]
theorem NwOk.encO_get {N : Nw} (h : NwOk N) (x : List Nat) : ∀ k, k ≤ N.As.length → ∀ i, i < k → ∀ u, u < N.bs i → (N.encO x k).getD (N.at' i + u) false = (encL (N.bs i) (x.getD i 0)).getD u false
 | 0, _, i, hi, _, _ => by omega
 | k + 1, hk, i, hi, u, hu => by
  have hl := h.encO_len x k (by omega)
  have hle := h.le (i := k) (by omega)
  rw [Nw.encO]
  by_cases e : i = k
  · subst e
    rw [splB_in (by rw [encL_len, hl]; exact hle) (by omega) (by rw [encL_len]; omega)]
    congr 1
    omega
  · rw [splB_out (by rw [encL_len, hl]; exact hle)]
    · exact h.encO_get x k (by omega) i (by omega) u hu
    · rw [encL_len]
      have := atB_ne N.bs ((h.pm.mem i).2 (by omega)) ((h.pm.mem k).2 (by omega)) e
      show N.at' i + u < N.at' k ∨ N.at' k + N.bs k ≤ N.at' i + u
      unfold Nw.at'
      omega
theorem NwOk.encO_end {N : Nw} (h : NwOk N) (x : List Nat) : N.encO x N.As.length = codeL N.bs N.on x := by
 have h1 := h.encO_len x N.As.length (Nat.le_refl _)
 have h2 : (codeL N.bs N.on x).length = N.all := codeL_len _ _ _
 refine ext_getD h1 h2 (fun v hv => ?_)
 obtain ⟨i, hi, a1, a2⟩ := atB_cover N.bs h.pm.nodup (v := v) hv
 have e : v = N.at' i + (v - N.at' i) := by unfold Nw.at'; omega
 have hu : v - N.at' i < N.bs i := by unfold Nw.at'; omega
 rw [e, h.encO_get x _ (Nat.le_refl _) i ((h.pm.mem i).1 hi) _ hu]
 exact (codeL_at N.bs x h.pm.nodup hi hu).symm
theorem encode_ok (N : Nw) (OK : NetOk N) (x : List Nat) (aX : Option Addr) (cX : Nat) (aT aB : Option Addr) (cT cB : Nat) (w : World) (hat : N.at w) (hly : LyAt N aT aB cT cB w) (hxl : x.length = N.As.length) (hx : ∀ i, i < N.As.length → x.getD i 0 < N.ns.getD i 0) (hX : RowAt w (.slice aX N.As.length cX) N.As.length (gw (natI x))) :
 Calls Tryz.prog 44 #[.agg #[.slice aT N.As.length cT, .slice aB N.As.length cB, .int .i64 N.all, .bool N.emp], .agg #[.slice N.aA N.As.length N.cA, .slice N.aO N.o.length N.cO], .slice aX N.As.length cX] w fun e w' => ∃ g, e = .returned (.tuple #[.slice (some ⟨g, 0, none⟩) N.all N.all, .int .i64 0]) ∧ BoolsAt w' g (codeL N.bs N.on x) ∧ w.heap.size ≤ g ∧ Same w w' := by
 have hm12 := OK.ok.m12
 have h10 := OK.h10
 have hR : ∀ (k : Nat) (hk : k < N.As.length) W (hW : Same w W), ∃ b off, N.aA = some ⟨b, off, none⟩ ∧ b < W.heap.size ∧ W.cell? ⟨b, off + k * 4, none⟩ = some (.slice N.As[k].aA N.As[k].al.length N.As[k].cA) ∧ W.cell? ⟨b, off + k * 4 + 1, none⟩ = some (.int .i64 ((N.ns.getD k 0 : Nat) : Int)) ∧
  W.cell? ⟨b, off + k * 4 + 2, none⟩ = some (.slice N.As[k].aM N.As[k].ma.length N.As[k].cM) ∧ W.cell? ⟨b, off + k * 4 + 3, none⟩ = some (.slice N.As[k].aE N.As[k].es.length N.As[k].cE) := fun k hk W hW => by
  have := (hat.au.same hW).row hk
  rw [(OK.ok.n4 hk).2] at this
  exact this
 have hXr := fun (k : Nat) (hk : k < N.As.length) W (hW : Same w W) => (hX.same hW).nat hk
 have hT := fun (k : Nat) (hk : k < N.As.length) W (hW : Same w W) => (hly.t.same hW).row.nat hk
 have hTe : ∀ k, k < N.As.length → ((List.range N.As.length).map N.at').getD k 0 = N.at' k := fun k hk => by simp [List.getD, hk]
 have EN := fun (k : Nat) (hk : k < N.As.length) W => Encode_ok (n := N.ns.getD k 0) (s := x.getD k 0) (OK.ok.n4 hk).1 (hx k hk) W
 have hbe : ∀ k, bitsF (N.ns.getD k 0) = N.bs k := fun _ => rfl
 simp only [hbe] at EN
 have hle := fun (k : Nat) (hk : k < N.As.length) => OK.ok.le hk
 have hOl := fun (k : Nat) (hk : k ≤ N.As.length) => OK.ok.encO_len x k hk
 have hOs : ∀ k, N.encO x (k + 1) = splB (N.encO x k) (N.at' k) (encL (N.bs k) (x.getD k 0)) := fun _ => rfl
 have hO0 : N.encO x 0 = List.replicate N.all false := rfl
 have hOe := OK.ok.encO_end x
 have hel : ∀ k, (encL (N.bs k) (x.getD k 0)).length = N.bs k := fun k => encL_len _ _
 generalize codeL N.bs N.on x = CO at *
 obtain ⟨i3, hi3, hi3z, hi3s, hi3b⟩ := info_parts info4
 clear hat hly hx hX hxl hbe
 generalize N.aA = aA at *
 generalize N.cA = cA at *
 generalize N.aO = aO at *
 generalize N.cO = cO at *
 generalize N.o.length = qo at *
 generalize N.emp = em at *
 generalize hnn : N.all = n at *
 replace hR := gi hR; replace hXr := gi hXr; replace hT := gi hT; replace hTe := gi hTe; replace EN := gi EN; replace hle := gi hle; replace hOl := gi hOl; replace hOs := gi hOs; replace hO0 := gi hO0; replace hOe := gi hOe; replace hel := gi hel; replace hnn := gi hnn
 go_enter Tryz.func44, Tryz.ntmps44
 go_upto_region 1 with fail
 have kl := heap_old (gv w (.cells #[.slice aT N.As.length cT, .slice aB N.As.length cB, .int .i64 n, .bool em] 89)) (.cells #[.slice aA N.As.length cA, .slice aO qo cO] 36)
 have kn := gv (w.alloc (.cells #[.slice aT N.As.length cT, .slice aB N.As.length cB, .int .i64 n, .bool em] 89)) (.cells #[.slice aA N.As.length cA, .slice aO qo cO] 36)
 rw [← al1] at kn
 have hs : Same w ((w.alloc (.cells #[.slice aT N.As.length cT, .slice aB N.As.length cB, .int .i64 n, .bool em] 89)).alloc (.cells #[.slice aA N.As.length cA, .slice aO qo cO] 36)) := fs2
 generalize (w.alloc (.cells #[.slice aT N.As.length cT, .slice aB N.As.length cB, .int .i64 n, .bool em] 89)).alloc (.cells #[.slice aA N.As.length cA, .slice aO qo cO] 36) = W0 at *
 replace kl := gi kl; replace kn := gi kn; replace hs := gi hs
 obtain ⟨x0, x1, x2, x3, xl⟩ := g4l kl.out
 obtain ⟨y0, y1, yl⟩ := g2l kn.out
 go_upto_region 4 with (first | (at_make; refine wpList_mkb _ rfl (.tmp 20) (.tmp 20) 52 rfl 4 i3 Tryz.underlying52 hi3 hi3z hi3s hi3b n rfl rfl (by omega) ?_))
 have hB0 : BoolsAt (W0.alloc (.cells (gz (List.replicate n false)).toArray 4)) W0.heap.size (List.replicate n false) := gv _ _
 have s1 : Same W0 (W0.alloc (.cells (gz (List.replicate n false)).toArray 4)) := fs2
 have hg0 : w.heap.size + 1 < W0.heap.size := gu kn.out
 clear x0 x1 x2 x3 xl
 clear y0 y1 yl
 have kl := s1.at kl.out id
 have kn := s1.at kn.out id
 have hs1 := hs.out.same s1
 clear s1 hs
 generalize W0.alloc (.cells (gz (List.replicate n false)).toArray 4) = W1 at *
 generalize W0.heap.size = g at *
 rw [← hO0.out] at hB0
 replace kl := gi kl; replace kn := gi kn; replace hs1 := gi hs1; replace hB0 := gi hB0
 obtain ⟨y0, y1, yl⟩ := g2l kn.out
 go_upto_region 5 with fail
 clear y0 y1 yl
 go_loopw [25] (fun i wr => ∃ k : Nat, i = .int .i64 k ∧ k ≤ N.As.length ∧ BoolsAt wr g (N.encO x k) ∧ Fr (fun b => b = g) W1 wr) (fun i _ => N.As.length - (intOf i).toNat)
 case atStart => exact ⟨0, rfl, Nat.zero_le _, hB0.out, Fr.refl _ _⟩
 case round =>
  obtain ⟨k, rfl, hk, hB, hf⟩ := hrel
  have hsw : Same w wr := hs1.out.trans hf (fun i hi e => by have : i = g := e; omega)
  have kl1 := hf.at kl.out (by omega)
  have kn1 := hf.at kn.out (by omega)
  by_cases hlt : k < N.As.length
  · obtain ⟨b0, off0, ha0, hb0, x0, x1, x2, x3⟩ := hR.out k hlt _ hsw
    obtain ⟨b1, off1, ha1, hb1, y0⟩ := hXr.out k hlt _ hsw
    have ENk := EN.out k hlt
    have hlek := hle.out k hlt
    have hOlk := hOl.out k hk
    have hOsk := hOs.out k
    have helk := hel.out k
    generalize N.As[k].aA = fA at *
    generalize N.As[k].al.length = qA at *
    generalize N.As[k].cA = gA at *
    generalize N.As[k].aM = fM at *
    generalize N.As[k].ma.length = qM at *
    generalize N.As[k].cM = gM at *
    generalize N.As[k].aE = fE at *
    generalize N.As[k].es.length = qE at *
    generalize N.As[k].cE = gE at *
    generalize encL (N.bs k) (x.getD k 0) = cl at *
    generalize N.bs k = bk at *
    generalize N.ns.getD k 0 = nk at *
    generalize x.getD k 0 = xk at *
    have hTk := fun W hW => hT.out k hlt W hW
    rw [hTe.out k hlt] at hTk
    generalize N.at' k = pk at *
    subst ha0 ha1
    replace hB := gi hB; replace hf := gi hf; replace hsw := gi hsw; replace kl1 := gi kl1; replace kn1 := gi kn1; replace ENk := gi ENk; replace hOlk := gi hOlk; replace hOsk := gi hOsk; replace helk := gi helk; replace hTk := gi hTk
    go_upto_region 7 with fail
    have ka := gv wr (.cells #[.slice fA qA gA, .int .i64 nk, .slice fM qM gM, .slice fE qE gE] 44)
    have s2 : Same wr (wr.alloc (.cells #[.slice fA qA gA, .int .i64 nk, .slice fM qM gM, .slice fE qE gE] 44)) := fs2
    have y0 := s2.cell? ⟨b1, off1 + k, none⟩ hb1 y0
    have hb1 : b1 < (wr.alloc (.cells #[.slice fA qA gA, .int .i64 nk, .slice fM qM gM, .slice fE qE gE] 44)).heap.size := Nat.lt_of_lt_of_le hb1 s2.size
    generalize wr.alloc (.cells #[.slice fA qA gA, .int .i64 nk, .slice fM qM gM, .slice fE qE gE] 44) = W2 at *
    clear x0 x1 x2 x3 hb0
    replace ka := gi ka; replace s2 := gi s2
    obtain ⟨x0, x1, x2, x3, xl⟩ := g4l ka.out
    refine wp_region_sched (fun k => k = wr.heap.size ∨ k = b1) [0, 1, 0, 0, 0, 1, 2, 0, 0, 0, 0, 0] [0, 2, 3, 4, 1, 5, 6, 7, 8, 9, 10, 11] (by kernel_rfl) (by kernel_rfl) ?_
    repeat ((first | refine sched_w rfl rfl fun _ k => ?_ | refine sched_s rfl rfl fun _ k => ?_); go_simp; (first | refine k _ ?_ | refine ⟨_, fun _ => rfl, k _ ?_⟩); clear k)
    refine sched_g rfl rfl (fun _ hK => ?_)
    go_simp
    refine (ENk.out _).mono ?_
    rintro e w3 ⟨a3, c3, rfl, hE3, s3⟩
    refine hK _ _ (Kp.of_same s3) ?_
    clear hK
    (try simp only [Act.put, gj])
    clear x0 x1 x2 x3 xl
    clear y0 hb1
    replace s3 := (show Same W2 _ from fs3).same s3
    have s3 := s2.out.same s3
    have hE3 := (SliceAt.of_owns hE3).row
    clear ka s2
    replace s3 := gi s3; replace hE3 := gi hE3
    repeat ((first | refine sched_w rfl rfl fun _ k => ?_ | refine sched_s rfl rfl fun _ k => ?_); go_simp; (first | refine k _ ?_ | refine ⟨_, fun _ => rfl, k _ ?_⟩); clear k)
    refine sched_nil (NoPanic.normal ?_)
    have hsw3 : Same w w3 := hsw.out.same s3.out
    obtain ⟨b2, off2, ha2, hb2, z0⟩ := hTk.out _ hsw3
    subst ha2
    have kl3 := s3.out.at kl1.out id
    have hB3 : BoolsAt w3 g (N.encO x k) := hB.out.fr s3.out id
    have hf3 := hf.out.same s3.out
    have hpk1 : (0 : Int) ≤ (pk : Int) := by omega
    have hpk2 : (pk : Int) ≤ n := by omega
    have hpk3 : pk ≤ n := by omega
    have hpk4 : ¬ (pk : Int) < 0 := by omega
    clear hB hf hsw kl1 kn1 s3
    replace kl3 := gi kl3; replace hB3 := gi hB3; replace hf3 := gi hf3; replace hsw3 := gi hsw3
    obtain ⟨x0, x1, x2, x3, xl⟩ := g4l kl3.out
    by_cases hbk : bk = 0
    · obtain rfl : cl = [] := List.length_eq_zero_iff.1 (by rw [helk.out]; exact hbk)
      have hB4 : BoolsAt w3 g (N.encO x (k + 1)) := by rw [hOsk.out, splB_nil]; exact hB3.out
      subst hbk
      replace hB4 := gi hB4
      by_cases hpn : n = pk
      · subst hpn
        have hcp := run_copy_none (P := Tryz.prog) w3 52 52 3 4 (some ⟨g, 0, none⟩) a3 0 0 0 c3 Tryz.underlying52 infoB1 (by simp)
        go_wp2_with fail
        go_roundw
        case rel => exact ⟨k + 1, by go_num, by omega, hB4.out.fr (S := fun _ => False) fs2 id, hf3.out.same fs2⟩
        case measure => simp [intOf]; omega
      · have hcp := run_copy_none (P := Tryz.prog) w3 52 52 3 4 (some ⟨g, pk, none⟩) a3 (n - pk) (n - pk) 0 c3 Tryz.underlying52 infoB1 (by simp)
        go_wp2_with fail
        go_roundw
        case rel => exact ⟨k + 1, by go_num, by omega, hB4.out.fr (S := fun _ => False) fs2 id, hf3.out.same fs2⟩
        case measure => simp [intOf]; omega
    · have hpn : ¬ n = pk := by omega
      obtain ⟨b3, o3, rfl, hb3, hc3⟩ := hE3.out.cell (by omega)
      have hcl : (gz cl).length = bk := by rw [boolCells_len, helk.out]
      have hOl9 : (gz (N.encO x k)).length = n := by rw [boolCells_len, hOlk.out]
      have hc4 : ∀ (j : Nat) (v : Value), (gz cl)[j]? = some v → w3.cell? (Addr.add ⟨b3, o3, none⟩ j) = some v := by
       intro j v hj
       have h := hc3 j v hj
       by_cases hj0 : j = 0
       · subst hj0
         simpa [Addr.add] using h
       · simpa [Addr.add, hj0] using h
      have hcp := run_copy_row Tryz.prog w3 52 52 3 4 g pk (n - pk) (n - pk) ⟨b3, o3, none⟩ bk c3 (gz (N.encO x k)).toArray 4 (gz cl) Tryz.underlying52 infoB1 hB3.out (by rw [hcl]; exact (Nat.min_eq_left (by omega)).symm) hc4 (by rw [hcl]; simp only [List.size_toArray, hOl9]; omega) (fun u hu => by obtain ⟨z, _, rfl⟩ := List.mem_map.1 hu; rfl)
      obtain ⟨rw9, hrw⟩ : ∃ r, r = ((gz (N.encO x k)).toArray.toList.take pk ++ gz cl ++ (gz (N.encO x k)).toArray.toList.drop (pk + (gz cl).length)).toArray := ⟨_, rfl⟩
      rw [← hrw, hcl] at hcp
      have hB4 : BoolsAt (w3.setRow g rw9) g (N.encO x (k + 1)) := by
       rw [hOsk.out]
       unfold BoolsAt
       rw [setRow_heap w3 g (gz (N.encO x k)).toArray rw9 4 (0, 0) hB3.out, hrw, ← boolCells_spl]
       simp only [List.append_assoc]
      have hf4 := hf3.out.setRow g rw9 (fun _ => rfl)
      clear hrw hc3 hc4
      replace hB4 := gi hB4; replace hbk := gi hbk; replace hf4 := gi hf4
      go_wp2_with fail
      generalize w3.setRow g rw9 = W4 at *
      go_roundw
      case rel => exact ⟨k + 1, by go_num, by omega, hB4.out.fr (S := fun _ => False) fs2 id, hf4.out.same fs2⟩
      case measure => simp [intOf]; omega
  · obtain rfl : k = N.As.length := by omega
    have hB1 := hB
    rw [hOe.out] at hB1
    replace hB1 := gi hB1; replace hsw := gi hsw; replace kl1 := gi kl1; replace kn1 := gi kn1; replace hf := gi hf; replace hB := gi hB
    go_wp2_with fail
    go_ret2
    exact ⟨g, rfl, hB1.out, by omega, hsw.out⟩
theorem Encode_net (N : Nw) (OK : NetOk N) (x : List Nat) (aX : Option Addr) (cX : Nat) (w : World) (hat : N.at w) (hxl : x.length = N.As.length) (hx : ∀ i, i < N.As.length → x.getD i 0 < N.ns.getD i 0) (hX : RowAt w (.slice aX N.As.length cX) N.As.length (gw (natI x))) :
 Calls Tryz.prog 33 #[.agg #[.slice N.aA N.As.length N.cA, .slice N.aO N.o.length N.cO], .slice aX N.As.length cX] w fun e w' => ∃ g, e = .returned (.tuple #[.slice (some ⟨g, 0, none⟩) N.all N.all, .int .i64 0]) ∧ BoolsAt w' g (codeL N.bs N.on x) ∧ w.heap.size ≤ g ∧ Same w w' := by
 have PL := fun W (hW : Same w W) => OK.place W (hat.same hW)
 have VA := fun aT aB cT cB W (hW : Same w W) (hly : LyAt N aT aB cT cB W) => encode_ok N OK x aX cX aT aB cT cB W (hat.same hW) hly hxl hx (hX.same hW)
 generalize codeL N.bs N.on x = R at *
 clear hat OK hxl hx hX
 generalize N.all = n at *
 generalize N.emp = em at *
 generalize N.As.length = m at *
 generalize N.o.length = qo at *
 generalize N.aA = aA at *
 generalize N.cA = cA at *
 generalize N.aO = aO at *
 generalize N.cO = cO at *
 replace PL := gi PL; replace VA := gi VA
 go_enter Tryz.func33, Tryz.ntmps33
 go_upto_region 1 with fail
 have kn := gv w (.cells #[.slice aA m cA, .slice aO qo cO] 36)
 have hs : Same w (w.alloc (.cells #[.slice aA m cA, .slice aO qo cO] 36)) := fs2
 generalize w.alloc (.cells #[.slice aA m cA, .slice aO qo cO] 36) = W0 at *
 replace kn := gi kn; replace hs := gi hs
 obtain ⟨y0, y1, yl⟩ := g2l kn.out
 go_wp2_with fail
 refine (PL.out _ hs.out).mono ?_
 rintro e w1 ⟨aT, aB, cT, cB, rfl, hly, s1⟩
 clear y0 y1 yl
 have hbl : w.heap.size < w1.heap.size := by have h9 := gu kn.out; have h8 := s1.size; omega
 replace kn := gi (s1.at kn.out id)
 have hs1 := hs.out.same s1
 clear s1
 replace hly := gi hly; replace hs1 := gi hs1
 go_upto_region 2 with fail
 have kl := gv w1 (.cells #[.slice aT m cT, .slice aB m cB, .int .i64 n, .bool em] 89)
 have s2 : Same w1 (w1.alloc (.cells #[.slice aT m cT, .slice aB m cB, .int .i64 n, .bool em] 89)) := fs2
 have hly2 := hly.out.same s2
 replace kn := gi (s2.at kn.out id)
 have hs2 := hs1.out.same s2
 clear s2 hly hs1 hs
 generalize w1.alloc (.cells #[.slice aT m cT, .slice aB m cB, .int .i64 n, .bool em] 89) = W1 at *
 generalize w1.heap.size = bl at *
 replace kl := gi kl; replace hly2 := gi hly2; replace hs2 := gi hs2
 obtain ⟨x0, x1, x2, x3, xl⟩ := g4l kl.out
 obtain ⟨y0, y1, yl⟩ := g2l kn.out
 go_wp2_with fail
 refine (VA.out _ _ _ _ _ hs2.out hly2.out).mono ?_
 rintro e w4 ⟨g, rfl, hB, hg, s4⟩
 clear x0 x1 x2 x3 xl
 clear y0 y1 yl
 have hs4 := hs2.out.same s4
 have hg2 : w.heap.size ≤ g := Nat.le_trans hs2.out.size hg
 clear s4 hs2 hly2 hg
 replace hB := gi hB; replace hg2 := gi hg2; replace hs4 := gi hs4
 go_wp2_with fail
 go_ret2
 exact ⟨g, rfl, hB.out.fr (S := fun _ => False) fs2 id, hg2.out, hs4.out.same fs2⟩
def Nw.tp (N : Nw) (L : List Bool) : List Nat := tupA N.bs N.at' N.As.length fun v => L.getD v false
theorem Nw.tp_len (N : Nw) (L : List Bool) : (N.tp L).length = N.As.length := tupA_len _ _ _ _
theorem Nw.tp_get (N : Nw) (L : List Bool) {i : Nat} (h : i < N.As.length) : (N.tp L).getD i 0 = placeF (fun v => L.getD v false) (N.bs i) (N.at' i) := tupA_get _ _ _ h
theorem seg_col (L : List Bool) (p b : Nat) (h : p + b ≤ L.length) : (L.drop p).take b = colF (fun u => L.getD (p + u) false) b := by
 refine List.ext_getElem? (fun i => ?_)
 rw [List.getElem?_take]
 by_cases hi : i < b
 · rw [if_pos hi, List.getElem?_drop]
   have h2 : p + i < L.length := by omega
   simp [colF, hi, List.getD, h2]
 · rw [if_neg hi]
   symm
   exact List.getElem?_eq_none (by rw [colF_length]; omega)
theorem seg_num {N : Nw} (L : List Bool) {i : Nat} (hi : i < N.As.length) (h : N.at' i + N.bs i ≤ L.length) : numB ((L.drop (N.at' i)).take (N.bs i)) = (N.tp L).getD i 0 := by
 rw [seg_col L _ _ h, numB_col, N.tp_get L hi]
 have := place_shift (fun v => L.getD v false) (N.at' i) (N.bs i) 0
 rw [Nat.add_zero] at this
 exact this
theorem cut_row {w : World} {a : Option Addr} {n cap p b : Nat} {L : List Bool} (h : RowAt w (.slice a n cap) n (gz L)) (hn : 0 < n) (hp : p + b ≤ n) (hpc : p < cap) :
 ∃ b' off, a = some ⟨b', off, none⟩ ∧ RowAt w (.slice (some ⟨b', off + p, none⟩) b (cap - p)) b (gz ((L.drop p).take b)) := by
 obtain ⟨hlen, a', cap', he, h1, h2, h3, hb⟩ := id h
 cases he
 by_cases hpn : p < n
 · obtain ⟨b', off, rfl, hR⟩ := h.cut hn p (p + b) (by omega) hp hpn
   refine ⟨b', off, rfl, ?_⟩
   rw [Nat.add_sub_cancel_left] at hR
   have e : ((gz L).drop p).take b = gz ((L.drop p).take b) := by simp [gz, List.map_drop, List.map_take]
   rw [e] at hR
   exact hR
 · have hb0 : b = 0 := by omega
   subst hb0
   obtain ⟨b', off, rfl, hlt, hc⟩ := hb hn
   exact ⟨b', off, rfl, by simp [gz], _, _, rfl, by omega, by omega, by simp, fun h0 => by omega⟩
theorem empty_row {w : World} {a : Option Addr} {n cap p : Nat} {L : List Bool} (h : RowAt w (.slice a n cap) n (gz L)) : RowAt w (.slice a 0 cap) 0 (gz ((L.drop p).take 0)) := by
 obtain ⟨hlen, a', cap', he, h1, h2, h3, hb⟩ := id h
 cases he
 exact ⟨by simp [gz], _, _, rfl, by omega, h2, h3, fun h0 => by omega⟩
theorem empty_row0 (w : World) (a : Option Addr) (L : List Bool) (p : Nat) : RowAt w (.slice a 0 0) 0 (gz ((L.drop p).take 0)) := ⟨by simp [gz], _, _, rfl, Nat.le_refl _, by unfold maxLen; omega, fun _ => rfl, fun h0 => by omega⟩
def DcE (N : Nw) (L : List Bool) (w : World) (e : Ending) (w' : World) : Prop :=
 (okT N.ns (N.tp L) = false ∧ e = .returned (.tuple #[.slice none 0 0, .bool false]) ∧ Same w w') ∨
 (okT N.ns (N.tp L) = true ∧ ∃ g, e = .returned (.tuple #[.slice (some ⟨g, 0, none⟩) N.As.length N.As.length, .bool true]) ∧ w'.heap[g]? = some (.cells (gw (natI (N.tp L))).toArray 3 (0, 0)) ∧ w.heap.size ≤ g ∧ Same w w')
def tpK (x : List Nat) (m k : Nat) : List Nat := x.take k ++ List.replicate (m - k) 0
theorem tpK_set {x : List Nat} {m k : Nat} (hx : x.length = m) (hk : k < m) : (tpK x m k).set k (x.getD k 0) = tpK x m (k + 1) := by
 unfold tpK
 have hkx : k < x.length := by omega
 have e : m - k = (m - (k + 1)) + 1 := by omega
 rw [e, List.replicate_succ, List.set_append_right _ _ (by rw [List.length_take]; omega), List.length_take]
 have e2 : k - min k x.length = 0 := by omega
 rw [e2, List.set_cons_zero, List.take_succ_eq_append_getElem hkx]
 have e3 : x.getD k 0 = x[k] := by simp [List.getD, hkx]
 rw [e3, List.append_assoc]
 rfl
theorem ok_not {ns x : List Nat} {k : Nat} (hk : k < ns.length) (h : ns.getD k 0 ≤ x.getD k 0) : okT ns x = false := by
 cases e : okT ns x with
 | false => rfl
 | true => have := okT_iff.1 e k hk; omega
theorem ok_all {ns x : List Nat} (h : ∀ i, i < ns.length → x.getD i 0 < ns.getD i 0) : okT ns x = true := okT_iff.2 h
theorem decode_any (N : Nw) (OK : NetOk N) (L : List Bool) (hL : L.length = N.all) (aL : Option Addr) (cL : Nat) (aT aB : Option Addr) (cT cB : Nat) (w : World) (hat : N.at w) (hly : LyAt N aT aB cT cB w) (hR : RowAt w (.slice aL N.all cL) N.all (gz L)) :
 Calls Tryz.prog 54 #[.agg #[.slice aT N.As.length cT, .slice aB N.As.length cB, .int .i64 N.all, .bool N.emp], .agg #[.slice N.aA N.As.length N.cA, .slice N.aO N.o.length N.cO], .slice aL N.all cL] w (DcE N L w) := by
 obtain ⟨i3, hi3, hi3z, hi3s, hi3b⟩ := info_parts info3
 have hm12 := OK.ok.m12
 have h10 := OK.h10
 obtain ⟨m, hmm⟩ : ∃ m, m = N.As.length := ⟨_, rfl⟩
 have hlt : ∀ k, k < m → k < N.As.length := fun k h => hmm ▸ h
 have hRA : ∀ (k : Nat) (hk : k < m) W (hW : Same w W), ∃ b off, N.aA = some ⟨b, off, none⟩ ∧ b < W.heap.size ∧ W.cell? ⟨b, off + k * 4, none⟩ = some (.slice (N.As[k]'(hlt k hk)).aA (N.As[k]'(hlt k hk)).al.length (N.As[k]'(hlt k hk)).cA) ∧ W.cell? ⟨b, off + k * 4 + 1, none⟩ = some (.int .i64 ((N.ns.getD k 0 : Nat) : Int)) ∧
  W.cell? ⟨b, off + k * 4 + 2, none⟩ = some (.slice (N.As[k]'(hlt k hk)).aM (N.As[k]'(hlt k hk)).ma.length (N.As[k]'(hlt k hk)).cM) ∧ W.cell? ⟨b, off + k * 4 + 3, none⟩ = some (.slice (N.As[k]'(hlt k hk)).aE (N.As[k]'(hlt k hk)).es.length (N.As[k]'(hlt k hk)).cE) := fun k hk W hW => by
  have := (hat.au.same hW).row (hlt k hk)
  rw [(OK.ok.n4 (hlt k hk)).2] at this
  exact this
 have hT := fun (k : Nat) (hk : k < N.As.length) W (hW : Same w W) => (hly.t.same hW).row.nat hk
 have hBB := fun (k : Nat) (hk : k < N.As.length) W (hW : Same w W) => (hly.b.same hW).row.nat hk
 have hTe : ∀ k, k < N.As.length → ((List.range N.As.length).map N.at').getD k 0 = N.at' k := fun k hk => by simp [List.getD, hk]
 have hBe : ∀ k, k < N.As.length → ((List.range N.As.length).map N.bs).getD k 0 = N.bs k := fun k hk => by simp [List.getD, hk]
 have hle := fun (k : Nat) (hk : k < N.As.length) => OK.ok.le hk
 have hLr := fun W (hW : Same w W) => hR.same hW
 have hcap : N.all ≤ cL := by
  obtain ⟨_, a', cap', he, h1, _⟩ := hR
  cases he; exact h1
 have DE := fun (k : Nat) (hk : k < N.As.length) (a : Option Addr) (c : Nat) W (h : RowAt W (.slice a (N.bs k) c) (N.bs k) (gz ((L.drop (N.at' k)).take (N.bs k)))) => Decode_ok (n := N.ns.getD k 0) ((L.drop (N.at' k)).take (N.bs k)) a (N.bs k) c (OK.ok.n4 hk).1 (by rw [List.length_take, List.length_drop]; have := OK.ok.le hk; omega) rfl W h
 have hsn := fun (k : Nat) (hk : k < N.As.length) => seg_num (N := N) L hk (by have := OK.ok.le hk; omega)
 unfold decR at DE
 have hbad := fun (k : Nat) (hk : k < N.As.length) (h : N.ns.getD k 0 ≤ (N.tp L).getD k 0) => ok_not (ns := N.ns) (x := N.tp L) (by rw [N.ns_len]; exact hk) h
 have hgood := fun (h : ∀ i, i < N.ns.length → (N.tp L).getD i 0 < N.ns.getD i 0) => ok_all h
 have hxl := N.tp_len L
 rw [N.ns_len] at hgood
 unfold DcE
 have hset := fun (k : Nat) (hk : k < N.As.length) => tpK_set (x := N.tp L) hxl hk
 have hx64 : ∀ k, k < N.As.length → N.bs k ≤ 12 := fun k _ => OK.ok.bs12 k
 simp only [← hmm] at hm12 hT hBB hTe hBe hle DE hsn hbad hgood hxl hset hx64 ⊢
 generalize N.tp L = x at *
 generalize okT N.ns x = okx at *
 clear hat hly hR OK hL
 obtain ⟨pf, hpf⟩ : ∃ f : Nat → Nat, f = N.at' := ⟨_, rfl⟩
 obtain ⟨bf, hbf⟩ : ∃ f : Nat → Nat, f = N.bs := ⟨_, rfl⟩
 obtain ⟨nf, hnf⟩ : ∃ f : Nat → Nat, f = fun k => N.ns.getD k 0 := ⟨_, rfl⟩
 have hnf' : ∀ k, N.ns.getD k 0 = nf k := fun k => by rw [hnf]
 simp only [hnf'] at hRA DE hbad hgood
 rw [← hpf] at hT hTe hle hsn DE
 rw [← hbf] at hBB hBe hle hsn DE hx64
 clear hnf hnf' hpf hbf
 generalize N.all = n at *
 generalize N.emp = em at *
 generalize N.aA = aA at *
 generalize N.cA = cA at *
 generalize N.aO = aO at *
 generalize N.cO = cO at *
 generalize N.o.length = qo at *
 generalize N.As = As at *
 clear hmm
 replace hRA := gi hRA; replace hT := gi hT; replace hBB := gi hBB; replace hTe := gi hTe; replace hBe := gi hBe; replace hle := gi hle; replace hLr := gi hLr; replace DE := gi DE; replace hsn := gi hsn; replace hbad := gi hbad; replace hgood := gi hgood; replace hxl := gi hxl; replace hset := gi hset; replace hx64 := gi hx64
 go_enter Tryz.func54, Tryz.ntmps54
 go_upto_region 1 with fail
 have kl := heap_old (gv w (.cells #[.slice aT m cT, .slice aB m cB, .int .i64 n, .bool em] 89)) (.cells #[.slice aA m cA, .slice aO qo cO] 36)
 have kn := gv (w.alloc (.cells #[.slice aT m cT, .slice aB m cB, .int .i64 n, .bool em] 89)) (.cells #[.slice aA m cA, .slice aO qo cO] 36)
 rw [← al1] at kn
 have hs : Same w ((w.alloc (.cells #[.slice aT m cT, .slice aB m cB, .int .i64 n, .bool em] 89)).alloc (.cells #[.slice aA m cA, .slice aO qo cO] 36)) := fs2
 generalize (w.alloc (.cells #[.slice aT m cT, .slice aB m cB, .int .i64 n, .bool em] 89)).alloc (.cells #[.slice aA m cA, .slice aO qo cO] 36) = W0 at *
 replace kl := gi kl; replace kn := gi kn; replace hs := gi hs
 obtain ⟨y0, y1, yl⟩ := g2l kn.out
 have hmk := fun W => run_mkI (P := Tryz.prog) 31 3 i3 Tryz.underlying31 hi3 hi3z hi3s hi3b m (by omega) W
 go_upto_region 2 with fail
 clear hmk
 have kg := gv W0 (.cells (gw (natI (List.replicate m 0))).toArray 3)
 have sP : Same W0 (W0.alloc (.cells (gw (natI (List.replicate m 0))).toArray 3)) := fs2
 have hz : w.heap.size + 1 < W0.heap.size := gu kn.out
 generalize W0.alloc (.cells (gw (natI (List.replicate m 0))).toArray 3) = W1 at *
 generalize W0.heap.size = g at *
 have e0 : List.replicate m 0 = tpK x m 0 := by simp [tpK]
 rw [e0] at kg
 clear y0 y1 yl
 replace kl := gi (sP.at kl.out id)
 replace kn := gi (sP.at kn.out id)
 have hs1 := hs.out.same sP
 clear sP hs e0
 replace kg := gi kg; replace hs1 := gi hs1
 obtain ⟨y0, y1, yl⟩ := g2l kn.out
 go_wp2_with fail
 clear y0 y1 yl
 go_loopw [21] (fun i wr => ∃ k : Nat, i = .int .i64 k ∧ k ≤ m ∧ wr.heap[g]? = some (.cells (gw (natI (tpK x m k))).toArray 3 (0, 0)) ∧ (∀ i, i < k → x.getD i 0 < nf i) ∧ Fr (fun q => q = g) W1 wr) (fun i _ => m - (intOf i).toNat)
 case atStart => exact ⟨0, rfl, by omega, kg.out, fun i h => by omega, Fr.refl _ _⟩
 case round =>
  clear kg
  obtain ⟨k, rfl, hk, kg, hup, hf⟩ := hrel
  have hsw : Same w wr := hs1.out.trans hf (fun i hi e => by have : i = g := e; omega)
  have kl1 := hf.at kl.out (fun e => by have : w.heap.size = g := e; omega)
  by_cases hkm : k < m
  · obtain ⟨b0, off0, ha0, hb0, x0, x1, x2, x3⟩ := hRA.out k hkm _ hsw
    obtain ⟨b1, off1, ha1, hb1, y0⟩ := hT.out k hkm _ hsw
    obtain ⟨b2, off2, ha2, hb2, z0⟩ := hBB.out k hkm _ hsw
    rw [hTe.out k hkm] at y0
    rw [hBe.out k hkm] at z0
    have hlek := hle.out k hkm
    have hb12 := hx64.out k hkm
    have hbadk := hbad.out k hkm
    have hsetk := hset.out k hkm
    have DEk := fun a c W h => DE.out k hkm a c W h
    rw [hsn.out k hkm] at DEk
    generalize (As[k]'(hlt k hkm)).aA = fA at *
    generalize (As[k]'(hlt k hkm)).al.length = qA at *
    generalize (As[k]'(hlt k hkm)).cA = gA at *
    generalize (As[k]'(hlt k hkm)).aM = fM at *
    generalize (As[k]'(hlt k hkm)).ma.length = qM at *
    generalize (As[k]'(hlt k hkm)).cM = gM at *
    generalize (As[k]'(hlt k hkm)).aE = fE at *
    generalize (As[k]'(hlt k hkm)).es.length = qE at *
    generalize (As[k]'(hlt k hkm)).cE = gE at *
    obtain ⟨nk, hnk⟩ : ∃ q, q = nf k := ⟨_, rfl⟩
    obtain ⟨xk, hxk⟩ : ∃ q, q = x.getD k 0 := ⟨_, rfl⟩
    rw [← hnk] at x1 hbadk DEk
    rw [← hxk] at hbadk hsetk DEk
    generalize pf k = p at *
    generalize bf k = b at *
    subst ha0 ha1 ha2
    replace kg := gi kg; replace hup := gi hup; replace hf := gi hf; replace hsw := gi hsw; replace kl1 := gi kl1; replace hbadk := gi hbadk; replace hsetk := gi hsetk; replace DEk := gi DEk; replace hnk := gi hnk; replace hxk := gi hxk
    go_upto_region 5 with fail
    have ka := gv wr (.cells #[.slice fA qA gA, .int .i64 nk, .slice fM qM gM, .slice fE qE gE] 44)
    have sP : Same wr (wr.alloc (.cells #[.slice fA qA gA, .int .i64 nk, .slice fM qM gM, .slice fE qE gE] 44)) := fs2
    have y0 := sP.cell? ⟨b1, off1 + k, none⟩ hb1 y0
    have z0 := sP.cell? ⟨b2, off2 + k, none⟩ hb2 z0
    have hb1 := Nat.lt_of_lt_of_le hb1 sP.size
    have hb2 := Nat.lt_of_lt_of_le hb2 sP.size
    clear x0 x1 x2 x3 hb0
    generalize wr.alloc (.cells #[.slice fA qA gA, .int .i64 nk, .slice fM qM gM, .slice fE qE gE] 44) = W2 at *
    generalize wr.heap.size = ba at *
    replace kg := gi (sP.at kg.out id)
    replace kl1 := gi (sP.at kl1.out id)
    replace hf := gi (hf.out.same sP)
    replace hsw := gi (hsw.out.same sP)
    clear sP
    replace ka := gi ka
    obtain ⟨u0, u1, u2, u3, ul⟩ := g4l ka.out
    obtain ⟨v0, v1, v2, v3, vl⟩ := g4l kl1.out
    obtain ⟨h, hh⟩ : ∃ h, h = p + b := ⟨_, rfl⟩
    have e1 : IntKind.i64.wrap ((p : Int) + (b : Int)) = ((h : Nat) : Int) := by rw [IntWalk.i64_in _ (by omega)]; omega
    have e2 : (0 : Int) ≤ (p : Int) := by omega
    have e3 : (p : Int) ≤ (h : Int) := by omega
    have e4 : (h : Int) ≤ (cL : Int) := by omega
    have e5 : h ≤ cL := by omega
    have e6 : p ≤ h := by omega
    have e8 : h - p = b := by omega
    have hLr2 := hLr.out _ hsw.out
    have htl : (tpK x m k).length = m := by have := hxl.out; simp [tpK]; omega
    replace hLr2 := gi hLr2; replace hh := gi hh
    by_cases hpc : cL = p
    · have hh := hh.out
      obtain rfl : b = 0 := by omega
      obtain rfl : cL = p := hpc
      obtain rfl : cL = h := by omega
      clear e1 e2 e3 e4 e5 e6 e8 hh
      have hc9 : (cL : Int) ≤ 9223372036854775807 := by have := hLr2.out; obtain ⟨_, a9, c9, he9, _, h9, _⟩ := this; cases he9; unfold maxLen at h9; omega
      have e1 : IntKind.i64.wrap (cL : Int) = ((cL : Nat) : Int) := IntWalk.i64_in _ (by omega)
      have e2 : (0 : Int) ≤ (cL : Int) := by omega
      refine wp_region_sched (fun q => q = ba ∨ q = w.heap.size ∨ q = b1 ∨ q = b2) [0, 1, 0, 0, 1, 0, 0, 1, 0, 1, 0, 0, 1, 0, 1, 0, 0, 1, 0, 0, 2, 0, 0, 0, 0, 0, 0, 0] [0, 2, 3, 5, 8, 10, 13, 15, 1, 4, 6, 7, 9, 11, 12, 14, 16, 17, 18, 19, 20, 21, 22, 23, 24, 25, 26, 27] (by kernel_rfl) (by kernel_rfl) ?_
      repeat ((first | refine sched_w rfl rfl fun _ k => ?_ | refine sched_s rfl rfl fun _ k => ?_); go_simp; (first | refine k _ ?_ | refine ⟨_, fun _ => rfl, k _ ?_⟩); clear k)
      refine sched_g rfl rfl (fun _ hK => ?_)
      go_simp
      refine (DEk.out _ _ _ (empty_row0 _ _ L _)).mono ?_
      rintro e wu1 ⟨he, s5⟩
      by_cases hx : xk < nk
      · rw [if_pos hx] at he
        subst he
        refine hK _ _ (Kp.of_same s5) ?_
        clear hK
        have sP := (show Same W2 _ from fs3).same s5
        (try simp only [Act.put, gj])
        repeat ((first | refine sched_w rfl rfl fun _ k => ?_ | refine sched_s rfl rfl fun _ k => ?_); go_simp; (first | refine k _ ?_ | refine ⟨_, fun _ => rfl, k _ ?_⟩); clear k)
        refine sched_nil (NoPanic.normal ?_)
        replace kg := gi (sP.at kg.out id)
        have hf5 := hf.out.same sP
        clear s5 sP
        replace hf5 := gi hf5; replace hx := gi hx
        go_upto_region 8 with fail
        obtain ⟨u0, u1, ul⟩ := g2l kg.out
        have t0 : wu1.cell? ⟨g, k, none⟩ = some (.int .i64 ((tpK x m k).getD k 0 : Nat)) := by rw [gn kg.out]; simp [gw, natI, List.getD, htl, hkm]
        have t1 := free_at kg.out k
        have t2 := gu kg.out
        have hf9 := hf5.out.setCell ⟨g, k, none⟩ (.int .i64 xk) (fun _ => rfl)
        have hg9 : (wu1.setCell ⟨g, k, none⟩ (.int .i64 xk)).heap[g]? = some (.cells (gw (natI (tpK x m (k + 1)))).toArray 3 (0, 0)) := by
         rw [heap_setCell_same kg.out]
         simp only [intCells_set, natI_set, hsetk.out]
        replace hf9 := gi hf9; replace hg9 := gi hg9
        go_wp2_with fail
        go_roundw
        case rel =>
         refine ⟨k + 1, by go_num, by omega, hg9.out, fun i hi => ?_, hf9.out.same fs2⟩
         rcases Nat.lt_succ_iff_lt_or_eq.1 hi with h9 | rfl
         · exact hup.out i h9
         · rw [← hxk.out, ← hnk.out]; exact hx.out
        case measure => simp [intOf]; omega
      · rw [if_neg hx] at he
        subst he
        refine hK _ _ (Kp.of_same s5) ?_
        clear hK
        have sP := (show Same W2 _ from fs3).same s5
        (try simp only [Act.put, gj])
        repeat ((first | refine sched_w rfl rfl fun _ k => ?_ | refine sched_s rfl rfl fun _ k => ?_); go_simp; (first | refine k _ ?_ | refine ⟨_, fun _ => rfl, k _ ?_⟩); clear k)
        refine sched_nil (NoPanic.normal ?_)
        have hsw5 := hsw.out.same sP
        have hbb := hbadk.out (by omega)
        clear s5 sP
        replace hsw5 := gi hsw5; replace hx := gi hx; replace hbb := gi hbb
        go_wp2_with fail
        go_ret2
        exact Or.inl ⟨hbb.out, rfl, hsw5.out.same fs3⟩
    by_cases hn0 : 0 < n
    · obtain ⟨b3, off3, rfl, hcut⟩ := cut_row hLr2.out hn0 hlek (by omega)
      replace hcut := gi hcut
      refine wp_region_sched (fun q => q = ba ∨ q = w.heap.size ∨ q = b1 ∨ q = b2) [0, 1, 0, 0, 1, 0, 0, 1, 0, 1, 0, 0, 1, 0, 1, 0, 0, 1, 0, 0, 2, 0, 0, 0, 0, 0, 0, 0] [0, 2, 3, 5, 8, 10, 13, 15, 1, 4, 6, 7, 9, 11, 12, 14, 16, 17, 18, 19, 20, 21, 22, 23, 24, 25, 26, 27] (by kernel_rfl) (by kernel_rfl) ?_
      repeat ((first | refine sched_w rfl rfl fun _ k => ?_ | refine sched_s rfl rfl fun _ k => ?_); go_simp; (first | refine k _ ?_ | refine ⟨_, fun _ => rfl, k _ ?_⟩); clear k)
      refine sched_g rfl rfl (fun _ hK => ?_)
      go_simp
      refine (DEk.out _ _ _ (hcut.out.same fs3)).mono ?_
      rintro e wu1 ⟨he, s5⟩
      by_cases hx : xk < nk
      · rw [if_pos hx] at he
        subst he
        refine hK _ _ (Kp.of_same s5) ?_
        clear hK
        have sP := (show Same W2 _ from fs3).same s5
        (try simp only [Act.put, gj])
        repeat ((first | refine sched_w rfl rfl fun _ k => ?_ | refine sched_s rfl rfl fun _ k => ?_); go_simp; (first | refine k _ ?_ | refine ⟨_, fun _ => rfl, k _ ?_⟩); clear k)
        refine sched_nil (NoPanic.normal ?_)
        replace kg := gi (sP.at kg.out id)
        have hf5 := hf.out.same sP
        clear s5 sP
        replace hf5 := gi hf5; replace hx := gi hx
        go_upto_region 8 with fail
        obtain ⟨u0, u1, ul⟩ := g2l kg.out
        have t0 : wu1.cell? ⟨g, k, none⟩ = some (.int .i64 ((tpK x m k).getD k 0 : Nat)) := by rw [gn kg.out]; simp [gw, natI, List.getD, htl, hkm]
        have t1 := free_at kg.out k
        have t2 := gu kg.out
        have hf9 := hf5.out.setCell ⟨g, k, none⟩ (.int .i64 xk) (fun _ => rfl)
        have hg9 : (wu1.setCell ⟨g, k, none⟩ (.int .i64 xk)).heap[g]? = some (.cells (gw (natI (tpK x m (k + 1)))).toArray 3 (0, 0)) := by
         rw [heap_setCell_same kg.out]
         simp only [intCells_set, natI_set, hsetk.out]
        replace hf9 := gi hf9; replace hg9 := gi hg9
        go_wp2_with fail
        go_roundw
        case rel =>
         refine ⟨k + 1, by go_num, by omega, hg9.out, fun i hi => ?_, hf9.out.same fs2⟩
         rcases Nat.lt_succ_iff_lt_or_eq.1 hi with h9 | rfl
         · exact hup.out i h9
         · rw [← hxk.out, ← hnk.out]; exact hx.out
        case measure => simp [intOf]; omega
      · rw [if_neg hx] at he
        subst he
        refine hK _ _ (Kp.of_same s5) ?_
        clear hK
        have sP := (show Same W2 _ from fs3).same s5
        (try simp only [Act.put, gj])
        repeat ((first | refine sched_w rfl rfl fun _ k => ?_ | refine sched_s rfl rfl fun _ k => ?_); go_simp; (first | refine k _ ?_ | refine ⟨_, fun _ => rfl, k _ ?_⟩); clear k)
        refine sched_nil (NoPanic.normal ?_)
        have hsw5 := hsw.out.same sP
        have hbb := hbadk.out (by omega)
        clear s5 sP
        replace hsw5 := gi hsw5; replace hx := gi hx; replace hbb := gi hbb
        go_wp2_with fail
        go_ret2
        exact Or.inl ⟨hbb.out, rfl, hsw5.out.same fs3⟩
    · have hh := hh.out
      obtain rfl : p = 0 := by omega
      obtain rfl : h = 0 := by omega
      obtain rfl : b = 0 := by omega
      clear e1 e2 e3 e4 e5 e6 e8 hh hn0
      have e1 : IntKind.i64.wrap 0 = 0 := rfl
      refine wp_region_sched (fun q => q = ba ∨ q = w.heap.size ∨ q = b1 ∨ q = b2) [0, 1, 0, 0, 1, 0, 0, 1, 0, 1, 0, 0, 1, 0, 1, 0, 0, 1, 0, 0, 2, 0, 0, 0, 0, 0, 0, 0] [0, 2, 3, 5, 8, 10, 13, 15, 1, 4, 6, 7, 9, 11, 12, 14, 16, 17, 18, 19, 20, 21, 22, 23, 24, 25, 26, 27] (by kernel_rfl) (by kernel_rfl) ?_
      repeat ((first | refine sched_w rfl rfl fun _ k => ?_ | refine sched_s rfl rfl fun _ k => ?_); go_simp; (first | refine k _ ?_ | refine ⟨_, fun _ => rfl, k _ ?_⟩); clear k)
      refine sched_g rfl rfl (fun _ hK => ?_)
      go_simp
      refine (DEk.out _ _ _ (empty_row (hLr2.out.same fs3))).mono ?_
      rintro e wu1 ⟨he, s5⟩
      by_cases hx : xk < nk
      · rw [if_pos hx] at he
        subst he
        refine hK _ _ (Kp.of_same s5) ?_
        clear hK
        have sP := (show Same W2 _ from fs3).same s5
        (try simp only [Act.put, gj])
        repeat ((first | refine sched_w rfl rfl fun _ k => ?_ | refine sched_s rfl rfl fun _ k => ?_); go_simp; (first | refine k _ ?_ | refine ⟨_, fun _ => rfl, k _ ?_⟩); clear k)
        refine sched_nil (NoPanic.normal ?_)
        replace kg := gi (sP.at kg.out id)
        have hf5 := hf.out.same sP
        clear s5 sP
        replace hf5 := gi hf5; replace hx := gi hx
        go_upto_region 8 with fail
        obtain ⟨u0, u1, ul⟩ := g2l kg.out
        have t0 : wu1.cell? ⟨g, k, none⟩ = some (.int .i64 ((tpK x m k).getD k 0 : Nat)) := by rw [gn kg.out]; simp [gw, natI, List.getD, htl, hkm]
        have t1 := free_at kg.out k
        have t2 := gu kg.out
        have hf9 := hf5.out.setCell ⟨g, k, none⟩ (.int .i64 xk) (fun _ => rfl)
        have hg9 : (wu1.setCell ⟨g, k, none⟩ (.int .i64 xk)).heap[g]? = some (.cells (gw (natI (tpK x m (k + 1)))).toArray 3 (0, 0)) := by
         rw [heap_setCell_same kg.out]
         simp only [intCells_set, natI_set, hsetk.out]
        replace hf9 := gi hf9; replace hg9 := gi hg9
        go_wp2_with fail
        go_roundw
        case rel =>
         refine ⟨k + 1, by go_num, by omega, hg9.out, fun i hi => ?_, hf9.out.same fs2⟩
         rcases Nat.lt_succ_iff_lt_or_eq.1 hi with h9 | rfl
         · exact hup.out i h9
         · rw [← hxk.out, ← hnk.out]; exact hx.out
        case measure => simp [intOf]; omega
      · rw [if_neg hx] at he
        subst he
        refine hK _ _ (Kp.of_same s5) ?_
        clear hK
        have sP := (show Same W2 _ from fs3).same s5
        (try simp only [Act.put, gj])
        repeat ((first | refine sched_w rfl rfl fun _ k => ?_ | refine sched_s rfl rfl fun _ k => ?_); go_simp; (first | refine k _ ?_ | refine ⟨_, fun _ => rfl, k _ ?_⟩); clear k)
        refine sched_nil (NoPanic.normal ?_)
        have hsw5 := hsw.out.same sP
        have hbb := hbadk.out (by omega)
        clear s5 sP
        replace hsw5 := gi hsw5; replace hx := gi hx; replace hbb := gi hbb
        go_wp2_with fail
        go_ret2
        exact Or.inl ⟨hbb.out, rfl, hsw5.out.same fs3⟩
  · obtain rfl : k = m := by omega
    have hgd := hgood.out hup
    have hsE := gi (hs1.out.trans hf (fun i hi e => by have : i = g := e; omega))
    have htk : tpK x k k = x := by simp [tpK, List.take_of_length_le (Nat.le_of_eq hxl.out)]
    rw [htk] at kg
    go_wp2_with fail
    go_ret2
    exact Or.inr ⟨hgd, g, rfl, kg, by omega, hsE.out⟩
end Go.Proofs.YtcipnkemnepbaaaGreat
