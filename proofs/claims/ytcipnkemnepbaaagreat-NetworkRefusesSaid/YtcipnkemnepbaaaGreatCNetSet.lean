/-  -/
import Derived.Test.YtcipnkemnepbaaaGreatCCub
import Derived.Test.YtcipnkemnepbaaaGreatCLRig
import Derived.Test.YtcipnkemnepbaaaGreatCNetM
import Derived.Test.YtcipnkemnepbaaaGreatCGrpW
set_option maxRecDepth 100000
set_option maxHeartbeats 8000000
set_option linter.unusedVariables false
set_option linter.unusedSimpArgs false
namespace Go.Proofs.YtcipnkemnepbaaaGreat
open Go.RowKit
def tupOk (ns : List Nat) (t : List Int) : Bool := (List.range ns.length).all fun i => decide (0 ≤ t.getD i 0 ∧ t.getD i 0 < (ns.getD i 0 : Nat))
def tupErr (ns : List Nat) (t : List Int) : Nat := if t.length ≠ ns.length then 4 else if tupOk ns t then 0 else 2
def setErr (ns : List Nat) : List (List Int) → Nat
 | [] => 0
 | t :: l => if tupErr ns t ≠ 0 then tupErr ns t else setErr ns l
theorem tupOk_iff {ns : List Nat} {t : List Int} : tupOk ns t = true ↔ ∀ i, i < ns.length → okI ns t i := by
 unfold tupOk okI
 rw [List.all_eq_true]
 exact ⟨fun h i hi => by simpa using h i (List.mem_range.2 hi), fun h i hi => by simpa using h i (List.mem_range.1 hi)⟩
theorem tupErr_len {ns : List Nat} {t : List Int} (h : t.length ≠ ns.length) : tupErr ns t = 4 := by unfold tupErr; rw [if_pos h]
theorem tupErr_bad {ns : List Nat} {t : List Int} (h : t.length = ns.length) (hb : ∃ i, i < ns.length ∧ ¬ okI ns t i) : tupErr ns t = 2 := by
 unfold tupErr
 rw [if_neg (by simpa using h), if_neg]
 intro hc
 obtain ⟨i, h1, h2⟩ := hb
 exact h2 (tupOk_iff.1 hc i h1)
theorem tupErr_ok {ns : List Nat} {t : List Int} (h : t.length = ns.length) (hb : ∀ i, i < ns.length → okI ns t i) : tupErr ns t = 0 := by
 unfold tupErr
 rw [if_neg (by simpa using h), if_pos (tupOk_iff.2 hb)]
theorem tupErr_zero {ns : List Nat} {t : List Int} (h : tupErr ns t = 0) : ∃ x ∈ tupsF ns, t = natI x := by
 unfold tupErr at h
 split at h
 · omega
 · next hl =>
   split at h
   · next hk =>
     have hl : t.length = ns.length := by simpa using hl
     have hk := tupOk_iff.1 hk
     refine ⟨t.map Int.toNat, (tups_mem _ ns rfl _).2 ⟨by simp [hl], fun i hi => ?_⟩, ?_⟩
     · have h1 := hk i hi
       unfold okI at h1
       have h2 := toNat_getD h1.1
       omega
     · refine List.ext_getElem (by simp [natI]) (fun i h1 h2 => ?_)
       have h3 := hk i (by omega)
       unfold okI at h3
       have h4 : t.getD i 0 = t[i] := by simp [List.getD, h1]
       simp only [natI, List.getElem_map]
       rw [h4] at h3
       omega
   · omega
theorem setErr_drop {ns : List Nat} {l : List (List Int)} {k : Nat} (h : k < l.length) : setErr ns (l.drop k) = if tupErr ns l[k] ≠ 0 then tupErr ns l[k] else setErr ns (l.drop (k + 1)) := by
 rw [List.drop_eq_getElem_cons h, setErr]
def EncE (N : Nw) (t : List Int) (w : World) (e : Ending) (w' : World) : Prop :=
 (tupErr N.ns t ≠ 0 ∧ e = .returned (.tuple #[.slice none 0 0, .int .i64 (tupErr N.ns t)]) ∧ Same w w') ∨
 (tupErr N.ns t = 0 ∧ ∃ g, e = .returned (.tuple #[.slice (some ⟨g, 0, none⟩) N.all N.all, .int .i64 0]) ∧ RowAt w' (.slice (some ⟨g, 0, none⟩) N.all N.all) N.all (gz (codeL N.bs N.on (t.map Int.toNat))) ∧ Same w w')
theorem map_natI (x : List Nat) : (natI x).map Int.toNat = x := by
 unfold natI
 rw [List.map_map]
 conv => rhs; rw [← List.map_id x]
 exact List.map_congr_left (fun i _ => by simp)
theorem encode_all (N : Nw) (OK : NetOk N) (t : List Int) (q : Nat) (hq : t.length = q) (aX : Option Addr) (cX : Nat) (aT aB : Option Addr) (cT cB : Nat) (w : World) (hat : N.at w) (hly : LyAt N aT aB cT cB w) (hX : RowAt w (.slice aX q cX) q (gw t)) :
 Calls Tryz.prog 44 #[.agg #[.slice aT N.As.length cT, .slice aB N.As.length cB, .int .i64 N.all, .bool N.emp], .agg #[.slice N.aA N.As.length N.cA, .slice N.aO N.o.length N.cO], .slice aX q cX] w (EncE N t w) := by
 have hq9 : q ≤ maxLen := by obtain ⟨_, a9, c9, he9, h8, h9, _⟩ := hX; omega
 by_cases hl : q = N.As.length
 · have hl' : t.length = N.ns.length := by rw [N.ns_len]; omega
   by_cases hb : ∀ i, i < N.ns.length → okI N.ns t i
   · have h0 := tupErr_ok hl' hb
     obtain ⟨x, hx, rfl⟩ := tupErr_zero h0
     obtain ⟨h1, h2⟩ := (tups_mem _ N.ns rfl x).1 hx
     rw [N.ns_len] at h1 h2
     rw [hl] at hX ⊢
     refine (encode_ok N OK x aX cX aT aB cT cB w hat hly h1 h2 hX).mono fun e w' h => .inr ⟨h0, ?_⟩
     obtain ⟨g, he, hB, hg, hs⟩ := h
     refine ⟨g, he, ?_, hs⟩
     rw [map_natI]
     have hcl : (codeL N.bs N.on x).length = N.all := codeL_len _ _ _
     have := (BoolsAt.slice hB (by rw [hcl]; have := OK.h10; omega)).row
     rwa [hcl] at this
   · have hb' : ∃ i, i < N.ns.length ∧ ¬ okI N.ns t i := by
       apply Classical.byContradiction
       intro hc
       exact hb (fun i hi => Classical.byContradiction fun h => hc ⟨i, hi, h⟩)
     have h2 := tupErr_bad hl' hb'
     rw [hl] at hX ⊢
     rw [N.ns_len] at hb'
     refine (encode_bad N OK t aX cX aT aB cT cB w hat hly (by omega) hb' hX).mono fun e w' h => .inl ⟨by omega, ?_, h.2⟩
     rw [h2]
     exact h.1
 · have h4 := tupErr_len (ns := N.ns) (t := t) (by rw [N.ns_len]; omega)
   refine (encode_len N OK q hq9 hl aX cX aT aB cT cB w).mono fun e w' h => .inl ⟨by omega, ?_, h.2⟩
   rw [h4]
   exact h.1
theorem Set_gen (N : Nw) (OK : NetOk N) (gs : List Grp) (aG : Option Addr) (q cG : Nat) (w : World) (hat : N.at w) (hG : GsAt w (.slice aG q cG) q gs) (hq9 : q ≤ 1000)
 (EN : ∀ (k : Nat) (hk : k < gs.length) aT aB cT cB W, Same w W → LyAt N aT aB cT cB W → Calls Tryz.prog 44 #[.agg #[.slice aT N.As.length cT, .slice aB N.As.length cB, .int .i64 N.all, .bool N.emp], .agg #[.slice N.aA N.As.length N.cA, .slice N.aO N.o.length N.cO], .slice gs[k].a gs[k].l.length gs[k].cap] W (EncE N gs[k].l W)) :
 Calls Tryz.prog 15 #[.agg #[.slice N.aA N.As.length N.cA, .slice N.aO N.o.length N.cO], .slice aG q cG] w (DgE (setErr N.ns (lst gs)) N.all (N.set fun y => decide (natI y ∈ lst gs)) w) := by
 have h10 := OK.h10
 have PL := fun W (hW : Same w W) => OK.place W (hat.same hW)
 have hlen := hG.len
 have CU := fun (L : List Bool) (hL : L.length = N.all) g W (hR : RowAt W (.slice (some ⟨g, 0, none⟩) N.all N.all) N.all (gz L)) => cube_any L N.all hL (by omega) (some ⟨g, 0, none⟩) N.all W hR
 have hrow : ∀ (k : Nat) (hk : k < gs.length) W, Same w W → ∃ b off, aG = some ⟨b, off, none⟩ ∧ b < W.heap.size ∧ W.cell? ⟨b, off + k, none⟩ = some (.slice gs[k].a gs[k].l.length gs[k].cap) := fun k hk W hW => by
  obtain ⟨b, off, h1, h2, h3⟩ := (hG.1.same hW).cell (by omega)
  exact ⟨b, off, h1, h2, h3 k _ (by simp [hk, Grp.v])⟩
 have hE0 : setErr N.ns (lst gs) = setErr N.ns ((lst gs).drop 0) := by simp
 have hEs : ∀ k (hk : k < gs.length), setErr N.ns ((lst gs).drop k) = if tupErr N.ns gs[k].l ≠ 0 then tupErr N.ns gs[k].l else setErr N.ns ((lst gs).drop (k + 1)) := fun k hk => by
  rw [setErr_drop (by rw [lst_len]; exact hk), lst_get gs hk]
 have hEe : setErr N.ns ((lst gs).drop gs.length) = 0 := by rw [List.drop_of_length_le (by rw [lst_len]; omega)]; rfl
 obtain ⟨ts, hts⟩ : ∃ ts : Nat → List Bool, ts = fun k => N.set fun y => decide (natI y = (lst gs).getD k []) := ⟨_, rfl⟩
 obtain ⟨acc, hacc⟩ : ∃ acc : Nat → List Bool, acc = fun k => N.set fun y => decide (natI y ∈ (lst gs).take k) := ⟨_, rfl⟩
 have hcub : ∀ k (hk : k < gs.length), tupErr N.ns gs[k].l = 0 → cubT N.all (codeL N.bs N.on (gs[k].l.map Int.toNat)) N.all = ts k := fun k hk h0 => by
  obtain ⟨x, hx, he⟩ := tupErr_zero h0
  have e2 : (lst gs).getD k [] = natI x := by rw [← he, ← lst_get gs hk]; simp [List.getD, lst_len, hk]
  rw [he, map_natI, cub_code OK.ok hx, hts]
  show N.set _ = N.set _
  congr 1
  funext y
  rw [e2]
  have : natI y = natI x ↔ y = x := ⟨fun h => by rw [← map_natI y, h, map_natI], fun h => by rw [h]⟩
  simp [this]
 have hac0 : acc 0 = fls N.all := by
  rw [hacc, tbF_fls]
  show tbF _ _ = tbF _ _
  congr 1
 have hac1 : ∀ k, k < gs.length → ite3 (acc k) (tru N.all) (ts k) = acc (k + 1) := fun k hk => by
  rw [hacc, hts]
  show ite3 (tupT _ _ _ _ _) _ (tupT _ _ _ _ _) = tupT _ _ _ _ _
  rw [tup_or]
  congr 1
  funext x
  rw [List.take_add_one]
  have hk2 : k < (lst gs).length := by rw [lst_len]; exact hk
  have e5 : (lst gs)[k]?.getD [] = (lst gs)[k] := by simp [hk2]
  simp only [List.getD, e5, List.getElem?_eq_getElem hk2, Option.toList_some, List.mem_append, List.mem_singleton, Bool.decide_or, Option.getD_some]
 have hend : acc gs.length = N.set fun y => decide (natI y ∈ lst gs) := by
  rw [hacc]
  show N.set _ = _
  rw [List.take_of_length_le (by rw [lst_len]; omega)]
 have FO := fun base v W (h : RowD base N.all ts gs.length v W) => foldD h 47 enter_OrF false (by omega) (by omega) acc (by rw [hac0]; rfl) (fun j d d' W' hj hW hd hd' hT hT' => by
  have := Or_big (n := N.all) (by omega) hd hd' hT hT' (by rw [hac1 j hj]; exact short14 (by omega) (by rw [hacc]; exact tupT_len _ _ _ _ _))
  rw [hac1 j hj] at this
  exact this)
 rw [hend] at FO
 have hcl : ∀ t : List Int, (codeL N.bs N.on (t.map Int.toNat)).length = N.all := fun t => codeL_len _ _ _
 have hq : q = gs.length := hlen.symm
 rw [hE0]
 generalize N.set (fun y => decide (natI y ∈ lst gs)) = R at *
 unfold EncE at EN
 obtain ⟨er, her⟩ : ∃ er : Nat → Nat, er = fun k => setErr N.ns ((lst gs).drop k) := ⟨_, rfl⟩
 have her' : ∀ k, setErr N.ns ((lst gs).drop k) = er k := fun k => by rw [her]
 simp only [her'] at hEs hEe ⊢
 obtain ⟨te, hte⟩ : ∃ te : List Int → Nat, te = tupErr N.ns := ⟨_, rfl⟩
 rw [← hte] at EN hEs hcub
 obtain ⟨cd, hcd⟩ : ∃ cd : List Int → List Bool, cd = fun t => codeL N.bs N.on (t.map Int.toNat) := ⟨_, rfl⟩
 have hcd' : ∀ t, codeL N.bs N.on (t.map Int.toNat) = cd t := fun t => by rw [hcd]
 simp only [hcd'] at EN hcub hcl
 clear hE0 her her' hte hcd hcd' hac0 hac1 hend hts hacc hlen hG hat OK
 generalize N.all = n at *
 generalize N.emp = em at *
 generalize N.As.length = m at *
 generalize N.o.length = qo at *
 generalize N.aA = aA at *
 generalize N.cA = cA at *
 generalize N.aO = aO at *
 generalize N.cO = cO at *
 subst hq
 obtain ⟨i3, hi3, hi3z, hi3s, hi3b⟩ := info_parts infoDg
 replace PL := gi PL; replace EN := gi EN; replace CU := gi CU; replace hrow := gi hrow; replace hEs := gi hEs; replace hEe := gi hEe; replace hcub := gi hcub; replace FO := gi FO; replace hcl := gi hcl
 go_enter Tryz.func15, Tryz.ntmps15
 go_upto_region 1 with fail
 have kn := heap_old (gv w (.cells #[.slice aA m cA, .slice aO qo cO] 36)) (.cells #[.int .i64 0, .slice none 0 0, .int .i64 0] 56)
 have kr := gv (w.alloc (.cells #[.slice aA m cA, .slice aO qo cO] 36)) (.cells #[.int .i64 0, .slice none 0 0, .int .i64 0] 56)
 rw [show (w.alloc (.cells #[.slice aA m cA, .slice aO qo cO] 36)).heap.size = w.heap.size + 1 by simp] at kr
 have hs : Same w ((w.alloc (.cells #[.slice aA m cA, .slice aO qo cO] 36)).alloc (.cells #[.int .i64 0, .slice none 0 0, .int .i64 0] 56)) := fs2
 generalize (w.alloc (.cells #[.slice aA m cA, .slice aO qo cO] 36)).alloc (.cells #[.int .i64 0, .slice none 0 0, .int .i64 0] 56) = W0 at *
 replace kn := gi kn; replace kr := gi kr; replace hs := gi hs
 obtain ⟨y0, y1, yl⟩ := g2l kn.out
 go_wp2_with fail
 refine (PL.out _ hs.out).mono ?_
 rintro e w1 ⟨aT, aB, cT, cB, rfl, hly, s1⟩
 clear y0 y1 yl
 have hbl : w.heap.size + 1 < w1.heap.size := by have h9 := gu kr.out; have h8 := s1.size; omega
 replace kn := gi (s1.at kn.out id); replace kr := gi (s1.at kr.out id)
 have hs1 := hs.out.same s1
 clear s1
 replace hly := gi hly; replace hs1 := gi hs1
 go_upto_region 2 with fail
 have kl := gv w1 (.cells #[.slice aT m cT, .slice aB m cB, .int .i64 n, .bool em] 89)
 have s2 : Same w1 (w1.alloc (.cells #[.slice aT m cT, .slice aB m cB, .int .i64 n, .bool em] 89)) := fs2
 have hly2 := hly.out.same s2
 replace kn := gi (s2.at kn.out id); replace kr := gi (s2.at kr.out id)
 have hs2 := hs1.out.same s2
 clear s2 hly hs1 hs
 generalize w1.alloc (.cells #[.slice aT m cT, .slice aB m cB, .int .i64 n, .bool em] 89) = W1 at *
 generalize w1.heap.size = bl at *
 replace kl := gi kl; replace hly2 := gi hly2; replace hs2 := gi hs2
 obtain ⟨br, hbr⟩ : ∃ b, b = w.heap.size + 1 := ⟨_, rfl⟩
 rw [← hbr] at kr ⊢
 have hbw : w.heap.size ≤ br := by omega
 obtain ⟨bn, hbn⟩ : ∃ b, b = w.heap.size := ⟨_, rfl⟩
 rw [← hbn] at kn ⊢
 clear hbr hbn
 go_wp2_with fail
 go_loopw [8, 25] (fun v i wr => ∃ k : Nat, i = .int .i64 k ∧ k ≤ gs.length ∧ er k = er 0 ∧ RowD W1.heap.size n ts k v wr ∧ Same W1 wr) (fun _ i _ => gs.length - (intOf i).toNat)
 case atStart => exact ⟨0, rfl, Nat.zero_le _, rfl, RowD.nil _ _ _ _, Fr.refl _ _⟩
 case round =>
  obtain ⟨k, rfl, hk, he0, hD, hs1⟩ := hrel
  have hzr := hs1.size
  have hsw := hs2.out.same hs1
  have kl1 := hs1.at kl.out id
  have kn1 := hs1.at kn.out id
  have kr1 := hs1.at kr.out id
  have hly1 := hly2.out.same hs1
  by_cases hlt : k < gs.length
  · obtain ⟨ds0, aR, cR, rfl, -⟩ := hD.ex
    obtain ⟨b, off, rfl, hb, hc⟩ := hrow.out k hlt wr hsw
    have EK := EN.out k hlt
    have hEk := hEs.out k hlt
    have hck := hcub.out k hlt
    have hcl' := hcl.out gs[k].l
    generalize gs[k].l.length = ql at *
    generalize gs[k].l = tl at *
    generalize gs[k].a = ga at *
    generalize gs[k].cap = gc at *
    generalize cd tl = ck at *
    generalize te tl = tk at *
    have hs0 := hs1
    replace hs0 := gi hs0; replace hsw := gi hsw; replace hs1 := gi hs1; replace hD := gi hD; replace kl1 := gi kl1; replace kn1 := gi kn1; replace kr1 := gi kr1; replace hly1 := gi hly1; replace EK := gi EK; replace hEk := gi hEk; replace hck := gi hck; replace hcl' := gi hcl'; replace he0 := gi he0
    go_upto_region 8 with fail
    clear hb hc
    obtain ⟨x0, x1, x2, x3, xl⟩ := g4l kl1.out
    obtain ⟨y0, y1, yl⟩ := g2l kn1.out
    go_wp2_with fail
    refine (EK.out _ _ _ _ _ hsw.out hly1.out).mono ?_
    intro e w3 hM
    clear x0 x1 x2 x3 xl
    clear y0 y1 yl
    rcases hM with ⟨h0, rfl, s3⟩ | ⟨h0, g, rfl, hRw, s3⟩
    · have hb : ((tk : Int) != 0) = true := by simpa using h0
      have he := hEk.out
      rw [if_pos h0, he0.out] at he
      have hs3 := hsw.out.same s3
      replace kr1 := gi (s3.at kr1.out id)
      clear s3
      replace h0 := gi h0; replace he := gi he; replace hs3 := gi hs3
      obtain ⟨x0, x1, x2, z0, z1, z2, xl⟩ := box_facts kr1.out
      go_wp2_with fail
      obtain ⟨d0, d1, d2, hsF⟩ := dg_zeroed hs3.out (by omega) kr1.out
      refine bodyPost_ret (v := .tuple #[.agg #[.int .i64 0, .slice none 0 0, .int .i64 0], .int .i64 (tk)]) (by simp [results, Tryz.results15, go_sem, d0, d1, d2]) rfl ?_
      exact .inl ⟨by rw [he.out]; have := h0.out; omega, by rw [he.out], hsF⟩
    · subst h0
      have he := hEk.out
      rw [if_neg (by simp), he0.out] at he
      have hck0 := hck.out rfl
      have hs3 := hs0.out.same s3
      replace hD := gi (hD.out.same s3)
      replace kl1 := gi (s3.at kl1.out id)
      replace kn1 := gi (s3.at kn1.out id)
      replace kr1 := gi (s3.at kr1.out id)
      clear s3 hEk hck EK
      replace he := gi he; replace hck0 := gi hck0; replace hs3 := gi hs3; replace hRw := gi hRw
      have hol : ∀ b, (Value.slice aR k cR).ownBlock = some b → b < w3.heap.size := fun b hb => by
       obtain ⟨ds1, a1, c1, he, _, ho, _⟩ := hD.out.ex
       cases he
       obtain ⟨cur, hcur⟩ := own_block ho hb
       exact gu hcur
      go_wp2_with fail
      refine (CU.out ck hcl'.out g _ hRw.out).mono ?_
      intro e v5 hM
      obtain ⟨a5, c5, L5, r5, rfl, d5, z5, s5⟩ := hM.open
      clear hM
      go_upto_region 12 with fail
      have q5 : Bd (v5.alloc (.cells #[.int .i64 n, .slice a5 L5.length c5, .int .i64 r5] 56)) v5.heap.size n _ a5 c5 L5 r5 := ⟨gv _ _, SliceAt.same d5 fs2, z5⟩
      have s5 := s5.same (show Same v5 (v5.alloc (.cells #[.int .i64 n, .slice a5 L5.length c5, .int .i64 r5] 56)) from fs2)
      clear d5 z5
      generalize v5.alloc (.cells #[.int .i64 n, .slice a5 L5.length c5, .int .i64 r5] 56) = w5 at *
      generalize v5.heap.size = b5 at *
      replace hD := gi (hD.out.same s5); replace kl1 := gi (s5.at kl1.out id); replace kn1 := gi (s5.at kn1.out id); replace kr1 := gi (s5.at kr1.out id)
      have s5 := hs3.out.same s5
      replace q5 := gi q5; replace s5 := gi s5
      obtain ⟨ds, aR', cR', he', hds, hownW, hallW, htab⟩ := hD.out.ex
      cases he'
      have hsW := s5
      have kb := q5.out.heap
      have dW := q5.out.at'
      have zW := q5.out.tab
      rw [hck0.out] at zW
      go_upto_region 14 with fail
      replace hds := gi hds; replace hownW := gi hownW; replace hallW := gi hallW; replace htab := gi htab; replace dW := gi dW; replace zW := gi zW; replace kb := gi kb
      obtain ⟨x0, x1, x2, xl⟩ := g3l kb.out
      go_wp2_with (at_builtin; refine wpList_append1 rfl (.tmp 49) (.tmp 51) 98 rfl W1.heap.size 56 i3 (.agg #[.int .i64 0, .slice none 0 0, .int .i64 0]) 3 40 Tryz.underlying98 hi3 hi3z hi3s hi3b rfl (by decide) (by decide) aR k cR (dgCells ds) rfl (owns_same hownW.out fs2) (by omega) w5.heap.size [.int .i64 n, .slice a5 L5.length c5, .int .i64 r5] rfl rfl (gv _ _) (by simp [Value.oneCell']) (by have := hsW.out.size; simp; omega) ?_; intro a9 c9 w9 ho9 hG9)
      have hR9 := RowD.push (base := W1.heap.size) (n := n) (ts := ts) (k := k) (W := w5.alloc (.cells #[.int .i64 n, .slice a5 L5.length c5, .int .i64 r5] 56)) (d := ⟨n, a5, c5, L5, r5⟩) hds.out (fun d hd => SliceAt.same (hallW.out d hd) fs2) htab.out (SliceAt.same dW.out fs2) ⟨rfl, zW.out⟩ (owns_same hownW.out fs2) ho9 hG9
      have hs9 : Same W1 w9 := grew_fresh (hsW.out.same fs2) hG9 (fun k hk => (hownW.out.lt k hk).1)
      clear ho9 hG9 x0 x1 x2 xl
      replace hR9 := gi hR9; replace hs9 := gi hs9
      go_roundw
      case rel => exact ⟨k + 1, by go_num, by omega, he.out.symm, hR9.out, hs9.out⟩
      case measure => simp [intOf]; omega
  · obtain rfl : k = gs.length := by omega
    have he : er 0 = 0 := by rw [← he0]; exact hEe.out
    have FOk := FO.out _ _ _ hD
    replace kl1 := gi kl1; replace kr1 := gi kr1; replace hsw := gi hsw; replace hs1 := gi hs1; replace hD := gi hD; replace FOk := gi FOk; replace he := gi he
    obtain ⟨ds, aR, cR, rfl, -⟩ := hD.out.ex
    obtain ⟨x0, x1, x2, x3, xl⟩ := g4l kl1.out
    go_wp2_with fail
    refine FOk.out.mono ?_
    intro e w5 hM
    obtain ⟨a5, c5, L5, r5, rfl, d5, tt5, s5⟩ := hM.open
    clear x0 x1 x2 x3 xl
    have kr5 := s5.at kr1.out id
    have hs5 := hsw.out.same s5
    clear hM s5 kr1
    replace d5 := gi d5; replace tt5 := gi tt5; replace hs5 := gi hs5; replace kr5 := gi kr5
    obtain ⟨x0, x1, x2, z0, z1, z2, xl⟩ := box_facts kr5.out
    go_wp2_with fail
    obtain ⟨q0, q1, q2, hdF, hsF⟩ := dg_stored hs5.out (by omega) (d := ⟨n, a5, c5, L5, r5⟩) d5.out kr5.out
    refine bodyPost_ret (v := .tuple #[.agg #[.int .i64 n, .slice a5 L5.length c5, .int .i64 r5], .int .i64 0]) (by simp [results, Tryz.results15, go_sem, q0, q1, q2]) rfl ?_
    exact .inr ⟨by rw [he.out]; rfl, _, rfl, hdF, ⟨rfl, tt5.out⟩, hsF⟩
theorem Set_net (N : Nw) (OK : NetOk N) (gs : List Grp) (aG : Option Addr) (q cG : Nat) (w : World) (hat : N.at w) (hG : GsAt w (.slice aG q cG) q gs) (hq9 : q ≤ 1000) :
 Calls Tryz.prog 15 #[.agg #[.slice N.aA N.As.length N.cA, .slice N.aO N.o.length N.cO], .slice aG q cG] w (DgE (setErr N.ns (lst gs)) N.all (N.set fun y => decide (natI y ∈ lst gs)) w) :=
 Set_gen N OK gs aG q cG w hat hG hq9 (fun k hk aT aB cT cB W hW hly => encode_all N OK gs[k].l gs[k].l.length rfl gs[k].a gs[k].cap aT aB cT cB W (hat.same hW) hly ((hG.2 _ (List.getElem_mem hk)).same hW))
end Go.Proofs.YtcipnkemnepbaaaGreat
