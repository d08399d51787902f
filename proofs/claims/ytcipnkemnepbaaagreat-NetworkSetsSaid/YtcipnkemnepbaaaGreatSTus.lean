/-  -/
import Derived.Test.YtcipnkemnepbaaaGreatSIdxG
import Derived.Test.YtcipnkemnepbaaaGreatSAll
import Derived.Test.YtcipnkemnepbaaaGreatSCtsP
import Derived.Test.YtcipnkemnepbaaaGreatSNetDc
set_option maxRecDepth 100000
set_option maxHeartbeats 8000000
set_option linter.unusedVariables false
set_option linter.unusedSimpArgs false
namespace Go.Proofs.YtcipnkemnepbaaaGreat
open Go.RowKit
theorem RowsIs.nth {W : World} {n : Nat} : ∀ {vs : List Value} {rs : List (List Bool)}, RowsIs W n vs rs → ∀ k, k < rs.length → ∃ a c, vs[k]? = some (.slice a n c) ∧ RowAt W (.slice a n c) n (gz (rs.getD k [])) ∧ (rs.getD k []).length = n
 | v :: vs, r :: rs, h, 0, _ => by
  obtain ⟨a, c, he, _⟩ := h.1.2.form
  subst he
  exact ⟨a, c, rfl, h.1.2.row, h.1.1⟩
 | v :: vs, r :: rs, h, k + 1, hk => by
  obtain ⟨a, c, h1, h2, h3⟩ := RowsIs.nth h.2 k (by simpa using hk)
  exact ⟨a, c, by simpa using h1, by simpa using h2, by simpa using h3⟩
 | [], [], _, k, hk => by simp at hk
def tusF (N : Nw) (t : List Bool) : List (List Nat) := (tupsF N.ns).filter fun x => t.getD (numB (codeL N.bs N.on x)) false
theorem mErr_zero {N : Nw} {v : Nat} {t : List Bool} (h : N.mErr v t = 0) : v = N.all ∧ ite3 t (N.set (okT N.ns)) (fls N.all) = t := by
 unfold Nw.mErr at h
 split at h
 · simp at h
 · next h1 =>
   split at h
   · next h2 => exact ⟨by simpa using h1, h2⟩
   · simp at h
theorem mErr_ok {N : Nw} {t : List Bool} (ht : t.length = 2 ^ N.all) (h : ite3 t (N.set (okT N.ns)) (fls N.all) = t) {i : Nat} (hi : i < 2 ^ N.all) (hti : t.getD i false = true) : okT N.ns (N.T i) = true := by
 have h1 : (ite3 t (N.set (okT N.ns)) (fls N.all)).getD i false = t.getD i false := by rw [h]
 rw [ite3_get ht (show (N.set (okT N.ns)).length = 2 ^ N.all from tbF_len _ _) (fls_len _) hi, hti, if_pos rfl] at h1
 have h2 : (N.set (okT N.ns)).getD i false = okT N.ns (N.T i) := tbF_get _ _ hi
 rw [← h2]
 exact h1
theorem truesF_mem {t : List Bool} {m i : Nat} : i ∈ truesF t m ↔ i < m ∧ t.getD i false = true := by
 unfold truesF
 rw [List.mem_filter, List.mem_range]
theorem truesF_nodup (t : List Bool) (m : Nat) : (truesF t m).Nodup := List.Pairwise.filter _ (List.nodup_range (n := m))
theorem tus_perm {N : Nw} (h : NwOk N) {t : List Bool} (ht : t.length = 2 ^ N.all) (hm : ite3 t (N.set (okT N.ns)) (fls N.all) = t) : ((truesF t (2 ^ N.all)).map N.T).Perm (tusF N t) := by
 refine (List.perm_ext_iff_of_nodup ?_ ?_).2 (fun x => ?_)
 · show List.Pairwise _ _
   rw [List.pairwise_map]
   exact List.Pairwise.imp_of_mem (fun {a b} ha hb hab e => hab (h.T_inj (truesF_mem.1 ha).1 (truesF_mem.1 hb).1 e)) (truesF_nodup t (2 ^ N.all))
 · exact List.Pairwise.filter _ (tups_nodup N.ns)
 · unfold tusF
   rw [List.mem_map, List.mem_filter]
   constructor
   · rintro ⟨i, hi, rfl⟩
     obtain ⟨h1, h2⟩ := truesF_mem.1 hi
     have h3 := mErr_ok ht hm h1 h2
     have h4 := N.T_mem h3
     obtain ⟨k, k1, k2, k3⟩ := h.tup_of h4
     have : k = i := h.T_inj k1 h1 k2
     subst this
     exact ⟨h4, by rw [k3]; exact h2⟩
   · rintro ⟨h1, h2⟩
     obtain ⟨k, k1, k2, k3⟩ := h.tup_of h1
     rw [k3] at h2
     exact ⟨k, truesF_mem.2 ⟨k1, h2⟩, k2⟩
theorem tus_sorted (N : Nw) (t : List Bool) : ((tusF N t).map natI).Pairwise fun x y => cmpL x y < 0 := by
 rw [List.pairwise_map]
 exact ((tups_lex _ N.ns rfl).filter _).imp (fun {x y} h => lex_cmp h)
theorem rowB_T {N : Nw} (h : NwOk N) (i : Nat) : N.tp (rowB N.all i) = N.T i := by
 refine tupA_cong (n := N.all) (fun i hi => h.le hi) (fun u hu => ?_)
 exact colF_get _ _ _ hu
def TusE (N : Nw) (E : Int) (t : List Bool) (w : World) (e : Ending) (w' : World) : Prop :=
 (E ≠ 0 ∧ e = .returned (.tuple #[.slice none 0 0, .int .i64 E]) ∧ Same w w') ∨
 (E = 0 ∧ ∃ a k c gs, e = .returned (.tuple #[.slice a k c, .int .i64 0]) ∧ TG w.heap.size w' a k c gs ∧ lst gs = (tusF N t).map natI ∧ k = (tusF N t).length ∧ Same w w')
theorem Tuples_net (N : Nw) (OK : NetOk N) (d : Dg) (v : Nat) (t : List Bool) (w : World) (hat : N.at w) (hd : d.at w) (T : d.tab v t) :
 Calls Tryz.prog 22 #[.agg #[.slice N.aA N.As.length N.cA, .slice N.aO N.o.length N.cO], .agg #[.int .i64 d.n, .slice d.a d.L.length d.cap, .int .i64 d.r]] w (TusE N (N.mErr v t) t w) := by
 have ME := fun W (hW : Same w W) => measured_net N OK d v t W (hat.same hW) (SliceAt.same hd hW) T
 have h10 := OK.h10
 unfold TusE
 by_cases hE0 : N.mErr v t = 0
 · obtain ⟨hv, hm⟩ := mErr_zero hE0
   subst hv
   rw [hE0] at ME ⊢
   have htl : t.length = 2 ^ N.all := T.2.len
   have hc : t.count true ≤ 1024 := by
    have h1 : t.count true ≤ t.length := List.count_le_length
    have h2 : 2 ^ N.all ≤ 2 ^ 10 := Nat.pow_le_pow_right (by omega) h10
    omega
   have AL := fun W (hW : Same w W) => all_rows d N.all t W (SliceAt.same hd hW) T hc
   rw [rowsL_all T.2] at AL
   have hbl : ∀ r ∈ (truesF t (2 ^ N.all)).map (rowB N.all), r.length = N.all ∧ okT N.ns (N.tp r) = true := fun r hr => by
    obtain ⟨i, hi, rfl⟩ := List.mem_map.1 hr
    obtain ⟨h1, h2⟩ := truesF_mem.1 hi
    exact ⟨rowB_length _ _, by rw [rowB_T OK.ok]; exact mErr_ok htl hm h1 h2⟩
   have hpm : (((truesF t (2 ^ N.all)).map (rowB N.all)).map fun r => natI (N.tp r)).Perm ((tusF N t).map natI) := by
    have h1 := (tus_perm OK.ok htl hm).map natI
    rw [List.map_map] at h1 ⊢
    have h2 : (natI ∘ N.T) = ((fun r => natI (N.tp r)) ∘ rowB N.all) := by
     funext i
     show natI (N.T i) = natI (N.tp (rowB N.all i))
     rw [rowB_T OK.ok]
    rwa [h2] at h1
   obtain ⟨rs, hrs⟩ : ∃ rs, rs = (truesF t (2 ^ N.all)).map (rowB N.all) := ⟨_, rfl⟩
   rw [← hrs] at AL hbl hpm
   have hrk : ∀ k, k < rs.length → rs.getD k [] ∈ rs := fun k hk => by
    simp only [List.getD, List.getElem?_eq_getElem hk, Option.getD_some]
    exact List.getElem_mem hk
   have DC := fun (k : Nat) (hk : k < rs.length) aL cL aT aB cT cB W (hW : Same w W) (hly : LyAt N aT aB cT cB W) (hR : RowAt W (.slice aL N.all cL) N.all (gz (rs.getD k []))) =>
    (decode_any N OK (rs.getD k []) (hbl _ (hrk k hk)).1 aL cL aT aB cT cB W (hat.same hW) hly hR).mono fun e w' h => (show ∃ g, e = .returned (.tuple #[.slice (some ⟨g, 0, none⟩) N.As.length N.As.length, .bool true]) ∧ w'.heap[g]? = some (.cells (gw (natI (N.tp (rs.getD k [])))).toArray 3 (0, 0)) ∧ W.heap.size ≤ g ∧ Same W w' from by
     rcases h with ⟨h1, _⟩ | ⟨_, h⟩
     · rw [(hbl _ (hrk k hk)).2] at h1; simp at h1
     · exact h)
   have hum : rs.map (fun r => natI (N.tp r)) = (List.range rs.length).map fun k => natI (N.tp (rs.getD k [])) := by
    apply List.ext_getElem
    · simp
    · intro i h1 h2
      simp only [List.length_map] at h1
      simp [List.getD, h1]
   rw [hum] at hpm
   have hul : ∀ k, (natI (N.tp (rs.getD k []))).length = N.As.length := fun k => by rw [natI_len, N.tp_len]
   obtain ⟨us, hus⟩ : ∃ us : Nat → List Int, us = fun k => natI (N.tp (rs.getD k [])) := ⟨_, rfl⟩
   have hus' : ∀ k, natI (N.tp (rs.getD k [])) = us k := fun k => by rw [hus]
   simp only [hus'] at DC hpm hul
   have hso := tus_sorted N t
   have hK : rs.length = (tusF N t).length := by have := hpm.length_eq; simpa using this
   have hKl : rs.length ≤ 1024 := by
    rw [hrs, List.length_map]
    have h1 : (truesF t (2 ^ N.all)).length ≤ (List.range (2 ^ N.all)).length := List.length_filter_le _ _
    have h2 : 2 ^ N.all ≤ 2 ^ 10 := Nat.pow_le_pow_right (by omega) h10
    simp only [List.length_range] at h1
    omega
   have hm12 := OK.ok.m12
   rw [← hK]
   generalize hTT : (tusF N t).map natI = TT at *
   have hdn := T.1
   simp only [Dg.v] at AL
   rw [hdn] at ME AL ⊢
   generalize hvs : rs.getD = rg at *
   clear hus hus' hbl hum hrk htl hc hm hE0 hK hat hd T hdn OK hTT
   obtain ⟨K, hKd⟩ : ∃ K, K = rs.length := ⟨_, rfl⟩
   simp only [← hKd] at AL DC hpm hKl ⊢
   unfold MeE at ME
   generalize N.all = n at *
   generalize N.emp = em at *
   generalize N.As.length = m at *
   generalize N.o.length = qo at *
   generalize N.aA = aA at *
   generalize N.cA = cA at *
   generalize N.aO = aO at *
   generalize N.cO = cO at *
   generalize d.a = da at *
   generalize d.L.length = dq at *
   generalize d.cap = dc at *
   generalize d.r = dr at *
   have hmk := info_parts info_iiT
   obtain ⟨i3, hi3, hi3z, hi3s, hi3b⟩ := hmk
   replace ME := gi ME; replace AL := gi AL; replace DC := gi DC; replace hpm := gi hpm; replace hul := gi hul; replace hso := gi hso; replace hKd := gi hKd; replace hvs := gi hvs; replace hrs := gi hrs
   go_enter Tryz.func22, Tryz.ntmps22
   go_upto_region 1 with fail
   have kn := heap_old (gv w (.cells #[.slice aA m cA, .slice aO qo cO] 36)) (.cells #[.int .i64 n, .slice da dq dc, .int .i64 dr] 56)
   have kf := gv (w.alloc (.cells #[.slice aA m cA, .slice aO qo cO] 36)) (.cells #[.int .i64 n, .slice da dq dc, .int .i64 dr] 56)
   rw [← al1] at kf
   have hs : Same w ((w.alloc (.cells #[.slice aA m cA, .slice aO qo cO] 36)).alloc (.cells #[.int .i64 n, .slice da dq dc, .int .i64 dr] 56)) := fs2
   generalize (w.alloc (.cells #[.slice aA m cA, .slice aO qo cO] 36)).alloc (.cells #[.int .i64 n, .slice da dq dc, .int .i64 dr] 56) = W0 at *
   replace kn := gi kn; replace kf := gi kf; replace hs := gi hs
   obtain ⟨y0, y1, yl⟩ := g2l kn.out
   obtain ⟨x0, x1, x2, xl⟩ := g3l kf.out
   go_wp2_with fail
   refine (ME.out _ hs.out).mono ?_
   intro e w1 hM
   clear y0 y1 yl
   clear x0 x1 x2 xl
   rcases hM with ⟨h0, _⟩ | ⟨_, aT, aB, cT, cB, rfl, hly, s1⟩
   · exact absurd rfl h0
   replace kf := gi (s1.at kf.out id)
   replace kn := gi (s1.at kn.out id)
   replace hs := gi (hs.out.same s1)
   clear s1
   replace hly := gi hly
   go_upto_region 2 with fail
   have kl := gv w1 (.cells #[.slice aT m cT, .slice aB m cB, .int .i64 n, .bool em] 89)
   have s2 : Same w1 (w1.alloc (.cells #[.slice aT m cT, .slice aB m cB, .int .i64 n, .bool em] 89)) := fs2
   replace kf := gi (s2.at kf.out id)
   replace kn := gi (s2.at kn.out id)
   replace hs := gi (hs.out.same s2)
   replace hly := gi (hly.out.same s2)
   clear s2
   generalize w1.alloc (.cells #[.slice aT m cT, .slice aB m cB, .int .i64 n, .bool em] 89) = W2 at *
   generalize w1.heap.size = bl at *
   replace kl := gi kl
   obtain ⟨x0, x1, x2, xl⟩ := g3l kf.out
   go_wp2_with fail
   refine (AL.out _ hs.out).mono ?_
   rintro e w3 ⟨aR, cR, vals, rfl, ho3, hr3, s3⟩
   clear x0 x1 x2 xl
   replace kn := gi (s3.at kn.out id)
   replace kl := gi (s3.at kl.out id)
   replace hs := gi (hs.out.same s3)
   replace hly := gi (hly.out.same s3)
   clear s3
   have hRS := (SliceAt.of_owns ho3).row
   replace ho3 := gi ho3; replace hr3 := gi hr3; replace hRS := gi hRS
   go_wp2_with fail
   go_loopw [9, 33] (fun v i wr => ∃ (k : Nat) (gs : List Grp) (a : Option Addr) (c : Nat), i = .int .i64 k ∧ k ≤ K ∧ v = .slice a k c ∧ TG w3.heap.size wr a k c gs ∧ lst gs = (List.range k).map us ∧ Same w3 wr) (fun _ i _ => K - (intOf i).toNat)
   case atStart => exact ⟨0, [], none, 0, rfl, Nat.zero_le _, rfl, TG.nil _ _, rfl, Fr.refl _ _⟩
   case round =>
    obtain ⟨k, gs, a, c, rfl, hk, rfl, hT, hL, hs1⟩ := hrel
    have hsw := hs.out.same hs1
    have hly1 := hly.out.same hs1
    have kn1 := hs1.at kn.out id
    have kl1 := hs1.at kl.out id
    have hzw := hsw.size
    by_cases hlt : k < K
    · obtain ⟨aB', cB', hv1, hv2, hv3⟩ := (hr3.out.same hs1).nth k (by rw [← hKd.out]; exact hlt)
      obtain ⟨b, off, rfl, hb, hc⟩ := (hRS.out.same hs1).cell (by omega)
      have hcb := hc k _ hv1
      rw [hvs.out] at hv2
      have DK := fun W (hW : Same wr W) => DC.out k hlt aB' cB' aT aB cT cB W (hsw.same hW) (hly1.same hW) (hv2.same hW)
      have hulk := hul.out k
      generalize huk : us k = uk at *
      clear hc hv1 hv2 hv3
      replace hsw := gi hsw; replace hly1 := gi hly1; replace hT := gi hT; replace hL := gi hL; replace hs1 := gi hs1; replace DK := gi DK; replace hulk := gi hulk; replace kn1 := gi kn1; replace kl1 := gi kl1; replace huk := gi huk
      obtain ⟨x0, x1, x2, x3, xl⟩ := g4l kl1.out
      obtain ⟨y0, y1, yl⟩ := g2l kn1.out
      go_wp2_with fail
      refine (DK.out _ (Fr.refl _ _)).mono ?_
      rintro e w5 ⟨g, rfl, hg5, hgw, s5⟩
      clear x0 x1 x2 x3 xl
      clear y0 y1 yl
      clear hb hcb
      have hs5 := hs1.out.same s5
      have hz5 := s5.size
      have hT5 := hT.out.same s5
      have hgl := gu hg5
      have hSl : SliceAt w5 3 1 (.slice (some ⟨g, 0, none⟩) m m) m (gw uk) := ⟨by rw [intCells_length, hulk.out, Nat.mul_one], some ⟨g, 0, none⟩, m, rfl, Nat.le_refl _, by unfold maxLen; omega, by simp, fun _ => ⟨g, 0, _, rfl, hg5, by rw [Nat.mul_one]; exact List.take_of_length_le (by show (List.drop 0 (gw uk)).length ≤ m; rw [List.drop_zero, intCells_length, hulk.out]; omega)⟩⟩
      clear s5 hgw
      replace hs5 := gi hs5; replace hT5 := gi hT5; replace hSl := gi hSl; replace hg5 := gi hg5
      go_wp2_with (at_builtin; refine wpList_append1 rfl (.tmp 44) (.tmp 46) 51 rfl w3.heap.size 31 i3 (.slice none 0 0) 1 24 Tryz.underlying51 hi3 hi3z hi3s hi3b rfl (by decide) (by decide) a k c (gs.map Grp.v) rfl (owns_same hT5.out.own fs2) (by omega) w5.heap.size [.slice (some ⟨g, 0, none⟩) m m] rfl rfl (gv _ _) (by simp [Value.oneCell']) (by have := hs5.out.size; simp; omega) ?_; intro a9 c9 w9 ho9 hG9)
      have hT9 : TG w3.heap.size w9 a9 (k + 1) c9 (gs ++ [⟨some ⟨g, 0, none⟩, m, uk⟩]) := hT5.out.push (W := w5.alloc (.cells #[.slice (some ⟨g, 0, none⟩) m m] 31)) fs2 (by have := hSl.out.same (show Same w5 (w5.alloc (.cells #[.slice (some ⟨g, 0, none⟩) m m] 31)) from fs2); rw [← hulk.out] at this; simpa [Grp.v, hulk.out] using this) (by simpa [Grp.v, hulk.out] using ho9) hG9
      have hs9 : Same w3 w9 := grew_fresh (hs5.out.same fs2) hG9 (fun k hk => (hT5.out.own.lt k hk).1)
      clear ho9 hG9
      replace hT9 := gi hT9; replace hs9 := gi hs9
      go_roundw
      case rel => exact ⟨k + 1, _, a9, c9, by go_num, by omega, rfl, hT9.out, by have h8 : gs.map Grp.l = _ := hL.out; show (gs ++ [_]).map Grp.l = _; rw [List.map_append, h8, List.range_succ, List.map_append]; simp [huk.out], hs9.out⟩
      case measure => simp [intOf]; omega
    · obtain rfl : k = K := by omega
      have hz3 := hs1.size
      have hSO := fun W (hW : Same wr W) => sort_tg gs TT w3.heap.size k c a W (hT.same hW) (by omega) (by rw [hL]; exact hpm.out) hso.out
      have hol : ∀ i, (Value.slice a k c).ownBlock = some i → w3.heap.size ≤ i := fun i hi => (hT.own.lt i hi).1
      clear hT
      replace hSO := gi hSO; replace hsw := gi hsw; replace hs1 := gi hs1; replace hL := gi hL; replace hol := gi hol
      go_wp2_with fail
      refine (hSO.out _ (Fr.refl _ _)).mono ?_
      rintro e w5 ⟨rfl, gs', hL', hT5, hG5⟩
      have hs5 : Same w w5 := grew_fresh hsw.out hG5 (fun i hi => by have h1 := hol.out i hi; have h2 := hs.out.size; omega)
      have hT6 : TG w.heap.size w5 a k c gs' := hT5.down (by have := hs.out.size; omega)
      replace hL' := gi hL'; replace hT6 := gi hT6; replace hs5 := gi hs5
      go_wp2_with fail
      go_ret2
      exact .inr ⟨by trivial, a, k, c, gs', rfl, hT6.out, hL'.out, rfl, hs5.out⟩
 · generalize N.mErr v t = EE at *
   have hdn := T.1
   rw [hdn] at ME ⊢
   clear hat hd T hdn OK h10
   unfold MeE at ME
   generalize N.all = n at *
   generalize N.emp = em at *
   generalize N.As.length = m at *
   generalize N.o.length = qo at *
   generalize N.aA = aA at *
   generalize N.cA = cA at *
   generalize N.aO = aO at *
   generalize N.cO = cO at *
   generalize d.a = da at *
   generalize d.L.length = dq at *
   generalize d.cap = dc at *
   generalize d.r = dr at *
   replace ME := gi ME
   go_enter Tryz.func22, Tryz.ntmps22
   go_upto_region 1 with fail
   have kn := heap_old (gv w (.cells #[.slice aA m cA, .slice aO qo cO] 36)) (.cells #[.int .i64 v, .slice da dq dc, .int .i64 dr] 56)
   have kf := gv (w.alloc (.cells #[.slice aA m cA, .slice aO qo cO] 36)) (.cells #[.int .i64 v, .slice da dq dc, .int .i64 dr] 56)
   rw [← al1] at kf
   have hs : Same w ((w.alloc (.cells #[.slice aA m cA, .slice aO qo cO] 36)).alloc (.cells #[.int .i64 v, .slice da dq dc, .int .i64 dr] 56)) := fs2
   generalize (w.alloc (.cells #[.slice aA m cA, .slice aO qo cO] 36)).alloc (.cells #[.int .i64 v, .slice da dq dc, .int .i64 dr] 56) = W0 at *
   replace kn := gi kn; replace kf := gi kf; replace hs := gi hs
   obtain ⟨y0, y1, yl⟩ := g2l kn.out
   obtain ⟨x0, x1, x2, xl⟩ := g3l kf.out
   go_wp2_with fail
   refine (ME.out _ hs.out).mono ?_
   intro e w1 hM
   clear y0 y1 yl
   clear x0 x1 x2 xl
   rcases hM with ⟨h0, rfl, s1⟩ | ⟨h0, _⟩
   · have hb : (EE != 0) = true := by simpa using h0
     have hs1 := hs.out.same s1
     clear s1
     have h0' := hE0
     replace h0 := gi h0; replace h0' := gi h0'; replace hE0 := gi hE0; replace hs1 := gi hs1
     go_wp2_with fail
     go_ret2
     exact .inl ⟨h0'.out, rfl, hs1.out.same fs2⟩
   · exact absurd h0 hE0
end Go.Proofs.YtcipnkemnepbaaaGreat
