/-  -/
import Derived.Test.YtcipnkemnepbaaaGreatSGrs
import Derived.Test.YtcipnkemnepbaaaGreatSTus
import Derived.Test.YtcipnkemnepbaaaGreatSNetSet
import Derived.Test.YtcipnkemnepbaaaGreatSIdxG
import Derived.Test.YtcipnkemnepbaaaGreatSLEna
import Derived.Test.YtcipnkemnepbaaaGreatSAppR
set_option maxRecDepth 100000
set_option maxHeartbeats 16000000
set_option linter.unusedVariables false
set_option linter.unusedSimpArgs false
namespace Go.Proofs.YtcipnkemnepbaaaGreat
open Go.RowKit
theorem nsets11 (y t : List Int) (a a' : Option Addr) (q q' c c' bx : Nat) (w : World) (hq : y.length = q) (hq' : t.length = q') (h : RowAt w (.slice a q c) q (gw y)) (h' : RowAt w (.slice a' q' c') q' (gw t)) (hl : q ≤ 100000) (kb : w.heap[bx]? = some (.cells #[.slice a' q' c'] 31 (0, 0))) :
 Calls Tryz.prog 30 #[.slice a q c, .pointer (some ⟨bx, 0, none⟩)] w fun e w' => e = .returned (.bool (decide (y = t))) ∧ Same w w' := by
 have EQ := fun W (hW : Same w W) => equalI_any y t a a' q q' c c' W hq hq' (h.same hW) (h'.same hW) hl
 generalize decide (y = t) = R at *
 have kb' : ∀ W, Same w W → W.heap[bx]? = some (.cells #[.slice a' q' c'] 31 (0, 0)) := fun W hW => hW.at kb id
 have c0 := gn kb 0
 have cl := gu kb
 clear h h'
 replace EQ := gi EQ; replace kb := gi kb; replace kb' := gi kb'
 go_enter Tryz.func30, Tryz.ntmps30
 go_wp2_with fail
 refine (EQ.out _ fs2).mono ?_
 rintro e w1 ⟨rfl, s1⟩
 have hs1 : Same w w1 := (show Same w _ from fs2).same s1
 clear c0 cl
 go_wp2_with fail
 go_ret
 exact ⟨rfl, hs1⟩
theorem enter_nsets11 (args : Array Value) (W : World) : (callFunc 30 args).run Tryz.prog W = .ok (.enter 30 args) W := by kernel_rfl
theorem nsets1 (gs : List Grp) (a : Option Addr) (k c bl : Nat) (t : List Int) (aT : Option Addr) (q cT : Nat) (w : World) (hG : GsAt w (.slice a k c) k gs) (hk : k ≤ 1000000) (hl : ∀ g ∈ gs, g.l.length ≤ 100000) (hq : t.length = q) (hT : RowAt w (.slice aT q cT) q (gw t)) (kl : w.heap[bl]? = some (.cells #[.slice a k c] 51 (0, 0))) :
 Calls Tryz.prog 28 #[.slice aT q cT, .pointer (some ⟨bl, 0, none⟩)] w fun e w' => e = .returned (.bool ((lst gs).any fun y => decide (y = t))) ∧ Same w w' := by
 have CG := fun bx W (hW : Same w W) (kb : W.heap[bx]? = some (.cells #[.slice aT q cT] 31 (0, 0))) => containsG_any gs (fun y => decide (y = t)) 30 #[.pointer (some ⟨bx, 0, none⟩)] a k c W (hG.same hW) enter_nsets11 hk (fun g hg W' hW' => nsets11 g.l t g.a aT _ q g.cap cT bx W' rfl hq ((hG.2 g hg).same (hW.same hW')) (hT.same (hW.same hW')) (hl g hg) (hW'.at kb id))
 generalize (lst gs).any (fun y => decide (y = t)) = R at *
 clear hG hT hl
 replace CG := gi CG
 go_enter Tryz.func28, Tryz.ntmps28
 go_upto_region 1 with fail
 have kb := gv w (.cells #[.slice aT q cT] 31)
 have hs : Same w (w.alloc (.cells #[.slice aT q cT] 31)) := fs2
 have kl1 := hs.at kl id
 generalize w.alloc (.cells #[.slice aT q cT] 31) = W0 at *
 have c0 := gn kl1 0
 have cl := gu kl1
 generalize w.heap.size = bx at *
 replace kb := gi kb; replace hs := gi hs; replace kl1 := gi kl1
 go_wp2_with fail
 refine (CG.out _ _ hs.out kb.out).mono ?_
 rintro e w1 ⟨rfl, s1⟩
 have hs1 := hs.out.same s1
 clear c0 cl s1
 replace hs1 := gi hs1
 go_wp2_with fail
 go_ret
 exact ⟨rfl, hs1.out⟩
theorem enter_nsets1 (args : Array Value) (W : World) : (callFunc 28 args).run Tryz.prog W = .ok (.enter 28 args) W := by kernel_rfl
theorem step_appG {P : Program} {w : World} {ops : Array Oper} {o : Oper} {a : Act} {KK : Act → World → Prop} {Q : Exit → Act → World → Prop} {E : Prop}
 (hg : o.guard = none) (s x : Operand) (t : TypeId) (ho : o.op = .call { callee := .builtin .append, args := #[s, x], argTypes := #[t, t] }) (v : Value) (w' : World)
 (hr : (Builtin.append_ #[t, t] o.type #[a.eval s, a.eval x]).run P w = .ok v w') (h : KK (a.put o.dst v) w') : if Region.wanted o (yielded ops a.tmps) = true then Oper.wp P o a w KK Q else E := by
 have hw : Region.wanted o (yielded ops a.tmps) = true := by simp [Region.wanted, hg]
 rw [if_pos hw]
 unfold Oper.wp execOp
 simp only [ho, resolve, invoke, builtin, Sem.run_bind, Sem.run_pure, Result.andThen_ok, List.map_toArray, List.map_cons, List.map_nil, hr]
 exact h
theorem app_runG {w : World} {base base' : Nat} {a a' : Option Addr} {k k' c c' : Nat} {gs gs' : List Grp} (h : TG base w a k c gs) (h' : TG base' w a' k' c' gs') (hk : k + k' ≤ 1000000) (hbase : base ≤ w.heap.size) :
 ∃ a9 c9 w9, (Builtin.append_ #[51, 51] 51 #[.slice a k c, .slice a' k' c']).run Tryz.prog w = .ok (.slice a9 (k + k') c9) w9 ∧
  TG base w9 a9 (k + k') c9 (gs ++ gs') ∧ Grew (fun _ => False) w w9 (.slice a k c) (.slice a9 (k + k') c9) := by
 obtain ⟨i3, hi3, hi3z, hi3s, hi3b⟩ := info_parts info_iiT
 have key : ∀ (a9 : Option Addr) (c9 : Nat) (w9 : World), w9.ownsRow base 31 1 (.slice a9 (k + k') c9) (k + k') (gs.map Grp.v ++ gs'.map Grp.v) → Grew (fun _ => False) w w9 (.slice a k c) (.slice a9 (k + k') c9) → TG base w9 a9 (k + k') c9 (gs ++ gs') := fun a9 c9 w9 ho hG => by
  have el : ∀ x : Grp, SliceAt w 3 1 x.v x.l.length (gw x.l) → SliceAt w9 3 1 x.v x.l.length (gw x.l) := fun x hx => hx.fr hG.1 (fun i cur hi hS => by
   rcases hS with hS | hS
   · obtain ⟨cur', e⟩ := own_block h.own hS
     rw [e] at hi
     simp at hi
   · exact hS)
  refine ⟨by rw [List.length_append, h.len, h'.len], by rw [List.map_append]; exact ho, fun x hx => ?_⟩
  rcases List.mem_append.1 hx with hx | hx
  · exact el x (h.el x hx)
  · exact el x (h'.el x hx)
 have hv : ∀ (v' : Value) (w' : World), w'.ownsRow base 31 1 v' (k + k') (gs.map Grp.v ++ gs'.map Grp.v) → ∃ a9 c9, v' = .slice a9 (k + k') c9 := fun v' w' ho => by
  obtain ⟨a9, c9, rfl, _, _⟩ := (SliceAt.of_owns ho).form
  exact ⟨a9, c9, rfl⟩
 rcases h'.own.2 with ⟨hnil, hz⟩ | ⟨g, cap, cur, he, hbase', hb, h1, h2, h3, h4⟩
 · simp only [Value.slice.injEq] at hnil
   obtain ⟨rfl, hk0, rfl⟩ := hnil
   subst hk0
   have hz0 : gs' = [] := List.length_eq_zero_iff.1 h'.len
   subst hz0
   have hr := run_append_owned_none (P := Tryz.prog) (w := w) base 51 51 31 i3 1 Tryz.underlying51 hi3 (.slice a k c) k (gs.map Grp.v) h.own
   exact ⟨a, c, w, hr, by rw [List.append_nil]; exact h, Grew.refl _ _ _⟩
 · cases he
   have hlen' := h'.len
   obtain ⟨v', w', hr, h5, h6, h7, h8⟩ := run_append_own_at (P := Tryz.prog) (w := w) base 51 51 31 i3 (.slice none 0 0) 1 24 Tryz.underlying51 hi3 hi3z hi3s hi3b rfl (by decide) (.slice a k c) k (gs.map Grp.v) h.own ⟨g, 0, none⟩ k' c' (gs'.map Grp.v) (by simp [hlen']) (fun j u hu => by
    have hj : j < k' := by
     have := (List.getElem?_eq_some_iff.1 hu).1
     simp at this
     omega
    rw [Addr.add_lit]
    rw [← h4, List.getElem?_take_of_lt (by omega)] at hu
    simp only [World.cell?, hb, Nat.zero_add, Option.isSome_none, Bool.false_eq_true, if_false]
    rw [← Array.getElem?_toList]
    exact hu) (grp_cells gs') (by unfold maxLen; omega) (by omega) hbase
   obtain ⟨a9, c9, rfl⟩ := hv v' w' h5
   have hG : Grew (fun _ => False) w w' (.slice a k c) (.slice a9 (k + k') c9) := ⟨(Fr.refl _ _).grown h6 (fun k hk _ => .inl hk), fun i hi => by
    rcases h8 with h8 | h8
    · exact .inl (by rw [← h8]; exact hi)
    · rw [h8] at hi
      exact .inr (Nat.le_of_eq (Option.some.inj hi))⟩
   exact ⟨a9, c9, w', hr, key a9 c9 w' h5 hG, hG⟩
theorem cho_sup {N : Nw} {L : List (List Int)} (h : ∀ t ∈ L, t ∈ tupI N.ns) : Sup N.ns fun y => decide (natI y ∈ L) := fun x hx => by
 have h1 := h _ (of_decide_eq_true hx)
 obtain ⟨y, hy, he⟩ := List.mem_map.1 h1
 have : y = x := by rw [← map_natI y, he, map_natI]
 rw [← this]
 exact (tups_iff.1 hy).2
theorem any_memL (L : List (List Int)) (t : List Int) : (L.any fun y => decide (y = t)) = decide (t ∈ L) := by
 rw [Bool.eq_iff_iff]
 simp [List.any_eq_true]
theorem tus_filter {N : Nw} {L : List (List Int)} (hL : List.Sublist L (tupI N.ns)) : ((tupsF N.ns).filter fun x => decide (natI x ∈ L)).map natI = L := by
 have hnd : (tupI N.ns).Nodup := by
  show List.Pairwise _ _
  unfold tupI
  rw [List.pairwise_map]
  exact (tups_nodup N.ns).imp (fun {a b} h e => h (by rw [← map_natI a, e, map_natI]))
 have h2 : ((tupsF N.ns).filter fun x => decide (natI x ∈ L)).map natI = (tupI N.ns).filter fun t => decide (t ∈ L) := by
  unfold tupI
  rw [List.filter_map]
  rfl
 rw [h2]
 have key : ∀ (M K : List (List Int)), List.Sublist M K → K.Nodup → (K.filter fun t => decide (t ∈ M)) = M := by
  intro M K h
  induction h with
  | slnil => intro _; rfl
  | @cons l1 l2 a h ih =>
   intro hn
   obtain ⟨hn1, hn2⟩ := List.nodup_cons.1 hn
   have : ¬ a ∈ l1 := fun ha => hn1 (h.subset ha)
   rw [List.filter_cons, decide_eq_false this, if_neg (by simp), ih hn2]
  | @cons_cons l1 l2 a h ih =>
   intro hn
   obtain ⟨hn1, hn2⟩ := List.nodup_cons.1 hn
   rw [List.filter_cons, decide_eq_true List.mem_cons_self, if_pos rfl]
   congr 1
   conv => rhs; rw [← ih hn2]
   refine List.filter_congr (fun t ht => ?_)
   have : t ≠ a := fun e => hn1 (e ▸ ht)
   simp [this]
 exact key _ _ hL hnd
theorem tus_list {N : Nw} (OK : NwOk N) {L : List (List Int)} (hL : List.Sublist L (tupI N.ns)) : (tusF N (N.set fun y => decide (natI y ∈ L))).map natI = L := by
 have h1 : tusF N (N.set fun y => decide (natI y ∈ L)) = (tupsF N.ns).filter fun x => decide (natI x ∈ L) := by
  refine List.filter_congr (fun x hx => ?_)
  obtain ⟨k, hk, hT, hn⟩ := OK.tup_of hx
  rw [hn]
  show (tbF _ _).getD k false = _
  rw [tbF_get _ _ hk]
  show decide (natI (N.T k) ∈ L) = _
  rw [hT]
 rw [h1]
 exact tus_filter hL
theorem nsets_any (B : List Nat) (h86 : B.length = 86) (hB : ∀ y ∈ B, y < 256) (T : Int) (hT64 : 0 ≤ T ∧ T ≤ 18446744073709551615) (w : World) :
 Calls Tryz.prog 5 #[.agg (bytC B).toArray, .int .u64 T] w fun e w' => e = .returned (.bool true) ∧ Same w w' := by
 have KN := fun W => known13_any W
 have MK := fun W => Make13_any B h86 hB 3 (by omega) W
 obtain ⟨cs, hcs⟩ : ∃ cs, cs = (bytC B).toArray := ⟨_, rfl⟩
 have hsz : cs.size = 86 := by rw [hcs]; simp [bytC, h86]
 rw [← hcs] at MK ⊢
 clear hB
 replace KN := gi KN; replace MK := gi MK; replace hsz := gi hsz; replace hcs := gi hcs
 go_enter Tryz.func5, Tryz.ntmps5
 go_upto_region 1 with fail
 have kg := gv w (.cells cs 30)
 have s0 : Same w (w.alloc (.cells cs 30)) := fs2
 generalize w.alloc (.cells cs 30) = W0 at *
 obtain ⟨bg, hbg⟩ : ∃ b, b = w.heap.size := ⟨_, rfl⟩
 rw [← hbg] at kg ⊢
 replace kg := gi kg; replace s0 := gi s0; replace hbg := gi hbg
 go_wp2_with fail
 refine (KN.out _).mono ?_
 rintro e w1 ⟨rfl, s1⟩
 replace kg := gi (s1.at kg.out id)
 have hs1 := s0.out.same s1
 clear s1 s0
 replace hs1 := gi hs1
 go_upto_region 3 with fail
 refine wp_region_lit ?_
 refine wpList_load_row rfl 30 (.tmp 2) rfl bg 0 rfl cs.toList _ (by have := range_row kg.out 0 86; rw [List.drop_zero, List.take_of_length_le (by simp [hsz.out])] at this; exact this) Tryz.underlying30 rfl (by rw [infoGp13]; simp [hsz.out]) ?_
 (try simp only [Act.put, gj])
 refine wpList_step (fun K hK => ?_)
 go_simp
 refine (MK.out _).mono ?_
 rintro e w2 ⟨N, rfl, hat, hmd, s2⟩
 have hG := hmd.grp (by omega)
 have hsx := hs1.out.same s2
 clear s2 hs1 MK hmd kg
 refine hK _ _ ?_
 clear hK
 unfold Nw.v
 (try simp only [Act.put, gj])
 have OK := hG.net
 have h9 : N.all ≤ 9 := hG.grp.all
 have hm3 := hG.m3
 have TU := fun W (hW : Same w2 W) => ltuples13 N W (hat.same hW) (fun k hk => by
  have h1 := OK.ok.n4 hk
  have h2 := hG.t1000 _ (List.getElem_mem hk)
  exact ⟨_, h1.2, by omega, rfl⟩) OK.ok.m12 hG.tl
 have hTl2 : (tupI N.ns).length ≤ 100000 := by
  rw [tupI_len]
  have := hG.tl N.As.length (Nat.le_refl _)
  rw [List.take_of_length_le (by rw [N.ns_len]; exact Nat.le_refl _)] at this
  exact this
 have hsub := cho_sub T (tupI N.ns)
 have CH := fun W (hW : Same w2 W) => chosen13 N T (tupI N.ns) hT64 W hTl2 (fun W' hW' => TU W' (hW.same hW'))
 obtain ⟨C, hC⟩ : ∃ C, C = choF T (tupI N.ns) (tupI N.ns).length := ⟨_, rfl⟩
 rw [← hC] at hsub CH
 have hCm : ∀ t ∈ C, t ∈ tupI N.ns := fun t ht => hsub.subset ht
 have hCl : C.length ≤ 100000 := Nat.le_trans hsub.length_le hTl2
 have hCe : ∀ t ∈ C, t.length = N.As.length := fun t ht => by rw [tupI_el t (hCm t ht), N.ns_len]
 have hCl2 : C.length ≤ 125 := by
  have h1 := tups_len N.ns 5 (fun n hn => by
   obtain ⟨j, hj, rfl⟩ := List.mem_iff_getElem.1 hn
   have := hG.grp.ns j
   simpa [List.getD, hj] using this)
  have h3 : 5 ^ N.ns.length ≤ 5 ^ 3 := Nat.pow_le_pow_right (by omega) (by rw [N.ns_len]; omega)
  have h4 : (5 : Nat) ^ 3 = 125 := by decide
  have h5 := hsub.length_le
  rw [tupI_len] at h5
  omega
 have hCn : C = (C.map fun t => t.map Int.toNat).map natI := by
  rw [List.map_map]
  conv => lhs; rw [← List.map_id C]
  refine List.map_congr_left (fun t ht => ?_)
  obtain ⟨x, _, rfl⟩ := List.mem_map.1 (hCm t ht)
  show natI x = natI ((natI x).map Int.toNat)
  rw [map_natI]
 have SE := fun (gs : List Grp) a q c W (hW : Same w2 W) (hgs : GsAt W (.slice a q c) q gs) (hq : q ≤ 1000) (hl : lst gs = C.reverse ++ C) => (show Calls Tryz.prog 15 _ W (DgN N.all (N.set fun y => decide (natI y ∈ C)) W) from by
  refine (Set_gen N OK gs a q c W (hat.same hW) hgs hq (fun k hk aT aB cT cB W' hW' hly => ?_)).mono fun e w' h => ?_
  · have hgl : gs[k].l ∈ C.reverse ++ C := by rw [← hl]; exact List.mem_map.2 ⟨gs[k], List.getElem_mem hk, rfl⟩
    obtain ⟨x, hx, he⟩ := List.mem_map.1 (hCm gs[k].l (by simpa using hgl))
    have hR := (hgs.2 _ (List.getElem_mem hk)).same hW'
    unfold Grp.v at hR
    rw [← he] at hR ⊢
    exact encode_right N OK x hx _ rfl gs[k].a gs[k].cap aT aB cT cB W' (hat.same (hW.same hW')) hly hR
  have e0 : setErr N.ns (lst gs) = 0 := by
   rw [hl, show C.reverse ++ C = ((C.map fun t => t.map Int.toNat).reverse ++ (C.map fun t => t.map Int.toNat)).map natI from by rw [List.map_append, List.map_reverse, ← hCn]]
   refine setErr_nat (fun x hx => ?_)
   have hx2 : x ∈ C.map fun t => t.map Int.toNat := by simpa using hx
   obtain ⟨t, ht, rfl⟩ := List.mem_map.1 hx2
   obtain ⟨y, hy, rfl⟩ := List.mem_map.1 (hCm t ht)
   rw [map_natI]
   exact hy
  have e1 : (fun y => decide (natI y ∈ lst gs)) = fun y => decide (natI y ∈ C) := by
   funext y
   rw [hl]
   simp
  rcases h with ⟨h, _⟩ | ⟨_, h⟩
  · rw [e0] at h; exact absurd rfl h
  · rw [e1] at h; exact h)
 have hF : Sup N.ns fun y => decide (natI y ∈ C) := cho_sup hCm
 have IS := fun (gs : List Grp) (a : Option Addr) (c q bl : Nat) (d : Dg) W (hW : Same w2 W) (hgs : GsAt W (.slice a q c) q gs) (hl : lst gs = C) (hq : q ≤ 100000) (kl : W.heap[bl]? = some (.cells #[.slice a q c] 51 (0, 0))) (hd : d.at W) (TT : d.tab N.all (N.set fun y => decide (natI y ∈ C))) =>
  is_any N OK.ok (by omega) hG.t1000 hG.tl d (fun y => decide (natI y ∈ C)) (fun x => (lst gs).any fun y => decide (y = natI x)) hF (fun x hx => by rw [any_memL, hl]) 28 #[.pointer (some ⟨bl, 0, none⟩)] W (hat.same hW) hd TT enter_nsets1 (fun x hx W' a' c' hW' hR =>
   nsets1 gs a q c bl (natI x) a' N.As.length c' W' (hgs.same hW') (by omega) (fun g hg => by rw [hCe g.l (by rw [← hl]; exact List.mem_map.2 ⟨g, hg, rfl⟩)]; omega) (by rw [natI_len, (tups_iff.1 hx).1, N.ns_len]) hR (hW'.at kl id))
 have TUS := fun (d : Dg) W (hW : Same w2 W) (hd : d.at W) (TT : d.tab N.all (N.set fun y => decide (natI y ∈ C))) => Tuples_net N OK d N.all _ W (hat.same hW) hd TT
 have CTS := fun (d : Dg) W (hW : Same w2 W) (hd : d.at W) (TT : d.tab N.all (N.set fun y => decide (natI y ∈ C))) => Count_net N OK d N.all _ W (hat.same hW) hd TT
 have hm0 : N.mErr N.all (N.set fun y => decide (natI y ∈ C)) = 0 := mErr_set hF
 rw [hm0] at TUS CTS
 have hcnt : (N.set fun y => decide (natI y ∈ C)).count true = C.length := by
  rw [set_cnt OK.ok hF]
  have := congrArg List.length (tus_filter hsub)
  rwa [List.length_map] at this
 have htl := tus_list OK.ok hsub
 unfold TusE at TUS
 have htll : (tusF N (N.set fun y => decide (natI y ∈ C))).length = C.length := by rw [← List.length_map (f := natI), htl]
 rw [htl, htll] at TUS
 simp only [if_pos] at CTS
 rw [hcnt] at CTS
 generalize N.set (fun y => decide (natI y ∈ C)) = S at *
 clear hF hm0 hcnt htl htll hsub hCm TU hTl2 OK hat hG
 unfold TupE at CH
 generalize N.all = n at *
 generalize N.emp = em at *
 generalize N.As.length = m at *
 generalize N.o.length = qo at *
 generalize N.aA = aA at *
 generalize N.cA = cA at *
 generalize N.aO = aO at *
 generalize N.cO = cO at *
 replace CH := gi CH; replace SE := gi SE; replace IS := gi IS; replace TUS := gi TUS; replace CTS := gi CTS; replace hsx := gi hsx; replace hCe := gi hCe; replace hC := gi hC; replace hCn := gi hCn
 go_upto_region 4 with fail
 have kn := gv w2 (.cells #[.slice aA m cA, .slice aO qo cO] 36)
 have hs : Same w2 (w2.alloc (.cells #[.slice aA m cA, .slice aO qo cO] 36)) := fs2
 generalize w2.alloc (.cells #[.slice aA m cA, .slice aO qo cO] 36) = W3 at *
 generalize w2.heap.size = bn at *
 replace kn := gi kn; replace hs := gi hs
 obtain ⟨y0, y1, yl⟩ := g2l kn.out
 go_wp2_with fail
 refine (CH.out _ hs.out).mono ?_
 rintro e w4 ⟨aL, kL, cL, gs, rfl, hTG, hlst, hkl, s4⟩
 clear y0 y1 yl
 replace kn := gi (s4.at kn.out id)
 replace hs := gi (hs.out.same s4)
 clear s4
 have hkL : kL ≤ 125 := by omega
 replace hTG := gi hTG; replace hlst := gi hlst; replace hkl := gi hkl
 go_upto_region 5 with fail
 have kl := gv w4 (.cells #[.slice aL kL cL] 51)
 have s5 : Same w4 (w4.alloc (.cells #[.slice aL kL cL] 51)) := fs2
 generalize w4.alloc (.cells #[.slice aL kL cL] 51) = W5 at *
 generalize w4.heap.size = bl at *
 replace kn := gi (s5.at kn.out id)
 replace hs := gi (hs.out.same s5)
 replace hTG := gi (hTG.out.same s5)
 clear s5
 replace kl := gi kl
 have c0 := gn kl.out 0
 have cl := gu kl.out
 have CG := cloneG_any gs _ aL kL cL W5 hTG.out (by omega)
 replace CG := gi CG
 go_wp2_with fail
 refine CG.out.mono ?_
 rintro e w6 ⟨aB, cB, rfl, hTB, s6⟩
 clear c0 cl CG
 have RV := revG_any gs _ aB kL cB w6 hTB (by omega)
 replace RV := gi RV
 go_wp2_with fail
 refine RV.out.mono ?_
 rintro e w7 ⟨rfl, hTR, hG7⟩
 have hs7 : Same W5 w7 := grew_fresh s6 hG7 (fun i hi => (hTB.own.lt i hi).1)
 have hbn := gu kn.out
 have hbl := gu kl.out
 have hTG7 := hTG.out.same hs7
 have kn5 := kn.out
 have kl5 := kl.out
 have hTG5 := hTG.out
 replace kn := gi (hs7.at kn.out id)
 replace kl := gi (hs7.at kl.out id)
 have AP := fun W (hW : Same w7 W) => app_runG (w := W) (hTR.same hW) (hTG7.same hW) (by omega) (by have h1 := hs7.size; have h2 := hW.size; omega)
 have hown : ∀ i, (Value.slice aB kL cB).ownBlock = some i → W5.heap.size ≤ i := fun i hi => (hTR.own.lt i hi).1
 have hown2 : ∀ i, (Value.slice aB kL cB).ownBlock = some i → i < w7.heap.size := fun i hi => by
  obtain ⟨cur, hcur⟩ := own_block hTR.own hi
  exact gu hcur
 clear hTR hG7 hTB s6 RV
 replace AP := gi AP; replace hown := gi hown; replace hown2 := gi hown2; replace hs7 := gi hs7; replace hTG7 := gi hTG7; replace kn5 := gi kn5; replace kl5 := gi kl5; replace hTG5 := gi hTG5
 go_upto_region 7 with fail
 apply share
 · intro key
   obtain ⟨y0, y1, yl⟩ := g2l kn.out
   have c0 := gn kl.out 0
   have cl := gu kl.out
   refine wp_region_plan (fun k => k = bn ∨ k = bl) [1, 0, 1, 2, 2, 0, 0, 0, 2, 3, 0] (.fork [0, 1, 2] 3 (.fork [] 4 (.run [5, 6, 7, 8, 9, 10]) 8 (.run [4, 5, 6, 7, 9, 10])) 8 (.run [3, 4, 5, 6, 7, 9, 10])) (by kernel_rfl) (by kernel_rfl) ?_
   refine plan_fork ?_
   repeat ((first | refine sched_w rfl rfl fun _ k => ?_ | refine sched_s rfl rfl fun _ k => ?_); go_simp; (first | refine k _ ?_ | refine ⟨_, fun _ => rfl, k _ ?_⟩); clear k)
   clear y0 y1 yl c0 cl
   refine sched_nil ⟨?_, ?_⟩
   · refine fork_g rfl rfl (fun _ hK => ?_)
     obtain ⟨a9, c9, w9, hr9, hT9, hG9⟩ := AP.out _ (show Same w7 w7.drew from fs3)
     have hkp : Kp (fun k => k = bn ∨ k = bl) w7.drew w9 := Kp.of_fr hG9.1 (fun i hi hlt hh => hh.elim (fun h => by have h1 := hown.out i h; rcases hi with hi | hi <;> omega) id)
     refine step_appG rfl (.tmp 27) (.tmp 28) 51 rfl _ _ hr9 (hK _ _ hkp ?_)
     clear hK hkp
     (try simp only [Act.put, gj])
     have h59 : Same W5 w9 := grew_fresh (hs7.out.same (show Same w7 w7.drew from fs3)) hG9 hown.out
     refine plan_fork ?_
     refine sched_nil ⟨?_, ?_⟩
     · refine fork_g rfl rfl (fun _ hK => ?_)
       go_simp
       refine (SE.out (gs.reverse ++ gs) a9 (kL + kL) c9 _ (hs.out.same (h59.same (show Same w9 _ from fs3))) (hT9.gs.same (show Same w9 _ from fs3)) (by omega) (by unfold lst at hlst ⊢; rw [List.map_append, List.map_reverse, hlst.out])).mono ?_
       intro e w6 hM
       obtain ⟨a6, c6, L6, r6, rfl, d6, tt6, s6⟩ := hM.open
       clear hM
       refine hK _ _ (Kp.of_same s6) ?_
       clear hK
       (try simp only [Act.put, gj])
       refine plan_run ?_
       have hw6 : Same W5 w6 := (h59.same (show Same w9 _ from fs3)).same s6
       repeat ((first | refine sched_w rfl rfl fun _ k => ?_ | refine sched_s rfl rfl fun _ k => ?_); go_simp; (first | refine k _ ?_ | refine ⟨_, fun _ => rfl, k _ ?_⟩); clear k)
       refine sched_g rfl rfl (fun _ hK => ?_); go_simp; refine hK _ _ (Kp.of_same fs3) ?_; clear hK
       (try simp only [Act.put, gj])
       refine sched_l rfl (by decide) (fun _ hK => ?_); go_simp
       refine hK _ _ ?_; clear hK; try simp only [Act.put, gj]
       repeat ((first | refine sched_w rfl rfl fun _ k => ?_ | refine sched_s rfl rfl fun _ k => ?_); go_simp; (first | refine k _ ?_ | refine ⟨_, fun _ => rfl, k _ ?_⟩); clear k)
       refine sched_nil (NoPanic.normal ?_)
       refine abs_w (P := fun W => ChP W5 n S w6.heap.size a6 c6 L6 r6 W) ⟨gv _ _, SliceAt.same d6 fs3, tt6, hw6.same fs3⟩ (fun W hP => ?_)
       clear d6 tt6 s6 hw6
       generalize w6.heap.size = bf at hP ⊢
       clear hT9 hG9 hr9 h59
       revert hP; revert W; revert bf; revert r6; revert L6; revert c6; revert a6; revert c9; revert a9
       exact key.out
     · refine fork_g rfl rfl (fun _ hK => ?_)
       go_simp
       have kb0 := gv w9 (.cells #[.int .i64 0, .slice none 0 0, .int .i64 0] 56)
       refine hK _ _ (Kp.of_same fs3) ?_
       clear hK
       (try simp only [Act.put, gj])
       refine plan_run ?_
       refine sched_g rfl rfl (fun _ hK => ?_)
       go_simp
       refine (SE.out (gs.reverse ++ gs) a9 (kL + kL) c9 _ (hs.out.same (h59.same (show Same w9 _ from fs3))) (hT9.gs.same (show Same w9 _ from fs3)) (by omega) (by unfold lst at hlst ⊢; rw [List.map_append, List.map_reverse, hlst.out])).mono ?_
       intro e w6 hM
       obtain ⟨a6, c6, L6, r6, rfl, d6, tt6, s6⟩ := hM.open
       clear hM
       refine hK _ _ (Kp.of_same s6) ?_
       clear hK
       (try simp only [Act.put, gj])
       have kf := s6.at kb0 id
       have hw6 : Same W5 w6 := (h59.same (show Same w9 _ from fs3)).same s6
       have hbf : W5.heap.size ≤ w9.heap.size := h59.size
       repeat ((first | refine sched_w rfl rfl fun _ k => ?_ | refine sched_s rfl rfl fun _ k => ?_); go_simp; (first | refine k _ ?_ | refine ⟨_, fun _ => rfl, k _ ?_⟩); clear k)
       obtain ⟨x0, x1, x2, z0, z1, z2, xl⟩ := box_facts kf
       refine sched_l rfl (by decide) (fun _ hK => ?_); go_simp
       refine hK _ _ ?_; clear hK; try simp only [Act.put, gj]
       repeat ((first | refine sched_w rfl rfl fun _ k => ?_ | refine sched_s rfl rfl fun _ k => ?_); go_simp; (first | refine k _ ?_ | refine ⟨_, fun _ => rfl, k _ ?_⟩); clear k)
       refine sched_nil (NoPanic.normal ?_)
       obtain ⟨kf', ff⟩ := box_dg (u0 := .int .i64 n) (u1 := .slice a6 L6.length c6) (u2 := .int .i64 r6) kf
       have d6' := SliceAt.fr d6 ff (fun i cur hk' e => by rw [show i = w9.heap.size from e, show w6.heap[w9.heap.size]? = _ from kf] at hk'; simp at hk')
       refine abs_w (P := fun W => ChP W5 n S w9.heap.size a6 c6 L6 r6 W) ⟨kf', d6', tt6, hw6.trans ff (fun i hi e => by have e2 : i = w9.heap.size := e; omega)⟩ (fun W hP => ?_)
       clear d6 d6' tt6 s6 hw6 kf kf' ff x0 x1 x2 z0 z1 z2 xl hbf kb0
       generalize w9.heap.size = bf at hP ⊢
       clear hT9 hG9 hr9 h59
       revert hP; revert W; revert bf; revert r6; revert L6; revert c6; revert a6; revert c9; revert a9
       exact key.out
   · refine fork_g rfl rfl (fun _ hK => ?_)
     go_simp
     have kb0 := gv w7.drew (.cells #[.int .i64 0, .slice none 0 0, .int .i64 0] 56)
     refine hK _ _ (Kp.of_same fs3) ?_
     clear hK
     (try simp only [Act.put, gj])
     refine plan_run ?_
     refine sched_g rfl rfl (fun _ hK => ?_)
     obtain ⟨a9, c9, w9, hr9, hT9, hG9⟩ := AP.out _ (show Same w7 (w7.drew.alloc (.cells #[.int .i64 0, .slice none 0 0, .int .i64 0] 56)) from fs3)
     have hkp : Kp (fun k => k = bn ∨ k = bl) (w7.drew.alloc (.cells #[.int .i64 0, .slice none 0 0, .int .i64 0] 56)) w9 := Kp.of_fr hG9.1 (fun i hi hlt hh => hh.elim (fun h => by have h1 := hown.out i h; rcases hi with hi | hi <;> omega) id)
     refine step_appG rfl (.tmp 27) (.tmp 28) 51 rfl _ _ hr9 (hK _ _ hkp ?_)
     clear hK hkp
     (try simp only [Act.put, gj])
     have h59 : Same W5 w9 := grew_fresh (hs7.out.same (show Same w7 (w7.drew.alloc (.cells #[.int .i64 0, .slice none 0 0, .int .i64 0] 56)) from fs3)) hG9 hown.out
     refine sched_g rfl rfl (fun _ hK => ?_)
     go_simp
     refine (SE.out (gs.reverse ++ gs) a9 (kL + kL) c9 _ (hs.out.same (h59.same (show Same w9 _ from fs3))) (hT9.gs.same (show Same w9 _ from fs3)) (by omega) (by unfold lst at hlst ⊢; rw [List.map_append, List.map_reverse, hlst.out])).mono ?_
     intro e w6 hM
     obtain ⟨a6, c6, L6, r6, rfl, d6, tt6, s6⟩ := hM.open
     clear hM
     refine hK _ _ (Kp.of_same s6) ?_
     clear hK
     (try simp only [Act.put, gj])
     have kf : w6.heap[w7.heap.size]? = some (.cells #[.int .i64 0, .slice none 0 0, .int .i64 0] 56 (0, 0)) := s6.at (hG9.1.at kb0 (fun h => h.elim (fun e => by have h1 := hown2.out _ e; omega) id)) id
     have hw6 : Same W5 w6 := (h59.same (show Same w9 _ from fs3)).same s6
     have hbf : W5.heap.size ≤ w7.heap.size := hs7.out.size
     repeat ((first | refine sched_w rfl rfl fun _ k => ?_ | refine sched_s rfl rfl fun _ k => ?_); go_simp; (first | refine k _ ?_ | refine ⟨_, fun _ => rfl, k _ ?_⟩); clear k)
     obtain ⟨x0, x1, x2, z0, z1, z2, xl⟩ := box_facts kf
     refine sched_l rfl (by decide) (fun _ hK => ?_); go_simp
     refine hK _ _ ?_; clear hK; try simp only [Act.put, gj]
     repeat ((first | refine sched_w rfl rfl fun _ k => ?_ | refine sched_s rfl rfl fun _ k => ?_); go_simp; (first | refine k _ ?_ | refine ⟨_, fun _ => rfl, k _ ?_⟩); clear k)
     refine sched_nil (NoPanic.normal ?_)
     obtain ⟨kf', ff⟩ := box_dg (u0 := .int .i64 n) (u1 := .slice a6 L6.length c6) (u2 := .int .i64 r6) kf
     have d6' := SliceAt.fr d6 ff (fun i cur hk' e => by rw [show i = w7.heap.size from e, show w6.heap[w7.heap.size]? = _ from kf] at hk'; simp at hk')
     refine abs_w (P := fun W => ChP W5 n S w7.heap.size a6 c6 L6 r6 W) ⟨kf', d6', tt6, hw6.trans ff (fun i hi e => by have e2 : i = w7.heap.size := e; omega)⟩ (fun W hP => ?_)
     clear d6 d6' tt6 s6 hw6 kf kf' ff x0 x1 x2 z0 z1 z2 xl hbf kb0
     generalize w7.heap.size = bf at hP ⊢
     clear hT9 hG9 hr9 h59
     revert hP; revert W; revert bf; revert r6; revert L6; revert c6; revert a6; revert c9; revert a9
     exact key.out
 intro a9 c9 a6 c6 L6 r6 bf W8 hP
 have kf := hP.kf
 have d8 := hP.at_
 have t8 := hP.tab
 have hs8 := hP.same
 have kn8 := hs8.at kn5.out id
 have kl8 := hs8.at kl5.out id
 have hTG8 := hTG5.out.same hs8
 have hsw8 := hs.out.same hs8
 clear hP kn kl kn5 kl5 hTG5 hTG7 AP hown hown2 hs7 hs8 hs hTG
 replace kf := gi kf; replace d8 := gi d8; replace t8 := gi t8; replace kn8 := gi kn8; replace kl8 := gi kl8; replace hTG8 := gi hTG8; replace hsw8 := gi hsw8
 obtain ⟨y0, y1, yl⟩ := g2l kn8.out
 obtain ⟨x0, x1, x2, xl⟩ := g3l kf.out
 go_wp2_with fail
 refine (IS.out gs aL cL kL bl ⟨n, a6, c6, L6, r6⟩ _ hsw8.out hTG8.out.gs (by unfold lst at hlst ⊢; exact hlst.out) (by omega) kl8.out d8.out ⟨rfl, t8.out⟩).mono ?_
 rintro e w10 ⟨rfl, s10⟩
 clear y0 y1 yl
 clear x0 x1 x2 xl
 replace kf := gi (s10.at kf.out id)
 replace kn8 := gi (s10.at kn8.out id)
 replace kl8 := gi (s10.at kl8.out id)
 replace hTG8 := gi (hTG8.out.same s10)
 replace d8 := gi (SliceAt.same d8.out s10)
 replace hsw8 := gi (hsw8.out.same s10)
 clear s10
 obtain ⟨y0, y1, yl⟩ := g2l kn8.out
 obtain ⟨x0, x1, x2, xl⟩ := g3l kf.out
 go_wp2_with fail
 refine (TUS.out ⟨n, a6, c6, L6, r6⟩ _ hsw8.out d8.out ⟨rfl, t8.out⟩).mono ?_
 rintro e w11 (⟨h0, _⟩ | ⟨_, aX, kX, cX, gx, rfl, hTX, hlx, hkx, s11⟩)
 · exact absurd rfl h0
 clear y0 y1 yl
 clear x0 x1 x2 xl
 replace kf := gi (s11.at kf.out id)
 replace kn8 := gi (s11.at kn8.out id)
 replace kl8 := gi (s11.at kl8.out id)
 replace hTG8 := gi (hTG8.out.same s11)
 replace d8 := gi (SliceAt.same d8.out s11)
 replace hsw8 := gi (hsw8.out.same s11)
 clear s11
 replace hTX := gi hTX; replace hlx := gi hlx
 obtain ⟨y0, y1, yl⟩ := g2l kn8.out
 obtain ⟨x0, x1, x2, xl⟩ := g3l kf.out
 go_wp2_with fail
 refine (CTS.out ⟨n, a6, c6, L6, r6⟩ _ hsw8.out d8.out ⟨rfl, t8.out⟩).mono ?_
 rintro e w12 ⟨rfl, s12⟩
 clear y0 y1 yl
 clear x0 x1 x2 xl
 replace kl8 := gi (s12.at kl8.out id)
 replace hTG8 := gi (hTG8.out.same s12)
 replace hTX := gi (hTX.out.same s12)
 replace hsw8 := gi (hsw8.out.same s12)
 clear s12
 obtain rfl : kX = kL := by rw [hkx, ← hkl.out]
 clear hkx
 have hck : C.length = kX := hkl.out.symm
 rw [hck]
 have c0 := gn kl8.out 0
 have cl := gu kl8.out
 have SM := same13_true gx gs aX aL kX cX cL w12 hTX.out.gs hTG8.out.gs (by rw [hlx.out]; exact hlst.out.symm) (by omega) (fun g hg => by rw [hCe.out g.l (by rw [← hlx.out]; exact List.mem_map.2 ⟨g, hg, rfl⟩)]; omega)
 replace SM := gi SM; replace hck := gi hck
 go_wp2_with fail
 refine SM.out.mono ?_
 rintro e w13 ⟨rfl, s13⟩
 have hsE := (hsx.out.same hsw8.out).same s13
 clear c0 cl
 replace hsE := gi hsE
 go_wp2_with fail
 go_ret
 exact ⟨rfl, hsE.out⟩
theorem nsets_row (B : List Nat) (h86 : B.length = 86) (hB : ∀ y ∈ B, y < 256) (T : Int) (hT : 0 ≤ T ∧ T ≤ 18446744073709551615) (w : World) :
 Calls Tryz.prog 5 #[.agg (bytC B).toArray, .int .u64 T] w fun e w' => e = .returned (.bool true) ∧ Same w w' := nsets_any B h86 hB T hT w
end Go.Proofs.YtcipnkemnepbaaaGreat
