/-  -/
import Derived.Test.YtcipnkemnepbaaaGreatCNetSet
import Derived.Test.YtcipnkemnepbaaaGreatCTus
import Derived.Test.YtcipnkemnepbaaaGreatCLRig
import Derived.Test.YtcipnkemnepbaaaGreatCAppZ
import Derived.Test.YtcipnkemnepbaaaGreatCLNetE
import Derived.Test.YtcipnkemnepbaaaGreatCLEna
set_option maxRecDepth 100000
set_option maxHeartbeats 16000000
set_option linter.unusedVariables false
set_option linter.unusedSimpArgs false
namespace Go.Proofs.YtcipnkemnepbaaaGreat
open Go.RowKit
theorem right_err (N : Nw) (OK : NetOk N) (t : List Int) (q : Nat) (hq : t.length = q) (aX : Option Addr) (cX : Nat) (w : World) (hat : N.at w) (hX : RowAt w (.slice aX q cX) q (gw t)) :
 Calls Tryz.prog 14 #[.agg #[.slice N.aA N.As.length N.cA, .slice N.aO N.o.length N.cO], .slice aX q cX] w fun e w' => e = .returned (.int .i64 (tupErr N.ns t)) ∧ Same w w' := by
 refine right13 N OK t q hq aX cX (tupErr N.ns t) w hat hX ?_
 by_cases hl : q = N.As.length
 · have hl' : t.length = N.ns.length := by rw [N.ns_len]; omega
   by_cases hb : ∀ i, i < N.ns.length → okI N.ns t i
   · exact .inr (.inr ⟨hl, tupErr_ok hl' hb, by rw [N.ns_len] at hb; exact hb⟩)
   · have hb' : ∃ i, i < N.ns.length ∧ ¬ okI N.ns t i := by
       apply Classical.byContradiction
       intro hc
       exact hb (fun i hi => Classical.byContradiction fun h => hc ⟨i, hi, h⟩)
     exact .inr (.inl ⟨hl, tupErr_bad hl' hb', by rw [N.ns_len] at hb'; exact hb'⟩)
 · exact .inl ⟨hl, tupErr_len (by rw [N.ns_len]; omega)⟩
theorem setErr_snoc (ns : List Nat) (t : List Int) : ∀ l : List (List Int), setErr ns (l ++ [t]) = if setErr ns l ≠ 0 then setErr ns l else tupErr ns t
 | [] => by
  show (if tupErr ns t ≠ 0 then tupErr ns t else 0) = if (0 : Nat) ≠ 0 then 0 else tupErr ns t
  rw [if_neg (show ¬ ((0 : Nat) ≠ 0) by simp)]
  split <;> omega
 | x :: l => by
  have ih := setErr_snoc ns t l
  rw [List.cons_append, setErr, setErr, ih]
  by_cases h : tupErr ns x ≠ 0
  · simp only [if_pos h]
  · simp only [if_neg h]
theorem setErr_take {ns : List Nat} {l : List (List Int)} {k : Nat} (hk : k < l.length) : setErr ns (l.take (k + 1)) = if setErr ns (l.take k) ≠ 0 then setErr ns (l.take k) else tupErr ns l[k] := by
 rw [List.take_succ_eq_append_getElem hk, setErr_snoc]
def mny (t : List Bool) (k : Nat) : Nat := (t.take k).count true
theorem mny_succ {t : List Bool} {k : Nat} (hk : k < t.length) : mny t (k + 1) = mny t k + if t.getD k false then 1 else 0 := by
 unfold mny
 rw [List.take_succ_eq_append_getElem hk, List.count_append]
 simp only [List.getD, List.getElem?_eq_getElem hk, Option.getD_some]
 cases t[k] <;> simp
def wrgB (N : Nw) (t : List Bool) (k : Nat) : Bool := (List.range k).any fun i => t.getD i false && !(N.set (okT N.ns)).getD i false
theorem wrg_succ (N : Nw) (t : List Bool) (k : Nat) : wrgB N t (k + 1) = (wrgB N t k || (t.getD k false && !(N.set (okT N.ns)).getD k false)) := by
 unfold wrgB
 rw [List.range_succ, List.any_append]
 simp
theorem wrg_err {N : Nw} {t : List Bool} (ht : t.length = 2 ^ N.all) : N.mErr N.all t = if wrgB N t (2 ^ N.all) then 2 else 0 := by
 have hsl : (N.set (okT N.ns)).length = 2 ^ N.all := tbF_len _ _
 unfold Nw.mErr
 rw [if_neg (by simp)]
 by_cases h : wrgB N t (2 ^ N.all) = true
 · rw [if_pos h, if_neg]
   intro he
   obtain ⟨i, hi, h2⟩ := List.any_eq_true.1 h
   have hi := List.mem_range.1 hi
   simp only [Bool.and_eq_true, Bool.not_eq_true'] at h2
   have h3 : (ite3 t (N.set (okT N.ns)) (fls N.all)).getD i false = t.getD i false := by rw [he]
   rw [ite3_get ht hsl (fls_len _) hi, h2.1, if_pos rfl, h2.2] at h3
   simp at h3
 · rw [if_neg h, if_pos]
   refine ext_getD (ite3_len ht hsl (fls_len _)) ht (fun i hi => ?_)
   rw [ite3_get ht hsl (fls_len _) hi]
   by_cases h1 : t.getD i false = true
   · rw [if_pos h1, h1]
     cases h2 : (N.set (okT N.ns)).getD i false with
     | true => rfl
     | false =>
      exfalso
      apply h
      exact List.any_eq_true.2 ⟨i, List.mem_range.2 hi, by simp only [h1, h2]; rfl⟩
   · rw [if_neg h1, flsG]
     simpa using h1
theorem truesF_cnt {t : List Bool} {m : Nat} (h : t.length = m) : (truesF t m).length = t.count true := by
 have e : t = (List.range m).map fun i => t.getD i false := by
  apply List.ext_getElem
  · simp [h]
  · intro i h1 h2
    simp [List.getD, h1]
 conv => rhs; rw [e]
 unfold truesF
 rw [List.count, List.countP_map, List.countP_eq_length_filter]
 congr 1
 refine List.filter_congr (fun i _ => ?_)
 simp
theorem tus_len {N : Nw} (h : NwOk N) {t : List Bool} (ht : t.length = 2 ^ N.all) (h0 : N.mErr N.all t = 0) : (tusF N t).length = t.count true := by
 have h1 := (tus_perm h ht (mErr_zero h0).2).length_eq
 rw [List.length_map, truesF_cnt ht] at h1
 exact h1.symm
theorem numsL_mem {N : Nw} (h : NwOk N) {k : Nat} (hk : k < 2 ^ N.all) : decide (((k : Nat) : Int) ∈ numsL N (fun _ => true) (tupsF N.ns)) = (N.set (okT N.ns)).getD k false :=
 nums_set h (F := okT N.ns) (fun x hx => hx) (fun x hx => (tups_iff.1 hx).2) hk
theorem nrefuses_any (B : List Nat) (h86 : B.length = 86) (hB : ∀ y ∈ B, y < 256) (gs : List Grp) (aG : Option Addr) (cG : Nat) (tb : List Bool) (aB : Option Addr) (cB : Nat) (w : World)
 (hGs : GsAt w (.slice aG gs.length cG) gs.length gs) (hTb : RowAt w (.slice aB tb.length cB) tb.length (gz tb)) :
 Calls Tryz.prog 4 #[.agg (bytC B).toArray, .slice aG gs.length cG, .slice aB tb.length cB] w fun e w' => e = .returned (.bool true) ∧ Same w w' := by
 have KN := fun W => known13_any W
 have MK := fun W => Make13_any B h86 hB 2 (by omega) W
 obtain ⟨cs, hcs⟩ : ∃ cs, cs = (bytC B).toArray := ⟨_, rfl⟩
 have hsz : cs.size = 86 := by rw [hcs]; simp [bytC, h86]
 rw [← hcs] at MK ⊢
 clear hB
 obtain ⟨qG, hqG⟩ : ∃ q, q = gs.length := ⟨_, rfl⟩
 obtain ⟨qB, hqB⟩ : ∃ q, q = tb.length := ⟨_, rfl⟩
 rw [← hqG] at hGs ⊢
 rw [← hqB] at hTb ⊢
 have hqG9 : qG ≤ maxLen := by obtain ⟨_, a9, c9, he9, h8, h9, _⟩ := hGs.1; omega
 have hqB9 : qB ≤ maxLen := by obtain ⟨_, a9, c9, he9, h8, h9, _⟩ := hTb; omega
 unfold maxLen at hqG9 hqB9
 have hmm := @run_makeMap Tryz.prog
 replace KN := gi KN; replace MK := gi MK; replace hsz := gi hsz; replace hcs := gi hcs; replace hGs := gi hGs; replace hTb := gi hTb; replace hqG := gi hqG; replace hqB := gi hqB
 go_enter Tryz.func4, Tryz.ntmps4
 go_upto_region 1 with fail
 have kg := gv w (.cells cs 30)
 have s0 : Same w (w.alloc (.cells cs 30)) := fs2
 generalize w.alloc (.cells cs 30) = W0 at *
 obtain ⟨bg, hbg⟩ : ∃ b, b = w.heap.size := ⟨_, rfl⟩
 rw [← hbg] at kg ⊢
 replace kg := gi kg; replace s0 := gi s0; replace hbg := gi hbg
 go_wp2_with fail
 refine (KN.out _).mono ?_
 rintro e w1 ⟨rfl, s1⟩
 replace kg := gi (s1.at kg.out id)
 have hs1 := s0.out.same s1
 clear s1 s0
 replace hs1 := gi hs1
 by_cases h5 : 4 < qG
 · have h5i : (4 : Int) < qG := by omega
   go_wp2_with fail
   refine (KN.out _).mono ?_
   rintro e w2 ⟨rfl, s2⟩
   have hs2 := hs1.out.same s2
   clear s2
   replace hs2 := gi hs2
   go_wp2_with fail
   go_ret
   exact ⟨rfl, hs2.out⟩
 have h5i : ((4 : Int) < qG) = False := by simp; omega
 by_cases h12 : 64 < qB
 · have h12i : (64 : Int) < qB := by omega
   go_wp2_with fail
   refine (KN.out _).mono ?_
   rintro e w2 ⟨rfl, s2⟩
   have hs2 := hs1.out.same s2
   clear s2
   replace hs2 := gi hs2
   go_wp2_with fail
   go_ret
   exact ⟨rfl, hs2.out⟩
 have h12i : ((64 : Int) < qB) = False := by simp; omega
 go_upto_region 3 with fail
 clear h5i h12i
 refine wp_region_lit ?_
 refine wpList_load_row rfl 30 (.tmp 3) rfl bg 0 rfl cs.toList _ (by have := range_row kg.out 0 86; rw [List.drop_zero, List.take_of_length_le (by simp [hsz.out])] at this; exact this) Tryz.underlying30 rfl (by rw [infoGp13]; simp [hsz.out]) ?_
 (try simp only [Act.put, gj])
 refine wpList_step (fun K hK => ?_)
 go_simp
 refine (MK.out _).mono ?_
 rintro e w2 ⟨N, rfl, hat, hmd, s2⟩
 have hG := hmd.grp (by omega)
 have hsx := hs1.out.same s2
 have hGs2 := hGs.out.same hsx
 have hTb2 := hTb.out.same hsx
 clear s2 hs1 MK hmd kg hGs hTb
 refine hK _ _ ?_
 clear hK
 unfold Nw.v
 (try simp only [Act.put, gj])
 have OK := hG.net
 have h9 : N.all ≤ 9 := hG.grp.all
 have hm3 := hG.m3
 have hlen := hGs2.len
 have hrow := fun (k : Nat) (hk : k < gs.length) W (hW : Same w2 W) => (hGs2.same hW).get hk
 have RG := fun (k : Nat) (hk : k < gs.length) W (hW : Same w2 W) => right_err N OK gs[k].l gs[k].l.length rfl gs[k].a gs[k].cap W (hat.same hW) ((hrow k hk W hW).choose_spec.choose_spec.2.2.2)
 have hstep : ∀ k (hk : k < gs.length), setErr N.ns ((lst gs).take (k + 1)) = if setErr N.ns ((lst gs).take k) ≠ 0 then setErr N.ns ((lst gs).take k) else tupErr N.ns gs[k].l := fun k hk => by
  rw [setErr_take (by rw [lst_len]; exact hk), lst_get gs hk]
 have hend : setErr N.ns ((lst gs).take gs.length) = setErr N.ns (lst gs) := by rw [List.take_of_length_le (by rw [lst_len]; omega)]
 have SE := fun W (hW : Same w2 W) => Set_net N OK gs aG qG cG W (hat.same hW) (hGs2.same hW) (by omega)
 have hb13 := bitsF_is (n := qB) (by omega)
 obtain ⟨b, hbd⟩ : ∃ b, b = bitsF qB := ⟨_, rfl⟩
 rw [← hbd] at hb13
 have hle : qB ≤ 2 ^ b := hb13.le
 have hb6 : b ≤ 6 := by
  rcases Nat.lt_or_ge 6 b with h | h
  · have := hb13.least 6 h; omega
  · exact h
 have hD64 : 2 ^ b ≤ 64 := by have := Nat.pow_le_pow_right (n := 2) (by omega) hb6; omega
 have LB := fun W => lbits13 qB W (by omega)
 rw [← hbd] at LB
 obtain ⟨V, hV⟩ : ∃ V, V = tb ++ List.replicate (2 ^ b - qB) false := ⟨_, rfl⟩
 have hVl : V.length = 2 ^ b := by rw [hV, List.length_append, List.length_replicate, ← hqB.out]; omega
 obtain ⟨D, hD⟩ : ∃ D, D = 2 ^ b := ⟨_, rfl⟩
 have CLB := fun W (hW : Same w2 W) => cloneB_all tb aB qB cB W hqB.out.symm (by omega) (hTb2.same hW)
 have FT := fun aT cT W (hT : RowAt W (.slice aT D cT) D (gz V)) => (show Calls Tryz.prog 18 #[.int .i64 b, .slice aT D cT] W (DgN b V W) by
  have := fromTable_row b V aT cT W (by omega) hVl (by rw [hVl, ← hD]; exact hT)
  rw [hVl, ← hD] at this
  exact this.mono fun e w' h => DRet.dgN h (IsTab.of (by omega) hVl))
 have TU := fun W (hW : Same w2 W) => ltuples13 N W (hat.same hW) (fun k hk => by
  have h1 := OK.ok.n4 hk
  have h2 := hG.t1000 _ (List.getElem_mem hk)
  exact ⟨_, h1.2, by omega, rfl⟩) OK.ok.m12 hG.tl
 have CO := fun (x : List Nat) (hx : x ∈ tupsF N.ns) a c W (hW : Same w2 W) (hR : RowAt W (.slice a N.As.length c) N.As.length (gw (natI x))) => lcode13 N OK.ok x a c W (hat.same hW) (by rw [(tups_iff.1 hx).1, N.ns_len]) hR
 have hcl : ∀ x, (codeL N.bs N.on x).length = N.all := fun x => codeL_len _ _ _
 have NU := fun (x : List Nat) (a : Option Addr) (c : Nat) W (hR : RowAt W (.slice a N.all c) N.all (gz (codeL N.bs N.on x))) => lnumber13 (codeL N.bs N.on x) a c N.all W (hcl x) hR (by omega)
 have AL := fun W (hW : Same w2 W) => lall13 N W (hat.same hW) (fun A hA => ⟨(OK.ok.au A hA).n0, (OK.ok.au A hA).n4⟩) (by have := OK.ok.m12; omega)
 rw [← OK.ok.all_range] at AL
 have TUS := fun (d : Dg) W (hW : Same w2 W) (hd : d.at W) (TT : d.tab b V) => Tuples_net N OK d b V W (hat.same hW) hd TT
 have CTS := fun (d : Dg) W (hW : Same w2 W) (hd : d.at W) (TT : d.tab b V) => Count_net N OK d b V W (hat.same hW) hd TT
 unfold TupE at TU
 obtain ⟨Tt, hTt⟩ : ∃ T, T = tupsF N.ns := ⟨_, rfl⟩
 have hTI : tupI N.ns = Tt.map natI := by rw [hTt]; rfl
 rw [hTI] at TU
 have hTl2 : Tt.length ≤ 100000 := by
  have := hG.tl N.As.length (Nat.le_refl _)
  rw [List.take_of_length_le (by rw [N.ns_len]; exact Nat.le_refl _)] at this
  rw [hTt]; exact this
 have hTm : ∀ x ∈ Tt, x.length = N.As.length := fun x hx => by rw [hTt] at hx; rw [(tups_iff.1 hx).1, N.ns_len]
 have hny := fun (k : Nat) (hk : k < Tt.length) => nums_yes N (p := fun _ => true) hk rfl
 have hns := fun (k : Nat) (hk : k < 2 ^ N.all) => numsL_mem OK.ok hk
 simp only [← hTt] at CO hns
 obtain ⟨nb, hnb⟩ : ∃ f : List Nat → Nat, f = fun x => numB (codeL N.bs N.on x) := ⟨_, rfl⟩
 have hnb' : ∀ x, numB (codeL N.bs N.on x) = nb x := fun x => by rw [hnb]
 simp only [hnb'] at NU hny
 obtain ⟨NL, hNL⟩ : ∃ f : List (List Nat) → List Int, f = numsL N (fun _ => true) := ⟨_, rfl⟩
 rw [← hNL] at hny hns
 have hN0 : NL [] = [] := by rw [hNL]; rfl
 obtain ⟨cd, hcd⟩ : ∃ f : List Nat → List Bool, f = codeL N.bs N.on := ⟨_, rfl⟩
 rw [← hcd] at CO NU
 have hWs := wrg_succ N V
 have hW0 : wrgB N V 0 = false := rfl
 have hMs := fun (k : Nat) (hk : k < V.length) => mny_succ hk
 have hM0 : mny V 0 = 0 := rfl
 have hMe : mny V V.length = V.count true := by unfold mny; rw [List.take_length]
 have hEne : b ≠ N.all → N.mErr b V = 4 := fun h => by unfold Nw.mErr; rw [if_pos h]
 have hEq : b = N.all → N.mErr b V = if wrgB N V D then 2 else 0 := fun h => by
  subst h
  rw [hD]
  exact wrg_err hVl
 have hTl : b = N.all → N.mErr b V = 0 → (tusF N V).length = V.count true := fun h h0 => by
  subst h
  exact tus_len OK.ok hVl h0
 unfold TusE at TUS
 have TE := fun (h : N.mErr b V ≠ 0) (d : Dg) W (hW : Same w2 W) (hd : d.at W) (TT : d.tab b V) => (TUS d W hW hd TT).mono fun e w' h' => (show e = .returned (.tuple #[.slice none 0 0, .int .i64 (N.mErr b V)]) ∧ Same W w' from by
  rcases h' with ⟨_, h1, h2⟩ | ⟨h0, _⟩
  · exact ⟨h1, h2⟩
  · exact absurd h0 h)
 have TO := fun (h : N.mErr b V = 0) (d : Dg) W (hW : Same w2 W) (hd : d.at W) (TT : d.tab b V) => (TUS d W hW hd TT).mono fun e w' h' => (show ∃ a c, e = .returned (.tuple #[.slice a (tusF N V).length c, .int .i64 0]) ∧ Same W w' from by
  rcases h' with ⟨h0, _⟩ | ⟨_, a, k, c, gs, h1, _, _, h2, h3⟩
  · exact absurd h h0
  · exact ⟨a, c, by rw [h1, h2], h3⟩)
 have CE := fun (h : N.mErr b V ≠ 0) (d : Dg) W (hW : Same w2 W) (hd : d.at W) (TT : d.tab b V) => (CTS d W hW hd TT).mono fun e w' h' => (show e = .returned (.tuple #[.int .i64 0, .int .i64 (N.mErr b V)]) ∧ Same W w' from by
  rw [if_neg h] at h'
  exact h')
 have CK := fun (h : N.mErr b V = 0) (d : Dg) W (hW : Same w2 W) (hd : d.at W) (TT : d.tab b V) => (CTS d W hW hd TT).mono fun e w' h' => (show e = .returned (.tuple #[.int .i64 ((V.count true : Nat) : Int), .int .i64 0]) ∧ Same W w' from by
  rw [if_pos h, h] at h'
  exact h')
 have hVget : ∀ k, k < D → k < V.length := fun k hk => by rw [hVl, ← hD]; exact hk
 have hns2 : b = N.all → ∀ k, k < D → decide (((k : Nat) : Int) ∈ NL Tt) = (N.set (okT N.ns)).getD k false := fun h k hk => hns k (by rw [← h, ← hD]; exact hk)
 have hMle : ∀ k, k < D → mny V k ≤ D := fun k hk => by
  unfold mny
  have h1 : (V.take k).count true ≤ (V.take k).length := List.count_le_length
  rw [List.length_take] at h1
  omega
 have hVl2 : V.length = D := by rw [hVl, ← hD]
 rw [hVl, ← hD] at hMe
 generalize wrgB N V = WG at *
 generalize mny V = MY at *
 generalize N.set (okT N.ns) = OKS at *
 generalize N.set (fun y => decide (natI y ∈ lst gs)) = SS at *
 obtain ⟨er, her⟩ : ∃ er : Nat → Nat, er = fun k => setErr N.ns ((lst gs).take k) := ⟨_, rfl⟩
 have her' : ∀ k, setErr N.ns ((lst gs).take k) = er k := fun k => by rw [her]
 rw [← hend] at SE
 have he0 : er 0 = 0 := by rw [her]; rfl
 simp only [her'] at hstep SE
 obtain ⟨te, hte⟩ : ∃ te : List Int → Nat, te = tupErr N.ns := ⟨_, rfl⟩
 rw [← hte] at RG hstep
 clear hns hcl hnb hnb' hNL hcd hTt hTI OK hG hat hend her her' hte hb13 hTb2 hGs2
 clear TUS CTS
 generalize N.mErr b V = mE at *
 generalize tusF N V = TL at *
 generalize V.count true = vc at *
 generalize N.all = n at *
 generalize N.emp = em at *
 generalize N.As.length = m at *
 generalize N.o.length = qo at *
 generalize N.aA = aA at *
 generalize N.cA = cA at *
 generalize N.aO = aO at *
 generalize N.cO = cO at *
 obtain rfl : qG = gs.length := hqG.out
 replace hMle := gi hMle; replace hVl2 := gi hVl2; replace RG := gi RG; replace hrow := gi hrow; replace hstep := gi hstep; replace SE := gi SE; replace LB := gi LB; replace CLB := gi CLB; replace FT := gi FT; replace TU := gi TU; replace CO := gi CO; replace NU := gi NU; replace AL := gi AL; replace TE := gi TE; replace TO := gi TO; replace CE := gi CE; replace CK := gi CK; replace hTm := gi hTm; replace hny := gi hny; replace hN0 := gi hN0; replace hWs := gi hWs; replace hW0 := gi hW0; replace hMs := gi hMs; replace hM0 := gi hM0; replace hMe := gi hMe; replace hEne := gi hEne; replace hEq := gi hEq; replace hTl := gi hTl; replace hVget := gi hVget; replace hns2 := gi hns2; replace he0 := gi he0; replace hsx := gi hsx; replace hlen := gi hlen; replace hbd := gi hbd; replace hV := gi hV; replace hVl := gi hVl; replace hD := gi hD; replace hqG := gi hqG; replace hqB := gi hqB
 go_upto_region 4 with fail
 have kn := gv w2 (.cells #[.slice aA m cA, .slice aO qo cO] 36)
 have hs : Same w2 (w2.alloc (.cells #[.slice aA m cA, .slice aO qo cO] 36)) := fs2
 generalize w2.alloc (.cells #[.slice aA m cA, .slice aO qo cO] 36) = W3 at *
 generalize w2.heap.size = bn at *
 replace kn := gi kn; replace hs := gi hs
 go_wp2_with fail
 go_loopw [8, 45] (fun e i wr => ∃ j : Nat, e = .int .i64 (er j) ∧ i = .int .i64 j ∧ j ≤ gs.length ∧ Same W3 wr) (fun _ i _ => gs.length - (intOf i).toNat)
 case atStart => exact ⟨0, by rw [he0.out]; rfl, rfl, by omega, Fr.refl _ _⟩
 case round =>
  obtain ⟨j, rfl, rfl, hj, hf⟩ := hrel
  have hsw := hs.out.same hf
  by_cases hjk : j < gs.length
  · obtain ⟨bq, off, rfl, hb, c0, _⟩ := hrow.out j hjk wr hsw
    have RGj := RG.out j hjk
    have hst := hstep.out j hjk
    generalize gs[j].l.length = ql at *
    generalize gs[j].l = tl at *
    generalize gs[j].a = ga at *
    generalize gs[j].cap = gc at *
    generalize te tl = tk at *
    have kn1 := hf.at kn.out id
    replace RGj := gi RGj; replace hst := gi hst; replace kn1 := gi kn1; replace hf := gi hf; replace hsw := gi hsw
    by_cases h4 : 4 < ql
    · have h4i : (4 : Int) < ql := by omega
      go_wp2_with fail
      go_ret
      exact ⟨rfl, hsx.out.same hsw.out⟩
    · have h4i : ((4 : Int) < ql) = False := by simp; omega
      go_upto_region 10 with fail
      clear hb c0 h4i
      obtain ⟨y0, y1, yl⟩ := g2l kn1.out
      go_wp2_with fail
      refine (RGj.out _ hsw.out).mono ?_
      rintro e w3 ⟨rfl, sP⟩
      clear y0 y1 yl
      have hf3 := hf.out.same sP
      clear sP
      replace hf3 := gi hf3
      by_cases h0 : er j = 0
      · have hst2 := hst.out
        rw [if_neg (by simpa using h0)] at hst2
        have h0i : ((er j : Nat) : Int) = 0 := by rw [h0]; rfl
        replace h0 := gi h0; replace hst2 := gi hst2
        go_wp2_with fail
        go_roundw
        case rel => exact ⟨j + 1, by rw [hst2.out], by go_num, by omega, hf3.out⟩
        case measure => simp [intOf]; omega
      · have hst2 := hst.out
        rw [if_pos h0] at hst2
        have h0i : (((er j : Nat) : Int) == 0) = false := by simp; omega
        replace h0 := gi h0; replace hst2 := gi hst2
        go_wp2_with fail
        go_roundw
        case rel => exact ⟨j + 1, by rw [hst2.out], by go_num, by omega, hf3.out⟩
        case measure => simp [intOf]; omega
  · obtain rfl : j = gs.length := by omega
    have SEk := SE.out wr hsw
    generalize er gs.length = E at *
    replace kn := gi (hf.at kn.out id)
    clear hf
    replace hsw := gi hsw
    replace SEk := gi SEk
    obtain ⟨y0, y1, yl⟩ := g2l kn.out
    go_wp2_with fail
    refine SEk.out.mono ?_
    intro e w3 hM
    clear y0 y1 yl
    have hU : ∃ (nn : Int) (aS : Option Addr) (LS cS : Nat) (rS : Int), e = .returned (.tuple #[.agg #[.int .i64 nn, .slice aS LS cS, .int .i64 rS], .int .i64 (E : Nat)]) ∧ (E = 0 ∨ E ≠ 0 ∧ nn = 0 ∧ LS = 0 ∧ rS = 0) ∧ Same wr w3 := by
     rcases hM with ⟨h0, rfl, s3⟩ | ⟨h0, hM⟩
     · exact ⟨0, none, 0, 0, 0, rfl, .inr ⟨by omega, rfl, rfl, rfl⟩, s3⟩
     · obtain ⟨a6, c6, L6, r6, rfl, d6, tt6, s6⟩ := DgN.open hM
       exact ⟨n, a6, L6.length, c6, r6, by rw [h0], .inl (by omega), s6⟩
    obtain ⟨nn, aS, LS, cS, rS, rfl, hU, sP⟩ := hU
    clear hM
    replace kn := gi (sP.at kn.out id)
    replace hsw := gi (hsw.out.same sP)
    clear sP SEk
    replace hU := gi hU
    go_upto_region 15 with fail
    have kS := gv w3 (.cells #[.int .i64 nn, .slice aS LS cS, .int .i64 rS] 56)
    have sP : Same w3 (w3.alloc (.cells #[.int .i64 nn, .slice aS LS cS, .int .i64 rS] 56)) := fs2
    generalize w3.alloc (.cells #[.int .i64 nn, .slice aS LS cS, .int .i64 rS] 56) = W4 at *
    generalize w3.heap.size = bS at *
    replace kn := gi (sP.at kn.out id)
    replace hsw := gi (hsw.out.same sP)
    clear sP
    replace kS := gi kS
    have hD9 : D ≤ 64 := by rw [hD.out]; exact hD64
    have hqD : qB ≤ D := by rw [hD.out]; exact hle
    have u1 : wrap64 ((2 : Int) ^ b) = (D : Int) := by rw [wrap_pow b (by omega), hD.out]
    have u2 : IntKind.i64.wrap ((2 : Int) ^ b) = (D : Int) := by
     have e : ((2 : Int) ^ b) = ((2 ^ b : Nat) : Int) := by simp
     rw [e, ← hD.out]
     exact wrap_D (by omega)
    have u3 : min b 64 = b := by omega
    have u4 : IntKind.i64.wrap ((D : Int) - qB) = ((D - qB : Nat) : Int) := by rw [IntWalk.i64_in _ (by omega)]; omega
    obtain ⟨z, hz⟩ : ∃ z, z = D - qB := ⟨_, rfl⟩
    rw [← hz] at u4
    replace u1 := gi u1; replace u2 := gi u2; replace u3 := gi u3; replace u4 := gi u4; replace hz := gi hz
    clear hle hD64
    obtain ⟨x0, x1, x2, z0, z1, z2, xl⟩ := box_facts kS.out
    clear z0 z1 z2
    rcases hU.out with h0 | ⟨h0, h1, h2, h3⟩
    case' inl =>
     have h0i : ((E : Nat) : Int) = 0 := by omega
    case' inr =>
     have h0i : (((E : Nat) : Int) == 0) = false := by simp; omega
     subst h1 h2 h3
    all_goals
     clear hU
     replace h0 := gi h0
     go_wp2_with fail
     refine (LB.out _).mono ?_
     rintro e w5 ⟨rfl, sP⟩
     replace kn := gi (sP.at kn.out id)
     replace hsw := gi (hsw.out.same sP)
     clear sP x0 x1 x2 xl h0i
     go_upto_region 18 with fail
     replace u1 := u1.out
     replace u2 := u2.out
     replace u3 := u3.out
     replace u4 := u4.out
     refine wp_region_sched (fun k => k = bn) [0, 3, 0, 0, 0, 0, 0, 3, 0] [0, 2, 3, 4, 5, 6, 1, 7, 8] (by kernel_rfl) (by kernel_rfl) ?_
     repeat ((first | refine gB rfl rfl fun _ k => ?_ | refine gC rfl rfl fun _ k => ?_); go_simp; (first | refine k _ ?_ | refine ⟨_, fun _ => rfl, k _ ?_⟩); clear k)
     have s5 : Same w5 w5.drew := fs3
     refine gD rfl (by decide) (fun _ hK => ?_); go_simp
     refine (CLB.out _ (hsw.out.same s5)).mono ?_
     rintro e w6 ⟨aC, cC, rfl, hoC, s6⟩
     refine hK _ _ ?_; clear hK; try simp only [Act.put, gj]
     repeat ((first | refine gB rfl rfl fun _ k => ?_ | refine gC rfl rfl fun _ k => ?_); go_simp; (first | refine k _ ?_ | refine ⟨_, fun _ => rfl, k _ ?_⟩); clear k)
     obtain ⟨aV, cV, w7, hr7, hoV, hG7⟩ := run_appZ (k := z) hoC (by omega) (by have := hz.out; omega) s6.size
     rw [show qB + z = D by have := hz.out; omega] at hr7 hoV hG7
     rw [show tb ++ List.replicate z false = V by rw [hV.out, hz.out, hD.out]] at hoV
     refine gD rfl (by decide) (fun _ hK => ?_)
     refine step_appZ rfl (.tmp 88) (.tmp 93) 52 3 rfl _ _ hr7 (hK _ _ ?_)
     clear hK
     (try simp only [Act.put, gj])
     repeat ((first | refine gB rfl rfl fun _ k => ?_ | refine gC rfl rfl fun _ k => ?_); go_simp; (first | refine k _ ?_ | refine ⟨_, fun _ => rfl, k _ ?_⟩); clear k)
     refine gO (NoPanic.normal ?_)
     have s7 : Same w5 w7 := grew_fresh (s5.same s6) hG7 (fun i hi => by have h1 := (hoC.lt i hi).1; have h2 := s5.size; omega)
     have hRV := SliceAt.of_owns hoV
     replace kn := gi (s7.at kn.out id)
     replace hsw := gi (hsw.out.same s7)
     clear s5 s6 s7 hoC hoV hG7 hr7 u1 u2 u3 u4
     replace hRV := gi hRV
     go_wp2_with fail
     refine (FT.out _ _ _ hRV.out.row).mono ?_
     intro e w8 hM
     obtain ⟨a6, c6, L6, r6, rfl, d6, tt6, sP⟩ := DgN.open hM
     clear hM
     replace kn := gi (sP.at kn.out id)
     replace hsw := gi (hsw.out.same sP)
     replace hRV := gi (hRV.out.same sP)
     clear sP
     replace d6 := gi d6; replace tt6 := gi tt6
     go_upto_region 20 with fail
     have kf := gv w8 (.cells #[.int .i64 b, .slice a6 L6.length c6, .int .i64 r6] 56)
     have sP : Same w8 (w8.alloc (.cells #[.int .i64 b, .slice a6 L6.length c6, .int .i64 r6] 56)) := fs2
     have df := SliceAt.same d6.out sP
     generalize w8.alloc (.cells #[.int .i64 b, .slice a6 L6.length c6, .int .i64 r6] 56) = W8 at *
     generalize w8.heap.size = bf at *
     have tf := tt6.out
     replace kn := gi (sP.at kn.out id)
     replace hsw := gi (hsw.out.same sP)
     replace hRV := gi (hRV.out.same sP)
     clear sP d6 tt6
     replace kf := gi kf; replace df := gi df; replace tf := gi tf
     go_upto_region 24 with fail
     have hMp0 : MapAt (Value.int .i64) Value.bool (W8.alloc (.map #[] 0)) W8.heap.size ([] : List (Int × Bool)) := mapAt_made _
     have sP : Same W8 (W8.alloc (.map #[] 0)) := fs2
     have hbz : bn < W8.heap.size := gu kn.out
     have hbz2 : bf < W8.heap.size := gu kf.out
     have hzw : w2.heap.size ≤ W8.heap.size := hsw.out.size
     have dl9 := SliceAt.same df.out sP
     generalize W8.alloc (.map #[] 0) = W9 at *
     generalize W8.heap.size = mb at *
     replace kn := gi (sP.at kn.out id)
     replace kf := gi (sP.at kf.out id)
     replace hRV := gi (hRV.out.same sP)
     replace hsw := gi (hsw.out.same sP)
     replace df := dl9
     clear sP dl9
     replace hMp0 := gi hMp0; replace df := gi df
     obtain ⟨y0, y1, yl⟩ := g2l kn.out
     go_wp2_with fail
     refine (TU.out _ hsw.out).mono ?_
     rintro e w9 ⟨a3, k3, c3, gt, rfl, hTG, hlg, hk3, sP⟩
     clear y0 y1 yl
     have hmz := hMp0.out.lt
     have hM3 := hMp0.out.of_block (sP.block mb hmz id)
     replace kn := gi (sP.at kn.out id)
     replace kf := gi (sP.at kf.out id)
     replace hRV := gi (hRV.out.same sP)
     replace hsw := gi (hsw.out.same sP)
     replace df := gi (SliceAt.same df.out sP)
     clear sP hMp0 hmz
     have hk5 : k3 ≤ 100000 := by rw [hk3, List.length_map]; exact hTl2
     have hkT : k3 = Tt.length := by rw [hk3, List.length_map]
     replace hTG := gi hTG; replace hlg := gi hlg; replace hM3 := gi hM3; replace hk3 := gi hk3; replace hkT := gi hkT
     go_wp2_with fail
     go_loopw [107] (fun i wq => ∃ (j : Nat) (M : List (Int × Bool)), i = .int .i64 j ∧ j ≤ k3 ∧ MapAt (Value.int .i64) Value.bool wq mb M ∧ IsM M (NL (Tt.take j)) ∧ Fr (fun q => q = mb) w9 wq) (fun i _ => k3 - (intOf i).toNat)
     case atStart => exact ⟨0, [], rfl, by omega, hM3.out, by rw [List.take_zero, hN0.out]; exact IsM.nil, Fr.refl _ _⟩
     case round =>
      obtain ⟨j, M, rfl, hj, hM, hIM, hf⟩ := hrel
      have hmb : ∃ es c, w9.heap[mb]? = some (.map es c) := by
       obtain ⟨es, c, h1, _⟩ := hM3.out
       exact ⟨es, c, h1⟩
      have hsq := hsw.out.trans hf (fun i hi e => by have h1 : i = mb := e; omega)
      have kn2 := hf.at kn.out (fun e => by have h1 : bn = mb := e; omega)
      have kf2 := hf.at kf.out (fun e => by have h1 : bf = mb := e; omega)
      by_cases hjk : j < k3
      · have hGs : GsAt wr (.slice a3 k3 c3) k3 gt := ⟨(Fr.at_map (SliceAt.of_owns hTG.out.own) hmb hf).row, fun g hg => (Fr.at_map (hTG.out.el g hg) hmb hf).row⟩
        have hjl : j < gt.length := by rw [hTG.out.len]; exact hjk
        have hjT : j < Tt.length := by rw [← hkT.out]; exact hjk
        obtain ⟨b9, off, rfl, hbl, c0, hR⟩ := hGs.get hjl
        have hgl : gt[j].l = natI Tt[j] := by
         have h1 := lst_get gt hjl
         have h2 : (lst gt)[j]'(by rw [lst_len]; exact hjl) = (Tt.map natI)[j]'(by rw [List.length_map]; exact hjT) := by simp only [hlg.out]
         rw [← h1, h2, List.getElem_map]
        have hTx := hTm.out _ (List.getElem_mem hjT)
        rw [hgl] at c0 hR
        have hlm : (natI Tt[j]).length = m := by rw [natI_len, hTx]
        rw [hlm] at c0 hR
        have hst := hny.out j hjT
        have COj := fun a c W (hW : Same w2 W) (hR : RowAt W (.slice a m c) m (gw (natI Tt[j]))) => CO.out _ (List.getElem_mem hjT) a c W hW hR
        generalize gt[j].a = ga at *
        generalize gt[j].cap = gc at *
        generalize Tt[j] = x at *
        clear hGs hTx hgl hlm hmb
        replace hM := gi hM; replace hIM := gi hIM; replace hf := gi hf; replace hsq := gi hsq; replace kn2 := gi kn2; replace hR := gi hR; replace hst := gi hst; replace COj := gi COj
        go_upto_region 27 with fail
        clear hbl c0 kf2
        obtain ⟨y0, y1, yl⟩ := g2l kn2.out
        go_wp2_with fail
        refine (COj.out _ _ _ hsq.out hR.out).mono ?_
        rintro e w5 ⟨a5, c5, rfl, ho5, sP⟩
        clear y0 y1 yl
        have hR5 := (SliceAt.of_owns ho5).row
        have hM5 := hM.out.of_block (sP.block mb hM.out.lt id)
        replace hf := gi (hf.out.same sP)
        clear sP hM ho5 COj
        replace hR5 := gi hR5; replace hM5 := gi hM5
        go_wp2_with fail
        refine (NU.out x _ _ _ hR5.out).mono ?_
        rintro e w6 ⟨rfl, sP⟩
        have hM6 := hM5.out.of_block (sP.block mb hM5.out.lt id)
        replace hf := gi (hf.out.same sP)
        have hm6 := hM6.lt
        clear sP hM5 hR5
        replace hM6 := gi hM6
        go_wp2_with (at_mapUpdate; refine wpList_mput rfl (.tmp 111) (.tmp 115) (.const (.bool true)) rfl keyI mapIB mb M rfl hM6.out ((nb x : Nat) : Int) rfl true rfl ?_; intro ob hob; replace hob := gi hob)
        go_roundw
        case rel => exact ⟨j + 1, _, by go_num, by omega, hob.out, by rw [hst.out]; exact hIM.out.put _, hf.out.setObj _ _ (fun _ => rfl)⟩
        case measure => simp [intOf]; omega
      · obtain rfl : j = k3 := by omega
        rw [hkT.out, List.take_length] at hIM
        have hRV2 := Fr.at_map hRV.out hmb hf
        have df2 := Fr.at_map df.out hmb hf
        obtain ⟨wo, rfl⟩ : ∃ wo, wo = wr := ⟨_, rfl⟩
        have hmw := hM.lt
        replace kn := kn2
        replace kf := kf2
        replace df := df2
        clear hf hRV hmb hTG hlg hM3 kn2 kf2 df2
        replace hM := gi hM; replace hIM := gi hIM; replace hsq := gi hsq; replace kn := gi kn; replace kf := gi kf; replace df := gi df; replace hRV2 := gi hRV2
        go_upto_region 30 with fail
        obtain ⟨y0, y1, yl⟩ := g2l kn.out
        go_wp2_with fail
        refine (AL.out _ hsq.out).mono ?_
        rintro e w10 ⟨rfl, sP⟩
        clear y0 y1 yl
        have hM10 := hM.out.of_block (sP.block mb hM.out.lt id)
        replace kn := gi (sP.at kn.out id)
        replace kf := gi (sP.at kf.out id)
        replace hRV2 := gi (hRV2.out.same sP)
        replace hsq := gi (hsq.out.same sP)
        replace df := gi (SliceAt.same df.out sP)
        clear sP hM hmw
        replace hM10 := gi hM10
        by_cases hbn : b = n
        · subst hbn
          have hEq2 := hEq.out rfl
          have hTl3 := hTl.out rfl
          have hns3 := hns2.out rfl
          have hWsk := hWs.out
          replace hEq2 := gi hEq2; replace hTl3 := gi hTl3; replace hns3 := gi hns3; replace hWsk := gi hWsk
          go_wp2_with fail
          go_loopw [8, 21, 123] (fun e y i wq => ∃ k : Nat, i = .int .i64 k ∧ e = .int .i64 ((if WG k then 2 else 0 : Nat) : Int) ∧ y = .int .i64 (MY k : Nat) ∧ k ≤ D ∧ Same w10 wq) (fun _ _ i _ => D - (intOf i).toNat)
          case atStart => exact ⟨0, rfl, by rw [hW0.out]; rfl, by rw [hM0.out]; rfl, by omega, Fr.refl _ _⟩
          case round =>
           obtain ⟨k, rfl, rfl, rfl, hk, hf⟩ := hrel
           have hM11 := hM10.out.of_block (hf.block mb hM10.out.lt id)
           by_cases hkD : k < D
           · have hkV := hVget.out k hkD
             obtain ⟨b9, off, rfl, hbl, c0⟩ := (hRV2.out.same hf).row.bool3 hkV hVl2.out
             have hWk := hWsk.out k
             have hMk := hMs.out k hkV
             have hnk := hns3.out k hkD
             have hVk : V[k] = V.getD k false := by simp [List.getD, hkV]
             rw [hVk] at c0
             have hMb : MY k ≤ 64 := by have := hMle.out k hkD; omega
             generalize V.getD k false = vk at *
             generalize OKS.getD k false = ok at *
             obtain ⟨mk, hmk⟩ : ∃ q, q = MY k := ⟨_, rfl⟩
             rw [← hmk] at hMk hMb ⊢
             obtain ⟨wk, hwk⟩ : ∃ q, q = WG k := ⟨_, rfl⟩
             rw [← hwk] at hWk ⊢
             have hl : (Instr.lookup 62 (.map (some mb)) (.int .i64 (k : Int)) false).run Tryz.prog wr = .ok (.bool ok) wr := by
              by_cases hin : ((k : Nat) : Int) ∈ NL Tt
              · have h1 := lookup_hit (w := wr) keyI mapIB hM11 (show mget M ((k : Nat) : Int) = some true by rw [hIM.out, if_pos hin]) false
                rw [← hnk, decide_eq_true hin]
                exact h1
              · have h1 := lookup_miss (w := wr) keyI mapIB hM11 (show mget M ((k : Nat) : Int) = none by rw [hIM.out, if_neg hin]) (zeroBo _) false
                rw [← hnk, decide_eq_false hin]
                exact h1
             clear hVk hnk
             replace hf := gi hf; replace hM11 := gi hM11; replace hWk := gi hWk; replace hMk := gi hMk; replace hmk := gi hmk; replace hwk := gi hwk
             cases vk
             · have e1 : WG (k + 1) = wk := by rw [hWk.out]; simp
               have e2 : MY (k + 1) = mk := by rw [hMk.out]; simp
               replace e1 := gi e1; replace e2 := gi e2
               go_wp2_with fail
               go_roundw
               case rel => exact ⟨k + 1, by go_num, by rw [e1.out], by rw [e2.out], by omega, hf.out⟩
               case measure => simp [intOf]; omega
             · have e2 : MY (k + 1) = mk + 1 := by rw [hMk.out]; simp
               cases ok
               · have e1 : WG (k + 1) = true := by rw [hWk.out]; simp
                 replace e1 := gi e1; replace e2 := gi e2
                 go_wp2_with fail
                 go_roundw
                 case rel => exact ⟨k + 1, by go_num, by rw [e1.out]; rfl, by rw [e2.out]; go_num, by omega, hf.out⟩
                 case measure => simp [intOf]; omega
               · have e1 : WG (k + 1) = wk := by rw [hWk.out]; simp
                 replace e1 := gi e1; replace e2 := gi e2
                 go_wp2_with fail
                 go_roundw
                 case rel => exact ⟨k + 1, by go_num, by rw [e1.out], by rw [e2.out]; go_num, by omega, hf.out⟩
                 case measure => simp [intOf]; omega
           · obtain rfl : k = D := by omega
             replace kn := gi (hf.at kn.out id)
             replace kf := gi (hf.at kf.out id)
             replace hsq := gi (hsq.out.same hf)
             replace df := gi (SliceAt.same df.out hf)
             clear hf hM11
             have hEk := hEq2.out
             obtain ⟨wk, hwk⟩ : ∃ q, q = WG k := ⟨_, rfl⟩
             rw [← hwk] at hEk ⊢
             cases wk
             · obtain rfl : mE = 0 := hEk
               have hMk := hMe.out
               have hTk := hTl3.out rfl
               have T2 := fun d W h1 h2 h3 => TO.out rfl d W h1 h2 h3
               have C2 := fun d W h1 h2 h3 => CK.out rfl d W h1 h2 h3
               rw [hTk] at T2
               rw [hMk]
               clear hMk hTk
               replace T2 := gi T2; replace C2 := gi C2; replace hwk := gi hwk
               obtain ⟨y0, y1, yl⟩ := g2l kn.out
               obtain ⟨x0, x1, x2, xl⟩ := g3l kf.out
               go_wp2_with fail
               refine (T2.out ⟨b, a6, c6, L6, r6⟩ _ hsq.out df.out ⟨rfl, tf.out⟩).mono ?_
               rintro e wY ⟨aX, cX, rfl, sP⟩
               clear y0 y1 yl
               clear x0 x1 x2 xl
               replace kn := gi (sP.at kn.out id)
               replace kf := gi (sP.at kf.out id)
               replace hsq := gi (hsq.out.same sP)
               replace df := gi (SliceAt.same df.out sP)
               clear sP
               obtain ⟨y0, y1, yl⟩ := g2l kn.out
               obtain ⟨x0, x1, x2, xl⟩ := g3l kf.out
               go_wp2_with fail
               refine (C2.out ⟨b, a6, c6, L6, r6⟩ _ hsq.out df.out ⟨rfl, tf.out⟩).mono ?_
               rintro e wZ ⟨rfl, sP⟩
               have hsE := hsx.out.same (hsq.out.same sP)
               clear y0 y1 yl
               clear x0 x1 x2 xl sP
               replace hsE := gi hsE
               go_wp2_with fail
               go_ret
               exact ⟨rfl, hsE.out⟩
             · obtain rfl : mE = 2 := hEk
               clear hwk
               obtain ⟨y0, y1, yl⟩ := g2l kn.out
               obtain ⟨x0, x1, x2, xl⟩ := g3l kf.out
               go_wp2_with fail
               refine (TE.out (by decide) ⟨b, a6, c6, L6, r6⟩ _ hsq.out df.out ⟨rfl, tf.out⟩).mono ?_
               rintro e wY ⟨rfl, sP⟩
               clear y0 y1 yl
               clear x0 x1 x2 xl
               replace kn := gi (sP.at kn.out id)
               replace kf := gi (sP.at kf.out id)
               replace hsq := gi (hsq.out.same sP)
               replace df := gi (SliceAt.same df.out sP)
               clear sP
               obtain ⟨y0, y1, yl⟩ := g2l kn.out
               obtain ⟨x0, x1, x2, xl⟩ := g3l kf.out
               go_wp2_with fail
               refine (CE.out (by decide) ⟨b, a6, c6, L6, r6⟩ _ hsq.out df.out ⟨rfl, tf.out⟩).mono ?_
               rintro e wZ ⟨rfl, sP⟩
               have hsE := hsx.out.same (hsq.out.same sP)
               clear y0 y1 yl
               clear x0 x1 x2 xl sP
               replace hsE := gi hsE
               go_wp2_with fail
               go_ret
               exact ⟨rfl, hsE.out⟩
        · have hbi : ((b : Int) = n) = False := by simp; omega
          obtain rfl : mE = 4 := hEne.out hbn
          go_upto_region 40 with fail
          clear hbi
          obtain ⟨y0, y1, yl⟩ := g2l kn.out
          obtain ⟨x0, x1, x2, xl⟩ := g3l kf.out
          go_wp2_with fail
          refine (TE.out (by decide) ⟨b, a6, c6, L6, r6⟩ _ hsq.out df.out ⟨rfl, tf.out⟩).mono ?_
          rintro e wY ⟨rfl, sP⟩
          clear y0 y1 yl
          clear x0 x1 x2 xl
          replace kn := gi (sP.at kn.out id)
          replace kf := gi (sP.at kf.out id)
          replace hsq := gi (hsq.out.same sP)
          replace df := gi (SliceAt.same df.out sP)
          clear sP
          obtain ⟨y0, y1, yl⟩ := g2l kn.out
          obtain ⟨x0, x1, x2, xl⟩ := g3l kf.out
          go_wp2_with fail
          refine (CE.out (by decide) ⟨b, a6, c6, L6, r6⟩ _ hsq.out df.out ⟨rfl, tf.out⟩).mono ?_
          rintro e wZ ⟨rfl, sP⟩
          have hsE := hsx.out.same (hsq.out.same sP)
          clear y0 y1 yl
          clear x0 x1 x2 xl sP
          replace hsE := gi hsE
          go_wp2_with fail
          go_ret
          exact ⟨rfl, hsE.out⟩
end Go.Proofs.YtcipnkemnepbaaaGreat
