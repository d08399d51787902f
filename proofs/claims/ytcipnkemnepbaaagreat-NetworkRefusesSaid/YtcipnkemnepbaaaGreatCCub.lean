/-  -/
import Derived.Test.YtcipnkemnepbaaaGreatCNetM
import Derived.Test.YtcipnkemnepbaaaGreatCNetC
import Derived.Test.YtcipnkemnepbaaaGreatCNetQ
import Derived.Test.YtcipnkemnepbaaaGreatCRowL
import Derived.Test.YtcipnkemnepbaaaGreatCSrt
set_option maxRecDepth 100000
set_option maxHeartbeats 8000000
set_option linter.unusedVariables false
set_option linter.unusedSimpArgs false
namespace Go.Proofs.YtcipnkemnepbaaaGreat
open Go.RowKit
def litT (n : Nat) (L : List Bool) (k : Nat) : List Bool := tbF n fun i => bitF n i k == L.getD k false
def cubT (n : Nat) (L : List Bool) (k : Nat) : List Bool := tbF n fun i => (List.range k).all fun j => bitF n i j == L.getD j false
theorem cub_zero (n : Nat) (L : List Bool) : cubT n L 0 = tru n := by rw [tbF_tru]; rfl
theorem cub_succ (n : Nat) (L : List Bool) (k : Nat) : ite3 (cubT n L k) (litT n L k) (fls n) = cubT n L (k + 1) := by
 unfold cubT litT
 rw [tbF_and]
 congr 1
 funext i
 rw [List.range_succ, List.all_append]
 simp
theorem lit_true {n : Nat} {L : List Bool} {k : Nat} (h : L.getD k false = true) : varT n k = litT n L k := by
 unfold litT varT tbF
 rw [h]
 simp
theorem lit_false {n : Nat} {L : List Bool} {k : Nat} (h : L.getD k false = false) : ite3 (varT n k) (fls n) (tru n) = litT n L k := by
 show ite3 (tbF n fun i => bitF n i k) _ _ = _
 rw [tbF_not]
 unfold litT
 rw [h]
 simp
theorem cub_len (n : Nat) (L : List Bool) (k : Nat) : (cubT n L k).length = 2 ^ n := tbF_len _ _
theorem cub_code {N : Nw} (OK : NwOk N) {x : List Nat} (hx : x ∈ tupsF N.ns) : cubT N.all (codeL N.bs N.on x) N.all = N.set (fun y => decide (y = x)) := by
 obtain ⟨k, hk, hT, hn⟩ := OK.tup_of hx
 have hc : ∀ i, codeL N.bs N.on (N.T i) = colF (bitF N.all i) N.all := fun i => codeL_tup OK.pm (bitF N.all i)
 refine tbF_congr (fun i hi => ?_)
 show _ = decide (N.T i = x)
 by_cases hik : i = k
 · subst hik
   rw [hT, ← hT, hc, hT]
   simp only [decide_true]
   rw [List.all_eq_true]
   intro j hj
   rw [colF_get _ _ _ (List.mem_range.1 hj)]
   simp
 · have hne : ¬ N.T i = x := fun h => by
     have h1 := hc i
     rw [h] at h1
     rw [h1, numB_bit hi] at hn
     exact hik hn
   rw [decide_eq_false hne]
   apply Bool.eq_false_iff.2
   intro hall
   rw [List.all_eq_true] at hall
   apply hik
   have h2 : colF (bitF N.all i) N.all = colF (bitF N.all k) N.all := colF_congr (fun j hj => by
    have h3 := hall j (List.mem_range.2 hj)
    rw [← hT, hc, colF_get _ _ _ hj] at h3
    simpa using h3)
   have h3 := congrArg numB h2
   rwa [numB_bit hi, numB_bit hk] at h3
theorem RowD.fr {base n : Nat} {ts : Nat → List Bool} {k : Nat} {v : Value} {W W' : World} {b : Nat} {cs : Array Value} (h : RowD base n ts k v W) (hf : Fr (fun i => i = b) W W') (hb : W.heap[b]? = some (.cells cs 56 (0, 0))) (ho : v.ownBlock ≠ some b) : RowD base n ts k v W' := by
 obtain ⟨ds, a, c, h1, h2, h3, h4, h5⟩ := h.ex
 subst h1
 refine ⟨ds, a, c, rfl, h2, owns_fr h3 hf (fun i hi e => ho (by rw [hi, show i = b from e])), fun d hd => SliceAt.fr (h4 d hd) hf (fun i cur hk e => by rw [show i = b from e, hb] at hk; simp at hk), h5⟩
theorem cube_any (L : List Bool) (n : Nat) (hL : L.length = n) (h14 : n ≤ 14) (aL : Option Addr) (cL : Nat) (w : World) (hR : RowAt w (.slice aL n cL) n (gz L)) :
 Calls Tryz.prog 45 #[.slice aL n cL] w (DgN n (cubT n L n) w) := by
 have VA : ∀ (k : Nat) (hk : k < n) W, Calls Tryz.prog 73 #[.int .i64 n, .int .i64 k] W (DgN n (varT n k) W) := fun k hk W => (variable_ok n k W ⟨by omega, by omega⟩ ⟨by omega, by omega⟩).mono fun e w' h => DRet.dgN h ⟨by omega, varT_length n k, table_var (by omega) hk, by simp⟩
 have NO : ∀ (d : Dg) W k, d.at W → d.tab n (varT n k) → Calls Tryz.prog 74 #[d.v] W (DgN n (ite3 (varT n k) (fls n) (tru n)) W) := fun d W k hd T => Not_big (by omega) hd T (short14 h14 (by
  show (ite3 (tbF n fun i => bitF n i k) _ _).length = _
  rw [tbF_not]; exact tbF_len _ _))
 have FO := fun base v W (h : RowD base n (litT n L) n v W) => foldD h 75 enter_AndF true (by omega) (by omega) (cubT n L) (by rw [cub_zero]; rfl) (fun j d d' W' hj hW hd hd' hT hT' => by
  have := And_big (n := n) (by omega) hd hd' hT hT' (by rw [cub_succ]; exact short14 h14 (cub_len _ _ _))
  rw [cub_succ] at this
  exact this)
 have hrow : ∀ (k : Nat) (hk : k < n) W, Same w W → ∃ b off, aL = some ⟨b, off, none⟩ ∧ b < W.heap.size ∧ W.cell? ⟨b, off + k, none⟩ = some (.bool (L.getD k false)) := fun k hk W hW => by
  obtain ⟨b, off, h1, h2, h3⟩ := (hR.same hW).bool3 (k := k) (by omega) hL
  exact ⟨b, off, h1, h2, by rw [h3]; simp [List.getD, show k < L.length by omega]⟩
 have hlt1 := fun k (h : L.getD k false = true) => lit_true (n := n) h
 have hlf1 := fun k (h : L.getD k false = false) => lit_false (n := n) h
 have hn9 : n ≤ maxLen := by unfold maxLen; omega
 clear hR hL
 generalize cubT n L n = R at *
 generalize litT n L = ts at *
 obtain ⟨g, hg⟩ : ∃ g : Nat → Bool, g = fun k => L.getD k false := ⟨_, rfl⟩
 have hgk : ∀ k, L.getD k false = g k := fun k => by rw [hg]
 simp only [hgk] at hrow hlt1 hlf1
 clear hgk hg
 obtain ⟨i3, hi3, hi3z, hi3s, hi3b⟩ := info_parts infoDg
 replace VA := gi VA; replace NO := gi NO; replace FO := gi FO; replace hrow := gi hrow; replace hlt1 := gi hlt1; replace hlf1 := gi hlf1
 go_enter Tryz.func45, Tryz.ntmps45
 go_upto_region 1 with fail
 have kr := gv w (.cells #[.int .i64 0, .slice none 0 0, .int .i64 0] 56)
 have hs : Same w (w.alloc (.cells #[.int .i64 0, .slice none 0 0, .int .i64 0] 56)) := fs2
 have hB0 : w.heap.size < (w.alloc (.cells #[.int .i64 0, .slice none 0 0, .int .i64 0] 56)).heap.size := by simp
 generalize w.alloc (.cells #[.int .i64 0, .slice none 0 0, .int .i64 0] 56) = W0 at *
 replace kr := gi kr; replace hs := gi hs
 go_wp2_with fail
 go_loopw [4, 11] (fun v i wr => ∃ k : Nat, i = .int .i64 k ∧ k ≤ n ∧ RowD W0.heap.size n ts k v wr ∧ Same W0 wr) (fun _ i _ => n - (intOf i).toNat)
 case atStart => exact ⟨0, rfl, Nat.zero_le _, RowD.nil _ _ _ _, Fr.refl _ _⟩
 case round =>
  obtain ⟨k, rfl, hk, hD, hs1⟩ := hrel
  have hzr := hs1.size
  have hsw := hs.out.same hs1
  by_cases hlt : k < n
  · obtain ⟨ds0, aR, cR, rfl, -⟩ := hD.ex
    obtain ⟨b, off, rfl, hb, hc⟩ := hrow.out k hlt wr hsw
    have hs0 := hs1
    have hlt1k := hlt1.out k
    have hlf1k := hlf1.out k
    have NOk := fun d W => NO.out d W k
    generalize g k = gk at *
    replace hs0 := gi hs0; replace hsw := gi hsw; replace hs1 := gi hs1; replace hD := gi hD; replace hlt1k := gi hlt1k; replace hlf1k := gi hlf1k; replace NOk := gi NOk
    go_upto_region 5 with fail
    clear hb hc
    have hol : ∀ b, (Value.slice aR k cR).ownBlock = some b → b < wr.heap.size := fun b hb => by
     obtain ⟨ds1, a1, c1, he, _, ho, _⟩ := hD.out.ex
     cases he
     obtain ⟨cur, hcur⟩ := own_block ho hb
     exact gu hcur
    go_wp2_with fail
    refine (VA.out k hlt _).mono ?_
    intro e v5 hM
    obtain ⟨a5, c5, L5, r5, rfl, d5, z5, s5⟩ := hM.open
    clear hM
    have hzb := s5.size
    go_upto_region 6 with fail
    have q5 : Bd (v5.alloc (.cells #[.int .i64 n, .slice a5 L5.length c5, .int .i64 r5] 56)) v5.heap.size n _ a5 c5 L5 r5 := ⟨gv _ _, SliceAt.same d5 fs2, z5⟩
    have s5 := s5.same (show Same v5 (v5.alloc (.cells #[.int .i64 n, .slice a5 L5.length c5, .int .i64 r5] 56)) from fs2)
    clear d5 z5
    generalize v5.alloc (.cells #[.int .i64 n, .slice a5 L5.length c5, .int .i64 r5] 56) = w5 at *
    generalize v5.heap.size = b5 at *
    replace hD := gi (hD.out.same s5)
    have s5 := hs0.out.same s5
    replace q5 := gi q5; replace s5 := gi s5
    cases gk with
    | true =>
     have hv := hlt1k.out rfl
     obtain ⟨ds, aR', cR', he, hds, hownW, hallW, htab⟩ := hD.out.ex
     cases he
     have hsW := s5
     have kb := q5.out.heap
     have dW := q5.out.at'
     have zW := q5.out.tab
     rw [hv] at zW
     replace hds := gi hds; replace hownW := gi hownW; replace hallW := gi hallW; replace htab := gi htab; replace dW := gi dW; replace zW := gi zW; replace kb := gi kb
     obtain ⟨x0, x1, x2, xl⟩ := g3l kb.out
     go_wp2_with (at_builtin; refine wpList_append1 rfl (.tmp 30) (.tmp 32) 98 rfl W0.heap.size 56 i3 (.agg #[.int .i64 0, .slice none 0 0, .int .i64 0]) 3 40 Tryz.underlying98 hi3 hi3z hi3s hi3b rfl (by decide) (by decide) aR k cR (dgCells ds) rfl (owns_same hownW.out fs2) (by omega) w5.heap.size [.int .i64 n, .slice a5 L5.length c5, .int .i64 r5] rfl rfl (gv _ _) (by simp [Value.oneCell']) (by have := hsW.out.size; simp; omega) ?_; intro a9 c9 w9 ho9 hG9)
     have hR9 := RowD.push (base := W0.heap.size) (n := n) (ts := ts) (k := k) (W := w5.alloc (.cells #[.int .i64 n, .slice a5 L5.length c5, .int .i64 r5] 56)) (d := ⟨n, a5, c5, L5, r5⟩) hds.out (fun d hd => SliceAt.same (hallW.out d hd) fs2) htab.out (SliceAt.same dW.out fs2) ⟨rfl, zW.out⟩ (owns_same hownW.out fs2) ho9 hG9
     have hs9 : Same W0 w9 := grew_fresh (hsW.out.same fs2) hG9 (fun k hk => (hownW.out.lt k hk).1)
     clear ho9 hG9 x0 x1 x2 xl
     replace hR9 := gi hR9; replace hs9 := gi hs9
     go_roundw
     case rel => exact ⟨k + 1, by go_num, by omega, hR9.out, hs9.out⟩
     case measure => simp [intOf]; omega
    | false =>
     have hv := hlf1k.out rfl
     obtain ⟨x0, x1, x2, xl⟩ := g3l q5.out.heap
     go_wp2_with fail
     refine (NOk.out ⟨n, a5, c5, L5, r5⟩ _ q5.out.at' ⟨rfl, q5.out.tab⟩).mono ?_
     intro e v7 hM
     obtain ⟨a7, c7, L7, r7, rfl, d7, z7, s7⟩ := hM.open
     clear hM
     clear x0 x1 x2 xl
     have kb := s7.at q5.out.heap id
     have hs7 := s5.out.same s7
     have hD7 := hD.out.same s7
     rw [hv] at z7
     replace hs7 := gi hs7; replace d7 := gi d7; replace z7 := gi z7; replace kb := gi kb; replace hD7 := gi hD7
     obtain ⟨x0, x1, x2, z0, z1, z2, xl⟩ := box_facts kb.out
     go_upto_region 8 with fail
     clear x0 x1 x2 z0 z1 z2 xl
     obtain ⟨k9, f9⟩ := box_dg (u0 := .int .i64 n) (u1 := .slice a7 L7.length c7) (u2 := .int .i64 r7) kb.out
     have d9 := SliceAt.fr d7.out f9 (fun i cur hk' e => by rw [show i = b5 from e, show v7.heap[b5]? = _ from kb.out] at hk'; simp at hk')
     have hs9 : Same W0 _ := hs7.out.trans f9 (fun i hi e => by have e2 : i = b5 := e; omega)
     have hD9 : RowD W0.heap.size n ts k (.slice aR k cR) _ := hD7.out.fr f9 kb.out (fun h => by have := hol _ h; omega)
     generalize (((v7.setCell ⟨b5, 0, none⟩ (.int .i64 n)).setCell ⟨b5, 1, none⟩ (.slice a7 L7.length c7)).setCell ⟨b5, 2, none⟩ (.int .i64 r7)) = W9 at *
     obtain ⟨ds, aR', cR', he, hds, hownW, hallW, htab⟩ := hD9.ex
     cases he
     have hsW := hs9
     have dW := d9
     have zW := z7
     have kb9 := k9
     clear f9 hs7 d7 z7 kb hD7 hs9 d9 k9 hD9 q5 s5
     replace hds := gi hds; replace hsW := gi hsW; replace hownW := gi hownW; replace hallW := gi hallW; replace htab := gi htab; replace dW := gi dW; replace zW := gi zW; replace kb9 := gi kb9
     obtain ⟨x0, x1, x2, xl⟩ := g3l kb9.out
     go_wp2_with (at_builtin; refine wpList_append1 rfl (.tmp 30) (.tmp 32) 98 rfl W0.heap.size 56 i3 (.agg #[.int .i64 0, .slice none 0 0, .int .i64 0]) 3 40 Tryz.underlying98 hi3 hi3z hi3s hi3b rfl (by decide) (by decide) aR k cR (dgCells ds) rfl (owns_same hownW.out fs2) (by omega) W9.heap.size [.int .i64 n, .slice a7 L7.length c7, .int .i64 r7] rfl rfl (gv _ _) (by simp [Value.oneCell']) (by have := hsW.out.size; simp; omega) ?_; intro a9 c9 w9 ho9 hG9)
     have hR9 := RowD.push (base := W0.heap.size) (n := n) (ts := ts) (k := k) (W := W9.alloc (.cells #[.int .i64 n, .slice a7 L7.length c7, .int .i64 r7] 56)) (d := ⟨n, a7, c7, L7, r7⟩) hds.out (fun d hd => SliceAt.same (hallW.out d hd) fs2) htab.out (SliceAt.same dW.out fs2) ⟨rfl, zW.out⟩ (owns_same hownW.out fs2) ho9 hG9
     have hs9 : Same W0 w9 := grew_fresh (hsW.out.same fs2) hG9 (fun k hk => (hownW.out.lt k hk).1)
     clear ho9 hG9 x0 x1 x2 xl
     replace hR9 := gi hR9; replace hs9 := gi hs9
     go_roundw
     case rel => exact ⟨k + 1, by go_num, by omega, hR9.out, hs9.out⟩
     case measure => simp [intOf]; omega
  · obtain rfl : k = n := by omega
    have FOk := FO.out _ _ _ hD
    have kr1 := hs1.at kr.out id
    replace kr1 := gi kr1; replace hsw := gi hsw; replace hs1 := gi hs1; replace hD := gi hD; replace FOk := gi FOk
    obtain ⟨ds, aR, cR, rfl, -⟩ := hD.out.ex
    go_wp2_with fail
    refine FOk.out.mono ?_
    intro e w5 hM
    obtain ⟨a5, c5, L5, r5, rfl, d5, tt5, s5⟩ := hM.open
    have kr5 := s5.at kr1.out id
    have hs5 := hsw.out.same s5
    clear hM s5 kr1
    replace d5 := gi d5; replace tt5 := gi tt5; replace hs5 := gi hs5; replace kr5 := gi kr5
    obtain ⟨x0, x1, x2, z0, z1, z2, xl⟩ := box_facts kr5.out
    go_wp2_with fail
    obtain ⟨q0, q1, q2, hdF, hsF⟩ := dg_stored hs5.out (by omega) (d := ⟨k, a5, c5, L5, r5⟩) d5.out kr5.out
    refine bodyPost_ret (v := .tuple #[.agg #[.int .i64 k, .slice a5 L5.length c5, .int .i64 r5], .int .i64 0]) (by simp [results, Tryz.results45, go_sem, q0, q1, q2]) rfl ?_
    exact ⟨_, rfl, hdF, ⟨rfl, tt5.out⟩, hsF⟩
end Go.Proofs.YtcipnkemnepbaaaGreat
