/-  -/
import Derived.Shelf.SlicesE.Reverse
import Derived.Shelf.SlicesE.Clone
import Derived.Ground.SlgnProg
import Derived.Test.YtcipnkemnepbaaaGreatSIdxG
import Derived.Test.YtcipnkemnepbaaaGreatSLNetB
set_option maxRecDepth 100000
set_option maxHeartbeats 4000000
set_option linter.unusedVariables false
set_option linter.unusedSimpArgs false
namespace Go.Proofs
open Go.Shelf
shelf_lay_g SlLaysE.n35 Slgn 35 at Tryz 26 as Tryz.revLs
shelf_lay_g SlLaysE0.n41 Slgn 41 at Tryz 25 as Tryz.cloLs
end Go.Proofs
namespace Go.Proofs.YtcipnkemnepbaaaGreat
open Go.Shelf Go.RowKit Go.Lib Go.Sort
instance : Inhabited Grp := ⟨⟨none, 0, []⟩⟩
theorem grp_one : Go.Proofs.OneCell Grp.v := fun x => rfl
theorem grp_cells (gs : List Grp) : ∀ u ∈ gs.map Grp.v, u.oneCell' = true := fun u hu => by
 obtain ⟨g, _, rfl⟩ := List.mem_map.1 hu
 rfl
theorem cloneG_any (gs : List Grp) (base : Nat) (a : Option Addr) (k c : Nat) (w : World) (h : TG base w a k c gs) (hk : k ≤ 100000) :
 Calls Tryz.prog 25 #[.slice a k c] w fun e w' => ∃ a' c', e = .returned (.slice a' k c') ∧ TG w.heap.size w' a' k c' gs ∧ Same w w' := by
 obtain ⟨i3, hi3, hi3z, hi3s, hi3b⟩ := info_parts info_iiT
 have hlen := h.len
 cases a with
 | none =>
  obtain ⟨_, a', cap', he, h1, h2, h3, _⟩ := h.gs.1
  cases he
  have hc := h3 rfl
  have hz : gs = [] := List.length_eq_zero_iff.1 (by omega)
  subst hz
  simp at hlen
  subst hlen
  refine (show Calls Tryz.prog 25 _ w _ from AnyE.slices_Clone_nil Tryz.cloLs 0 c w).mono ?_
  rintro e w' ⟨rfl, rfl⟩
  exact ⟨none, 0, rfl, TG.nil _ _, Fr.refl _ _⟩
 | some ad =>
  obtain ⟨b, off, ha, hcell⟩ : ∃ b off, ad = ⟨b, off, none⟩ ∧ ∀ j u, (gs.map Grp.v)[j]? = some u → w.cell? ⟨b, off + j, none⟩ = some u := by
   rcases h.own.2 with ⟨hnil, hz⟩ | ⟨g, c', cur, he, hbase, hb, h1, h2, h3, h4⟩
   · simp at hnil
   · cases he
     refine ⟨g, 0, rfl, fun j u hu => ?_⟩
     have hj : j < k := by
      have := (List.getElem?_eq_some_iff.1 hu).1
      simp at this
      omega
     rw [← h4, List.getElem?_take_of_lt (by omega)] at hu
     simp only [World.cell?, hb, Nat.zero_add, Option.isSome_none, Bool.false_eq_true, if_false]
     rw [← Array.getElem?_toList]
     exact hu
  subst ha
  refine (show Calls Tryz.prog 25 _ w _ from AnyE.slices_Clone Tryz.cloLs i3 (.slice none 0 0) 1 24 hi3 hi3z hi3s hi3b rfl (by decide) (fun w => by kernel_rfl) b off k c (gs.map Grp.v) w (by simp [hlen]) (by unfold maxLen; omega) (by omega) hcell (grp_cells gs)).mono ?_
  rintro e w' ⟨v', rfl, hown, hv, hb⟩
  obtain ⟨a', c', rfl, _, _⟩ := (SliceAt.of_owns hown).form
  have hs := Fr.of_below hb
  exact ⟨a', c', rfl, ⟨hlen, hown, fun g hg => (h.el g hg).same hs⟩, hs⟩
theorem heapP {w : World} {g n : Nat} {cur : Array Value} {e : TypeId} (d : Array Grp) (hb : w.heap[g]? = some (.cells cur e (0, 0))) :
 (putRow Grp.v (Sort.ahead w n) g 0 d).heap[g]? = some (.cells (putCells Grp.v 0 d cur) e (0, 0)) := by
 simp [putRow, mapBlock, Sort.ahead, Array.getElem?_modify, hb, onCells]
theorem grownP {w : World} {g n : Nat} (d : Array Grp) : w.grownBy (putRow Grp.v (Sort.ahead w n) g 0 d) (some g) := by
 refine ⟨rfl, rfl, rfl, by simp [putRow, mapBlock, Sort.ahead], fun k hk hne => ?_⟩
 have : g ≠ k := fun e => hne (by rw [e])
 simp [putRow, mapBlock, Sort.ahead, Array.getElem?_modify, this]
theorem frP {w : World} {g n : Nat} (d : Array Grp) : Fr (fun k => k = g) w (putRow Grp.v (Sort.ahead w n) g 0 d) := by
 have hs := grownP (w := w) (g := g) (n := n) d
 exact ⟨hs.os, hs.tape, hs.output, hs.size, fun k hk hkg => hs.block k hk (by simp; omega)⟩
theorem putP_get (cur : Array Value) (d : Array Grp) (hd : d.size ≤ cur.size) : (putCells Grp.v 0 d cur).toList.take d.size = d.toList.map Grp.v := by
 apply List.ext_getElem?
 intro j
 by_cases hj : j < d.size
 · rw [List.getElem?_take_of_lt hj, Array.getElem?_toList]
   simp [putCells, hj, show j < cur.size by omega]
 · rw [List.getElem?_take_eq_none (by omega), List.getElem?_eq_none (by simp; omega)]
theorem holdsP {w : World} {gs : List Grp} {g : Nat} {cur : Array Value} {e : TypeId} (hb : w.heap[g]? = some (.cells cur e (0, 0))) (ht : cur.toList.take gs.length = gs.map Grp.v) : Holds Grp.v w g 0 gs.toArray := by
 intro j hj
 have hj' : j < gs.length := by simpa using hj
 refine ⟨?_, by simp [World.frozen?, hb]⟩
 have h1 : (cur.toList.take gs.length)[j]? = (gs.map Grp.v)[j]? := by rw [ht]
 rw [List.getElem?_take_of_lt hj'] at h1
 simp only [World.cell?, hb, Nat.zero_add]
 simp only [Option.isSome_none, Bool.false_eq_true, if_false]
 rw [← Array.getElem?_toList, h1]
 simp [hj']
theorem revG_any (gs : List Grp) (base : Nat) (a : Option Addr) (k c : Nat) (w : World) (h : TG base w a k c gs) (hk : k ≤ 100000) :
 Calls Tryz.prog 26 #[.slice a k c] w fun e w' => e = .returned (.tuple #[]) ∧ TG base w' a k c gs.reverse ∧ Grew (fun _ => False) w w' (.slice a k c) (.slice a k c) := by
 have hlen := h.len
 subst hlen
 rcases h.own.2 with ⟨hnil, hz⟩ | ⟨g, c', cur, he, hbase, hb, h1, h2, h3, h4⟩
 · simp only [Value.slice.injEq] at hnil
   obtain ⟨rfl, _, rfl⟩ := hnil
   have hz0 : gs = [] := List.length_eq_zero_iff.1 hz
   subst hz0
   refine (show Calls Tryz.prog 26 _ w _ from AnyE.slices_Reverse_empty Tryz.revLs none 0 w).mono ?_
   rintro e w' ⟨rfl, rfl⟩
   exact ⟨rfl, h, Grew.refl _ _ _⟩
 · cases he
   refine (show Calls Tryz.prog 26 _ w _ from AnyE.slices_Reverse Tryz.revLs Grp.v grp_one g 0 c gs w (holdsP hb (by simpa using h4)) (by omega)).mono ?_
   rintro e w' ⟨rfl, n, rfl⟩
   have hel : ∀ x ∈ gs, ∀ W, Fr (fun k => k = g) w W → SliceAt W 3 1 x.v x.l.length (gw x.l) := fun x hx W hf => (h.el x hx).fr hf (fun i cur' hi e => by
    rw [show i = g from e, hb] at hi
    simp at hi)
   have hcs : gs.length ≤ cur.size := by omega
   have hput := putP_get cur gs.reverse.toArray (by simp; exact hcs)
   refine ⟨rfl, ⟨by simp, ⟨by simp, .inr ⟨g, c, _, rfl, hbase, heapP _ hb, h1, h2, by simp [putCells, h3], ?_⟩⟩, fun x hx => hel x (List.mem_reverse.1 hx) _ (frP _)⟩, (Fr.refl _ _).grown (grownP _) (fun k hk _ => .inl (by rw [← hk]; rfl)), fun k hk => .inl hk⟩
   simp only [Nat.mul_one]
   simpa using hput
theorem same1_any (l l' : List Int) (a a' : Option Addr) (q q' cap cap' : Nat) (w : World) (hq : l.length = q) (hq' : l'.length = q') (h : RowAt w (.slice a q cap) q (gw l)) (h' : RowAt w (.slice a' q' cap') q' (gw l')) (hl : q ≤ 100000) :
 Calls Tryz.prog 62 #[.slice a q cap, .slice a' q' cap'] w fun e w' => e = .returned (.bool (decide (l = l'))) ∧ Same w w' := by
 have EQ := fun W (hW : Same w W) => equalI_any l l' a a' q q' cap cap' W hq hq' (h.same hW) (h'.same hW) hl
 generalize decide (l = l') = R at *
 clear h h'
 replace EQ := gi EQ
 go_enter Tryz.func62, Tryz.ntmps62
 go_wp2_with fail
 refine (EQ.out _ fs2).mono ?_
 rintro e w1 ⟨rfl, s1⟩
 have hs1 : Same w w1 := (show Same w _ from fs2).same s1
 go_wp2_with fail
 go_ret
 exact ⟨rfl, hs1⟩
theorem enter_same1 (args : Array Value) (W : World) : (callFunc 62 args).run Tryz.prog W = .ok (.enter 62 args) W := by kernel_rfl
theorem eqfG_true (gs gs' : List Grp) (a a' : Option Addr) (k c c' : Nat) (w : World) (h : GsAt w (.slice a k c) k gs) (h' : GsAt w (.slice a' k c') k gs') (he : lst gs = lst gs') (hk : k ≤ 100000) (hl : ∀ g ∈ gs, g.l.length ≤ 100000) :
 Calls Tryz.prog 61 #[.slice a k c, .slice a' k c', .func (.func 62) #[] #[]] w fun e w' => e = .returned (.bool true) ∧ Same w w' := by
 have hlen := h.len
 have hlen' := h'.len
 have hrow := fun (j : Nat) (hj : j < gs.length) W (hW : Same w W) => (h.same hW).get hj
 have hrow' := fun (j : Nat) (hj : j < gs'.length) W (hW : Same w W) => (h'.same hW).get hj
 have hll : ∀ j (hj : j < gs.length) (hj' : j < gs'.length), gs[j].l = gs'[j].l := fun j hj hj' => by
  rw [← lst_get gs hj, ← lst_get gs' hj']
  simp only [he]
 have HC : ∀ (j : Nat) (hj : j < gs.length) (hj' : j < gs'.length) W, Same w W → Calls Tryz.prog 62 #[.slice gs[j].a gs[j].l.length gs[j].cap, .slice gs'[j].a gs'[j].l.length gs'[j].cap] W fun e w' => e = .returned (.bool true) ∧ Same W w' := fun j hj hj' W hW => by
  obtain ⟨_, _, _, _, _, r1⟩ := hrow j hj W hW
  obtain ⟨_, _, _, _, _, r2⟩ := hrow' j hj' W hW
  have := same1_any gs[j].l gs'[j].l gs[j].a gs'[j].a _ _ gs[j].cap gs'[j].cap W rfl rfl r1 r2 (hl _ (List.getElem_mem hj))
  rw [decide_eq_true (hll j hj hj')] at this
  exact this
 have hlt : ∀ j, j < k → j < gs.length := fun j hj => by omega
 have hlt' : ∀ j, j < k → j < gs'.length := fun j hj => by omega
 clear h h' he hl hll hlen hlen'
 replace hrow := gi hrow; replace hrow' := gi hrow'; replace HC := gi HC; replace hlt := gi hlt; replace hlt' := gi hlt'
 go_enter Tryz.func61, Tryz.ntmps61
 go_wp2_with fail
 go_loopw [17] (fun i wr => ∃ j : Nat, i = .int .i64 j ∧ j ≤ k ∧ Same w wr) (fun i _ => k - (intOf i).toNat)
 case atStart => exact ⟨0, rfl, by omega, Fr.refl _ _⟩
 case round =>
  obtain ⟨j, rfl, hj, hs⟩ := hrel
  by_cases hjk : j < k
  · obtain ⟨b, off, rfl, hb, c0, _⟩ := hrow.out j (hlt.out j hjk) _ hs
    obtain ⟨b2, off2, rfl, hb2, c2, _⟩ := hrow'.out j (hlt'.out j hjk) _ hs
    have HCj := HC.out j (hlt.out j hjk) (hlt'.out j hjk) _ hs
    generalize gs[j]'(hlt.out j hjk) = g at *
    generalize gs'[j]'(hlt'.out j hjk) = g' at *
    have en := enter_same1
    replace hs := gi hs; replace HCj := gi HCj
    go_wp2_with fail
    refine HCj.out.mono ?_
    rintro e w2 ⟨rfl, sP⟩
    have hs2 := hs.out.same sP
    clear sP c0 c2
    replace hs2 := gi hs2
    go_wp2_with fail
    go_roundw
    case rel => exact ⟨j + 1, by go_num, by omega, hs2.out⟩
    case measure => simp [intOf]; omega
  · obtain rfl : j = k := by omega
    replace hs := gi hs
    go_wp2_with fail
    go_ret
    exact ⟨rfl, hs.out⟩
theorem same13_true (gs gs' : List Grp) (a a' : Option Addr) (k c c' : Nat) (w : World) (h : GsAt w (.slice a k c) k gs) (h' : GsAt w (.slice a' k c') k gs') (he : lst gs = lst gs') (hk : k ≤ 100000) (hl : ∀ g ∈ gs, g.l.length ≤ 100000) :
 Calls Tryz.prog 31 #[.slice a k c, .slice a' k c'] w fun e w' => e = .returned (.bool true) ∧ Same w w' := by
 have EQ := fun W (hW : Same w W) => eqfG_true gs gs' a a' k c c' W (h.same hW) (h'.same hW) he hk hl
 clear h h' he hl
 replace EQ := gi EQ
 go_enter Tryz.func31, Tryz.ntmps31
 go_wp2_with fail
 refine (EQ.out _ fs2).mono ?_
 rintro e w1 ⟨rfl, s1⟩
 have hs1 : Same w w1 := (show Same w _ from fs2).same s1
 go_wp2_with fail
 go_ret
 exact ⟨rfl, hs1⟩
def choB (T : Int) (i : Nat) : Bool := (bits .and .u64 (T / 2 ^ (i % 64)) 1 == 1) && (decide (i < 64) || decide (i % 3 = 0))
def choF (T : Int) (L : List (List Int)) (k : Nat) : List (List Int) := ((List.range k).filter (choB T)).map fun i => L.getD i []
theorem choF_succ (T : Int) (L : List (List Int)) (k : Nat) : choF T L (k + 1) = choF T L k ++ if choB T k then [L.getD k []] else [] := by
 unfold choF
 rw [List.range_succ, List.filter_append, List.map_append]
 congr 1
 cases h : choB T k <;> simp [h]
theorem cho_sub (T : Int) (L : List (List Int)) : List.Sublist (choF T L L.length) L := by
 have h1 : (List.range L.length).map (fun i => L.getD i []) = L := by
  apply List.ext_getElem
  · simp
  · intro i h1 h2
    simp [List.getD, h2]
 have h2 : List.Sublist (choF T L L.length) ((List.range L.length).map (fun i => L.getD i [])) := List.Sublist.map _ (List.filter_sublist)
 rwa [h1] at h2
theorem chosen13 (N : Nw) (T : Int) (L : List (List Int)) (hT64 : 0 ≤ T ∧ T ≤ 18446744073709551615) (w : World) (hL : L.length ≤ 100000)
 (TU : ∀ W, Same w W → Calls Tryz.prog 19 #[.agg #[.slice N.aA N.As.length N.cA, .slice N.aO N.o.length N.cO]] W (TupE W.heap.size L W)) :
 Calls Tryz.prog 24 #[.agg #[.slice N.aA N.As.length N.cA, .slice N.aO N.o.length N.cO], .int .u64 T] w (TupE w.heap.size (choF T L L.length) w) := by
 obtain ⟨i3, hi3, hi3z, hi3s, hi3b⟩ := info_parts info_iiT
 unfold TupE at TU ⊢
 obtain ⟨nL, hnL⟩ : ∃ nL, nL = L.length := ⟨_, rfl⟩
 rw [← hnL] at hL TU ⊢
 generalize N.all = n at *
 generalize N.emp = em at *
 generalize N.As.length = m at *
 generalize N.o.length = qo at *
 generalize N.aA = aA at *
 generalize N.cA = cA at *
 generalize N.aO = aO at *
 generalize N.cO = cO at *
 replace TU := gi TU; replace hnL := gi hnL
 go_enter Tryz.func24, Tryz.ntmps24
 go_upto_region 1 with fail
 have kn := gv w (.cells #[.slice aA m cA, .slice aO qo cO] 36)
 have hs : Same w (w.alloc (.cells #[.slice aA m cA, .slice aO qo cO] 36)) := fs2
 generalize w.alloc (.cells #[.slice aA m cA, .slice aO qo cO] 36) = W0 at *
 replace kn := gi kn; replace hs := gi hs
 obtain ⟨y0, y1, yl⟩ := g2l kn.out
 go_wp2_with fail
 refine (TU.out _ hs.out).mono ?_
 rintro e w1 ⟨aL, kL, cL, gs, rfl, hTG, hlst, hkl, s1⟩
 obtain rfl : kL = nL := hkl
 clear y0 y1 yl
 have hs1 := hs.out.same s1
 have hz1 := hs1.size
 have hrow := fun (j : Nat) (hj : j < gs.length) W (hW : Same w1 W) => (hTG.gs.same hW).get hj
 have hel := fun (j : Nat) (hj : j < gs.length) W (hW : Same w1 W) => (hTG.el _ (List.getElem_mem hj)).same hW
 have hgl : gs.length = kL := hTG.len
 have hlk : L.length = kL := hnL.out.symm
 have hlg : ∀ j (hj : j < gs.length), L.getD j [] = gs[j].l := fun j hj => by
  rw [← lst_get gs hj]
  simp only [hlst]
  simp [List.getD, show j < L.length by omega]
 have hlt : ∀ j, j < kL → j < gs.length := fun j hj => by omega
 have hkL : kL ≤ 100000 := by omega
 have hC0 : choF T L 0 = [] := rfl
 have hCs := choF_succ T L
 clear s1 hTG hlst hL TU kn hs hlk hgl hnL
 generalize hCe : choF T L = C at *
 replace hs1 := gi hs1; replace hrow := gi hrow; replace hel := gi hel; replace hlg := gi hlg; replace hlt := gi hlt; replace hC0 := gi hC0; replace hCs := gi hCs; replace hCe := gi hCe
 go_wp2_with fail
 go_loopw [5, 11] (fun v i wr => ∃ (j q : Nat) (gq : List Grp) (a : Option Addr) (c : Nat), i = .int .i64 j ∧ j ≤ kL ∧ v = .slice a q c ∧ q ≤ j ∧ TG w1.heap.size wr a q c gq ∧ lst gq = C j ∧ Same w1 wr) (fun _ i _ => kL - (intOf i).toNat)
 case atStart => exact ⟨0, 0, [], none, 0, rfl, by omega, rfl, by omega, TG.nil _ _, by rw [hC0.out]; rfl, Fr.refl _ _⟩
 case round =>
  obtain ⟨j, q, gq, a, c, rfl, hj, rfl, hq, hT, hl, hf⟩ := hrel
  have hzr := hf.size
  by_cases hjk : j < kL
  · obtain ⟨b, off, rfl, hb, c0, _⟩ := hrow.out j (hlt.out j hjk) _ hf
    have helj := hel.out j (hlt.out j hjk) _ hf
    have hlgj := hlg.out j (hlt.out j hjk)
    have hCj := hCs.out j
    rw [hlgj] at hCj
    generalize gs[j]'(hlt.out j hjk) = g at *
    obtain ⟨r, hr⟩ : ∃ r, r = j % 64 := ⟨_, rfl⟩
    obtain ⟨r3, hr3⟩ : ∃ r, r = j % 3 := ⟨_, rfl⟩
    have e1 : ((j : Nat) : Int).tmod 64 = (r : Int) := by rw [Int.tmod_eq_emod_of_nonneg (by omega)]; omega
    have e3 : ((j : Nat) : Int).tmod 3 = (r3 : Int) := by rw [Int.tmod_eq_emod_of_nonneg (by omega)]; omega
    have hr64 : r < 64 := by omega
    have hmin : min r 64 = r := Nat.min_eq_left (Nat.le_of_lt hr64)
    have w1' : IntKind.i64.wrap (r : Int) = r := IntWalk.i64_in _ (by omega)
    have w3' : IntKind.i64.wrap (r3 : Int) = r3 := IntWalk.i64_in _ (by omega)
    have hB : choB T j = ((bits .and .u64 (T / 2 ^ r) 1 == 1) && (decide (j < 64) || decide (r3 = 0))) := by unfold choB; rw [hr, hr3]
    rw [hB] at hCj
    obtain ⟨gb, hgb⟩ : ∃ gb, gb = (bits .and .u64 (T / 2 ^ r) 1 == 1) := ⟨_, rfl⟩
    rw [← hgb] at hCj
    have hgb' : (bits .and .u64 (T / 2 ^ r) 1 == 1) = gb := hgb.symm
    clear hgb hB hr hr3
    replace hT := gi hT; replace hl := gi hl; replace hf := gi hf; replace helj := gi helj; replace hCj := gi hCj
    cases gb with
    | false =>
     replace hCj := gi (show C (j + 1) = C j ++ [] from hCj.out)
     go_wp2_with fail
     go_roundw
     case rel => exact ⟨j + 1, q, gq, a, c, by go_num, by omega, rfl, by omega, hT.out, by rw [hCj.out]; simpa using hl.out, hf.out⟩
     case measure => simp [intOf]; omega
    | true =>
     by_cases h64 : j < 64
     · have h64i : (j : Int) < 64 := by omega
       replace hCj := gi (show C (j + 1) = C j ++ [g.l] from by rw [hCj.out]; simp [h64])
       go_wp2_with (at_builtin; refine wpList_append1 rfl (.tmp 31) (.tmp 33) 51 rfl w1.heap.size 31 i3 (.slice none 0 0) 1 24 Tryz.underlying51 hi3 hi3z hi3s hi3b rfl (by decide) (by decide) a q c (gq.map Grp.v) rfl (owns_same hT.out.own fs2) (by omega) wr.heap.size [.slice g.a g.l.length g.cap] rfl rfl (gv _ _) (by simp [Value.oneCell']) (by have := hf.out.size; simp; omega) ?_; intro a9 c9 w9 ho9 hG9)
       have hT9 : TG w1.heap.size w9 a9 (q + 1) c9 (gq ++ [g]) := hT.out.push (W := wr.alloc (.cells #[.slice g.a g.l.length g.cap] 31)) fs2 (helj.out.same fs2) ho9 hG9
       have hs9 : Same w1 w9 := grew_fresh (hf.out.same fs2) hG9 (fun k hk => (hT.out.own.lt k hk).1)
       clear ho9 hG9
       replace hT9 := gi hT9; replace hs9 := gi hs9
       go_roundw
       case rel => exact ⟨j + 1, q + 1, _, a9, c9, by go_num, by omega, rfl, by omega, hT9.out, by rw [hCj.out]; show (gq ++ [g]).map Grp.l = _; rw [List.map_append, show gq.map Grp.l = C j from hl.out]; rfl, hs9.out⟩
       case measure => simp [intOf]; omega
     · have h64i : ((j : Int) < 64) = False := by simp; omega
       by_cases h3 : r3 = 0
       · subst h3
         replace hCj := gi (show C (j + 1) = C j ++ [g.l] from by rw [hCj.out]; simp)
         go_wp2_with (at_builtin; refine wpList_append1 rfl (.tmp 31) (.tmp 33) 51 rfl w1.heap.size 31 i3 (.slice none 0 0) 1 24 Tryz.underlying51 hi3 hi3z hi3s hi3b rfl (by decide) (by decide) a q c (gq.map Grp.v) rfl (owns_same hT.out.own fs2) (by omega) wr.heap.size [.slice g.a g.l.length g.cap] rfl rfl (gv _ _) (by simp [Value.oneCell']) (by have := hf.out.size; simp; omega) ?_; intro a9 c9 w9 ho9 hG9)
         have hT9 : TG w1.heap.size w9 a9 (q + 1) c9 (gq ++ [g]) := hT.out.push (W := wr.alloc (.cells #[.slice g.a g.l.length g.cap] 31)) fs2 (helj.out.same fs2) ho9 hG9
         have hs9 : Same w1 w9 := grew_fresh (hf.out.same fs2) hG9 (fun k hk => (hT.out.own.lt k hk).1)
         clear ho9 hG9
         replace hT9 := gi hT9; replace hs9 := gi hs9
         go_roundw
         case rel => exact ⟨j + 1, q + 1, _, a9, c9, by go_num, by omega, rfl, by omega, hT9.out, by rw [hCj.out]; show (gq ++ [g]).map Grp.l = _; rw [List.map_append, show gq.map Grp.l = C j from hl.out]; rfl, hs9.out⟩
         case measure => simp [intOf]; omega
       · have h3i : ((r3 : Int) == 0) = false := by simp; omega
         replace hCj := gi (show C (j + 1) = C j ++ [] from by rw [hCj.out]; simp [h64, h3])
         go_wp2_with fail
         go_roundw
         case rel => exact ⟨j + 1, q, gq, a, c, by go_num, by omega, rfl, by omega, hT.out, by rw [hCj.out]; simpa using hl.out, hf.out⟩
         case measure => simp [intOf]; omega
  · obtain rfl : j = kL := by omega
    have hs2 := hs1.out.same hf
    have hT2 := hT.down (base' := w.heap.size) hz1
    replace hT2 := gi hT2; replace hl := gi hl; replace hs2 := gi hs2
    go_wp2_with fail
    go_ret
    have hql : q = (C j).length := by rw [← hl.out, lst_len]; exact hT2.out.len.symm
    exact ⟨a, q, c, gq, rfl, hT2.out, by rw [hCe.out]; exact hl.out, by rw [hCe.out]; exact hql, hs2.out⟩
end Go.Proofs.YtcipnkemnepbaaaGreat
