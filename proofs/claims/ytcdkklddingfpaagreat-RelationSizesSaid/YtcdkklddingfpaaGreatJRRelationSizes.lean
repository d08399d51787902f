/- RelationSizes: the given statement. Printed by wip/mkrow.py. RelationSizes walked. constants of up to 40 variables: And, Or, Exists, gathered, step, closure, Compose of constants are constants. -/
import Derived.Test.YtcdkklddingfpaaGreatJRelGenB
import Derived.Test.YtcdkklddingfpaaGreatJQuanG
import Derived.Test.YtcdkklddingfpaaGreatJRlN
import Derived.Test.YtcdkklddingfpaaGreatJRowK
namespace Go.Proofs.YtcdkklddingfpaaGreat
open Go.RowKit
set_option linter.unusedVariables false
set_option linter.unusedSimpArgs false

theorem IsTab.tru {n : Nat} (h : n ≤ 40) : IsTab n (tru n) [] 1 := ⟨h, by simp [Proofs.YtcdkklddingfpaaGreat.tru], table_const h true, by simp⟩
theorem tru_dg {d : Dg} {n : Nat} (T : d.tab n (tru n)) : d.n = n ∧ d.L = [] ∧ d.r = 1 := by
  have h1 := T.2.eq
  have h2 := table_const T.2.n40 true
  rw [show List.replicate (2 ^ n) true = tru n from rfl, h1] at h2
  have h3 := Prod.mk.inj h2
  exact ⟨T.1, h3.1, h3.2⟩
theorem evT_tru (n : Nat) (ρ : Nat → Bool) : evT n (tru n) ρ = true := by
  unfold evT tru
  rw [List.getD_eq_getElem?_getD, List.getElem?_replicate, if_pos (placeF_lt ρ n 0)]
  rfl
theorem ren_tru {f : Nat → Int} {n m : Nat} (hf : ∀ v, v < n → (f v).toNat < m) : renT f n m (tru n) = tru m :=
  evT_ext (renT_length _ _ _ _) (tru_len m) (fun ρ => by rw [evT_ren hf, evT_tru, evT_tru])
theorem ite_tru {n : Nat} {t : List Bool} (ht : t.length = 2 ^ n) : ite3 (tru n) (tru n) t = tru n :=
  ext_getD (ite3_len (tru_len n) (tru_len n) ht) (tru_len n) (fun i hi => by rw [ite3_get (tru_len n) (tru_len n) ht hi, truG hi]; rfl)
theorem im_tru (b s : Nat) : imT b s (tru (2 * b)) (tru b) = tru b := by
  refine ext_getD (imT_len _ _ _ _) (tru_len b) (fun y hy => ?_)
  rw [truG hy]
  unfold imT
  rw [tbF_get _ _ hy, List.any_eq_true]
  refine ⟨0, List.mem_range.2 (Nat.two_pow_pos b), ?_⟩
  rw [truG (Nat.two_pow_pos b), Bool.and_true]
  split
  · exact truG (wv_lt b 0 y)
  · exact truG (wv_lt b y 0)
theorem co_tru (b : Nat) : coT b (tru (2 * b)) (tru (2 * b)) = tru (2 * b) := by
  refine ext_getD (tbF_len _ _) (tru_len _) (fun i hi => ?_)
  rw [truG hi]
  unfold coT
  rw [tbF_get _ _ hi, List.any_eq_true]
  refine ⟨0, List.mem_range.2 (Nat.two_pow_pos b), ?_⟩
  rw [truG (wv_lt b _ _), truG (wv_lt b _ _)]
  rfl
theorem zip_tru {n : Nat} : List.zipWith (fun x y => x || y) (tru n) (tru n) = tru n := by
  unfold tru
  rw [List.zipWith_replicate]
  simp
theorem ch_tru {wn : Int → Bool} : ∀ (n : Nat) (v : Int), chT wn (fun x y => x || y) n v (tru n) = tru n
  | 0, _ => rfl
  | n + 1, v => by
    have e1 : (tru (n + 1)).take (2 ^ n) = tru n := by
      unfold tru
      rw [List.take_replicate, Nat.min_eq_left (Nat.pow_le_pow_right (by omega) (by omega))]
    have e2 : (tru (n + 1)).drop (2 ^ n) = tru n := by
      unfold tru
      rw [List.drop_replicate, Nat.pow_succ]
      congr 1; omega
    have e3 : tru n ++ tru n = tru (n + 1) := by
      unfold tru
      rw [List.replicate_append_replicate, Nat.pow_succ]
      congr 1; omega
    unfold chT
    rw [e1, e2, ch_tru n (v + 1)]
    split
    · rw [zip_tru, e3]
    · exact e3
theorem cl_tru (b s : Nat) : clS b s (tru (2 * b)) (tru b) = tru b := by
  unfold clS
  rw [im_tru]
  exact ite_tru (tru_len b)
theorem clI_tru (b s : Nat) : ∀ k, clI b s (tru (2 * b)) (tru b) k = tru b
  | 0 => rfl
  | k + 1 => by
    show clS b s (tru (2 * b)) (clI b s (tru (2 * b)) (tru b) k) = tru b
    rw [clI_tru b s k, cl_tru]
/-- A number that stands for the constant is 1. -/
theorem node_tru {N : List Nd} {n : Nat} {k : Int} (h40 : n ≤ 40) (hN : Ord N n) (hk : VNum N k) (h : tab N n 0 k = tru n) : k = 1 :=
  tab_inj hN n 0 k 1 (by omega) hk (vnum1 N) (topF_range hN.val hk).1 (topF_range hN.val (vnum1 N)).1 (by rw [h, tab1 N h40])

theorem And_tru {n : Nat} (hn : n ≤ 40) {d d' : Dg} {w : World} (hat : d.at w) (hat' : d'.at w) (T : d.tab n (tru n)) (T' : d'.tab n (tru n)) : Calls Tryz.prog 48 #[d.v, d'.v] w (DgN n (tru n) w) := by
  have hz := table_const hn true
  rw [show List.replicate (2 ^ n) true = tru n from rfl] at hz
  have : Calls Tryz.prog 48 #[d.v, d'.v] w (DRet w n (tableF n [] 0 (tru n)).1 (tableF n [] 0 (tru n)).2) := by
    refine and_call d d' n _ _ 0 w (fun W a hW hD => ?_)
    refine (comb_tab 88 enter_And a 2 [d, d'] W hD (by simp) (by simp) (fun x hx => by simp at hx; rcases hx with rfl | rfl <;> exact SliceAt.same (by assumption) hW) n [tru n, tru n] ⟨T, T', trivial⟩ _ hn (by rw [hz]; simp) ?_)
    intro N ks hN hT hl _
    obtain ⟨k, j, rfl, ⟨hk, ht⟩, hj, hu⟩ := hT.two
    have e1 := node_tru hn hN hk ht
    have e2 := node_tru hn hN hj hu
    refine ⟨N, 1, hN, vnum1 N, tab1 N hn, by omega, ?_⟩
    intro W B p m mm a' cap' ar cr h1 h2 h3 h4
    exact and_do (n + 1) B p m mm a' cap' N ar cr k j (N, []) 1 W h1 h2 h3 hN.val h4 hk hj (by rw [e1, e2, iteF, if_pos (.inl rfl)]) (by simp only; omega)
  rw [hz] at this
  exact this.mono fun e w' h => DRet.dgN h (IsTab.tru hn)
theorem Or_tru {n : Nat} (hn : n ≤ 40) {d d' : Dg} {w : World} (hat : d.at w) (hat' : d'.at w) (T : d.tab n (tru n)) (T' : d'.tab n (tru n)) : Calls Tryz.prog 47 #[d.v, d'.v] w (DgN n (tru n) w) := by
  have hz := table_const hn true
  rw [show List.replicate (2 ^ n) true = tru n from rfl] at hz
  have : Calls Tryz.prog 47 #[d.v, d'.v] w (DRet w n (tableF n [] 0 (tru n)).1 (tableF n [] 0 (tru n)).2) := by
    refine or_call d d' n _ _ 0 w (fun W a hW hD => ?_)
    refine (comb_tab 86 enter_Or a 2 [d, d'] W hD (by simp) (by simp) (fun x hx => by simp at hx; rcases hx with rfl | rfl <;> exact SliceAt.same (by assumption) hW) n [tru n, tru n] ⟨T, T', trivial⟩ _ hn (by rw [hz]; simp) ?_)
    intro N ks hN hT hl _
    obtain ⟨k, j, rfl, ⟨hk, ht⟩, hj, hu⟩ := hT.two
    have e1 := node_tru hn hN hk ht
    have e2 := node_tru hn hN hj hu
    refine ⟨N, 1, hN, vnum1 N, tab1 N hn, by omega, ?_⟩
    intro W B p m mm a' cap' ar cr h1 h2 h3 h4
    exact or_do (n + 1) B p m mm a' cap' N ar cr k j (N, []) 1 W h1 h2 h3 hN.val h4 hk hj (by rw [e1, e2, iteF, if_pos (.inl rfl)]) (by simp only; omega)
  rw [hz] at this
  exact this.mono fun e w' h => DRet.dgN h (IsTab.tru hn)
theorem Exists_tru {n : Nat} (hn : n ≤ 40) {d : Dg} {w : World} (qs : List Int) (aQ : Option Addr) (cQ : Nat) (hat : d.at w) (T : d.tab n (tru n)) (hl7 : qs.length ≤ 1000) (hQ : RowAt w (.slice aQ qs.length cQ) qs.length (intCells qs)) (hr0 : renErr n qs qs.length 0 = 0) :
    Calls Tryz.prog 73 #[d.v, .slice aQ qs.length cQ] w (DgN n (tru n) w) := by
  have hz := table_const hn true
  rw [show List.replicate (2 ^ n) true = tru n from rfl] at hz
  obtain ⟨e1, e2, e3⟩ := tru_dg T
  have hc := ch_tru (wn := fun x => decide (x ∈ qs)) n 0
  have CH : VNd (addF d.L ([], [0, 1])).1 ∧ VNum (addF d.L ([], [0, 1])).1 ((addF d.L ([], [0, 1])).2.getD d.r.toNat 0) ∧ ∃ s' q, changeF (fun x => decide (x ∈ qs)) (doE (n + 1)) (n + 1) (((addF d.L ([], [0, 1])).1, []), []) ((addF d.L ([], [0, 1])).2.getD d.r.toNat 0) = some (s', q) ∧ Ord s'.1.1 n ∧ VNum s'.1.1 q ∧ tab s'.1.1 n 0 q = chT (fun x => decide (x ∈ qs)) (fun x y => x || y) n 0 (tru n) ∧ s'.1.1.length ≤ 100000 := by
    rw [e2, e3]
    have hO : Ord [] (n : Int) := Ord.nil (by omega)
    refine ⟨hO.val, vnum1 [], (([], []), []), 1, ?_, hO, vnum1 [], ?_, by simp⟩
    · show changeF _ _ (n + 1) _ 1 = _
      rw [changeF, if_pos (by omega)]
      rfl
    · rw [hc]; exact tab1 [] hn
  have Q := fun W (hW : Same w W) => (quant_gen enter_E (doE_c (n + 1)) (doE_val (n + 1)) or_idem d n (tru n) qs aQ cQ W hn (SliceAt.same hat hW) T hl7 (hQ.same hW) hr0 (by rw [hc, hz]; simp) CH).mono fun e w' h => DRet.any h
  refine (exists_gen d n 0 _ qs aQ cQ w e1 hat hQ Q).mono fun e w' h => ?_
  have := QAny.ret h
  rw [hc, hz] at this
  exact DRet.dgN this (IsTab.tru hn)
theorem Gather_tru {n m : Nat} (hn : n ≤ 40) {d : Dg} {w : World} (hd : d.at w) (T : d.tab m (tru m)) (F : FuncId) (cs : Array Value) (g : Int → Int)
    (ent : ∀ (args : Array Value) (W : World), (callFunc F args).run Tryz.prog W = .ok (.enter F args) W) (HC : ∀ (v : Nat) (W : World), v < 100 → Calls Tryz.prog F (#[.int .i64 v] ++ cs) W fun e W' => e = .returned (.int .i64 (g v)) ∧ Same W W') :
    Calls Tryz.prog 74 #[d.v, .int .i64 n, .func (.func F) #[] cs] w fun e w' => ∃ d' : Dg, e = .returned d'.v ∧ d'.at w' ∧ d'.tab n (tru n) ∧ Same w w' := by
  obtain ⟨e1, e2, e3⟩ := tru_dg T
  refine (gathered_any d n F cs g w hd (by rw [e2]; simp) (fun x hx => by rw [e2] at hx; simp at hx) ent HC).mono ?_
  rintro e w' ⟨a, c, rfl, h1, h2⟩
  rw [e2] at h1
  refine ⟨⟨n, a, c, [], 1⟩, ?_, h1, ⟨rfl, IsTab.tru hn⟩, h2⟩
  simp [Dg.v, e2, e3]
theorem step_tru {b s : Nat} (hb : b ≤ 20) (hs : s < 2) (dr df : Dg) (w : World) (hr : dr.at w) (hf : df.at w) (T : dr.tab (2 * b) (tru (2 * b))) (U : df.tab b (tru b)) :
    Calls Tryz.prog 77 #[.agg #[.int .i64 dr.n, .slice dr.a dr.L.length dr.cap, .int .i64 dr.r], .agg #[.int .i64 df.n, .slice df.a df.L.length df.cap, .int .i64 df.r], .int .i64 s] w (DgN b (tru b) w) :=
  step_gen hb hs dr df w (tru (2 * b)) (tru (2 * b)) (tru (2 * b)) (tru b) T.1 U.1
    (fun W hW => by
      have := spread_any df b (2 * b) 2 s (tru b) W (by omega) (by omega) (by omega) (by omega) (fun i hi => by omega) (SliceAt.same hf hW) U
      rw [ren_tru (fun v hv => by simp only [Int.toNat_natCast]; omega)] at this
      exact this)
    (fun d' W hW h1 T' => And_tru (by omega) (SliceAt.same hr hW) h1 T T')
    (fun d' W aQ cQ h1 T' hQ => by
      have := Exists_tru (n := 2 * b) (by omega) (gL (fun i => 2 * i + s) b) aQ cQ h1 T' (by rw [gL_len]; omega) (by rw [gL_len]; exact hQ) (gL_err (fun i hi => by omega) (fun i hi => by omega))
      rw [gL_len] at this
      exact this)
    (fun d' W h1 T' => Gather_tru (n := b) (m := 2 * b) (by omega) h1 T' 109 #[] (fun v => v / 2) enter_step1 step1_any)
theorem closure_tru {m b s : Nat} (hb : b ≤ 40) (hm : m ≤ 40) (hs : s < 2) (dr df : Dg) (w : World) (hr : dr.at w) (hf : df.at w) (T : dr.tab m (tru m)) (U : df.tab b (tru b)) :
    Calls Tryz.prog 68 #[.agg #[.int .i64 dr.n, .slice dr.a dr.L.length dr.cap, .int .i64 dr.r], .agg #[.int .i64 df.n, .slice df.a df.L.length df.cap, .int .i64 df.r], .int .i64 s] w (ClE (if m = 2 * b then 0 else 4) b s (tru m) (tru b) w) := by
  by_cases h : m = 2 * b
  · subst h
    refine closure_gen hs hb (fun v => v = tru b) (fun v hv => by rw [hv]; exact cl_tru b s) (fun _ k hk => ?_) dr df w rfl hr hf T U (fun _ d v W hv hW hd hT => ?_) (fun _ d d' v W hv hd hd' hT hT' => ?_)
    · rcases Nat.eq_zero_or_pos k with h0 | h0
      · omega
      · exact absurd (by rw [clI_tru, clI_tru]) (hk 0 h0)
    · subst hv
      rw [im_tru]
      exact step_tru (by omega) hs dr d W (SliceAt.same hr hW) hd T hT
    · subst hv
      rw [im_tru] at hT' ⊢
      rw [ite_tru (tru_len b)]
      exact Or_tru hb hd hd' hT hT'
  · exact closure_gen hs hb (fun v => True) (fun _ _ => trivial) (fun h' => absurd h' h) dr df w trivial hr hf T U (fun h' => absurd h' h) (fun h' => absurd h' h)
end Go.Proofs.YtcdkklddingfpaaGreat
namespace Go.Proofs.YtcdkklddingfpaaGreat
open Go.RowKit
set_option linter.unusedVariables false
set_option linter.unusedSimpArgs false

theorem compose_tru {m m' b : Nat} (E : Int) (hE : E = if m ≠ m' ∨ m % 2 = 1 then 4 else if 40 < 3 * (m / 2) then 3 else 0) (hb : b ≤ 13) (hmb : E = 0 → m = 2 * b) (hm : m ≤ 40) (hm' : m' ≤ 40) (dr df : Dg) (w : World) (hr : dr.at w) (hf : df.at w) (T : dr.tab m (tru m)) (U : df.tab m' (tru m')) :
    Calls Tryz.prog 38 #[.agg #[.int .i64 dr.n, .slice dr.a dr.L.length dr.cap, .int .i64 dr.r], .agg #[.int .i64 df.n, .slice df.a df.L.length df.cap, .int .i64 df.r]] w (DgE E (2 * b) (tru (2 * b)) w) := by
  have hmm : E = 0 → m' = 2 * b := fun h => by
    rw [hE] at h
    by_cases c : m ≠ m' ∨ m % 2 = 1
    · rw [if_pos c] at h; omega
    · have := hmb (by rw [hE]; exact h)
      omega
  refine Compose_gen hb E m m' hE hmb hm hm' dr df (tru (3 * b)) (tru (3 * b)) (tru (3 * b)) (tru (3 * b)) (tru (2 * b)) w T.1 U.1
    (fun W hW => check_tab dr m (tru m) W (SliceAt.same hr hW) T) (fun W hW => check_tab df m' (tru m') W (SliceAt.same hf hW) U)
    (fun h W hW => ?_) (fun h W hW => ?_) (fun d d' W h1 h2 t1 t2 => And_tru (by omega) h1 h2 t1 t2) (fun d W aQ cQ h1 t1 hQ => ?_)
    (fun d W h1 t1 => Gather_tru (n := 2 * b) (m := 3 * b) (by omega) h1 t1 75 #[] (fun v => 2 * (v / 3) + v % 3 / 2) enter_comp1 comp1_any)
  · have := placed_any dr b 0 (tru (2 * b)) W hb (by omega) (SliceAt.same hr hW) (hmb h ▸ T)
    rw [ren_tru (fun v hv => by simp only [Int.toNat_natCast, plF]; omega)] at this
    exact this
  · have := placed_any df b 1 (tru (2 * b)) W hb (by omega) (SliceAt.same hf hW) (hmm h ▸ U)
    rw [ren_tru (fun v hv => by simp only [Int.toNat_natCast, plF]; omega)] at this
    exact this
  · have := Exists_tru (n := 3 * b) (by omega) (gL (fun i => 3 * i + 1) b) aQ cQ h1 t1 (by rw [gL_len]; omega) (by rw [gL_len]; exact hQ) (gL_err (fun i hi => by omega) (fun i hi => by omega))
    rw [gL_len] at this
    exact this
theorem siz_err {E : Int} {n : Nat} {t : List Bool} {w w' : World} {e : Ending} (h : DgE E n t w e w') (h0 : E ≠ 0) : e = .returned (.tuple #[.agg #[.int .i64 0, .slice none 0 0, .int .i64 0], .int .i64 E]) ∧ Same w w' := by
  rcases h with ⟨_, h⟩ | ⟨h, _⟩
  · exact h
  · exact absurd h h0
theorem siz_cle {E : Int} {b s : Nat} {r u : List Bool} {w w' : World} {e : Ending} (h : ClE E b s r u w e w') (h0 : E ≠ 0) : e = .returned (.tuple #[.agg #[.int .i64 0, .slice none 0 0, .int .i64 0], .int .i64 0, .int .i64 E]) ∧ Same w w' := by
  rcases h with ⟨_, h⟩ | ⟨h, _⟩
  · exact h
  · exact absurd h h0
theorem siz_cl {b s k : Nat} {w w' : World} {e : Ending} (h : ClE 0 b s (tru (2 * b)) (tru b) w e w') : ∃ (k : Nat) (a : Option Addr) (c : Nat) (L : List Nd) (q : Int), e = .returned (.tuple #[.agg #[.int .i64 b, .slice a L.length c, .int .i64 q], .int .i64 k, .int .i64 0]) ∧ Dg.at w' ⟨b, a, c, L, q⟩ ∧ IsTab b (tru b) L q ∧ Same w w' := by
  obtain ⟨k, a, c, L, q, h1, h2, h3, _, _, h4⟩ := (ClE.ok h rfl).open
  rw [clI_tru] at h3
  exact ⟨k, a, c, L, q, h1, h2, h3, h4⟩

set_option maxRecDepth 100000 in
set_option maxHeartbeats 16000000 in
theorem rsizes_any (x : Int) (hx : 0 ≤ x ∧ x ≤ 255) (y : Int) (hy : 0 ≤ y ∧ y ≤ 255) (w : World) :
    Calls Tryz.prog 11 #[.int .u8 x, .int .u8 y] w fun e w' => e = .returned (.bool true) ∧ Same w w' := by
  obtain ⟨m, hm⟩ : ∃ m : Nat, m = x.toNat % 41 := ⟨_, rfl⟩
  have hm40 : m ≤ 40 := by omega
  have h1 := Lib.hid (show x.tmod 41 = (m : Int) by rw [Int.tmod_eq_emod_of_nonneg hx.1]; omega)
  clear hx hm
  obtain ⟨b, hb⟩ : ∃ b : Nat, b = y.toNat % 41 := ⟨_, rfl⟩
  have hb40 : b ≤ 40 := by omega
  have g1 := Lib.hid (show y.tmod 41 = (b : Int) by rw [Int.tmod_eq_emod_of_nonneg hy.1]; omega)
  clear hy hb
  have h2 : IntKind.u8.wrap (m : Int) = m := by unfold IntKind.wrap; simp [IntKind.bits, IntKind.signed]; omega
  replace h2 := Lib.hid h2
  have h3 : wrap64 (m : Int) = m := by unfold wrap64; omega
  replace h3 := Lib.hid h3
  have g2 : IntKind.u8.wrap (b : Int) = b := by unfold IntKind.wrap; simp [IntKind.bits, IntKind.signed]; omega
  replace g2 := Lib.hid g2
  have g3 : wrap64 (b : Int) = b := by unfold wrap64; omega
  replace g3 := Lib.hid g3
  obtain ⟨B2, hB2⟩ : ∃ B2, B2 = 2 * b := ⟨_, rfl⟩
  have p1 : IntKind.i64.wrap (2 * (b : Int)) = (B2 : Int) := by rw [IntWalk.i64_in _ (by omega)]; omega
  replace p1 := Lib.hid p1
  have p2 : wrap64 (2 * (b : Int)) = (B2 : Int) := by unfold wrap64; omega
  replace p2 := Lib.hid p2
  obtain ⟨u, hu⟩ : ∃ u, u = m % 2 := ⟨_, rfl⟩
  have r1 : ((m : Nat) : Int).tmod 2 = (u : Int) := by rw [Int.tmod_eq_emod_of_nonneg (by omega)]; omega
  replace r1 := Lib.hid r1
  have r2 : IntKind.i64.wrap (u : Int) = (u : Int) := IntWalk.i64_in _ (by omega)
  replace r2 := Lib.hid r2
  have KN := fun W => known_any W
  have CO := fun (n : Nat) (hn : n ≤ 40) W => (constant_ok n true W ⟨by omega, by omega⟩).mono fun e w' h => DRet.dgN h (IsTab.tru hn)
  have CM := CO m hm40
  have CB := CO b hb40
  have IM := fun (dr df : Dg) W (hr : dr.at W) (hf : df.at W) (T : dr.tab m (tru m)) (U : df.tab b (tru b)) => Image_gen (m := m) (b := b) dr df (tru m) (tru b) W hr hf T U (fun h W' hW => by
    have hT : dr.tab (2 * b) (tru (2 * b)) := h ▸ T
    have := step_tru (s := 0) (by omega) (by omega) dr df W' (SliceAt.same hr hW) (SliceAt.same hf hW) hT U
    rw [h, im_tru]
    exact this)
  have PI := fun (dr df : Dg) W (hr : dr.at W) (hf : df.at W) (T : dr.tab m (tru m)) (U : df.tab b (tru b)) => Preimage_gen (m := m) (b := b) dr df (tru m) (tru b) W hr hf T U (fun h W' hW => by
    have hT : dr.tab (2 * b) (tru (2 * b)) := h ▸ T
    have := step_tru (s := 1) (by omega) (by omega) dr df W' (SliceAt.same hr hW) (SliceAt.same hf hW) hT U
    rw [h, im_tru]
    exact this)
  have FW := fun (dr df : Dg) W (hr : dr.at W) (hf : df.at W) (T : dr.tab m (tru m)) (U : df.tab b (tru b)) => Forward_gen (m := m) (b := b) dr df (tru m) (tru b) W hr hf T U (fun W' hW => closure_tru (s := 0) hb40 hm40 (by omega) dr df W' (SliceAt.same hr hW) (SliceAt.same hf hW) T U)
  have BW := fun (dr df : Dg) W (hr : dr.at W) (hf : df.at W) (T : dr.tab m (tru m)) (U : df.tab b (tru b)) => Backward_gen (m := m) (b := b) dr df (tru m) (tru b) W hr hf T U (fun W' hW => closure_tru (s := 1) hb40 hm40 (by omega) dr df W' (SliceAt.same hr hW) (SliceAt.same hf hW) T U)
  obtain ⟨E, hE⟩ : ∃ E : Int, E = if m ≠ b ∨ m % 2 = 1 then 4 else if 40 < 3 * (m / 2) then 3 else 0 := ⟨_, rfl⟩
  obtain ⟨c, hc⟩ : ∃ c : Nat, c = if E = 0 then m / 2 else 0 := ⟨_, rfl⟩
  have hc13 : c ≤ 13 := by
    rw [hc]
    by_cases h0 : E = 0
    · rw [if_pos h0]
      rw [hE] at h0
      by_cases q1 : m ≠ b ∨ m % 2 = 1
      · rw [if_pos q1] at h0; omega
      · rw [if_neg q1] at h0
        by_cases q2 : 40 < 3 * (m / 2)
        · rw [if_pos q2] at h0; omega
        · omega
    · rw [if_neg h0]; omega
  have hmc : E = 0 → m = 2 * c := fun h0 => by
    rw [hc, if_pos h0]
    rw [hE] at h0
    by_cases q1 : m ≠ b ∨ m % 2 = 1
    · rw [if_pos q1] at h0; omega
    · omega
  have CP := fun (dr df : Dg) W (hr : dr.at W) (hf : df.at W) (T : dr.tab m (tru m)) (U : df.tab b (tru b)) => compose_tru E hE hc13 hmc hm40 hb40 dr df W hr hf T U
  clear CO hc
  replace KN := Lib.hid KN; replace CM := Lib.hid CM; replace CB := Lib.hid CB; replace IM := Lib.hid IM; replace PI := Lib.hid PI; replace FW := Lib.hid FW; replace BW := Lib.hid BW; replace CP := Lib.hid CP; replace hE := Lib.hid hE; replace hmc := Lib.hid hmc; replace hB2 := Lib.hid hB2; replace hu := Lib.hid hu
  go_enter Tryz.func11, Tryz.ntmps11
  have hw := Fr.refl (fun _ => False) w
  replace hw := Lib.hid hw
  go_wp2_with fail
  refine (KN.out _).mono ?_
  rintro e w1 ⟨rfl, s1⟩
  replace hw := Lib.hid (hw.out.same s1)
  clear s1 KN
  replace h1 := h1.out
  replace h2 := h2.out
  replace h3 := h3.out
  go_upto_region 3 with fail
  go_wp2_with fail
  refine (CM.out _).mono ?_
  intro e v5 hM
  obtain ⟨a5, c5, L5, r5, rfl, d5, z5, s5⟩ := hM.open
  clear hM
  clear h1 h2 h3
  go_upto_region 4 with fail
  have q5 : Bx (v5.alloc (.cells #[.int .i64 m, .slice a5 L5.length c5, .int .i64 r5] 29)) v5.heap.size m _ a5 c5 L5 r5 := ⟨heap_new _ _, SliceAt.same d5 (by repeat (first | exact Fr.refl _ _ | apply Fr.alloc | apply Fr.drewN | apply Fr.drew | apply Fr.undrew | apply Fr.undrewN)), z5⟩
  have s5 := s5.same (show Same v5 (v5.alloc (.cells #[.int .i64 m, .slice a5 L5.length c5, .int .i64 r5] 29)) from (by repeat (first | exact Fr.refl _ _ | apply Fr.alloc | apply Fr.drewN | apply Fr.drew | apply Fr.undrew | apply Fr.undrewN)))
  clear d5 z5
  generalize v5.alloc (.cells #[.int .i64 m, .slice a5 L5.length c5, .int .i64 r5] 29) = w5 at *
  generalize v5.heap.size = b5 at *
  replace hw := Lib.hid (hw.out.same s5)
  replace q5 := Lib.hid q5; replace s5 := Lib.hid s5
  clear s5 CM
  replace g1 := g1.out
  replace g2 := g2.out
  replace g3 := g3.out
  go_wp2_with fail
  refine (CB.out _).mono ?_
  intro e v7 hM
  obtain ⟨a7, c7, L7, r7, rfl, d7, z7, s7⟩ := hM.open
  clear hM
  clear g1 g2 g3
  go_upto_region 5 with fail
  have q7 : Bx (v7.alloc (.cells #[.int .i64 b, .slice a7 L7.length c7, .int .i64 r7] 29)) v7.heap.size b _ a7 c7 L7 r7 := ⟨heap_new _ _, SliceAt.same d7 (by repeat (first | exact Fr.refl _ _ | apply Fr.alloc | apply Fr.drewN | apply Fr.drew | apply Fr.undrew | apply Fr.undrewN)), z7⟩
  have s7 := s7.same (show Same v7 (v7.alloc (.cells #[.int .i64 b, .slice a7 L7.length c7, .int .i64 r7] 29)) from (by repeat (first | exact Fr.refl _ _ | apply Fr.alloc | apply Fr.drewN | apply Fr.drew | apply Fr.undrew | apply Fr.undrewN)))
  clear d7 z7
  generalize v7.alloc (.cells #[.int .i64 b, .slice a7 L7.length c7, .int .i64 r7] 29) = w7 at *
  generalize v7.heap.size = b7 at *
  replace hw := Lib.hid (hw.out.same s7); replace q5 := Lib.hid (q5.out.same s7)
  replace q7 := Lib.hid q7; replace s7 := Lib.hid s7
  clear s7 CB
  go_upto_region 7 with fail
  have hmB : m = 2 * b ↔ m = B2 := by rw [hB2.out]
  by_cases hA : m = 2 * b
  case' pos =>
    have hm2 : ((m : Int) == (B2 : Int)) = true := by
      have := hmB.1 hA
      rw [this]; simp
    have e0 : imT b 0 (tru m) (tru b) = tru b := by rw [hA, im_tru]
    have e1 : imT b 1 (tru m) (tru b) = tru b := by rw [hA, im_tru]
    have I9 : ∀ W, Same w7 W → Calls Tryz.prog 39 #[.agg #[.int .i64 m, .slice a5 L5.length c5, .int .i64 r5], .agg #[.int .i64 b, .slice a7 L7.length c7, .int .i64 r7]] W (DgN b (tru b) W) := fun W hW => (IM.out ⟨m, a5, c5, L5, r5⟩ ⟨b, a7, c7, L7, r7⟩ W (q5.out.same hW).at' (q7.out.same hW).at' ⟨rfl, q5.out.tab⟩ ⟨rfl, q7.out.tab⟩).mono fun e w' h => by
      rw [if_pos hA, e0] at h; exact DgE.ok h rfl
    have I11 : ∀ W, Same w7 W → Calls Tryz.prog 45 #[.agg #[.int .i64 m, .slice a5 L5.length c5, .int .i64 r5], .agg #[.int .i64 b, .slice a7 L7.length c7, .int .i64 r7]] W (DgN b (tru b) W) := fun W hW => (PI.out ⟨m, a5, c5, L5, r5⟩ ⟨b, a7, c7, L7, r7⟩ W (q5.out.same hW).at' (q7.out.same hW).at' ⟨rfl, q5.out.tab⟩ ⟨rfl, q7.out.tab⟩).mono fun e w' h => by
      rw [if_pos hA, e1] at h; exact DgE.ok h rfl
    have I13 : ∀ W, Same w7 W → Calls Tryz.prog 27 #[.agg #[.int .i64 m, .slice a5 L5.length c5, .int .i64 r5], .agg #[.int .i64 b, .slice a7 L7.length c7, .int .i64 r7]] W (ClE 0 b 0 (tru (2 * b)) (tru b) W) := fun W hW => (FW.out ⟨m, a5, c5, L5, r5⟩ ⟨b, a7, c7, L7, r7⟩ W (q5.out.same hW).at' (q7.out.same hW).at' ⟨rfl, q5.out.tab⟩ ⟨rfl, q7.out.tab⟩).mono fun e w' h => by
      rw [if_pos hA, show tru m = tru (2 * b) by rw [hA]] at h; exact h
    have I16 : ∀ W, Same w7 W → Calls Tryz.prog 28 #[.agg #[.int .i64 m, .slice a5 L5.length c5, .int .i64 r5], .agg #[.int .i64 b, .slice a7 L7.length c7, .int .i64 r7]] W (ClE 0 b 1 (tru (2 * b)) (tru b) W) := fun W hW => (BW.out ⟨m, a5, c5, L5, r5⟩ ⟨b, a7, c7, L7, r7⟩ W (q5.out.same hW).at' (q7.out.same hW).at' ⟨rfl, q5.out.tab⟩ ⟨rfl, q7.out.tab⟩).mono fun e w' h => by
      rw [if_pos hA, show tru m = tru (2 * b) by rw [hA]] at h; exact h
    have hv := Fr.refl (fun _ => False) w7
    clear e0 e1 hmB
    replace I9 := Lib.hid I9; replace I11 := Lib.hid I11; replace I13 := Lib.hid I13; replace I16 := Lib.hid I16; replace hA := Lib.hid hA; replace hv := Lib.hid hv
    have x0 := cell_at q5.out.heap 0
    have x1 := cell_at q5.out.heap 1
    have x2 := cell_at q5.out.heap 2
    have xl := lt_of_heap q5.out.heap
    have y0 := cell_at q7.out.heap 0
    have y1 := cell_at q7.out.heap 1
    have y2 := cell_at q7.out.heap 2
    have yl := lt_of_heap q7.out.heap
    go_wp2_with fail
    refine (I9.out _ hv.out).mono ?_
    intro e v9 hM
    obtain ⟨a9, c9, L9, r9, rfl, d9, z9, s9⟩ := hM.open
    clear hM
    clear x0 x1 x2 xl y0 y1 y2 yl
    go_upto_region 8 with fail
    have q9 : Bx (v9.alloc (.cells #[.int .i64 b, .slice a9 L9.length c9, .int .i64 r9] 29)) v9.heap.size b _ a9 c9 L9 r9 := ⟨heap_new _ _, SliceAt.same d9 (by repeat (first | exact Fr.refl _ _ | apply Fr.alloc | apply Fr.drewN | apply Fr.drew | apply Fr.undrew | apply Fr.undrewN)), z9⟩
    have s9 := s9.same (show Same v9 (v9.alloc (.cells #[.int .i64 b, .slice a9 L9.length c9, .int .i64 r9] 29)) from (by repeat (first | exact Fr.refl _ _ | apply Fr.alloc | apply Fr.drewN | apply Fr.drew | apply Fr.undrew | apply Fr.undrewN)))
    clear d9 z9
    generalize v9.alloc (.cells #[.int .i64 b, .slice a9 L9.length c9, .int .i64 r9] 29) = w9 at *
    generalize v9.heap.size = b9 at *
    replace hw := Lib.hid (hw.out.same s9); replace q5 := Lib.hid (q5.out.same s9); replace q7 := Lib.hid (q7.out.same s9); replace hv := Lib.hid (hv.out.same s9)
    replace q9 := Lib.hid q9; replace s9 := Lib.hid s9
    clear s9 I9
    have x0 := cell_at q5.out.heap 0
    have x1 := cell_at q5.out.heap 1
    have x2 := cell_at q5.out.heap 2
    have xl := lt_of_heap q5.out.heap
    have y0 := cell_at q7.out.heap 0
    have y1 := cell_at q7.out.heap 1
    have y2 := cell_at q7.out.heap 2
    have yl := lt_of_heap q7.out.heap
    go_wp2_with fail
    refine (I11.out _ hv.out).mono ?_
    intro e v11 hM
    obtain ⟨a11, c11, L11, r11, rfl, d11, z11, s11⟩ := hM.open
    clear hM
    clear x0 x1 x2 xl y0 y1 y2 yl
    go_upto_region 9 with fail
    have q11 : Bx (v11.alloc (.cells #[.int .i64 b, .slice a11 L11.length c11, .int .i64 r11] 29)) v11.heap.size b _ a11 c11 L11 r11 := ⟨heap_new _ _, SliceAt.same d11 (by repeat (first | exact Fr.refl _ _ | apply Fr.alloc | apply Fr.drewN | apply Fr.drew | apply Fr.undrew | apply Fr.undrewN)), z11⟩
    have s11 := s11.same (show Same v11 (v11.alloc (.cells #[.int .i64 b, .slice a11 L11.length c11, .int .i64 r11] 29)) from (by repeat (first | exact Fr.refl _ _ | apply Fr.alloc | apply Fr.drewN | apply Fr.drew | apply Fr.undrew | apply Fr.undrewN)))
    clear d11 z11
    generalize v11.alloc (.cells #[.int .i64 b, .slice a11 L11.length c11, .int .i64 r11] 29) = w11 at *
    generalize v11.heap.size = b11 at *
    replace hw := Lib.hid (hw.out.same s11); replace q5 := Lib.hid (q5.out.same s11); replace q7 := Lib.hid (q7.out.same s11); replace hv := Lib.hid (hv.out.same s11); replace q9 := Lib.hid (q9.out.same s11)
    replace q11 := Lib.hid q11; replace s11 := Lib.hid s11
    clear s11 I11
    have x0 := cell_at q5.out.heap 0
    have x1 := cell_at q5.out.heap 1
    have x2 := cell_at q5.out.heap 2
    have xl := lt_of_heap q5.out.heap
    have y0 := cell_at q7.out.heap 0
    have y1 := cell_at q7.out.heap 1
    have y2 := cell_at q7.out.heap 2
    have yl := lt_of_heap q7.out.heap
    go_wp2_with fail
    refine (I13.out _ hv.out).mono ?_
    intro e v13 hM
    obtain ⟨j13, a13, c13, L13, r13, rfl, d13, z13, s13⟩ := siz_cl (k := 0) hM
    clear x0 x1 x2 xl y0 y1 y2 yl hM
    go_upto_region 10 with fail
    have q13 : Bx (v13.alloc (.cells #[.int .i64 b, .slice a13 L13.length c13, .int .i64 r13] 29)) v13.heap.size b _ a13 c13 L13 r13 := ⟨heap_new _ _, SliceAt.same d13 (by repeat (first | exact Fr.refl _ _ | apply Fr.alloc | apply Fr.drewN | apply Fr.drew | apply Fr.undrew | apply Fr.undrewN)), z13⟩
    have s13 := s13.same (show Same v13 (v13.alloc (.cells #[.int .i64 b, .slice a13 L13.length c13, .int .i64 r13] 29)) from (by repeat (first | exact Fr.refl _ _ | apply Fr.alloc | apply Fr.drewN | apply Fr.drew | apply Fr.undrew | apply Fr.undrewN)))
    clear d13 z13
    generalize v13.alloc (.cells #[.int .i64 b, .slice a13 L13.length c13, .int .i64 r13] 29) = w13 at *
    generalize v13.heap.size = b13 at *
    replace hw := Lib.hid (hw.out.same s13); replace q5 := Lib.hid (q5.out.same s13); replace q7 := Lib.hid (q7.out.same s13); replace hv := Lib.hid (hv.out.same s13); replace q9 := Lib.hid (q9.out.same s13); replace q11 := Lib.hid (q11.out.same s13)
    replace q13 := Lib.hid q13; replace s13 := Lib.hid s13
    clear s13 I13
    have x0 := cell_at q5.out.heap 0
    have x1 := cell_at q5.out.heap 1
    have x2 := cell_at q5.out.heap 2
    have xl := lt_of_heap q5.out.heap
    have y0 := cell_at q7.out.heap 0
    have y1 := cell_at q7.out.heap 1
    have y2 := cell_at q7.out.heap 2
    have yl := lt_of_heap q7.out.heap
    go_wp2_with fail
    refine (I16.out _ hv.out).mono ?_
    intro e v16 hM
    obtain ⟨j16, a16, c16, L16, r16, rfl, d16, z16, s16⟩ := siz_cl (k := 0) hM
    clear x0 x1 x2 xl y0 y1 y2 yl hM
    go_upto_region 11 with fail
    have q16 : Bx (v16.alloc (.cells #[.int .i64 b, .slice a16 L16.length c16, .int .i64 r16] 29)) v16.heap.size b _ a16 c16 L16 r16 := ⟨heap_new _ _, SliceAt.same d16 (by repeat (first | exact Fr.refl _ _ | apply Fr.alloc | apply Fr.drewN | apply Fr.drew | apply Fr.undrew | apply Fr.undrewN)), z16⟩
    have s16 := s16.same (show Same v16 (v16.alloc (.cells #[.int .i64 b, .slice a16 L16.length c16, .int .i64 r16] 29)) from (by repeat (first | exact Fr.refl _ _ | apply Fr.alloc | apply Fr.drewN | apply Fr.drew | apply Fr.undrew | apply Fr.undrewN)))
    clear d16 z16
    generalize v16.alloc (.cells #[.int .i64 b, .slice a16 L16.length c16, .int .i64 r16] 29) = w16 at *
    generalize v16.heap.size = b16 at *
    replace hw := Lib.hid (hw.out.same s16); replace q5 := Lib.hid (q5.out.same s16); replace q7 := Lib.hid (q7.out.same s16); replace q9 := Lib.hid (q9.out.same s16); replace q11 := Lib.hid (q11.out.same s16); replace q13 := Lib.hid (q13.out.same s16)
    replace q16 := Lib.hid q16; replace s16 := Lib.hid s16
    clear s16 I16 hv
    have x0 := cell_at q5.out.heap 0
    have xl := lt_of_heap q5.out.heap
    have y0 := cell_at q7.out.heap 0
    have yl := lt_of_heap q7.out.heap
    replace p1 := p1.out
    go_upto_region 14 with fail
    clear x0 xl y0 yl p1
    have E9 := equal_dg (d := ⟨b, a9, c9, L9, r9⟩) (d' := ⟨b, a7, c7, L7, r7⟩) q9.out.at' q7.out.at' ⟨rfl, q9.out.tab⟩ ⟨rfl, q7.out.tab⟩
    simp only [Dg.v, decide_true] at E9
    replace E9 := Lib.hid E9
    have x0 := cell_at q9.out.heap 0
    have x1 := cell_at q9.out.heap 1
    have x2 := cell_at q9.out.heap 2
    have xl := lt_of_heap q9.out.heap
    have y0 := cell_at q7.out.heap 0
    have y1 := cell_at q7.out.heap 1
    have y2 := cell_at q7.out.heap 2
    have yl := lt_of_heap q7.out.heap
    go_wp2_with fail
    refine E9.out.mono ?_
    rintro e w17 ⟨rfl, s17⟩
    clear x0 x1 x2 xl y0 y1 y2 yl E9 q9
    replace hw := Lib.hid (hw.out.same s17); replace q5 := Lib.hid (q5.out.same s17); replace q7 := Lib.hid (q7.out.same s17); replace q11 := Lib.hid (q11.out.same s17); replace q13 := Lib.hid (q13.out.same s17); replace q16 := Lib.hid (q16.out.same s17)
    clear s17
    have E11 := equal_dg (d := ⟨b, a11, c11, L11, r11⟩) (d' := ⟨b, a7, c7, L7, r7⟩) q11.out.at' q7.out.at' ⟨rfl, q11.out.tab⟩ ⟨rfl, q7.out.tab⟩
    simp only [Dg.v, decide_true] at E11
    replace E11 := Lib.hid E11
    have x0 := cell_at q11.out.heap 0
    have x1 := cell_at q11.out.heap 1
    have x2 := cell_at q11.out.heap 2
    have xl := lt_of_heap q11.out.heap
    have y0 := cell_at q7.out.heap 0
    have y1 := cell_at q7.out.heap 1
    have y2 := cell_at q7.out.heap 2
    have yl := lt_of_heap q7.out.heap
    go_wp2_with fail
    refine E11.out.mono ?_
    rintro e w18 ⟨rfl, s18⟩
    clear x0 x1 x2 xl y0 y1 y2 yl E11 q11
    replace hw := Lib.hid (hw.out.same s18); replace q5 := Lib.hid (q5.out.same s18); replace q7 := Lib.hid (q7.out.same s18); replace q13 := Lib.hid (q13.out.same s18); replace q16 := Lib.hid (q16.out.same s18)
    clear s18
    have E13 := equal_dg (d := ⟨b, a13, c13, L13, r13⟩) (d' := ⟨b, a7, c7, L7, r7⟩) q13.out.at' q7.out.at' ⟨rfl, q13.out.tab⟩ ⟨rfl, q7.out.tab⟩
    simp only [Dg.v, decide_true] at E13
    replace E13 := Lib.hid E13
    have x0 := cell_at q13.out.heap 0
    have x1 := cell_at q13.out.heap 1
    have x2 := cell_at q13.out.heap 2
    have xl := lt_of_heap q13.out.heap
    have y0 := cell_at q7.out.heap 0
    have y1 := cell_at q7.out.heap 1
    have y2 := cell_at q7.out.heap 2
    have yl := lt_of_heap q7.out.heap
    go_wp2_with fail
    refine E13.out.mono ?_
    rintro e w19 ⟨rfl, s19⟩
    clear x0 x1 x2 xl y0 y1 y2 yl E13 q13
    replace hw := Lib.hid (hw.out.same s19); replace q5 := Lib.hid (q5.out.same s19); replace q7 := Lib.hid (q7.out.same s19); replace q16 := Lib.hid (q16.out.same s19)
    clear s19
    have E16 := equal_dg (d := ⟨b, a16, c16, L16, r16⟩) (d' := ⟨b, a7, c7, L7, r7⟩) q16.out.at' q7.out.at' ⟨rfl, q16.out.tab⟩ ⟨rfl, q7.out.tab⟩
    simp only [Dg.v, decide_true] at E16
    replace E16 := Lib.hid E16
    have x0 := cell_at q16.out.heap 0
    have x1 := cell_at q16.out.heap 1
    have x2 := cell_at q16.out.heap 2
    have xl := lt_of_heap q16.out.heap
    have y0 := cell_at q7.out.heap 0
    have y1 := cell_at q7.out.heap 1
    have y2 := cell_at q7.out.heap 2
    have yl := lt_of_heap q7.out.heap
    go_wp2_with fail
    refine E16.out.mono ?_
    rintro e w21 ⟨rfl, s21⟩
    clear x0 x1 x2 xl y0 y1 y2 yl E16 q16
    replace hw := Lib.hid (hw.out.same s21); replace q5 := Lib.hid (q5.out.same s21); replace q7 := Lib.hid (q7.out.same s21)
    clear s21
  case' neg =>
    have hm2 : ((m : Int) == (B2 : Int)) = false := by
      have : ¬ m = B2 := fun h => hA (hmB.2 h)
      simp only [beq_eq_false_iff_ne, ne_eq]
      exact fun h => this (Int.ofNat_inj.1 h)
    have I9 : ∀ W, Same w7 W → Calls Tryz.prog 39 #[.agg #[.int .i64 m, .slice a5 L5.length c5, .int .i64 r5], .agg #[.int .i64 b, .slice a7 L7.length c7, .int .i64 r7]] W (fun e w' => e = .returned (.tuple #[.agg #[.int .i64 0, .slice none 0 0, .int .i64 0], .int .i64 4]) ∧ Same W w') := fun W hW => (IM.out ⟨m, a5, c5, L5, r5⟩ ⟨b, a7, c7, L7, r7⟩ W (q5.out.same hW).at' (q7.out.same hW).at' ⟨rfl, q5.out.tab⟩ ⟨rfl, q7.out.tab⟩).mono fun e w' h => by
      rw [if_neg hA] at h; exact siz_err h (by decide)
    have I11 : ∀ W, Same w7 W → Calls Tryz.prog 45 #[.agg #[.int .i64 m, .slice a5 L5.length c5, .int .i64 r5], .agg #[.int .i64 b, .slice a7 L7.length c7, .int .i64 r7]] W (fun e w' => e = .returned (.tuple #[.agg #[.int .i64 0, .slice none 0 0, .int .i64 0], .int .i64 4]) ∧ Same W w') := fun W hW => (PI.out ⟨m, a5, c5, L5, r5⟩ ⟨b, a7, c7, L7, r7⟩ W (q5.out.same hW).at' (q7.out.same hW).at' ⟨rfl, q5.out.tab⟩ ⟨rfl, q7.out.tab⟩).mono fun e w' h => by
      rw [if_neg hA] at h; exact siz_err h (by decide)
    have I13 : ∀ W, Same w7 W → Calls Tryz.prog 27 #[.agg #[.int .i64 m, .slice a5 L5.length c5, .int .i64 r5], .agg #[.int .i64 b, .slice a7 L7.length c7, .int .i64 r7]] W (fun e w' => e = .returned (.tuple #[.agg #[.int .i64 0, .slice none 0 0, .int .i64 0], .int .i64 0, .int .i64 4]) ∧ Same W w') := fun W hW => (FW.out ⟨m, a5, c5, L5, r5⟩ ⟨b, a7, c7, L7, r7⟩ W (q5.out.same hW).at' (q7.out.same hW).at' ⟨rfl, q5.out.tab⟩ ⟨rfl, q7.out.tab⟩).mono fun e w' h => by
      rw [if_neg hA] at h; exact siz_cle h (by decide)
    have I16 : ∀ W, Same w7 W → Calls Tryz.prog 28 #[.agg #[.int .i64 m, .slice a5 L5.length c5, .int .i64 r5], .agg #[.int .i64 b, .slice a7 L7.length c7, .int .i64 r7]] W (fun e w' => e = .returned (.tuple #[.agg #[.int .i64 0, .slice none 0 0, .int .i64 0], .int .i64 0, .int .i64 4]) ∧ Same W w') := fun W hW => (BW.out ⟨m, a5, c5, L5, r5⟩ ⟨b, a7, c7, L7, r7⟩ W (q5.out.same hW).at' (q7.out.same hW).at' ⟨rfl, q5.out.tab⟩ ⟨rfl, q7.out.tab⟩).mono fun e w' h => by
      rw [if_neg hA] at h; exact siz_cle h (by decide)
    have hv := Fr.refl (fun _ => False) w7
    clear hmB
    replace I9 := Lib.hid I9; replace I11 := Lib.hid I11; replace I13 := Lib.hid I13; replace I16 := Lib.hid I16; replace hA := Lib.hid hA; replace hv := Lib.hid hv
    have x0 := cell_at q5.out.heap 0
    have x1 := cell_at q5.out.heap 1
    have x2 := cell_at q5.out.heap 2
    have xl := lt_of_heap q5.out.heap
    have y0 := cell_at q7.out.heap 0
    have y1 := cell_at q7.out.heap 1
    have y2 := cell_at q7.out.heap 2
    have yl := lt_of_heap q7.out.heap
    go_wp2_with fail
    refine (I9.out _ hv.out).mono ?_
    rintro e v9 ⟨rfl, s9⟩
    clear x0 x1 x2 xl y0 y1 y2 yl I9
    go_upto_region 8 with fail
    have k9 := heap_new v9 (.cells #[.int .i64 0, .slice none 0 0, .int .i64 0] 29)
    have s9 := s9.same (show Same v9 (v9.alloc (.cells #[.int .i64 0, .slice none 0 0, .int .i64 0] 29)) from (by repeat (first | exact Fr.refl _ _ | apply Fr.alloc | apply Fr.drewN | apply Fr.drew | apply Fr.undrew | apply Fr.undrewN)))
    generalize v9.alloc (.cells #[.int .i64 0, .slice none 0 0, .int .i64 0] 29) = w9 at *
    generalize v9.heap.size = b9 at *
    replace hw := Lib.hid (hw.out.same s9); replace q5 := Lib.hid (q5.out.same s9); replace q7 := Lib.hid (q7.out.same s9); replace hv := Lib.hid (hv.out.same s9)
    clear s9
    replace k9 := Lib.hid k9
    have x0 := cell_at q5.out.heap 0
    have x1 := cell_at q5.out.heap 1
    have x2 := cell_at q5.out.heap 2
    have xl := lt_of_heap q5.out.heap
    have y0 := cell_at q7.out.heap 0
    have y1 := cell_at q7.out.heap 1
    have y2 := cell_at q7.out.heap 2
    have yl := lt_of_heap q7.out.heap
    go_wp2_with fail
    refine (I11.out _ hv.out).mono ?_
    rintro e v11 ⟨rfl, s11⟩
    clear x0 x1 x2 xl y0 y1 y2 yl I11
    go_upto_region 9 with fail
    have k11 := heap_new v11 (.cells #[.int .i64 0, .slice none 0 0, .int .i64 0] 29)
    have s11 := s11.same (show Same v11 (v11.alloc (.cells #[.int .i64 0, .slice none 0 0, .int .i64 0] 29)) from (by repeat (first | exact Fr.refl _ _ | apply Fr.alloc | apply Fr.drewN | apply Fr.drew | apply Fr.undrew | apply Fr.undrewN)))
    generalize v11.alloc (.cells #[.int .i64 0, .slice none 0 0, .int .i64 0] 29) = w11 at *
    generalize v11.heap.size = b11 at *
    replace hw := Lib.hid (hw.out.same s11); replace q5 := Lib.hid (q5.out.same s11); replace q7 := Lib.hid (q7.out.same s11); replace hv := Lib.hid (hv.out.same s11); replace k9 := Lib.hid (s11.at k9.out id)
    clear s11
    replace k11 := Lib.hid k11
    have x0 := cell_at q5.out.heap 0
    have x1 := cell_at q5.out.heap 1
    have x2 := cell_at q5.out.heap 2
    have xl := lt_of_heap q5.out.heap
    have y0 := cell_at q7.out.heap 0
    have y1 := cell_at q7.out.heap 1
    have y2 := cell_at q7.out.heap 2
    have yl := lt_of_heap q7.out.heap
    go_wp2_with fail
    refine (I13.out _ hv.out).mono ?_
    rintro e v13 ⟨rfl, s13⟩
    clear x0 x1 x2 xl y0 y1 y2 yl I13
    go_upto_region 10 with fail
    have k13 := heap_new v13 (.cells #[.int .i64 0, .slice none 0 0, .int .i64 0] 29)
    have s13 := s13.same (show Same v13 (v13.alloc (.cells #[.int .i64 0, .slice none 0 0, .int .i64 0] 29)) from (by repeat (first | exact Fr.refl _ _ | apply Fr.alloc | apply Fr.drewN | apply Fr.drew | apply Fr.undrew | apply Fr.undrewN)))
    generalize v13.alloc (.cells #[.int .i64 0, .slice none 0 0, .int .i64 0] 29) = w13 at *
    generalize v13.heap.size = b13 at *
    replace hw := Lib.hid (hw.out.same s13); replace q5 := Lib.hid (q5.out.same s13); replace q7 := Lib.hid (q7.out.same s13); replace hv := Lib.hid (hv.out.same s13); replace k9 := Lib.hid (s13.at k9.out id); replace k11 := Lib.hid (s13.at k11.out id)
    clear s13
    replace k13 := Lib.hid k13
    have x0 := cell_at q5.out.heap 0
    have x1 := cell_at q5.out.heap 1
    have x2 := cell_at q5.out.heap 2
    have xl := lt_of_heap q5.out.heap
    have y0 := cell_at q7.out.heap 0
    have y1 := cell_at q7.out.heap 1
    have y2 := cell_at q7.out.heap 2
    have yl := lt_of_heap q7.out.heap
    go_wp2_with fail
    refine (I16.out _ hv.out).mono ?_
    rintro e v16 ⟨rfl, s16⟩
    clear x0 x1 x2 xl y0 y1 y2 yl I16
    go_upto_region 11 with fail
    have k16 := heap_new v16 (.cells #[.int .i64 0, .slice none 0 0, .int .i64 0] 29)
    have s16 := s16.same (show Same v16 (v16.alloc (.cells #[.int .i64 0, .slice none 0 0, .int .i64 0] 29)) from (by repeat (first | exact Fr.refl _ _ | apply Fr.alloc | apply Fr.drewN | apply Fr.drew | apply Fr.undrew | apply Fr.undrewN)))
    generalize v16.alloc (.cells #[.int .i64 0, .slice none 0 0, .int .i64 0] 29) = w16 at *
    generalize v16.heap.size = b16 at *
    replace hw := Lib.hid (hw.out.same s16); replace q5 := Lib.hid (q5.out.same s16); replace q7 := Lib.hid (q7.out.same s16); replace hv := Lib.hid (hv.out.same s16); replace k9 := Lib.hid (s16.at k9.out id); replace k11 := Lib.hid (s16.at k11.out id); replace k13 := Lib.hid (s16.at k13.out id)
    clear s16
    replace k16 := Lib.hid k16
    clear hv
    have x0 := cell_at q5.out.heap 0
    have xl := lt_of_heap q5.out.heap
    have y0 := cell_at q7.out.heap 0
    have yl := lt_of_heap q7.out.heap
    replace p1 := p1.out
    go_upto_region 14 with fail
    clear x0 xl y0 yl p1
    have x0 := cell_at k9.out 0
    have x1 := cell_at k9.out 1
    have x2 := cell_at k9.out 2
    have xl := lt_of_heap k9.out
    go_wp2_with fail
    refine (none11 _).mono ?_
    rintro e w17 ⟨rfl, s17⟩
    clear x0 x1 x2 xl k9
    replace hw := Lib.hid (hw.out.same s17); replace q5 := Lib.hid (q5.out.same s17); replace q7 := Lib.hid (q7.out.same s17); replace k11 := Lib.hid (s17.at k11.out id); replace k13 := Lib.hid (s17.at k13.out id); replace k16 := Lib.hid (s17.at k16.out id)
    clear s17
    have x0 := cell_at k11.out 0
    have x1 := cell_at k11.out 1
    have x2 := cell_at k11.out 2
    have xl := lt_of_heap k11.out
    go_wp2_with fail
    refine (none11 _).mono ?_
    rintro e w18 ⟨rfl, s18⟩
    clear x0 x1 x2 xl k11
    replace hw := Lib.hid (hw.out.same s18); replace q5 := Lib.hid (q5.out.same s18); replace q7 := Lib.hid (q7.out.same s18); replace k13 := Lib.hid (s18.at k13.out id); replace k16 := Lib.hid (s18.at k16.out id)
    clear s18
    have x0 := cell_at k13.out 0
    have x1 := cell_at k13.out 1
    have x2 := cell_at k13.out 2
    have xl := lt_of_heap k13.out
    go_wp2_with fail
    refine (none11 _).mono ?_
    rintro e w19 ⟨rfl, s19⟩
    clear x0 x1 x2 xl k13
    replace hw := Lib.hid (hw.out.same s19); replace q5 := Lib.hid (q5.out.same s19); replace q7 := Lib.hid (q7.out.same s19); replace k16 := Lib.hid (s19.at k16.out id)
    clear s19
    have x0 := cell_at k16.out 0
    have x1 := cell_at k16.out 1
    have x2 := cell_at k16.out 2
    have xl := lt_of_heap k16.out
    go_wp2_with fail
    refine (none11 _).mono ?_
    rintro e w21 ⟨rfl, s21⟩
    clear x0 x1 x2 xl k16
    replace hw := Lib.hid (hw.out.same s21); replace q5 := Lib.hid (q5.out.same s21); replace q7 := Lib.hid (q7.out.same s21)
    clear s21
  all_goals
    clear hA hm2 IM PI FW BW
    have C20 := CP.out ⟨m, a5, c5, L5, r5⟩ ⟨b, a7, c7, L7, r7⟩ w21 q5.out.at' q7.out.at' ⟨rfl, q5.out.tab⟩ ⟨rfl, q7.out.tab⟩
    clear CP
    have x0 := cell_at q5.out.heap 0
    have x1 := cell_at q5.out.heap 1
    have x2 := cell_at q5.out.heap 2
    have xl := lt_of_heap q5.out.heap
    have y0 := cell_at q7.out.heap 0
    have y1 := cell_at q7.out.heap 1
    have y2 := cell_at q7.out.heap 2
    have yl := lt_of_heap q7.out.heap
    by_cases h0 : E = 0
    · have hmc0 := hmc.out h0
      have C21 : Calls Tryz.prog 38 #[.agg #[.int .i64 m, .slice a5 L5.length c5, .int .i64 r5], .agg #[.int .i64 b, .slice a7 L7.length c7, .int .i64 r7]] w21 (DgN m (tru m) w21) := C20.mono fun e w' h => by
        have := DgE.ok h h0
        rw [← hmc0] at this
        exact this
      have hE1 := hE.out
      rw [h0] at hE1
      have hmb : m = b ∧ u = 0 ∧ m ≤ 26 := by
        have := hu.out
        by_cases q1 : m ≠ b ∨ m % 2 = 1
        · rw [if_pos q1] at hE1; omega
        · rw [if_neg q1] at hE1
          by_cases q2 : 40 < 3 * (m / 2)
          · rw [if_pos q2] at hE1; omega
          · omega
      obtain ⟨hmb, hu0, hm26⟩ := hmb
      replace r1 : ((m : Nat) : Int).tmod 2 = 0 := by have := r1.out; rw [hu0] at this; simpa using this
      have f3 : ((26 : Int) < m) = False := by simp; omega
      have f4 : (26 < m) = False := by simp; omega
      clear hE1 hmc0 h0 C20 hu0 r2 hu hE hmc
      replace r1 := Lib.hid r1; replace f3 := Lib.hid f3; replace f4 := Lib.hid f4; replace hm26 := Lib.hid hm26; replace C21 := Lib.hid C21
      subst hmb
      go_wp2_with fail
      refine (C21.out).mono ?_
      intro e v20 hM
      obtain ⟨a20, c20, L20, r20, rfl, d20, z20, s20⟩ := hM.open
      clear hM
      clear x0 x1 x2 xl y0 y1 y2 yl
      go_upto_region 17 with fail
      have q20 : Bx (v20.alloc (.cells #[.int .i64 m, .slice a20 L20.length c20, .int .i64 r20] 29)) v20.heap.size m _ a20 c20 L20 r20 := ⟨heap_new _ _, SliceAt.same d20 (by repeat (first | exact Fr.refl _ _ | apply Fr.alloc | apply Fr.drewN | apply Fr.drew | apply Fr.undrew | apply Fr.undrewN)), z20⟩
      have s20 := s20.same (show Same v20 (v20.alloc (.cells #[.int .i64 m, .slice a20 L20.length c20, .int .i64 r20] 29)) from (by repeat (first | exact Fr.refl _ _ | apply Fr.alloc | apply Fr.drewN | apply Fr.drew | apply Fr.undrew | apply Fr.undrewN)))
      clear d20 z20
      generalize v20.alloc (.cells #[.int .i64 m, .slice a20 L20.length c20, .int .i64 r20] 29) = w20 at *
      generalize v20.heap.size = b20 at *
      replace hw := Lib.hid (hw.out.same s20); replace q5 := Lib.hid (q5.out.same s20); replace q7 := Lib.hid (q7.out.same s20)
      replace q20 := Lib.hid q20; replace s20 := Lib.hid s20
      clear s20 C21
      have x0 := cell_at q5.out.heap 0
      have x1 := cell_at q5.out.heap 1
      have x2 := cell_at q5.out.heap 2
      have xl := lt_of_heap q5.out.heap
      have y0 := cell_at q7.out.heap 0
      have y1 := cell_at q7.out.heap 1
      have y2 := cell_at q7.out.heap 2
      have yl := lt_of_heap q7.out.heap
      replace f3 := f3.out
      replace f4 := f4.out
      replace r1 := r1.out
      go_upto_region 22 with fail
      clear x0 x1 x2 xl y0 y1 y2 yl f3 f4 r1
      have E20 := equal_dg (d := ⟨m, a20, c20, L20, r20⟩) (d' := ⟨m, a5, c5, L5, r5⟩) q20.out.at' q5.out.at' ⟨rfl, q20.out.tab⟩ ⟨rfl, q5.out.tab⟩
      simp only [Dg.v, decide_true] at E20
      replace E20 := Lib.hid E20
      have x0 := cell_at q20.out.heap 0
      have x1 := cell_at q20.out.heap 1
      have x2 := cell_at q20.out.heap 2
      have xl := lt_of_heap q20.out.heap
      have y0 := cell_at q5.out.heap 0
      have y1 := cell_at q5.out.heap 1
      have y2 := cell_at q5.out.heap 2
      have yl := lt_of_heap q5.out.heap
      go_wp2_with fail
      refine E20.out.mono ?_
      rintro e w22 ⟨rfl, s22⟩
      clear x0 x1 x2 xl y0 y1 y2 yl E20
      replace hw := Lib.hid (hw.out.same s22)
      clear s22
      go_wp2_with fail
      go_ret
      exact ⟨rfl, hw.out⟩
    · have C21 := fun (T : Unit) => C20.mono fun e w' h => siz_err h h0
      have C21 := C21 ()
      have hE1 := hE.out
      clear C20
      by_cases q1 : m = b
      · by_cases q2 : u = 1
        · have hE4 : E = 4 := by rw [hE1, if_pos (.inr (by rw [← hu.out]; exact q2))]
          subst hE4
          replace r1 : ((m : Nat) : Int).tmod 2 = 1 := by have := r1.out; rw [q2] at this; simpa using this
          clear hE1 q2 h0 hu hE hmc r2
          replace r1 := Lib.hid r1; replace C21 := Lib.hid C21
          subst q1
          go_wp2_with fail
          refine C21.out.mono ?_
          rintro e v20 ⟨rfl, s20⟩
          clear x0 x1 x2 xl y0 y1 y2 yl C21
          go_upto_region 17 with fail
          have k20 := heap_new v20 (.cells #[.int .i64 0, .slice none 0 0, .int .i64 0] 29)
          have s20 := s20.same (show Same v20 (v20.alloc (.cells #[.int .i64 0, .slice none 0 0, .int .i64 0] 29)) from (by repeat (first | exact Fr.refl _ _ | apply Fr.alloc | apply Fr.drewN | apply Fr.drew | apply Fr.undrew | apply Fr.undrewN)))
          generalize v20.alloc (.cells #[.int .i64 0, .slice none 0 0, .int .i64 0] 29) = w20 at *
          generalize v20.heap.size = b20 at *
          replace hw := Lib.hid (hw.out.same s20); replace q5 := Lib.hid (q5.out.same s20); replace q7 := Lib.hid (q7.out.same s20)
          clear s20
          replace k20 := Lib.hid k20
          have x0 := cell_at q5.out.heap 0
          have x1 := cell_at q5.out.heap 1
          have x2 := cell_at q5.out.heap 2
          have xl := lt_of_heap q5.out.heap
          have y0 := cell_at q7.out.heap 0
          have y1 := cell_at q7.out.heap 1
          have y2 := cell_at q7.out.heap 2
          have yl := lt_of_heap q7.out.heap
          skip
          replace r1 := r1.out
          go_upto_region 22 with fail
          clear x0 x1 x2 xl y0 y1 y2 yl r1 
          have x0 := cell_at k20.out 0
          have x1 := cell_at k20.out 1
          have x2 := cell_at k20.out 2
          have xl := lt_of_heap k20.out
          go_wp2_with fail
          refine (none11 _).mono ?_
          rintro e w22 ⟨rfl, s22⟩
          clear x0 x1 x2 xl k20
          replace hw := Lib.hid (hw.out.same s22)
          clear s22
          go_wp2_with fail
          go_ret
          exact ⟨rfl, hw.out⟩
        · have hn1 : ¬ (m ≠ b ∨ m % 2 = 1) := by have := hu.out; omega
          rw [if_neg hn1] at hE1
          have hE3 : E = 3 ∧ 26 < m := by
            by_cases q3 : 40 < 3 * (m / 2)
            · rw [if_pos q3] at hE1; exact ⟨hE1, by omega⟩
            · rw [if_neg q3] at hE1; exact absurd hE1 h0
          obtain ⟨hE3, hm26⟩ := hE3
          subst hE3
          have hu0 : u = 0 := by have := hu.out; omega
          replace r1 : ((m : Nat) : Int).tmod 2 = 0 := by have := r1.out; rw [hu0] at this; simpa using this
          have f3 : ((26 : Int) < m) = True := by simp; omega
          clear hE1 q2 h0 hn1 hu0 hu hE hmc r2
          replace r1 := Lib.hid r1; replace C21 := Lib.hid C21; replace f3 := Lib.hid f3; replace hm26 := Lib.hid hm26
          subst q1
          go_wp2_with fail
          refine C21.out.mono ?_
          rintro e v20 ⟨rfl, s20⟩
          clear x0 x1 x2 xl y0 y1 y2 yl C21
          go_upto_region 17 with fail
          have k20 := heap_new v20 (.cells #[.int .i64 0, .slice none 0 0, .int .i64 0] 29)
          have s20 := s20.same (show Same v20 (v20.alloc (.cells #[.int .i64 0, .slice none 0 0, .int .i64 0] 29)) from (by repeat (first | exact Fr.refl _ _ | apply Fr.alloc | apply Fr.drewN | apply Fr.drew | apply Fr.undrew | apply Fr.undrewN)))
          generalize v20.alloc (.cells #[.int .i64 0, .slice none 0 0, .int .i64 0] 29) = w20 at *
          generalize v20.heap.size = b20 at *
          replace hw := Lib.hid (hw.out.same s20); replace q5 := Lib.hid (q5.out.same s20); replace q7 := Lib.hid (q7.out.same s20)
          clear s20
          replace k20 := Lib.hid k20
          have x0 := cell_at q5.out.heap 0
          have x1 := cell_at q5.out.heap 1
          have x2 := cell_at q5.out.heap 2
          have xl := lt_of_heap q5.out.heap
          have y0 := cell_at q7.out.heap 0
          have y1 := cell_at q7.out.heap 1
          have y2 := cell_at q7.out.heap 2
          have yl := lt_of_heap q7.out.heap
          replace f3 := f3.out; replace hm26 := hm26.out
          replace r1 := r1.out
          go_upto_region 22 with fail
          clear x0 x1 x2 xl y0 y1 y2 yl r1 f3 hm26
          have x0 := cell_at k20.out 0
          have x1 := cell_at k20.out 1
          have x2 := cell_at k20.out 2
          have xl := lt_of_heap k20.out
          go_wp2_with fail
          refine (none11 _).mono ?_
          rintro e w22 ⟨rfl, s22⟩
          clear x0 x1 x2 xl k20
          replace hw := Lib.hid (hw.out.same s22)
          clear s22
          go_wp2_with fail
          go_ret
          exact ⟨rfl, hw.out⟩
      · have hE4 : E = 4 := by rw [hE1, if_pos (.inl q1)]
        subst hE4
        have f1 : ((m : Int) == (b : Int)) = false := by
          simp only [beq_eq_false_iff_ne, ne_eq]
          exact fun h => q1 (Int.ofNat_inj.1 h)
        have f5 : (m = b) = False := by simp [q1]
        clear hE1 q1 h0 hE hmc r2
        replace C21 := Lib.hid C21; replace f1 := Lib.hid f1; replace f5 := Lib.hid f5
        go_wp2_with fail
        refine C21.out.mono ?_
        rintro e v20 ⟨rfl, s20⟩
        clear x0 x1 x2 xl y0 y1 y2 yl C21
        go_upto_region 17 with fail
        have k20 := heap_new v20 (.cells #[.int .i64 0, .slice none 0 0, .int .i64 0] 29)
        have s20 := s20.same (show Same v20 (v20.alloc (.cells #[.int .i64 0, .slice none 0 0, .int .i64 0] 29)) from (by repeat (first | exact Fr.refl _ _ | apply Fr.alloc | apply Fr.drewN | apply Fr.drew | apply Fr.undrew | apply Fr.undrewN)))
        generalize v20.alloc (.cells #[.int .i64 0, .slice none 0 0, .int .i64 0] 29) = w20 at *
        generalize v20.heap.size = b20 at *
        replace hw := Lib.hid (hw.out.same s20); replace q5 := Lib.hid (q5.out.same s20); replace q7 := Lib.hid (q7.out.same s20)
        clear s20
        replace k20 := Lib.hid k20
        have x0 := cell_at q5.out.heap 0
        have x1 := cell_at q5.out.heap 1
        have x2 := cell_at q5.out.heap 2
        have xl := lt_of_heap q5.out.heap
        have y0 := cell_at q7.out.heap 0
        have y1 := cell_at q7.out.heap 1
        have y2 := cell_at q7.out.heap 2
        have yl := lt_of_heap q7.out.heap
        replace f1 := f1.out; replace f5 := f5.out
        replace r1 := r1.out
        go_upto_region 22 with fail
        clear x0 x1 x2 xl y0 y1 y2 yl r1 f1 f5
        have x0 := cell_at k20.out 0
        have x1 := cell_at k20.out 1
        have x2 := cell_at k20.out 2
        have xl := lt_of_heap k20.out
        go_wp2_with fail
        refine (none11 _).mono ?_
        rintro e w22 ⟨rfl, s22⟩
        clear x0 x1 x2 xl k20
        replace hw := Lib.hid (hw.out.same s22)
        clear s22
        go_wp2_with fail
        go_ret
        exact ⟨rfl, hw.out⟩
end Go.Proofs.YtcdkklddingfpaaGreat
namespace Go.Proofs.YtcdkklddingfpaaGreat.relationSizes
open Go.ChangeShapes Go.WideShapes Go.ChangeAt Go.RowKit
set_option linter.unusedVariables false

theorem own : ownKnob Tryz.prog.godebug = none := by kernel_rfl

set_option maxRecDepth 100000 in
theorem lifted (os : Os) (started : os.Started) (H : Type) (enc : TypeId × Value → H) :
    ReturnsInHanded {} Tryz.checked os 11 .any (Rows.relationSizesSpec.pre6 enc Tryz.prog Tryz.f11 Rows.relationSizesRow.domain false) (Rows.relationSizesSpec.post enc Tryz.prog Tryz.f11 false true false false) := by
  refine returnsInHanded_of_change (C := Tryz.checked) own started (by kernel_rfl) Tryz.func11
    (ChangeSpec.witness6 (enc := enc) (C := Tryz.checked) false ⟨#[], #[.int .u8 0, .int .u8 0], []⟩ 8 (by kernel_rfl) (by kernel_rfl) (by kernel_rfl) (by kernel_rfl)) ?_
  intro W base args ds gs before hval0 hW hcnd _
  have hval : ∀ (j : Nat) t v, Tryz.f11.params[j]? = some t → args[j]? = some v → Value.okWide Tryz.prog W .any base t v := hval0
  have hW' := hW
  obtain ⟨p, q, hA0, hV, rfl, hfz, hnd⟩ := hW
  have hA : DataW.TrodAll enc Tryz.prog W 0 (fun _ => true) true Tryz.f11.params.toList args.toList ds p := hA0
  rw [Tryz.params11] at hA hval
  obtain ⟨v0, vs0, d0, ds0, p0, q0, hargs, rfl, rfl, h0, r0⟩ := trodAll_cons hA
  obtain ⟨v1, vs1, d1, ds1, p1, q1, rfl, rfl, rfl, h1, r1⟩ := trodAll_cons r0
  obtain ⟨rfl, rfl, rfl⟩ := trodAll_nil r1
  obtain rfl : args = #[v0, v1] := by cases args; simp_all
  obtain ⟨rfl, rfl⟩ := trodVars_none hV
  obtain ⟨a0, rfl, rfl, rfl, w0⟩ := open_int Tryz.underlying5 (hval 0 5 v0 rfl rfl) h0
  obtain ⟨a1, rfl, rfl, rfl, w1⟩ := open_int Tryz.underlying5 (hval 1 5 v1 rfl rfl) h1
  clear hA0 hval0
  simp only [List.append_nil] at hW'
  refine (rsizes_any a0 (u8_wf w0) a1 (u8_wf w1) W).mono fun e W' ⟨he, hg⟩ => ?_
  subst he
  exact ⟨_, rfl, post_fr (pa := []) (pv := []) hW' (fun _ _ _ => (trodAll_cons_mk (shut_bool Tryz.underlying4 _) trodAll_mk0)) (fun sp SP => (trodAll_cons_mk (shut_int Tryz.underlying5 w0) (trodAll_cons_mk (shut_int Tryz.underlying5 w1) trodAll_mk0))) (fun _ _ => rfl) (rfl) hg (ok_one (by kernel_rfl) rfl (okWide_bool_mk Tryz.underlying4 _))⟩

theorem over : Rows.relationSizesRow.holds Tryz.pinned (OpenSpec.ofChange Rows.relationSizesSpec) :=
  OpenClaim.holds_of_wide 11 Tryz.f11 rfl rfl rfl rfl rfl rfl rfl ⟨rfl, rfl, rfl, rfl, rfl⟩ rfl rfl rfl rfl rfl (by kernel_rfl) Tryz.func11 (by kernel_rfl)
    (of_decide_eq_true (by kernel_rfl)) (by unfold Func.isWrapper; first | (rw [if_pos (by decide +kernel)]; kernel_rfl) | (rw [if_neg (by decide +kernel)]; exact ⟨rfl, rfl⟩))
    (fun os started H enc _ => lifted os started H enc)
end Go.Proofs.YtcdkklddingfpaaGreat.relationSizes

namespace Go.Proofs.YtcdkklddingfpaaGreat
/-- The given statement. -/
theorem relationSizes_holds : Rows.RelationSizesSaid := relationSizes.over
#print axioms relationSizes_holds
end Go.Proofs.YtcdkklddingfpaaGreat
