/- Not, And, Or, Xor, Ite of canonical diagrams. -/
import Derived.Test.YtaebjalpebgliaaComb
import Derived.Test.YtaebjalpebgliaaCanonC
namespace Go.Proofs.Ytaebjalpebgliaa
open Go.RowKit
set_option linter.unusedVariables false
set_option linter.unusedSimpArgs false

theorem enter_Not (args : Array Value) (W : World) : (callFunc 49 args).run Try.prog W = .ok (.enter 49 args) W := by kernel_rfl
theorem enter_And (args : Array Value) (W : World) : (callFunc 51 args).run Try.prog W = .ok (.enter 51 args) W := by kernel_rfl
theorem enter_Or (args : Array Value) (W : World) : (callFunc 52 args).run Try.prog W = .ok (.enter 52 args) W := by kernel_rfl
theorem enter_Xor (args : Array Value) (W : World) : (callFunc 53 args).run Try.prog W = .ok (.enter 53 args) W := by kernel_rfl
theorem enter_Ite (args : Array Value) (W : World) : (callFunc 54 args).run Try.prog W = .ok (.enter 54 args) W := by kernel_rfl

/-- Check accepts a canonical diagram. -/
theorem check_tab (d : Dg) (n : Nat) (t : List Bool) (w : World) (hat : d.at w) (T : d.tab n t) :
    Calls Try.prog 23 #[d.v] w fun e w' => e = .returned (.int .i64 0) ∧ Same w w' := by
  obtain ⟨T1, T2⟩ := T
  obtain ⟨h0, fuel, s', hv, hs⟩ := check_canon T2
  have := check_any d.n d.r d.a d.cap d.L w hat (by have := T2.short; omega) d.L d.r (fun _ _ _ _ _ => ⟨fuel, s', hv, hs, T2.short⟩)
  rw [T1, h0] at this
  rw [Dg.v, T1]
  exact this

theorem checks_tab (a : Option Addr) (cap : Nat) (l : List Dg) (w : World) (h : DgsAt w a cap l) (hl : l.length ≤ 1000) (hat : ∀ d ∈ l, d.at w) (ht : ∀ d ∈ l, ∃ (n : Nat) (t : List Bool), d.tab n t) :
    Calls Try.prog 76 #[.slice a l.length cap] w fun e w' => e = .returned (.int .i64 (if ∃ d ∈ l, d.n ≠ (l.head?.map Dg.n).getD 0 then 4 else 0)) ∧ Same w w' := by
  have hz : firstC (fun _ => 0) l = 0 := by
    clear h hl hat ht
    induction l with
    | nil => rfl
    | cons x l ih => simp [firstC, ih]
  have := checks_any a cap l (fun _ => 0) w h hl (fun d hd W hs => by
    obtain ⟨n, t, T⟩ := ht d hd
    exact check_tab d n t W (SliceAt.same (hat d hd) hs) T)
  unfold checksF at this
  rw [hz, if_neg (by simp)] at this
  exact this

theorem comb_tab (F : FuncId) (eF : ∀ (args : Array Value) (W : World), (callFunc F args).run Try.prog W = .ok (.enter F args) W) (a : Option Addr) (cap : Nat) (l : List Dg) (w : World) (h : DgsAt w a cap l) (hl : l.length ≤ 3) (h0 : 0 < l.length) (hat : ∀ d ∈ l, d.at w)
    (n : Nat) (ts : List (List Bool)) (hd : DgTabs n l ts) (t' : List Bool) (h40 : n ≤ 40) (hshort : (tableF n [] 0 t').1.length ≤ 16384)
    (hdo : ∀ N ks, Ord N n → Tabs N n ks ts → N.length ≤ 60000 → ks.length = l.length → ∃ N' k, Ord N' n ∧ VNum N' k ∧ tab N' n 0 k = t' ∧ N'.length ≤ 100000 ∧
      ∀ W B p m mm a' cap' ar cr, BuilderAt W B p m a' cap' N → MapAt ndv (Value.int .i64) W mm ([] : List (Nd × Int)) → mm ≠ m → SliceAt W 3 1 (.slice ar l.length cr) l.length (intCells ks) →
        Calls Try.prog F #[.pointer (some ⟨p, 0, none⟩), .slice ar l.length cr, .map (some mm)] W (DoRet W B p m mm a' cap' N N' k)) :
    Calls Try.prog 48 #[.func (.func F) #[] #[], .slice a l.length cap] w (DRet w n (tableF n [] 0 t').1 (tableF n [] 0 t').2) := by
  obtain ⟨a1, _, a3⟩ := addAll_tabs l ts [] [] [] (Ord.nil (n := n) (by omega)) trivial hd
  rw [List.nil_append] at a3
  have alen := addAllF_length l ([], [])
  have hs : ∀ d ∈ l, d.L.length ≤ 16384 := fun d hd' => by
    obtain ⟨t, ht⟩ := hd.mem d hd'
    exact ht.2.short
  have blen := addAllF_length1 (M := 16384) l ([], []) hs
  have blen' : (addAllF l ([], [])).1.length ≤ 60000 := by
    have : l.length * 16384 ≤ 3 * 16384 := Nat.mul_le_mul_right _ hl
    simp at blen
    omega
  obtain ⟨N', k, b1, b2, b3, b4, b5⟩ := hdo _ _ a1 a3 blen' (by simpa using alen)
  obtain ⟨s', c1, c2⟩ := finish_table b1 b2
  rw [b3] at c1 c2
  have hn : ∀ d ∈ l, d.n = n := fun d hd' => by
    obtain ⟨t, ht⟩ := hd.mem d hd'
    exact ht.1
  have hne : ¬ ∃ d ∈ l, d.n ≠ (l.head?.map Dg.n).getD 0 := by
    rintro ⟨d, hd', he⟩
    apply he
    cases l with
    | nil => simp at h0
    | cons x l => simp [hn d hd', hn x (by simp)]
  have e0 : (l[0]'h0).n = n := hn _ (List.getElem_mem _)
  rw [← e0]
  refine comb_any F eF a cap l w h (by omega) h0 hat (fun d hd' => ?_) (addAllF_cap hd (by omega)) N' k (n + 1) s' _ _ ?_ b1.val b4 b2 c1 c2 hshort (fun W hW => ?_)
  · obtain ⟨t, ht⟩ := hd.mem d hd'
    exact ht.ok
  · intro W B p m mm a' cap' ar cr x1 x2 x3 x4
    exact b5 W B p m mm a' cap' ar cr x1 x2 x3 x4
  · have := checks_tab a cap l W (SliceAt.same h hW) (by omega) (fun d hd' => SliceAt.same (hat d hd') hW) (fun d hd' => by
      obtain ⟨t, ht⟩ := hd.mem d hd'
      exact ⟨n, t, ht⟩)
    rw [if_neg hne] at this
    exact this

theorem comb_size (v : Value) (a : Option Addr) (cap : Nat) (l : List Dg) (w : World) (h : DgsAt w a cap l) (hl : l.length ≤ 1000) (hat : ∀ d ∈ l, d.at w) (ht : ∀ d ∈ l, ∃ (n : Nat) (t : List Bool), d.tab n t)
    (hne : ∃ d ∈ l, d.n ≠ (l.head?.map Dg.n).getD 0) : Calls Try.prog 48 #[v, .slice a l.length cap] w (DErr w 4) := by
  refine comb_err v a cap l.length 4 (by decide) w (fun W hW => ?_)
  have := checks_tab a cap l W (SliceAt.same h hW) hl (fun d hd' => SliceAt.same (hat d hd') hW) ht
  rw [if_pos hne] at this
  exact this

/-- ite is there, within bounds, for few variables. -/
theorem ite_there {n : Nat} (hn : n ≤ 10) {s : Is} {f g h : Int} (hN : Ord s.1 n) (hM : Memo s.1 n s.2) (hf : VNum s.1 f) (hg : VNum s.1 g) (hh : VNum s.1 h) :
    ∃ s' k, iteF (n + 1) s f g h = some (s', k) ∧ Ord s'.1 n ∧ Memo s'.1 n s'.2 ∧ s.1 <+: s'.1 ∧ VNum s'.1 k ∧ tab s'.1 n 0 k = ite3 (tab s.1 n 0 f) (tab s.1 n 0 g) (tab s.1 n 0 h) ∧ s'.1.length ≤ s.1.length + 1024 := by
  obtain ⟨s', k, a1, a2, a3, a4, a5, a6, a7, a8⟩ := ite_right (n := n) n 0 f g h s (n + 1) hN hM hf hg hh (topF_range hN.val hf).1 (topF_range hN.val hg).1 (topF_range hN.val hh).1 (by omega) (by omega) (by omega)
  have h2 : 2 ^ n ≤ 2 ^ 10 := Nat.pow_le_pow_right (by omega) hn
  exact ⟨s', k, a1, a2, a3, a4, a5, a7, by omega⟩

theorem tab_short {n : Nat} (hn : n ≤ 10) (t : List Bool) : (tableF n [] 0 t).1.length ≤ 16384 := by
  have := tableF_length n [] 0 t
  have h2 : 2 ^ n ≤ 2 ^ 10 := Nat.pow_le_pow_right (by omega) hn
  simp at this
  omega

theorem Tabs.one {N : List Nd} {n : Nat} {ks : List Int} {t : List Bool} (h : Tabs N n ks [t]) : ∃ k, ks = [k] ∧ VNum N k ∧ tab N n 0 k = t := by
  match ks, h with
  | [k], h => exact ⟨k, rfl, h.1, h.2.1⟩
theorem Tabs.two {N : List Nd} {n : Nat} {ks : List Int} {t u : List Bool} (h : Tabs N n ks [t, u]) : ∃ k j, ks = [k, j] ∧ (VNum N k ∧ tab N n 0 k = t) ∧ VNum N j ∧ tab N n 0 j = u := by
  match ks, h with
  | [k, j], h => exact ⟨k, j, rfl, ⟨h.1, h.2.1⟩, h.2.2.1, h.2.2.2.1⟩
theorem Tabs.three {N : List Nd} {n : Nat} {ks : List Int} {t u x : List Bool} (h : Tabs N n ks [t, u, x]) : ∃ k j i, ks = [k, j, i] ∧ (VNum N k ∧ tab N n 0 k = t) ∧ (VNum N j ∧ tab N n 0 j = u) ∧ VNum N i ∧ tab N n 0 i = x := by
  match ks, h with
  | [k, j, i], h => exact ⟨k, j, i, rfl, ⟨h.1, h.2.1⟩, ⟨h.2.2.1, h.2.2.2.1⟩, h.2.2.2.2.1, h.2.2.2.2.2.1⟩

theorem vnum0 (N : List Nd) : VNum N 0 := ⟨by omega, by omega⟩
theorem vnum1 (N : List Nd) : VNum N 1 := ⟨by omega, by omega⟩

def fls (n : Nat) : List Bool := List.replicate (2 ^ n) false
def tru (n : Nat) : List Bool := List.replicate (2 ^ n) true

theorem tab0 (N : List Nd) {n : Nat} (h : n ≤ 40) : tab N n 0 0 = fls n := tab_zero _ _ _ (by omega)
theorem tab1 (N : List Nd) {n : Nat} (h : n ≤ 40) : tab N n 0 1 = tru n := tab_one _ _ _ (by omega)

theorem not_right (n : Nat) (d : Dg) (t : List Bool) (w : World) (hn : n ≤ 10) (hat : d.at w) (T : d.tab n t) :
    Calls Try.prog 15 #[d.v] w (DRet w n (tableF n [] 0 (ite3 t (fls n) (tru n))).1 (tableF n [] 0 (ite3 t (fls n) (tru n))).2) := by
  refine not_call d n _ _ 0 w (fun W a hW hD => ?_)
  refine (comb_tab 49 enter_Not a 1 [d] W hD (by simp) (by simp) (fun x hx => by simp at hx; subst hx; exact SliceAt.same hat hW) n [t] ⟨T, trivial⟩ (ite3 t (fls n) (tru n)) (by omega) (tab_short hn _) ?_)
  intro N ks hN hT hl _
  obtain ⟨k, rfl, hk, ht⟩ := hT.one
  obtain ⟨s', r, a1, a2, a3, a4, a5, a6, a7⟩ := ite_there (s := (N, [])) hn hN (Memo.nil _ _) hk (vnum0 N) (vnum1 N)
  simp only at a6 a7
  refine ⟨s'.1, r, a2, a5, by rw [a6, ht, tab0 _ (by omega), tab1 _ (by omega)], by omega, ?_⟩
  intro W B p m mm a' cap' ar cr h1 h2 h3 h4
  exact not_do (n + 1) B p m mm a' cap' N ar cr k s' r W h1 h2 h3 hN.val h4 hk a1 (by omega)

theorem and_right (n : Nat) (d d' : Dg) (t t' : List Bool) (w : World) (hn : n ≤ 10) (hat : d.at w) (hat' : d'.at w) (T : d.tab n t) (T' : d'.tab n t') :
    Calls Try.prog 16 #[d.v, d'.v] w (DRet w n (tableF n [] 0 (ite3 t t' (fls n))).1 (tableF n [] 0 (ite3 t t' (fls n))).2) := by
  refine and_call d d' n _ _ 0 w (fun W a hW hD => ?_)
  refine (comb_tab 51 enter_And a 2 [d, d'] W hD (by simp) (by simp) (fun x hx => by simp at hx; rcases hx with rfl | rfl <;> exact SliceAt.same (by assumption) hW) n [t, t'] ⟨T, T', trivial⟩ _ (by omega) (tab_short hn _) ?_)
  intro N ks hN hT hl _
  obtain ⟨k, j, rfl, ⟨hk, ht⟩, hj, hu⟩ := hT.two
  obtain ⟨s', r, a1, a2, a3, a4, a5, a6, a7⟩ := ite_there (s := (N, [])) hn hN (Memo.nil _ _) hk hj (vnum0 N)
  simp only at a6 a7
  refine ⟨s'.1, r, a2, a5, by rw [a6, ht, hu, tab0 _ (by omega)], by omega, ?_⟩
  intro W B p m mm a' cap' ar cr h1 h2 h3 h4
  exact and_do (n + 1) B p m mm a' cap' N ar cr k j s' r W h1 h2 h3 hN.val h4 hk hj a1 (by omega)

theorem or_right (n : Nat) (d d' : Dg) (t t' : List Bool) (w : World) (hn : n ≤ 10) (hat : d.at w) (hat' : d'.at w) (T : d.tab n t) (T' : d'.tab n t') :
    Calls Try.prog 17 #[d.v, d'.v] w (DRet w n (tableF n [] 0 (ite3 t (tru n) t')).1 (tableF n [] 0 (ite3 t (tru n) t')).2) := by
  refine or_call d d' n _ _ 0 w (fun W a hW hD => ?_)
  refine (comb_tab 52 enter_Or a 2 [d, d'] W hD (by simp) (by simp) (fun x hx => by simp at hx; rcases hx with rfl | rfl <;> exact SliceAt.same (by assumption) hW) n [t, t'] ⟨T, T', trivial⟩ _ (by omega) (tab_short hn _) ?_)
  intro N ks hN hT hl _
  obtain ⟨k, j, rfl, ⟨hk, ht⟩, hj, hu⟩ := hT.two
  obtain ⟨s', r, a1, a2, a3, a4, a5, a6, a7⟩ := ite_there (s := (N, [])) hn hN (Memo.nil _ _) hk (vnum1 N) hj
  simp only at a6 a7
  refine ⟨s'.1, r, a2, a5, by rw [a6, ht, hu, tab1 _ (by omega)], by omega, ?_⟩
  intro W B p m mm a' cap' ar cr h1 h2 h3 h4
  exact or_do (n + 1) B p m mm a' cap' N ar cr k j s' r W h1 h2 h3 hN.val h4 hk hj a1 (by omega)

theorem xor_right (n : Nat) (d d' : Dg) (t t' : List Bool) (w : World) (hn : n ≤ 10) (hat : d.at w) (hat' : d'.at w) (T : d.tab n t) (T' : d'.tab n t') :
    Calls Try.prog 18 #[d.v, d'.v] w (DRet w n (tableF n [] 0 (ite3 t (ite3 t' (fls n) (tru n)) t')).1 (tableF n [] 0 (ite3 t (ite3 t' (fls n) (tru n)) t')).2) := by
  refine xor_call d d' n _ _ 0 w (fun W a hW hD => ?_)
  refine (comb_tab 53 enter_Xor a 2 [d, d'] W hD (by simp) (by simp) (fun x hx => by simp at hx; rcases hx with rfl | rfl <;> exact SliceAt.same (by assumption) hW) n [t, t'] ⟨T, T', trivial⟩ _ (by omega) (tab_short hn _) ?_)
  intro N ks hN hT hl _
  obtain ⟨k, j, rfl, ⟨hk, ht⟩, hj, hu⟩ := hT.two
  obtain ⟨s1, r1, a1, a2, a3, a4, a5, a6, a7⟩ := ite_there (s := (N, [])) hn hN (Memo.nil _ _) hj (vnum0 N) (vnum1 N)
  simp only at a4 a6 a7
  obtain ⟨s', r, b1, b2, b3, b4, b5, b6, b7⟩ := ite_there hn a2 a3 (hk.ext a4) a5 (hj.ext a4)
  refine ⟨s'.1, r, b2, b5, ?_, by omega, ?_⟩
  · rw [b6, a6, tab_ext hN a4 n 0 k (by omega) hk (topF_range hN.val hk).1, tab_ext hN a4 n 0 j (by omega) hj (topF_range hN.val hj).1, ht, hu, tab0 _ (by omega), tab1 _ (by omega)]
  · intro W B p m mm a' cap' ar cr h1 h2 h3 h4
    exact xor_do (n + 1) B p m mm a' cap' N ar cr k j s1 s' r1 r W h1 h2 h3 hN.val h4 hk hj a1 b1 (by omega)

theorem ite_rt (n : Nat) (d d' d'' : Dg) (t t' t'' : List Bool) (w : World) (hn : n ≤ 10) (hat : d.at w) (hat' : d'.at w) (hat'' : d''.at w) (T : d.tab n t) (T' : d'.tab n t') (T'' : d''.tab n t'') :
    Calls Try.prog 19 #[d.v, d'.v, d''.v] w (DRet w n (tableF n [] 0 (ite3 t t' t'')).1 (tableF n [] 0 (ite3 t t' t'')).2) := by
  refine ite_call d d' d'' n _ _ 0 w (fun W a hW hD => ?_)
  refine (comb_tab 54 enter_Ite a 3 [d, d', d''] W hD (by simp) (by simp) (fun x hx => by simp at hx; rcases hx with rfl | rfl | rfl <;> exact SliceAt.same (by assumption) hW) n [t, t', t''] ⟨T, T', T'', trivial⟩ _ (by omega) (tab_short hn _) ?_)
  intro N ks hN hT hl _
  obtain ⟨k, j, i, rfl, ⟨hk, ht⟩, ⟨hj, hu⟩, hi, hx⟩ := hT.three
  obtain ⟨s', r, a1, a2, a3, a4, a5, a6, a7⟩ := ite_there (s := (N, [])) hn hN (Memo.nil _ _) hk hj hi
  simp only at a6 a7
  refine ⟨s'.1, r, a2, a5, by rw [a6, ht, hu, hx], by omega, ?_⟩
  intro W B p m mm a' cap' ar cr h1 h2 h3 h4
  exact ite_do (n + 1) B p m mm a' cap' N ar cr k j i s' r W h1 h2 h3 hN.val h4 hk hj hi a1 (by omega)

/-- .. of diagrams with other numbers of variables. -/
theorem two_size {F : FuncId} (d d' : Dg) (n n' : Nat) (t t' : List Bool) (w : World) (hat : d.at w) (hat' : d'.at w) (T : d.tab n t) (T' : d'.tab n' t') (hne : n ≠ n') (v : Value) (W : World) (a : Option Addr) (hW : Same w W) (hD : DgsAt W a 2 [d, d']) :
    Calls Try.prog 48 #[v, .slice a 2 2] W (DOut W 0 [] 0 4) := by
  refine (comb_size v a 2 [d, d'] W hD (by simp) (fun x hx => by simp at hx; rcases hx with rfl | rfl <;> exact SliceAt.same (by assumption) hW) (fun x hx => by simp at hx; rcases hx with rfl | rfl; exact ⟨n, t, T⟩; exact ⟨n', t', T'⟩) ?_).mono fun e w' h => h.out
  exact ⟨d', by simp, by simp [T.1, T'.1]; omega⟩

theorem three_size (d d' d'' : Dg) (n n' n'' : Nat) (t t' t'' : List Bool) (w : World) (hat : d.at w) (hat' : d'.at w) (hat'' : d''.at w) (T : d.tab n t) (T' : d'.tab n' t') (T'' : d''.tab n'' t'') (hne : n ≠ n' ∨ n ≠ n'') :
    Calls Try.prog 19 #[d.v, d'.v, d''.v] w (DOut w 0 [] 0 4) := by
  refine ite_call d d' d'' 0 _ _ 4 w (fun W a hW hD => ?_)
  refine (comb_size _ a 3 [d, d', d''] W hD (by simp) (fun x hx => by simp at hx; rcases hx with rfl | rfl | rfl <;> exact SliceAt.same (by assumption) hW) (fun x hx => by simp at hx; rcases hx with rfl | rfl | rfl; exact ⟨n, t, T⟩; exact ⟨n', t', T'⟩; exact ⟨n'', t'', T''⟩) ?_).mono fun e w' h => h.out
  rcases hne with hne | hne
  · exact ⟨d', by simp, by simp [T.1, T'.1]; omega⟩
  · exact ⟨d'', by simp, by simp [T.1, T''.1]; omega⟩
end Go.Proofs.Ytaebjalpebgliaa
