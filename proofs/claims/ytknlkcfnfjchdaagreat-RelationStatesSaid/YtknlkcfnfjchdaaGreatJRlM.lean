/- Plain: images of unions, the identity, meets. Chapter 11: the program's functions at the law's lists. Chapter 11: known walked; a diagram in its box. Plain: what the tables of images, closures and compositions have to do with the law's lists. -/
import Derived.Test.YtknlkcfnfjchdaaGreatJRelR
import Derived.Test.YtknlkcfnfjchdaaGreatJRelCp
import Derived.Test.YtknlkcfnfjchdaaGreatJRelB
namespace Go.Proofs.YtknlkcfnfjchdaaGreat
open Go.RowKit
set_option linter.unusedVariables false
set_option linter.unusedSimpArgs false

theorem posT_fil : ∀ (t : List Bool) (b : Nat), posT t b = ((List.range t.length).filter fun i => t.getD i false).map fun i => b + i
  | [], b => by simp [posT]
  | x :: t, b => by
    rw [posT, posT_fil t (b + 1), List.length_cons, List.range_succ_eq_map, List.filter_cons]
    have h0 : (x :: t).getD 0 false = x := by simp
    have h1 : ((List.map Nat.succ (List.range t.length)).filter fun i => (x :: t).getD i false) = ((List.range t.length).filter fun i => t.getD i false).map Nat.succ := by
      rw [List.filter_map]
      congr 1
    have h2 : (((List.range t.length).filter fun i => t.getD i false).map Nat.succ).map (fun i => b + i) = ((List.range t.length).filter fun i => t.getD i false).map fun i => b + 1 + i := by
      rw [List.map_map]
      exact List.map_congr_left (fun i _ => by simp only [Function.comp]; omega)
    rw [h0, h1]
    cases x with
    | true => rw [if_pos rfl, if_pos rfl, List.map_cons, h2]; simp
    | false => rw [if_neg (by simp), if_neg (by simp), h2]
theorem posT_filF (t : List Bool) : posT t 0 = filF (fun i => t.getD i false) t.length := by
  rw [posT_fil, filF]
  simp
theorem filF_cut {p : Nat → Bool} {n m : Nat} (h : n ≤ m) (hp : ∀ i, n ≤ i → i < m → p i = false) : filF p m = filF p n := by
  induction m with
  | zero => rw [show n = 0 by omega]
  | succ m ih =>
    by_cases e : n = m + 1
    · rw [e]
    · rw [filF_no (hp m (by omega) (by omega))]
      exact ih (by omega) (fun i h1 h2 => hp i h1 (by omega))
theorem filF_congr {p q : Nat → Bool} {n : Nat} (h : ∀ i, i < n → p i = q i) : filF p n = filF q n := by
  unfold filF
  exact List.filter_congr (fun x hx => h x (List.mem_range.1 hx))
theorem filF_self {p : Nat → Bool} {n : Nat} : filF (fun i => decide (i ∈ filF p n)) n = filF p n := by
  refine filF_congr (fun i hi => ?_)
  have := filF_mem (p := p) (k := n) (x := i)
  by_cases hp : p i = true
  · rw [hp]; exact decide_eq_true (this.2 ⟨hi, hp⟩)
  · rw [show p i = false by simpa using hp]
    exact decide_eq_false (fun h => hp (this.1 h).2)

/-- The table of a list of states below n, in order. -/
structure SetIs (b n : Nat) (t : List Bool) (S : List Nat) : Prop where
  len : t.length = 2 ^ b
  eq : S = filF (fun i => t.getD i false) n
  out : ∀ i, n ≤ i → i < 2 ^ b → t.getD i false = false
theorem SetIs.pos {b n : Nat} {t : List Bool} {S : List Nat} (h : SetIs b n t S) (hn : n ≤ 2 ^ b) : posT t 0 = S := by
  rw [posT_filF, h.len, filF_cut hn h.out, h.eq]
theorem SetIs.mem {b n : Nat} {t : List Bool} {S : List Nat} (h : SetIs b n t S) {i : Nat} (hi : i < 2 ^ b) : t.getD i false = decide (i ∈ S) := by
  rw [h.eq]
  have := filF_mem (p := fun i => t.getD i false) (k := n) (x := i)
  by_cases hp : t.getD i false = true
  · rw [hp]
    refine (decide_eq_true (this.2 ⟨?_, hp⟩)).symm
    rcases Nat.lt_or_ge i n with h1 | h1
    · exact h1
    · rw [h.out i h1 hi] at hp; simp at hp
  · rw [show t.getD i false = false by simpa using hp]
    exact (decide_eq_false (fun h => hp (this.1 h).2)).symm
theorem SetIs.lt {b n : Nat} {t : List Bool} {S : List Nat} (h : SetIs b n t S) : ∀ i ∈ S, i < n := fun i hi => by
  rw [h.eq] at hi
  exact (filF_mem.1 hi).1
theorem SetIs.of {b n : Nat} {t : List Bool} {p : Nat → Bool} (hn : n ≤ 2 ^ b) (hl : t.length = 2 ^ b) (h : ∀ i, i < 2 ^ b → t.getD i false = (decide (i < n) && p i)) : SetIs b n t (filF p n) where
  len := hl
  eq := filF_congr (fun i hi => by rw [h i (by omega), decide_eq_true hi, Bool.true_and])
  out := fun i h1 h2 => by rw [h i h2, decide_eq_false (by omega), Bool.false_and]
theorem SetIs.tabS {b n : Nat} {p : Nat → Bool} (hn : n ≤ 2 ^ b) : SetIs b n (tabS b 0 (filF p n)) (filF p n) := by
  refine SetIs.of hn (tabS_len _ _ _) (fun i hi => ?_)
  rw [tabS_get _ _ _ hi, Nat.zero_add]
  have := filF_mem (p := p) (k := n) (x := i)
  by_cases h1 : i < n
  · rw [decide_eq_true h1, Bool.true_and]
    by_cases h2 : p i = true
    · rw [h2]; exact decide_eq_true (this.2 ⟨h1, h2⟩)
    · rw [show p i = false by simpa using h2]; exact decide_eq_false (fun h => h2 (this.1 h).2)
  · rw [decide_eq_false h1, Bool.false_and]
    exact decide_eq_false (fun h => h1 (this.1 h).1)
theorem im_mem {b s : Nat} (hs : s < 2) {l : List (Nat × Nat)} {u : List Bool} {S : List Nat} (hl : ∀ p ∈ l, p.1 < 2 ^ b ∧ p.2 < 2 ^ b) (hu : ∀ i, i < 2 ^ b → u.getD i false = decide (i ∈ S)) {y : Nat} (hy : y < 2 ^ b) :
    (imT b s (relT b l) u).getD y false = l.any (stM (decide (s = 1)) S y) := by
  unfold imT
  rw [tbF_get _ _ hy, Bool.eq_iff_iff]
  simp only [List.any_eq_true, List.mem_range, Bool.and_eq_true]
  constructor
  · rintro ⟨x, hx, h1, h2⟩
    rw [hu x hx, decide_eq_true_eq] at h2
    by_cases e : s = 0
    · subst e
      rw [if_pos rfl, relT_get hl hx hy, decide_eq_true_eq] at h1
      refine ⟨_, h1, ?_⟩
      simp [stM_f, h2]
    · obtain rfl : s = 1 := by omega
      rw [if_neg (by decide), relT_get hl hy hx, decide_eq_true_eq] at h1
      refine ⟨_, h1, ?_⟩
      simp [stM_t, h2]
  · rintro ⟨⟨a, c⟩, hm, h⟩
    obtain ⟨ha, hc⟩ := hl _ hm
    simp only at ha hc
    by_cases e : s = 0
    · subst e
      rw [show decide (0 = 1) = false from rfl, stM_f, Bool.and_eq_true, decide_eq_true_eq, decide_eq_true_eq] at h
      obtain ⟨rfl, h2⟩ := h
      exact ⟨a, ha, by rw [if_pos rfl, relT_get hl ha hc]; exact decide_eq_true hm, by rw [hu a ha]; exact decide_eq_true h2⟩
    · obtain rfl : s = 1 := by omega
      rw [show decide (1 = 1) = true from rfl, stM_t, Bool.and_eq_true, decide_eq_true_eq, decide_eq_true_eq] at h
      obtain ⟨rfl, h2⟩ := h
      exact ⟨c, hc, by rw [if_neg (by decide), relT_get hl ha hc]; exact decide_eq_true hm, by rw [hu c hc]; exact decide_eq_true h2⟩
theorem any_out {l : List (Nat × Nat)} {n : Nat} (hl : ∀ p ∈ l, p.1 < n ∧ p.2 < n) (back : Bool) (S : List Nat) {y : Nat} (hy : n ≤ y) : l.any (stM back S y) = false := by
  rw [List.any_eq_false]
  rintro ⟨a, c⟩ hm h
  have := hl _ hm
  simp only at this
  cases back with
  | true => rw [stM_t, Bool.and_eq_true, decide_eq_true_eq] at h; omega
  | false => rw [stM_f, Bool.and_eq_true, decide_eq_true_eq] at h; omega
theorem SetIs.im {b n s : Nat} (hs : s < 2) {l : List (Nat × Nat)} {u : List Bool} {S : List Nat} (hn : n ≤ 2 ^ b) (hl : ∀ p ∈ l, p.1 < n ∧ p.2 < n) (h : SetIs b n u S) : SetIs b n (imT b s (relT b l) u) (stepF (decide (s = 1)) l S n) := by
  have hl' : ∀ p ∈ l, p.1 < 2 ^ b ∧ p.2 < 2 ^ b := fun p hp => by have := hl p hp; omega
  refine SetIs.of hn (imT_len _ _ _ _) (fun i hi => ?_)
  rw [im_mem hs hl' (fun i hi => h.mem hi) hi]
  by_cases hin : i < n
  · rw [decide_eq_true hin, Bool.true_and]
  · rw [decide_eq_false hin, Bool.false_and, any_out hl _ _ (by omega)]
theorem SetIs.cl {b n s : Nat} (hs : s < 2) {l : List (Nat × Nat)} {u : List Bool} {S : List Nat} (hn : n ≤ 2 ^ b) (hl : ∀ p ∈ l, p.1 < n ∧ p.2 < n) (h : SetIs b n u S) :
    SetIs b n (clS b s (relT b l) u) (uniF S (stepF (decide (s = 1)) l S n) n) := by
  have hi2 := h.im hs hn hl
  refine SetIs.of hn (clS_len h.len) (fun i hi => ?_)
  rw [clS_get h.len hi, h.mem hi, hi2.mem hi]
  by_cases hin : i < n
  · rw [decide_eq_true hin, Bool.true_and]
  · rw [decide_eq_false hin, Bool.false_and, decide_eq_false (fun hh => hin (h.lt _ hh)), decide_eq_false (fun hh => hin (hi2.lt _ hh))]; rfl
theorem SetIs.inj {b n : Nat} {t u : List Bool} {S : List Nat} (h : SetIs b n t S) (h' : SetIs b n u S) : t = u :=
  ext_getD h.len h'.len (fun i hi => by rw [h.mem hi, h'.mem hi])
theorem SetIs.uniq {b n : Nat} {t : List Bool} {S S' : List Nat} (h : SetIs b n t S) (h' : SetIs b n t S') : S = S' := by rw [h.eq, h'.eq]
/-- The law's closure, round by round. -/
def haveF (back : Bool) (l : List (Nat × Nat)) (S : List Nat) (n : Nat) : Nat → List Nat
  | 0 => S
  | k + 1 => uniF (haveF back l S n k) (stepF back l (haveF back l S n k) n) n
theorem SetIs.have {b n s : Nat} (hs : s < 2) {l : List (Nat × Nat)} {u : List Bool} {S : List Nat} (hn : n ≤ 2 ^ b) (hl : ∀ p ∈ l, p.1 < n ∧ p.2 < n) (h : SetIs b n u S) :
    ∀ k, SetIs b n (clI b s (relT b l) u k) (haveF (decide (s = 1)) l S n k)
  | 0 => h
  | k + 1 => (SetIs.have hs hn hl h k).cl hs hn hl
theorem fil_len {p q : Nat → Bool} : ∀ (n : Nat), (∀ i, i < n → p i = true → q i = true) → (filF p n).length ≤ (filF q n).length ∧ ((filF p n).length = (filF q n).length → filF p n = filF q n)
  | 0, _ => by simp [filF]
  | n + 1, h => by
    obtain ⟨h1, h2⟩ := fil_len n (fun i hi => h i (by omega))
    by_cases hp : p n = true
    · rw [filF_yes hp, filF_yes (h n (by omega) hp)]
      simp only [List.length_append, List.length_cons, List.length_nil]
      exact ⟨by omega, fun e => by rw [h2 (by omega)]⟩
    · have hp' : p n = false := by simpa using hp
      rw [filF_no hp']
      by_cases hq : q n = true
      · rw [filF_yes hq]
        simp only [List.length_append, List.length_cons, List.length_nil]
        exact ⟨by omega, fun e => by omega⟩
      · rw [filF_no (by simpa using hq)]
        exact ⟨h1, h2⟩
theorem uni_len {p : Nat → Bool} {B : List Nat} {n : Nat} : (filF p n).length ≤ (uniF (filF p n) B n).length ∧ ((filF p n).length = (uniF (filF p n) B n).length → filF p n = uniF (filF p n) B n) := by
  unfold uniF
  exact fil_len n (fun i hi h => by rw [decide_eq_true (filF_mem.2 ⟨hi, h⟩)]; rfl)
theorem have_fil {back : Bool} {l : List (Nat × Nat)} {p : Nat → Bool} {n : Nat} : ∀ k, ∃ q, haveF back l (filF p n) n k = filF q n
  | 0 => ⟨p, rfl⟩
  | k + 1 => ⟨_, rfl⟩

/-! ### pairs -/
theorem wv_inj {b i j : Nat} (hi : i < 2 ^ (2 * b)) (hj : j < 2 ^ (2 * b)) (h1 : ux b i = ux b j) (h2 : uy b i = uy b j) : i = j := by
  rw [← wv_u b i hi, ← wv_u b j hj, h1, h2]
theorem relT_dom {b n : Nat} {l : List (Nat × Nat)} (hn : n ≤ 2 ^ b) (hl : ∀ p ∈ l, p.1 < n ∧ p.2 < n) : inDom b n (relT b l) = true := by
  have hl' : ∀ p ∈ l, p.1 < 2 ^ b ∧ p.2 < 2 ^ b := fun p hp => by have := hl p hp; omega
  rw [inDom_iff (relT_len _ _)]
  intro i hi h
  rw [← wv_u b i hi, relT_get hl' (ux_lt _ _) (uy_lt _ _), decide_eq_true_eq] at h
  exact hl _ h
theorem prsT_congr {n : Nat} {p q : Nat → Nat → Bool} (h : ∀ x y, x < n → y < n → p x y = q x y) : prsT n p = prsT n q := by
  unfold prsT List.flatMap
  congr 1
  refine List.map_congr_left (fun x hx => ?_)
  congr 1
  exact List.filter_congr (fun y hy => h x y (List.mem_range.1 hx) (List.mem_range.1 hy))
theorem relT_prs {b n : Nat} {l : List (Nat × Nat)} (hn : n ≤ 2 ^ b) (hl : ∀ p ∈ l, p.1 < n ∧ p.2 < n) : prsT n (fun x y => (relT b l).getD (wv b x y) false) = prsT n (fun x y => decide ((x, y) ∈ l)) := by
  have hl' : ∀ p ∈ l, p.1 < 2 ^ b ∧ p.2 < 2 ^ b := fun p hp => by have := hl p hp; omega
  exact prsT_congr (fun x y hx hy => relT_get hl' (by omega) (by omega))
theorem len_sub {α : Type} [DecidableEq α] : ∀ {l m : List α}, l.Nodup → (∀ x ∈ l, x ∈ m) → l.length ≤ m.length
  | [], m, _, _ => by simp
  | x :: l, m, h, hs => by
    have hx := hs x (by simp)
    rw [List.nodup_cons] at h
    have ih := len_sub (l := l) (m := m.erase x) h.2 (fun y hy => by
      have hne : y ≠ x := fun e => h.1 (e ▸ hy)
      exact (List.mem_erase_of_ne hne).2 (hs y (by simp [hy])))
    have := List.length_erase_of_mem hx
    have hp : 0 < m.length := List.length_pos_of_mem hx
    simp only [List.length_cons]
    omega
theorem relT_few {b : Nat} {l : List (Nat × Nat)} : (posT (relT b l) 0).length ≤ l.length := by
  have h := len_sub (l := posT (relT b l) 0) (m := l.map fun p => wv b p.1 p.2) (posT_nodup _ _) (fun x hx => by
    rw [posT_mem] at hx
    obtain ⟨_, h1, h2⟩ := hx
    rw [Nat.zero_add, relT_len] at h1
    unfold relT at h2
    rw [Nat.sub_zero, tabS_get _ _ _ h1, Nat.zero_add, decide_eq_true_eq] at h2
    unfold cdL at h2
    rw [List.map_map] at h2
    exact h2)
  simpa using h
theorem coT_rel {b : Nat} {l m k : List (Nat × Nat)} (hl : ∀ p ∈ l, p.1 < 2 ^ b ∧ p.2 < 2 ^ b) (hm : ∀ p ∈ m, p.1 < 2 ^ b ∧ p.2 < 2 ^ b) (hk : ∀ x y, (x, y) ∈ k ↔ ∃ z, (x, z) ∈ l ∧ (z, y) ∈ m) : coT b (relT b l) (relT b m) = relT b k := by
  have hk' : ∀ p ∈ k, p.1 < 2 ^ b ∧ p.2 < 2 ^ b := fun p hp => by
    obtain ⟨z, h1, h2⟩ := (hk p.1 p.2).1 hp
    exact ⟨(hl _ h1).1, (hm _ h2).2⟩
  rw [relT_of hk']
  unfold coT
  refine tbF_congr (fun i hi => ?_)
  rw [Bool.eq_iff_iff]
  simp only [List.any_eq_true, List.mem_range, Bool.and_eq_true, decide_eq_true_eq]
  rw [hk]
  constructor
  · rintro ⟨z, hz, h1, h2⟩
    rw [relT_get hl (ux_lt _ _) hz, decide_eq_true_eq] at h1
    rw [relT_get hm hz (uy_lt _ _), decide_eq_true_eq] at h2
    exact ⟨z, h1, h2⟩
  · rintro ⟨z, h1, h2⟩
    have hz := (hl _ h1).2
    exact ⟨z, hz, by rw [relT_get hl (ux_lt _ _) hz]; exact decide_eq_true h1, by rw [relT_get hm hz (uy_lt _ _)]; exact decide_eq_true h2⟩
end Go.Proofs.YtknlkcfnfjchdaaGreat
namespace Go.Proofs.YtknlkcfnfjchdaaGreat
open Go.RowKit
set_option linter.unusedVariables false
set_option linter.unusedSimpArgs false

/-- A diagram of a table, in box b. -/
structure Bx (W : World) (b n : Nat) (t : List Bool) (a : Option Addr) (c : Nat) (L : List Nd) (r : Int) : Prop where
  heap : W.heap[b]? = some (.cells #[.int .i64 n, .slice a L.length c, .int .i64 r] 54 (0, 0))
  at' : Dg.at W ⟨n, a, c, L, r⟩
  tab : IsTab n t L r
theorem Bx.same {W W' : World} {b n : Nat} {t : List Bool} {a : Option Addr} {c : Nat} {L : List Nd} {r : Int} (h : Bx W b n t a c L r) (hs : Same W W') : Bx W' b n t a c L r := ⟨hs.at h.heap id, SliceAt.same h.at' hs, h.tab⟩
theorem DgE.ok {E : Int} {n : Nat} {t : List Bool} {w w' : World} {e : Ending} (h : DgE E n t w e w') (h0 : E = 0) : DgN n t w e w' := by
  rcases h with ⟨h, _⟩ | ⟨_, h⟩
  · exact absurd h0 h
  · exact h
theorem StRet.ok {l : List Nat} {E : Int} {w w' : World} {e : Ending} (h : StRet w l E e w') (h0 : E = 0) : ∃ a c, e = .returned (.tuple #[.slice a l.length c, .int .i64 0]) ∧ w'.ownsRow w.heap.size 3 1 (.slice a l.length c) l.length (codeC l) ∧ Same w w' := by
  obtain ⟨hs, ⟨h, _⟩ | ⟨_, a, c, h1, h2⟩⟩ := h
  · exact absurd h0 h
  · exact ⟨a, c, h1, h2, hs⟩
theorem PaRet.ok {l : List (Nat × Nat)} {E : Int} {w w' : World} {e : Ending} (h : PaRet w l E e w') (h0 : E = 0) : ∃ a c, e = .returned (.tuple #[.slice a l.length c, .int .i64 0]) ∧ w'.ownsRow w.heap.size 72 2 (.slice a l.length c) l.length (prC l) ∧ Same w w' := by
  obtain ⟨hs, ⟨h, _⟩ | ⟨_, a, c, h1, h2⟩⟩ := h
  · exact absurd h0 h
  · exact ⟨a, c, h1, h2, hs⟩
theorem ClE.ok {E : Int} {b s : Nat} {r u : List Bool} {w w' : World} {e : Ending} (h : ClE E b s r u w e w') (h0 : E = 0) : ClR b s r u w e w' := by
  rcases h with ⟨h, _⟩ | ⟨_, h⟩
  · exact absurd h0 h
  · exact h
theorem ClR.open {b s : Nat} {r u : List Bool} {w w' : World} {e : Ending} (h : ClR b s r u w e w') : ∃ (k : Nat) (a : Option Addr) (c : Nat) (L : List Nd) (q : Int), e = .returned (.tuple #[.agg #[.int .i64 b, .slice a L.length c, .int .i64 q], .int .i64 k, .int .i64 0]) ∧ Dg.at w' ⟨b, a, c, L, q⟩ ∧ IsTab b (clI b s r u k) L q ∧ clI b s r u (k + 1) = clI b s r u k ∧ (∀ j, j < k → clI b s r u j ≠ clI b s r u (j + 1)) ∧ Same w w' := by
  obtain ⟨⟨n, a, c, L, q⟩, k, he, hd, ⟨hn, ht⟩, h1, h2, hs⟩ := h
  obtain rfl : n = b := hn
  exact ⟨k, a, c, L, q, he, hd, ht, h1, h2, hs⟩
theorem rowI_lit {w : World} {b n : Nat} {l : List Int} {T : TypeId} (h : w.heap[b]? = some (.cells (intCells l).toArray T (0, 0))) (hn : l.length = n) (h9 : n ≤ 1000) : RowAt w (.slice (some ⟨b, 0, none⟩) n n) n (intCells l) :=
  ⟨by simp [intCells, hn], _, _, rfl, Nat.le_refl _, by unfold maxLen; omega, by simp, fun _ => ⟨b, 0, rfl, lt_of_heap h, fun j u hu => by rw [cell_at h]; simpa using hu⟩⟩
theorem rowB_lit {w : World} {b n : Nat} {l : List Bool} {T : TypeId} (h : w.heap[b]? = some (.cells (boolCells l).toArray T (0, 0))) (hn : l.length = n) (h9 : n ≤ 1000) : RowAt w (.slice (some ⟨b, 0, none⟩) n n) n (boolCells l) :=
  ⟨by simp [boolCells, hn], _, _, rfl, Nat.le_refl _, by unfold maxLen; omega, by simp, fun _ => ⟨b, 0, rfl, lt_of_heap h, fun j u hu => by rw [cell_at h]; simpa using hu⟩⟩
theorem nds_lit {w : World} {b n : Nat} {L : List Nd} {T : TypeId} (h : w.heap[b]? = some (.cells (ndCells L).toArray T (0, 0))) (hn : L.length = n) (h9 : n ≤ 1000) : NodesAt w (some ⟨b, 0, none⟩) L n :=
  ⟨by omega, by unfold maxLen; omega, by simp, fun _ => ⟨b, 0, rfl, lt_of_heap h, fun j u hu => by rw [Nat.zero_add, cell_at h]; simpa using hu⟩⟩

theorem slice_lit {w : World} {b n sz : Nat} {cs : List Value} {T : TypeId} (h : w.heap[b]? = some (.cells cs.toArray T (0, 0))) (hn : cs.length = n * sz) (h9 : n ≤ 1000) : SliceAt w T sz (.slice (some ⟨b, 0, none⟩) n n) n cs :=
  ⟨hn, _, _, rfl, Nat.le_refl _, by unfold maxLen; omega, by simp, fun _ => ⟨b, 0, cs.toArray, rfl, h, by rw [← hn]; simp⟩⟩

/-! ### the chapter's example -/
def kA (s : Nat) : Au := ⟨[0, 1], 3, [], [(0, 0, 1), (1, 0, 2), (2, 1, 0)], some ⟨s, 0, none⟩, 2, none, 0, some ⟨s + 1, 0, none⟩, 3⟩
def kP : List (Nat × Nat) := [(0, 1), (1, 2)]
theorem k_b5 : bitsF 5 = 3 := by decide
theorem k_b3 : bitsF 3 = 2 := by decide
theorem k_from (s : Nat) : fromErr (kA s) [0] = 0 := by
  show fromErr (kA 0) [0] = 0
  decide +kernel
theorem k_ev (s : Nat) : evP (kA s).es [0] = kP := by
  show evP [(0, 0, 1), (1, 0, 2), (2, 1, 0)] [0] = kP
  decide +kernel
theorem k_set : renErr 3 [0] 1 0 = 0 := by decide +kernel
theorem k_cl2 : clI 2 0 (relT 2 kP) (tabS 2 0 [0]) 2 = clI 2 0 (relT 2 kP) (tabS 2 0 [0]) 3 := by decide +kernel
theorem k_cl1 : clI 2 0 (relT 2 kP) (tabS 2 0 [0]) 1 ≠ clI 2 0 (relT 2 kP) (tabS 2 0 [0]) 2 := by decide +kernel
theorem k_cl0 : clI 2 0 (relT 2 kP) (tabS 2 0 [0]) 0 ≠ clI 2 0 (relT 2 kP) (tabS 2 0 [0]) 1 := by decide +kernel
theorem k_st : posT (clI 2 0 (relT 2 kP) (tabS 2 0 [0]) 2) 0 = [0, 1, 2] := by decide +kernel
theorem k_len : (posT (coT 2 (relT 2 kP) (relT 2 kP)) 0).length = 1 := by decide +kernel
theorem k_dom : inDom 2 3 (coT 2 (relT 2 kP) (relT 2 kP)) = true := by decide +kernel
theorem k_prs : (prsT 3 fun x y => (coT 2 (relT 2 kP) (relT 2 kP)).getD (wv 2 x y) false) = [(0, 2)] := by decide +kernel
theorem k_dec : decR 5 [true, false, true] = .tuple #[.int .i64 0, .bool false, .int .i64 0] := by simp [decR, numB]
theorem cl_uniq {b s : Nat} {r u : List Bool} {k m : Nat} (h1 : clI b s r u (k + 1) = clI b s r u k) (h2 : ∀ j, j < k → clI b s r u j ≠ clI b s r u (j + 1)) (g1 : clI b s r u (m + 1) = clI b s r u m) (g2 : ∀ j, j < m → clI b s r u j ≠ clI b s r u (j + 1)) : k = m := by
  rcases Nat.lt_trichotomy k m with h | h | h
  · exact absurd h1.symm (g2 k h)
  · exact h
  · exact absurd g1.symm (h2 m h)

theorem k_From {w : World} {s : Nat} (h0 : w.heap[s]? = some (.cells #[.int .i64 0, .int .i64 1] 3 (0, 0))) (h1 : w.heap[s + 1]? = some (.cells #[.int .i64 0, .int .i64 0, .int .i64 1, .int .i64 1, .int .i64 0, .int .i64 2, .int .i64 2, .int .i64 1, .int .i64 0] 130 (0, 0))) (h2 : w.heap[s + 1 + 1]? = some (.cells #[.int .i64 0] 3 (0, 0))) :
    Calls Tryz.prog 118 #[.agg #[.slice (some ⟨s, 0, none⟩) 2 2, .int .i64 3, .slice none 0 0, .slice (some ⟨s + 1, 0, none⟩) 3 3], .slice (some ⟨s + 1 + 1, 0, none⟩) 1 1] w (DgN (2 * bitsF 3) (relT (bitsF 3) kP) w) := by
  have hA : (kA s).at w := ⟨rowI_lit (l := [0, 1]) h0 rfl (Nat.le_of_ble_eq_true rfl), RowAt.nil _, nds_lit (L := [(0, 0, 1), (1, 0, 2), (2, 1, 0)]) h1 rfl (Nat.le_of_ble_eq_true rfl)⟩
  have := From_any (kA s) w hA ⟨Nat.le_of_ble_eq_true rfl, Nat.le_of_ble_eq_true rfl, Nat.le_of_ble_eq_true rfl⟩ (show (3 : Int) ≤ 64 by omega) [0] (some ⟨s + 1 + 1, 0, none⟩) 1 1 rfl (rowI_lit (l := [0]) h2 rfl (by omega)) (by omega)
  rw [k_from, k_ev] at this
  exact this.mono fun e w' h => DgE.ok h rfl
theorem k_Set {w : World} {s : Nat} (h2 : w.heap[s]? = some (.cells #[.int .i64 0] 3 (0, 0))) : Calls Tryz.prog 119 #[.int .i64 3, .slice (some ⟨s, 0, none⟩) 1 1] w (DgN (bitsF 3) (tabS (bitsF 3) 0 [0]) w) :=
  Set_ok (n := 3) (by omega) [0] (some ⟨s, 0, none⟩) 1 1 w rfl (rowI_lit (l := [0]) h2 rfl (by omega)) (by omega) k_set

set_option maxRecDepth 100000 in
set_option maxHeartbeats 8000000 in
theorem known_any (w : World) : Calls Tryz.prog 57 #[] w fun e w' => e = .returned (.bool true) ∧ Same w w' := by
  have BI := fun W => Bits_ok (n := 5) (by omega) W
  rw [k_b5] at BI
  obtain ⟨p, hp⟩ : ∃ p, p = bitsF 3 := ⟨_, rfl⟩
  have hp2 : p = 2 := by rw [hp, k_b3]
  obtain ⟨m, hm⟩ : ∃ m, m = 2 * bitsF 3 := ⟨_, rfl⟩
  have hm4 : m = 2 * p := by rw [hm, hp]
  have ST := fun (d : Dg) (t : List Bool) (W : World) (hat : d.at W) (T : d.tab p t) => States_ok (n := 3) (by omega) d t W hat (hp ▸ T)
  have CO := fun (d d' : Dg) (t u : List Bool) (W : World) (h : d.at W) (h' : d'.at W) (T : d.tab m t) (U : d'.tab m u) => Compose_any (b := p) (by omega) d d' t u W h h' (hm4 ▸ T) (hm4 ▸ U)
  have PA := fun (d : Dg) (t : List Bool) (W : World) (hat : d.at W) (T : d.tab m t) (hl : (posT t 0).length ≤ 1024) => Pairs_ok (n := 3) (by omega) d t W hat (hm ▸ T) hl
  simp only [← hp] at PA
  simp only [← hm4] at CO
  replace BI := Lib.hid BI; replace hp := Lib.hid hp; replace hp2 := Lib.hid hp2; replace hm := Lib.hid hm; replace hm4 := Lib.hid hm4; replace ST := Lib.hid ST; replace CO := Lib.hid CO; replace PA := Lib.hid PA
  go_enter Tryz.func57, Tryz.ntmps57
  go_wp2_with fail
  refine (BI.out _).mono ?_
  rintro e w1 ⟨rfl, s1⟩
  clear BI
  replace s1 := Lib.hid s1
  go_upto_region 2 with fail
  have DE := Decode_ok (n := 5) [true, false, true] (some ⟨w1.heap.size, 0, none⟩) 3 3 (by omega) rfl (by rw [k_b5]) _ (rowB_lit (l := [true, false, true]) (heap_new w1 (.cells #[.bool true, .bool false, .bool true] 4)) rfl (by omega))
  rw [k_dec] at DE
  replace DE := Lib.hid DE
  go_wp2_with fail
  refine DE.out.mono ?_
  rintro e w2 ⟨rfl, s2⟩
  have s2 := s1.out.same ((show Same w1 _ from (by repeat (first | exact Fr.refl _ _ | apply Fr.alloc | apply Fr.drewN | apply Fr.drew | apply Fr.undrew | apply Fr.undrewN))).same s2)
  clear DE s1
  replace s2 := Lib.hid s2
  go_upto_region 3 with fail
  obtain ⟨W3, hW3⟩ : ∃ W3, W3 = ((w2.alloc (.cells #[.int .i64 0, .int .i64 1] 3)).alloc (.cells #[.int .i64 0, .int .i64 0, .int .i64 1, .int .i64 1, .int .i64 0, .int .i64 2, .int .i64 2, .int .i64 1, .int .i64 0] 130)).alloc (.cells #[.int .i64 0] 3) := ⟨_, rfl⟩
  have FR := k_From (w := W3) (s := w2.heap.size) (by rw [hW3]; exact heap_old (heap_old (heap_new _ _) _) _) (by rw [hW3]; exact heap_old (heap_new_at (by simp) _) _) (by rw [hW3]; exact heap_new_at (by simp) _)
  have hw : Same w W3 := s2.out.same (by rw [hW3]; exact (by repeat (first | exact Fr.refl _ _ | apply Fr.alloc | apply Fr.drewN | apply Fr.drew | apply Fr.undrew | apply Fr.undrewN)))
  rw [← hm, ← hp] at FR
  subst hW3
  clear s2
  replace FR := Lib.hid FR; replace hw := Lib.hid hw
  go_wp2_with fail
  refine (FR.out).mono ?_
  intro e v3 hM
  obtain ⟨a3, c3, L3, r3, rfl, d3, z3, s3⟩ := hM.open
  clear hM
  
  go_upto_region 4 with fail
  have q3 : Bx (v3.alloc (.cells #[.int .i64 m, .slice a3 L3.length c3, .int .i64 r3] 54)) v3.heap.size m _ a3 c3 L3 r3 := ⟨heap_new _ _, SliceAt.same d3 (by repeat (first | exact Fr.refl _ _ | apply Fr.alloc | apply Fr.drewN | apply Fr.drew | apply Fr.undrew | apply Fr.undrewN)), z3⟩
  have s3 := s3.same (show Same v3 (v3.alloc (.cells #[.int .i64 m, .slice a3 L3.length c3, .int .i64 r3] 54)) from (by repeat (first | exact Fr.refl _ _ | apply Fr.alloc | apply Fr.drewN | apply Fr.drew | apply Fr.undrew | apply Fr.undrewN)))
  clear d3 z3
  generalize v3.alloc (.cells #[.int .i64 m, .slice a3 L3.length c3, .int .i64 r3] 54) = w3 at *
  generalize v3.heap.size = b3 at *
  replace hw := Lib.hid (hw.out.same s3)
  replace q3 := Lib.hid q3; replace s3 := Lib.hid s3
  clear FR s3
  have SE := k_Set (heap_new w3 (.cells #[.int .i64 0] 3))
  rw [← hp.out] at SE
  have hal : Same w3 (w3.alloc (.cells #[.int .i64 0] 3)) := (by repeat (first | exact Fr.refl _ _ | apply Fr.alloc | apply Fr.drewN | apply Fr.drew | apply Fr.undrew | apply Fr.undrewN))
  replace hw := Lib.hid (hw.out.same hal); replace q3 := Lib.hid (q3.out.same hal)
  clear hal
  replace SE := Lib.hid SE
  go_wp2_with fail
  refine (SE.out).mono ?_
  intro e v4 hM
  obtain ⟨a4, c4, L4, r4, rfl, d4, z4, s4⟩ := hM.open
  clear hM
  
  go_upto_region 5 with fail
  have q4 : Bx (v4.alloc (.cells #[.int .i64 p, .slice a4 L4.length c4, .int .i64 r4] 54)) v4.heap.size p _ a4 c4 L4 r4 := ⟨heap_new _ _, SliceAt.same d4 (by repeat (first | exact Fr.refl _ _ | apply Fr.alloc | apply Fr.drewN | apply Fr.drew | apply Fr.undrew | apply Fr.undrewN)), z4⟩
  have s4 := s4.same (show Same v4 (v4.alloc (.cells #[.int .i64 p, .slice a4 L4.length c4, .int .i64 r4] 54)) from (by repeat (first | exact Fr.refl _ _ | apply Fr.alloc | apply Fr.drewN | apply Fr.drew | apply Fr.undrew | apply Fr.undrewN)))
  clear d4 z4
  generalize v4.alloc (.cells #[.int .i64 p, .slice a4 L4.length c4, .int .i64 r4] 54) = w4 at *
  generalize v4.heap.size = b4 at *
  replace hw := Lib.hid (hw.out.same s4); replace q3 := Lib.hid (q3.out.same s4)
  replace q4 := Lib.hid q4; replace s4 := Lib.hid s4
  clear SE s4
  have FW := Forward_any (m := m) (b := p) (fun _ => by have := hp2.out; omega) ⟨m, a3, c3, L3, r3⟩ ⟨p, a4, c4, L4, r4⟩ _ _ w4 q3.out.at' q4.out.at' ⟨rfl, q3.out.tab⟩ ⟨rfl, q4.out.tab⟩
  rw [if_pos hm4.out] at FW
  replace FW := Lib.hid FW
  have x0 := cell_at q3.out.heap 0
  have x1 := cell_at q3.out.heap 1
  have x2 := cell_at q3.out.heap 2
  have xl := lt_of_heap q3.out.heap
  have y0 := cell_at q4.out.heap 0
  have y1 := cell_at q4.out.heap 1
  have y2 := cell_at q4.out.heap 2
  have yl := lt_of_heap q4.out.heap
  go_wp2_with fail
  refine FW.out.mono ?_
  intro e v5 hM
  obtain ⟨k, a5, c5, L5, r5, rfl, d5, z5, hk1, hk2, s5⟩ := (ClE.ok hM rfl).open
  have hk : k = 2 := by
    have e := hp2.out
    clear hp hm hm4 ST CO PA hw q3 q4 FW x0 x1 x2 xl y0 y1 y2 yl d5 hM z5
    subst e
    exact cl_uniq hk1 hk2 k_cl2.symm (fun j hj => by
      match j, hj with
      | 0, _ => exact k_cl0
      | 1, _ => exact k_cl1)
  subst hk
  clear x0 x1 x2 xl
  clear y0 y1 y2 yl
  clear hM hk1 hk2 FW
  go_upto_region 6 with fail
  have q5 : Bx (v5.alloc (.cells #[.int .i64 p, .slice a5 L5.length c5, .int .i64 r5] 54)) v5.heap.size p _ a5 c5 L5 r5 := ⟨heap_new _ _, SliceAt.same d5 (by repeat (first | exact Fr.refl _ _ | apply Fr.alloc | apply Fr.drewN | apply Fr.drew | apply Fr.undrew | apply Fr.undrewN)), z5⟩
  have s5 := s5.same (show Same v5 (v5.alloc (.cells #[.int .i64 p, .slice a5 L5.length c5, .int .i64 r5] 54)) from (by repeat (first | exact Fr.refl _ _ | apply Fr.alloc | apply Fr.drewN | apply Fr.drew | apply Fr.undrew | apply Fr.undrewN)))
  clear d5 z5
  generalize v5.alloc (.cells #[.int .i64 p, .slice a5 L5.length c5, .int .i64 r5] 54) = w5 at *
  generalize v5.heap.size = b5 at *
  replace hw := Lib.hid (hw.out.same s5); replace q3 := Lib.hid (q3.out.same s5); replace q4 := Lib.hid (q4.out.same s5)
  replace q5 := Lib.hid q5; replace s5 := Lib.hid s5
  clear s5
  have x0 := cell_at q5.out.heap 0
  have x1 := cell_at q5.out.heap 1
  have x2 := cell_at q5.out.heap 2
  have xl := lt_of_heap q5.out.heap
  have ST5 := ST.out ⟨p, a5, c5, L5, r5⟩ _ w5 q5.out.at' ⟨rfl, q5.out.tab⟩
  rw [show posT (clI p 0 (relT p kP) (tabS p 0 [0]) 2) 0 = [0, 1, 2] by rw [hp2.out]; exact k_st] at ST5
  replace ST5 := Lib.hid ST5
  go_wp2_with fail
  refine ST5.out.mono ?_
  intro e w6 hM
  obtain ⟨a6, c6, rfl, ho6, s6⟩ := hM.ok rfl
  clear x0 x1 x2 xl
  have hl6 := (SliceAt.of_owns ho6).row
  replace hw := Lib.hid (hw.out.same s6); replace q3 := Lib.hid (q3.out.same s6)
  clear hM ho6 ST5 s6 q4 q5
  replace hl6 := Lib.hid hl6
  go_upto_region 7 with fail
  have x0 := cell_at q3.out.heap 0
  have x1 := cell_at q3.out.heap 1
  have x2 := cell_at q3.out.heap 2
  have xl := lt_of_heap q3.out.heap
  have CO7 := CO.out ⟨m, a3, c3, L3, r3⟩ ⟨m, a3, c3, L3, r3⟩ _ _ w6 q3.out.at' q3.out.at' ⟨rfl, q3.out.tab⟩ ⟨rfl, q3.out.tab⟩
  replace CO7 := Lib.hid CO7
  go_wp2_with fail
  refine (CO7.out).mono ?_
  intro e v7 hM
  obtain ⟨a7, c7, L7, r7, rfl, d7, z7, s7⟩ := hM.open
  clear hM
  clear x0 x1 x2 xl
  go_upto_region 8 with fail
  have q7 : Bx (v7.alloc (.cells #[.int .i64 m, .slice a7 L7.length c7, .int .i64 r7] 54)) v7.heap.size m _ a7 c7 L7 r7 := ⟨heap_new _ _, SliceAt.same d7 (by repeat (first | exact Fr.refl _ _ | apply Fr.alloc | apply Fr.drewN | apply Fr.drew | apply Fr.undrew | apply Fr.undrewN)), z7⟩
  have s7 := s7.same (show Same v7 (v7.alloc (.cells #[.int .i64 m, .slice a7 L7.length c7, .int .i64 r7] 54)) from (by repeat (first | exact Fr.refl _ _ | apply Fr.alloc | apply Fr.drewN | apply Fr.drew | apply Fr.undrew | apply Fr.undrewN)))
  clear d7 z7
  generalize v7.alloc (.cells #[.int .i64 m, .slice a7 L7.length c7, .int .i64 r7] 54) = w7 at *
  generalize v7.heap.size = b7 at *
  replace hw := Lib.hid (hw.out.same s7); replace q3 := Lib.hid (q3.out.same s7); replace hl6 := Lib.hid (hl6.out.same s7)
  replace q7 := Lib.hid q7; replace s7 := Lib.hid s7
  clear s7 CO7
  have x0 := cell_at q7.out.heap 0
  have x1 := cell_at q7.out.heap 1
  have x2 := cell_at q7.out.heap 2
  have xl := lt_of_heap q7.out.heap
  have PA8 := PA.out ⟨m, a7, c7, L7, r7⟩ _ w7 q7.out.at' ⟨rfl, q7.out.tab⟩ (by rw [hp2.out, k_len]; omega)
  rw [show (prsT 3 fun x y => (coT p (relT p kP) (relT p kP)).getD (wv p x y) false) = [(0, 2)] by rw [hp2.out]; exact k_prs, show inDom p 3 (coT p (relT p kP) (relT p kP)) = true by rw [hp2.out]; exact k_dom] at PA8
  replace PA8 := Lib.hid PA8
  go_wp2_with fail
  refine PA8.out.mono ?_
  intro e w8 hM
  obtain ⟨a8, c8, rfl, ho8, s8⟩ := hM.ok rfl
  clear x0 x1 x2 xl
  have hl8 := SliceAt.of_owns ho8
  replace hw := Lib.hid (hw.out.same s8); replace hl6 := Lib.hid (hl6.out.same s8)
  clear hM ho8 PA8 s8 q7 q3
  replace hl8 := Lib.hid hl8
  go_upto_region 9 with fail
  go_wp2_with fail
  have hal : Same w8 (w8.alloc (.cells #[.int .i64 0, .int .i64 1, .int .i64 2] 3)) := (by repeat (first | exact Fr.refl _ _ | apply Fr.alloc | apply Fr.drewN | apply Fr.drew | apply Fr.undrew | apply Fr.undrewN))
  replace hw := Lib.hid (hw.out.same hal); replace hl6 := Lib.hid (hl6.out.same hal); replace hl8 := Lib.hid (hl8.out.same hal)
  have SI := sameInts_any [0, 1, 2] [0, 1, 2] a6 _ 3 3 c6 3 _ rfl rfl (by have := hl6.out; rwa [codeC_natI] at this) (rowI_lit (l := [0, 1, 2]) (heap_new w8 (.cells #[.int .i64 0, .int .i64 1, .int .i64 2] 3)) rfl (by omega)) (by omega)
  rw [show decide (([0, 1, 2] : List Int) = [0, 1, 2]) = true by decide] at SI
  refine SI.mono ?_
  rintro e w9 ⟨rfl, s9⟩
  replace hw := Lib.hid (hw.out.same s9); replace hl8 := Lib.hid (hl8.out.same s9)
  clear s9 SI hl6 hal
  go_wp2_with fail
  have hal : Same w9 (w9.alloc (.cells #[.int .i64 0, .int .i64 2] 72)) := (by repeat (first | exact Fr.refl _ _ | apply Fr.alloc | apply Fr.drewN | apply Fr.drew | apply Fr.undrew | apply Fr.undrewN))
  replace hw := Lib.hid (hw.out.same hal); replace hl8 := Lib.hid (hl8.out.same hal)
  have SP := samePairs_any [(0, 2)] [(0, 2)] a8 _ 1 1 c8 1 _ rfl rfl hl8.out (slice_lit (cs := prC [(0, 2)]) (heap_new w9 (.cells #[.int .i64 0, .int .i64 2] 72)) rfl (by omega)) (by omega)
  rw [show decide (([(0, 2)] : List (Nat × Nat)) = [(0, 2)]) = true by decide] at SP
  refine SP.mono ?_
  rintro e w10 ⟨rfl, s10⟩
  replace hw := Lib.hid (hw.out.same s10)
  clear s10 SP hal hl8
  go_wp2_with fail
  go_ret
  exact ⟨rfl, hw.out⟩
end Go.Proofs.YtknlkcfnfjchdaaGreat
namespace Go.Proofs.YtknlkcfnfjchdaaGreat
open Go.RowKit
set_option linter.unusedVariables false
set_option linter.unusedSimpArgs false
theorem renErr_0 {m : Int} {qs : List Int} : ∀ (k i : Nat), i + k = qs.length → (∀ j, j < qs.length → 0 ≤ toF qs j ∧ toF qs j < m) → (∀ j, j + 1 < qs.length → toF qs j < toF qs (j + 1)) → renErr m qs k i = 0
  | 0, _, _, _, _ => rfl
  | k + 1, i, h, h1, h2 => by
    have b := h1 i (by omega)
    rw [renErr, if_neg (by omega), if_neg (fun hh => by
      have := h2 (i - 1) (by omega)
      rw [show i - 1 + 1 = i by omega] at this
      omega)]
    exact renErr_0 k (i + 1) (by omega) h1 h2
theorem natI_toF {l : List Nat} {j : Nat} (h : j < l.length) : toF (natI l) j = ((l[j] : Nat) : Int) := by
  unfold toF natI
  simp [List.getD, h]
theorem filF_pair (p : Nat → Bool) (n : Nat) : (filF p n).Pairwise (· < ·) := List.pairwise_lt_range.filter _
theorem fil_err (p : Nat → Bool) (n : Nat) : renErr n (natI (filF p n)) (natI (filF p n)).length 0 = 0 := by
  refine renErr_0 _ 0 (by omega) (fun j hj => ?_) (fun j hj => ?_)
  · rw [natI_len] at hj
    rw [natI_toF hj]
    have := (filF_mem.1 (List.getElem_mem hj)).1
    omega
  · rw [natI_len] at hj
    rw [natI_toF hj, natI_toF (by omega)]
    have := List.pairwise_iff_getElem.1 (filF_pair p n) j (j + 1) (by omega) hj (by omega)
    omega
theorem setP {k b : Nat} (hk : k ≤ 1000) (hb : b = bitsF k) (p : Nat → Bool) (a : Option Addr) (cap : Nat) (w : World) (h : RowAt w (.slice a (filF p k).length cap) (filF p k).length (intCells (natI (filF p k)))) :
    Calls Tryz.prog 119 #[.int .i64 k, .slice a (filF p k).length cap] w (DgN b (tabS b 0 (filF p k)) w) := by
  subst hb
  have hl := filF_len p k
  have := Set_ok (n := k) (by omega) (natI (filF p k)) a _ cap w (natI_len _) h (by omega) (fil_err p k)
  rw [natI_toNat] at this
  exact this
/-- A slice of states, returned without an error. -/
def StOk (w : World) (S : List Nat) (e : Ending) (w' : World) : Prop := ∃ a c, e = .returned (.tuple #[.slice a S.length c, .int .i64 0]) ∧ RowAt w' (.slice a S.length c) S.length (intCells (natI S)) ∧ Same w w'
theorem stP {k b : Nat} {t : List Bool} {S : List Nat} (hk : k ≤ 4096) (hb : b = bitsF k) (hkb : k ≤ 2 ^ b) (h : SetIs b k t S) (d : Dg) (w : World) (hat : d.at w) (T : d.tab b t) :
    Calls Tryz.prog 59 #[.int .i64 k, .agg #[.int .i64 d.n, .slice d.a d.L.length d.cap, .int .i64 d.r]] w (StOk w S) := by
  have := States_ok (n := k) hk d t w hat (hb ▸ T)
  rw [h.pos hkb, if_pos (List.all_eq_true.2 fun x hx => decide_eq_true (h.lt x hx))] at this
  refine this.mono fun e w' hM => ?_
  obtain ⟨a, c, h1, h2, h3⟩ := hM.ok rfl
  rw [codeC_natI] at h2
  exact ⟨a, c, h1, (SliceAt.of_owns h2).row, h3⟩
/-- A slice of pairs, returned without an error. -/
def PaOk (w : World) (l : List (Nat × Nat)) (e : Ending) (w' : World) : Prop := ∃ a c, e = .returned (.tuple #[.slice a l.length c, .int .i64 0]) ∧ SliceAt w' 72 2 (.slice a l.length c) l.length (prC l) ∧ Same w w'
theorem paP {k b : Nat} {l : List (Nat × Nat)} (hk : k ≤ 64) (hb : b = bitsF k) (hkb : k ≤ 2 ^ b) (hl : ∀ p ∈ l, p.1 < k ∧ p.2 < k) (hll : (posT (relT b l) 0).length ≤ 1024) (d : Dg) (w : World) (hat : d.at w) (T : d.tab (2 * b) (relT b l)) :
    Calls Tryz.prog 60 #[.int .i64 k, .agg #[.int .i64 d.n, .slice d.a d.L.length d.cap, .int .i64 d.r]] w (PaOk w (prsT k fun x y => decide ((x, y) ∈ l))) := by
  have := Pairs_ok (n := k) hk d (relT b l) w hat (hb ▸ T) hll
  rw [← hb, relT_prs hkb hl, if_pos (relT_dom hkb hl)] at this
  refine this.mono fun e w' hM => ?_
  obtain ⟨a, c, h1, h2, h3⟩ := hM.ok rfl
  exact ⟨a, c, h1, SliceAt.of_owns h2, h3⟩
theorem piP {m b : Nat} (hm : m = 2 * b) (hb6 : b ≤ 6) (dr df : Dg) (t u : List Bool) (w : World) (hr : dr.at w) (hf : df.at w) (T : dr.tab m t) (U : df.tab b u) :
    Calls Tryz.prog 38 #[.agg #[.int .i64 dr.n, .slice dr.a dr.L.length dr.cap, .int .i64 dr.r], .agg #[.int .i64 df.n, .slice df.a df.L.length df.cap, .int .i64 df.r]] w (DgN b (imT b 1 t u) w) :=
  (Preimage_any (m := m) (b := b) (fun _ => hb6) dr df t u w hr hf T U).mono fun e w' h => DgE.ok h (if_pos hm)
end Go.Proofs.YtknlkcfnfjchdaaGreat
namespace Go.Proofs.YtknlkcfnfjchdaaGreat
open Go.RowKit
set_option linter.unusedVariables false
set_option linter.unusedSimpArgs false

theorem orT_get {n : Nat} {t u : List Bool} (ht : t.length = 2 ^ n) (hu : u.length = 2 ^ n) {i : Nat} (hi : i < 2 ^ n) : (ite3 t (tru n) u).getD i false = (t.getD i false || u.getD i false) := by
  rw [ite3_get ht (tru_len n) hu hi, truG hi]
  cases t.getD i false <;> simp
theorem andT_get {n : Nat} {t u : List Bool} (ht : t.length = 2 ^ n) (hu : u.length = 2 ^ n) {i : Nat} (hi : i < 2 ^ n) : (ite3 t u (fls n)).getD i false = (t.getD i false && u.getD i false) := by
  rw [ite3_get ht hu (fls_len n) hi, flsG]
  cases t.getD i false <;> simp
theorem im_or {b s : Nat} {r f h : List Bool} (hf : f.length = 2 ^ b) (hh : h.length = 2 ^ b) : imT b s r (ite3 f (tru b) h) = ite3 (imT b s r f) (tru b) (imT b s r h) := by
  refine ext_getD (imT_len _ _ _ _) (ite3_len (imT_len _ _ _ _) (tru_len b) (imT_len _ _ _ _)) (fun i hi => ?_)
  rw [orT_get (imT_len _ _ _ _) (imT_len _ _ _ _) hi]
  unfold imT
  rw [tbF_get _ _ hi, tbF_get _ _ hi, tbF_get _ _ hi, Bool.eq_iff_iff]
  simp only [List.any_eq_true, List.mem_range, Bool.and_eq_true, Bool.or_eq_true]
  constructor
  · rintro ⟨x, hx, h1, h2⟩
    rw [orT_get hf hh hx, Bool.or_eq_true] at h2
    rcases h2 with h2 | h2
    · exact .inl ⟨x, hx, h1, h2⟩
    · exact .inr ⟨x, hx, h1, h2⟩
  · rintro (⟨x, hx, h1, h2⟩ | ⟨x, hx, h1, h2⟩)
    · exact ⟨x, hx, h1, by rw [orT_get hf hh hx, h2]; rfl⟩
    · exact ⟨x, hx, h1, by rw [orT_get hf hh hx, h2, Bool.or_true]⟩
theorem idL_lt (k : Nat) : ∀ p ∈ idL k, p.1 < k ∧ p.2 < k := fun p hp => by
  obtain ⟨i, hi, rfl⟩ := List.mem_map.1 hp
  have := List.mem_range.1 hi
  exact ⟨this, this⟩
theorem idL_mem {k x y : Nat} : (x, y) ∈ idL k ↔ x = y ∧ x < k := by
  unfold idL
  simp only [List.mem_map, List.mem_range, Prod.mk.injEq]
  constructor
  · rintro ⟨i, hi, rfl, rfl⟩; exact ⟨rfl, hi⟩
  · rintro ⟨rfl, h⟩; exact ⟨x, h, rfl, rfl⟩
theorem im_id {b k : Nat} {t : List Bool} {S : List Nat} (hk : k ≤ 2 ^ b) (h : SetIs b k t S) : imT b 0 (relT b (idL k)) t = t := by
  have hid' : ∀ p ∈ idL k, p.1 < 2 ^ b ∧ p.2 < 2 ^ b := fun p hp => by have := idL_lt k p hp; omega
  refine ext_getD (imT_len _ _ _ _) h.len (fun y hy => ?_)
  rw [im_mem (by omega) hid' (fun i hi => h.mem hi) hy, h.mem hy, Bool.eq_iff_iff, List.any_eq_true, decide_eq_true_eq]
  constructor
  · rintro ⟨⟨a, c⟩, hm, hs⟩
    obtain ⟨rfl, _⟩ := idL_mem.1 hm
    rw [show decide (0 = 1) = false from rfl, stM_f, Bool.and_eq_true, decide_eq_true_eq, decide_eq_true_eq] at hs
    exact hs.1 ▸ hs.2
  · intro hs
    exact ⟨(y, y), idL_mem.2 ⟨rfl, h.lt _ hs⟩, by rw [show decide (0 = 1) = false from rfl, stM_f, decide_eq_true rfl, decide_eq_true hs]; rfl⟩
theorem fls_iff {n : Nat} {t : List Bool} (ht : t.length = 2 ^ n) : t = fls n ↔ ∀ i, i < 2 ^ n → t.getD i false = false := by
  constructor
  · rintro rfl i _; exact flsG n i
  · intro h
    exact ext_getD ht (fls_len n) (fun i hi => by rw [h i hi, flsG])
theorem meet_iff {b : Nat} {r f h : List Bool} (hr : r.length = 2 ^ (2 * b)) (hf : f.length = 2 ^ b) (hh : h.length = 2 ^ b) : ite3 (imT b 0 r f) h (fls b) = fls b ↔ ite3 f (imT b 1 r h) (fls b) = fls b := by
  rw [fls_iff (ite3_len (imT_len _ _ _ _) hh (fls_len b)), fls_iff (ite3_len hf (imT_len _ _ _ _) (fls_len b))]
  have e1 : ∀ y, y < 2 ^ b → ((ite3 (imT b 0 r f) h (fls b)).getD y false = true ↔ ∃ x, x < 2 ^ b ∧ r.getD (wv b x y) false = true ∧ f.getD x false = true ∧ h.getD y false = true) := fun y hy => by
    rw [andT_get (imT_len _ _ _ _) hh hy]
    unfold imT
    rw [tbF_get _ _ hy]
    simp only [Bool.and_eq_true, List.any_eq_true, List.mem_range, if_true]
    constructor
    · rintro ⟨⟨x, hx, h1, h2⟩, h3⟩; exact ⟨x, hx, h1, h2, h3⟩
    · rintro ⟨x, hx, h1, h2, h3⟩; exact ⟨⟨x, hx, h1, h2⟩, h3⟩
  have e2 : ∀ x, x < 2 ^ b → ((ite3 f (imT b 1 r h) (fls b)).getD x false = true ↔ ∃ y, y < 2 ^ b ∧ r.getD (wv b x y) false = true ∧ f.getD x false = true ∧ h.getD y false = true) := fun x hx => by
    rw [andT_get hf (imT_len _ _ _ _) hx]
    unfold imT
    rw [tbF_get _ _ hx]
    simp only [Bool.and_eq_true, List.any_eq_true, List.mem_range, if_neg (show ¬ (1 : Nat) = 0 by omega)]
    constructor
    · rintro ⟨h1, y, hy, h2, h3⟩; exact ⟨y, hy, h2, h1, h3⟩
    · rintro ⟨y, hy, h1, h2, h3⟩; exact ⟨h2, y, hy, h1, h3⟩
  constructor
  · intro H x hx
    rw [Bool.eq_false_iff]
    intro hc
    obtain ⟨y, hy, h1, h2, h3⟩ := (e2 x hx).1 hc
    have := H y hy
    rw [(e1 y hy).2 ⟨x, hx, h1, h2, h3⟩] at this
    simp at this
  · intro H y hy
    rw [Bool.eq_false_iff]
    intro hc
    obtain ⟨x, hx, h1, h2, h3⟩ := (e1 y hy).1 hc
    have := H x hx
    rw [(e2 x hx).2 ⟨y, hy, h1, h2, h3⟩] at this
    simp at this
theorem IsTab.zero {n : Nat} {t : List Bool} {L : List Nd} {r : Int} (h : IsTab n t L r) : r = 0 ↔ t = fls n := by
  constructor
  · rintro rfl
    have := h.ord.2.2
    rw [tab0 _ h.n40] at this
    exact this.symm
  · rintro rfl
    have := h.eq
    rw [show fls n = List.replicate (2 ^ n) false from rfl, tableF_false] at this
    exact (congrArg Prod.snd this).symm
end Go.Proofs.YtknlkcfnfjchdaaGreat
