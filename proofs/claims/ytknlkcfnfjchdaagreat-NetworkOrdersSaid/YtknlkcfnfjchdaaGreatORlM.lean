/- Plain: images of unions, the identity, meets. Chapter 11: the program's functions at the law's lists. Chapter 11: known walked; a diagram in its box. Plain: what the tables of images, closures and compositions have to do with the law's lists. -/
import Derived.Test.YtknlkcfnfjchdaaGreatONetA
import Derived.Test.YtknlkcfnfjchdaaGreatONetC
import Derived.Test.YtknlkcfnfjchdaaGreatORelGenB
import Derived.Test.YtknlkcfnfjchdaaGreatORelB
namespace Go.Proofs.YtknlkcfnfjchdaaGreat
open Go.RowKit
set_option linter.unusedVariables false
set_option linter.unusedSimpArgs false

theorem posT_fil : ∀ (t : List Bool) (b : Nat), posT t b = ((List.range t.length).filter fun i => t.getD i false).map fun i => b + i
  | [], b => by simp [posT]
  | x :: t, b => by
    rw [posT, posT_fil t (b + 1), List.length_cons, List.range_succ_eq_map, List.filter_cons]
    have h0 : (x :: t).getD 0 false = x := by simp
    have h1 : ((List.map Nat.succ (List.range t.length)).filter fun i => (x :: t).getD i false) = ((List.range t.length).filter fun i => t.getD i false).map Nat.succ := by
      rw [List.filter_map]
      congr 1
    have h2 : (((List.range t.length).filter fun i => t.getD i false).map Nat.succ).map (fun i => b + i) = ((List.range t.length).filter fun i => t.getD i false).map fun i => b + 1 + i := by
      rw [List.map_map]
      exact List.map_congr_left (fun i _ => by simp only [Function.comp]; omega)
    rw [h0, h1]
    cases x with
    | true => rw [if_pos rfl, if_pos rfl, List.map_cons, h2]; simp
    | false => rw [if_neg (by simp), if_neg (by simp), h2]
theorem posT_filF (t : List Bool) : posT t 0 = filF (fun i => t.getD i false) t.length := by
  rw [posT_fil, filF]
  simp
theorem filF_cut {p : Nat → Bool} {n m : Nat} (h : n ≤ m) (hp : ∀ i, n ≤ i → i < m → p i = false) : filF p m = filF p n := by
  induction m with
  | zero => rw [show n = 0 by omega]
  | succ m ih =>
    by_cases e : n = m + 1
    · rw [e]
    · rw [filF_no (hp m (by omega) (by omega))]
      exact ih (by omega) (fun i h1 h2 => hp i h1 (by omega))
theorem filF_congr {p q : Nat → Bool} {n : Nat} (h : ∀ i, i < n → p i = q i) : filF p n = filF q n := by
  unfold filF
  exact List.filter_congr (fun x hx => h x (List.mem_range.1 hx))
/-- The table of a list of states below n, in order. -/
structure SetIs (b n : Nat) (t : List Bool) (S : List Nat) : Prop where
  len : t.length = 2 ^ b
  eq : S = filF (fun i => t.getD i false) n
  out : ∀ i, n ≤ i → i < 2 ^ b → t.getD i false = false
theorem SetIs.pos {b n : Nat} {t : List Bool} {S : List Nat} (h : SetIs b n t S) (hn : n ≤ 2 ^ b) : posT t 0 = S := by
  rw [posT_filF, h.len, filF_cut hn h.out, h.eq]
theorem SetIs.mem {b n : Nat} {t : List Bool} {S : List Nat} (h : SetIs b n t S) {i : Nat} (hi : i < 2 ^ b) : t.getD i false = decide (i ∈ S) := by
  rw [h.eq]
  have := filF_mem (p := fun i => t.getD i false) (k := n) (x := i)
  by_cases hp : t.getD i false = true
  · rw [hp]
    refine (decide_eq_true (this.2 ⟨?_, hp⟩)).symm
    rcases Nat.lt_or_ge i n with h1 | h1
    · exact h1
    · rw [h.out i h1 hi] at hp; simp at hp
  · rw [show t.getD i false = false by simpa using hp]
    exact (decide_eq_false (fun h => hp (this.1 h).2)).symm
theorem SetIs.lt {b n : Nat} {t : List Bool} {S : List Nat} (h : SetIs b n t S) : ∀ i ∈ S, i < n := fun i hi => by
  rw [h.eq] at hi
  exact (filF_mem.1 hi).1
theorem SetIs.of {b n : Nat} {t : List Bool} {p : Nat → Bool} (hn : n ≤ 2 ^ b) (hl : t.length = 2 ^ b) (h : ∀ i, i < 2 ^ b → t.getD i false = (decide (i < n) && p i)) : SetIs b n t (filF p n) where
  len := hl
  eq := filF_congr (fun i hi => by rw [h i (by omega), decide_eq_true hi, Bool.true_and])
  out := fun i h1 h2 => by rw [h i h2, decide_eq_false (by omega), Bool.false_and]
theorem SetIs.tabS {b n : Nat} {p : Nat → Bool} (hn : n ≤ 2 ^ b) : SetIs b n (tabS b 0 (filF p n)) (filF p n) := by
  refine SetIs.of hn (tabS_len _ _ _) (fun i hi => ?_)
  rw [tabS_get _ _ _ hi, Nat.zero_add]
  have := filF_mem (p := p) (k := n) (x := i)
  by_cases h1 : i < n
  · rw [decide_eq_true h1, Bool.true_and]
    by_cases h2 : p i = true
    · rw [h2]; exact decide_eq_true (this.2 ⟨h1, h2⟩)
    · rw [show p i = false by simpa using h2]; exact decide_eq_false (fun h => h2 (this.1 h).2)
  · rw [decide_eq_false h1, Bool.false_and]
    exact decide_eq_false (fun h => h1 (this.1 h).1)
theorem im_mem {b s : Nat} (hs : s < 2) {l : List (Nat × Nat)} {u : List Bool} {S : List Nat} (hl : ∀ p ∈ l, p.1 < 2 ^ b ∧ p.2 < 2 ^ b) (hu : ∀ i, i < 2 ^ b → u.getD i false = decide (i ∈ S)) {y : Nat} (hy : y < 2 ^ b) :
    (imT b s (relT b l) u).getD y false = l.any (stM (decide (s = 1)) S y) := by
  unfold imT
  rw [tbF_get _ _ hy, Bool.eq_iff_iff]
  simp only [List.any_eq_true, List.mem_range, Bool.and_eq_true]
  constructor
  · rintro ⟨x, hx, h1, h2⟩
    rw [hu x hx, decide_eq_true_eq] at h2
    by_cases e : s = 0
    · subst e
      rw [if_pos rfl, relT_get hl hx hy, decide_eq_true_eq] at h1
      refine ⟨_, h1, ?_⟩
      simp [stM_f, h2]
    · obtain rfl : s = 1 := by omega
      rw [if_neg (by decide), relT_get hl hy hx, decide_eq_true_eq] at h1
      refine ⟨_, h1, ?_⟩
      simp [stM_t, h2]
  · rintro ⟨⟨a, c⟩, hm, h⟩
    obtain ⟨ha, hc⟩ := hl _ hm
    simp only at ha hc
    by_cases e : s = 0
    · subst e
      rw [show decide (0 = 1) = false from rfl, stM_f, Bool.and_eq_true, decide_eq_true_eq, decide_eq_true_eq] at h
      obtain ⟨rfl, h2⟩ := h
      exact ⟨a, ha, by rw [if_pos rfl, relT_get hl ha hc]; exact decide_eq_true hm, by rw [hu a ha]; exact decide_eq_true h2⟩
    · obtain rfl : s = 1 := by omega
      rw [show decide (1 = 1) = true from rfl, stM_t, Bool.and_eq_true, decide_eq_true_eq, decide_eq_true_eq] at h
      obtain ⟨rfl, h2⟩ := h
      exact ⟨c, hc, by rw [if_neg (by decide), relT_get hl ha hc]; exact decide_eq_true hm, by rw [hu c hc]; exact decide_eq_true h2⟩
theorem any_out {l : List (Nat × Nat)} {n : Nat} (hl : ∀ p ∈ l, p.1 < n ∧ p.2 < n) (back : Bool) (S : List Nat) {y : Nat} (hy : n ≤ y) : l.any (stM back S y) = false := by
  rw [List.any_eq_false]
  rintro ⟨a, c⟩ hm h
  have := hl _ hm
  simp only at this
  cases back with
  | true => rw [stM_t, Bool.and_eq_true, decide_eq_true_eq] at h; omega
  | false => rw [stM_f, Bool.and_eq_true, decide_eq_true_eq] at h; omega
theorem SetIs.im {b n s : Nat} (hs : s < 2) {l : List (Nat × Nat)} {u : List Bool} {S : List Nat} (hn : n ≤ 2 ^ b) (hl : ∀ p ∈ l, p.1 < n ∧ p.2 < n) (h : SetIs b n u S) : SetIs b n (imT b s (relT b l) u) (stepF (decide (s = 1)) l S n) := by
  have hl' : ∀ p ∈ l, p.1 < 2 ^ b ∧ p.2 < 2 ^ b := fun p hp => by have := hl p hp; omega
  refine SetIs.of hn (imT_len _ _ _ _) (fun i hi => ?_)
  rw [im_mem hs hl' (fun i hi => h.mem hi) hi]
  by_cases hin : i < n
  · rw [decide_eq_true hin, Bool.true_and]
  · rw [decide_eq_false hin, Bool.false_and, any_out hl _ _ (by omega)]
theorem SetIs.cl {b n s : Nat} (hs : s < 2) {l : List (Nat × Nat)} {u : List Bool} {S : List Nat} (hn : n ≤ 2 ^ b) (hl : ∀ p ∈ l, p.1 < n ∧ p.2 < n) (h : SetIs b n u S) :
    SetIs b n (clS b s (relT b l) u) (uniF S (stepF (decide (s = 1)) l S n) n) := by
  have hi2 := h.im hs hn hl
  refine SetIs.of hn (clS_len h.len) (fun i hi => ?_)
  rw [clS_get h.len hi, h.mem hi, hi2.mem hi]
  by_cases hin : i < n
  · rw [decide_eq_true hin, Bool.true_and]
  · rw [decide_eq_false hin, Bool.false_and, decide_eq_false (fun hh => hin (h.lt _ hh)), decide_eq_false (fun hh => hin (hi2.lt _ hh))]; rfl
theorem SetIs.inj {b n : Nat} {t u : List Bool} {S : List Nat} (h : SetIs b n t S) (h' : SetIs b n u S) : t = u :=
  ext_getD h.len h'.len (fun i hi => by rw [h.mem hi, h'.mem hi])
theorem SetIs.uniq {b n : Nat} {t : List Bool} {S S' : List Nat} (h : SetIs b n t S) (h' : SetIs b n t S') : S = S' := by rw [h.eq, h'.eq]
/-- The law's closure, round by round. -/
def haveF (back : Bool) (l : List (Nat × Nat)) (S : List Nat) (n : Nat) : Nat → List Nat
  | 0 => S
  | k + 1 => uniF (haveF back l S n k) (stepF back l (haveF back l S n k) n) n
theorem SetIs.have {b n s : Nat} (hs : s < 2) {l : List (Nat × Nat)} {u : List Bool} {S : List Nat} (hn : n ≤ 2 ^ b) (hl : ∀ p ∈ l, p.1 < n ∧ p.2 < n) (h : SetIs b n u S) :
    ∀ k, SetIs b n (clI b s (relT b l) u k) (haveF (decide (s = 1)) l S n k)
  | 0 => h
  | k + 1 => (SetIs.have hs hn hl h k).cl hs hn hl
end Go.Proofs.YtknlkcfnfjchdaaGreat
namespace Go.Proofs.YtknlkcfnfjchdaaGreat
open Go.RowKit
set_option linter.unusedVariables false
set_option linter.unusedSimpArgs false

/-- A diagram of a table, in box b. -/
structure Bx (W : World) (b n : Nat) (t : List Bool) (a : Option Addr) (c : Nat) (L : List Nd) (r : Int) : Prop where
  heap : W.heap[b]? = some (.cells #[.int .i64 n, .slice a L.length c, .int .i64 r] 54 (0, 0))
  at' : Dg.at W ⟨n, a, c, L, r⟩
  tab : IsTab n t L r
theorem Bx.same {W W' : World} {b n : Nat} {t : List Bool} {a : Option Addr} {c : Nat} {L : List Nd} {r : Int} (h : Bx W b n t a c L r) (hs : Same W W') : Bx W' b n t a c L r := ⟨hs.at h.heap id, SliceAt.same h.at' hs, h.tab⟩
theorem DgE.ok {E : Int} {n : Nat} {t : List Bool} {w w' : World} {e : Ending} (h : DgE E n t w e w') (h0 : E = 0) : DgN n t w e w' := by
  rcases h with ⟨h, _⟩ | ⟨_, h⟩
  · exact absurd h0 h
  · exact h
theorem StRet.ok {l : List Nat} {E : Int} {w w' : World} {e : Ending} (h : StRet w l E e w') (h0 : E = 0) : ∃ a c, e = .returned (.tuple #[.slice a l.length c, .int .i64 0]) ∧ w'.ownsRow w.heap.size 3 1 (.slice a l.length c) l.length (codeC l) ∧ Same w w' := by
  obtain ⟨hs, ⟨h, _⟩ | ⟨_, a, c, h1, h2⟩⟩ := h
  · exact absurd h0 h
  · exact ⟨a, c, h1, h2, hs⟩
theorem PaRet.ok {l : List (Nat × Nat)} {E : Int} {w w' : World} {e : Ending} (h : PaRet w l E e w') (h0 : E = 0) : ∃ a c, e = .returned (.tuple #[.slice a l.length c, .int .i64 0]) ∧ w'.ownsRow w.heap.size 72 2 (.slice a l.length c) l.length (prC l) ∧ Same w w' := by
  obtain ⟨hs, ⟨h, _⟩ | ⟨_, a, c, h1, h2⟩⟩ := h
  · exact absurd h0 h
  · exact ⟨a, c, h1, h2, hs⟩
theorem ClE.ok {E : Int} {b s : Nat} {r u : List Bool} {w w' : World} {e : Ending} (h : ClE E b s r u w e w') (h0 : E = 0) : ClR b s r u w e w' := by
  rcases h with ⟨h, _⟩ | ⟨_, h⟩
  · exact absurd h0 h
  · exact h
theorem ClR.open {b s : Nat} {r u : List Bool} {w w' : World} {e : Ending} (h : ClR b s r u w e w') : ∃ (k : Nat) (a : Option Addr) (c : Nat) (L : List Nd) (q : Int), e = .returned (.tuple #[.agg #[.int .i64 b, .slice a L.length c, .int .i64 q], .int .i64 k, .int .i64 0]) ∧ Dg.at w' ⟨b, a, c, L, q⟩ ∧ IsTab b (clI b s r u k) L q ∧ clI b s r u (k + 1) = clI b s r u k ∧ (∀ j, j < k → clI b s r u j ≠ clI b s r u (j + 1)) ∧ Same w w' := by
  obtain ⟨⟨n, a, c, L, q⟩, k, he, hd, ⟨hn, ht⟩, h1, h2, hs⟩ := h
  obtain rfl : n = b := hn
  exact ⟨k, a, c, L, q, he, hd, ht, h1, h2, hs⟩
/-! ### the chapter's example -/
def kA (s : Nat) : Au := ⟨[0, 1], 3, [], [(0, 0, 1), (1, 0, 2), (2, 1, 0)], some ⟨s, 0, none⟩, 2, none, 0, some ⟨s + 1, 0, none⟩, 3⟩
end Go.Proofs.YtknlkcfnfjchdaaGreat
namespace Go.Proofs.YtknlkcfnfjchdaaGreat
open Go.RowKit
set_option linter.unusedVariables false
set_option linter.unusedSimpArgs false
theorem renErr_0 {m : Int} {qs : List Int} : ∀ (k i : Nat), i + k = qs.length → (∀ j, j < qs.length → 0 ≤ toF qs j ∧ toF qs j < m) → (∀ j, j + 1 < qs.length → toF qs j < toF qs (j + 1)) → renErr m qs k i = 0
  | 0, _, _, _, _ => rfl
  | k + 1, i, h, h1, h2 => by
    have b := h1 i (by omega)
    rw [renErr, if_neg (by omega), if_neg (fun hh => by
      have := h2 (i - 1) (by omega)
      rw [show i - 1 + 1 = i by omega] at this
      omega)]
    exact renErr_0 k (i + 1) (by omega) h1 h2
theorem natI_toF {l : List Nat} {j : Nat} (h : j < l.length) : toF (natI l) j = ((l[j] : Nat) : Int) := by
  unfold toF natI
  simp [List.getD, h]
theorem filF_pair (p : Nat → Bool) (n : Nat) : (filF p n).Pairwise (· < ·) := List.pairwise_lt_range.filter _
theorem fil_err (p : Nat → Bool) (n : Nat) : renErr n (natI (filF p n)) (natI (filF p n)).length 0 = 0 := by
  refine renErr_0 _ 0 (by omega) (fun j hj => ?_) (fun j hj => ?_)
  · rw [natI_len] at hj
    rw [natI_toF hj]
    have := (filF_mem.1 (List.getElem_mem hj)).1
    omega
  · rw [natI_len] at hj
    rw [natI_toF hj, natI_toF (by omega)]
    have := List.pairwise_iff_getElem.1 (filF_pair p n) j (j + 1) (by omega) hj (by omega)
    omega
end Go.Proofs.YtknlkcfnfjchdaaGreat
namespace Go.Proofs.YtknlkcfnfjchdaaGreat
open Go.RowKit
set_option linter.unusedVariables false
set_option linter.unusedSimpArgs false

theorem idL_lt (k : Nat) : ∀ p ∈ idL k, p.1 < k ∧ p.2 < k := fun p hp => by
  obtain ⟨i, hi, rfl⟩ := List.mem_map.1 hp
  have := List.mem_range.1 hi
  exact ⟨this, this⟩
theorem IsTab.zero {n : Nat} {t : List Bool} {L : List Nd} {r : Int} (h : IsTab n t L r) : r = 0 ↔ t = fls n := by
  constructor
  · rintro rfl
    have := h.ord.2.2
    rw [tab0 _ h.n40] at this
    exact this.symm
  · rintro rfl
    have := h.eq
    rw [show fls n = List.replicate (2 ^ n) false from rfl, tableF_false] at this
    exact (congrArg Prod.snd this).symm
end Go.Proofs.YtknlkcfnfjchdaaGreat
