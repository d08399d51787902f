/- Canonical diagrams: Check accepts them; what combine makes of them. No program in sight. -/
import Derived.Test.YtaebjalpebgliaaCombP
import Derived.Test.YtaebjalpebgliaaCanon
namespace Go.Proofs.Ytaebjalpebgliaa
set_option linter.unusedVariables false
set_option linter.unusedSimpArgs false

/-- The nodes and the root are those of a table over n variables. -/
structure IsTab (n : Nat) (t : List Bool) (L : List Nd) (r : Int) : Prop where
  n40 : n ≤ 40
  len : t.length = 2 ^ n
  eq : tableF n [] 0 t = (L, r)
  short : L.length ≤ 16384

theorem IsTab.of {n : Nat} {t : List Bool} (h : n ≤ 10) (ht : t.length = 2 ^ n) : IsTab n t (tableF n [] 0 t).1 (tableF n [] 0 t).2 :=
  ⟨by omega, ht, rfl, by
    have := tableF_length n [] 0 t
    have h2 : 2 ^ n ≤ 2 ^ 10 := Nat.pow_le_pow_right (by omega) h
    simp at this
    omega⟩

theorem IsTab.ord {n : Nat} {t : List Bool} {L : List Nd} {r : Int} (h : IsTab n t L r) : Ord L n ∧ VNum L r ∧ tab L n 0 r = t := by
  have := table_ord (n := n) n [] 0 t (Ord.nil (by have := h.n40; omega)) (by omega) (by omega)
  rw [h.eq] at this
  exact ⟨this.1, this.2.2.1, this.2.2.2.2 h.len⟩

theorem IsTab.small {n : Nat} {t : List Bool} {L : List Nd} {r : Int} (h : IsTab n t L r) : L.length + 1 ≤ 2 ^ n := by
  have := tableF_length n [] 0 t
  rw [h.eq] at this
  simpa using this

/-- A diagram that is canonical: of a root in nodes that are reduced and ordered, finished. -/
theorem tab_isTab {N : List Nd} {n : Nat} {k : Int} (hN : Ord N n) (hk : VNum N k) : (tab N n 0 k).length = 2 ^ n := tab_length _ _ _ _

theorem firstErr_ord {n : Int} {L : List Nd} (h : Ord L n) : ∀ m i, i + m = L.length → firstErr n L m i = 0 := by
  intro m
  induction m with
  | zero => intro i _; rfl
  | succ m ih =>
    intro i hi
    have hlt : i < L.length := by omega
    have hg : L.getD i (0, 0, 0) = L[i] := by simp [List.getD, hlt]
    have hm : L[i] ∈ L := List.getElem_mem _
    have hv := h.val i L[i] (List.getElem?_eq_getElem hlt)
    have hvar := h.var _ hm
    have hred := h.red _ hm
    have hord := h.ord _ hm
    have hnd : ¬ L[i] ∈ L.take i := by
      intro hc
      obtain ⟨j, hj, he⟩ := List.mem_iff_getElem.1 hc
      simp only [List.length_take] at hj
      rw [List.getElem_take] at he
      have := nodup_inj h.nodup (by omega) hlt he
      omega
    have hz : checkNodeF n L i L[i] (decide (L[i] ∈ L.take i)) = 0 := by
      unfold checkNodeF
      rw [if_neg (by omega), if_neg (by simp [hnd, hred]), if_neg]
      rintro (⟨h1, h2⟩ | ⟨h1, h2⟩)
      · have := topF_node (N := L) (k := L[i].2.1) (by omega); omega
      · have := topF_node (N := L) (k := L[i].2.2) (by omega); omega
    rw [firstErr, hg, if_neg (by simp [hz])]
    exact ih _ (by omega)

/-- Check accepts a canonical diagram. -/
theorem check_canon {n : Nat} {t : List Bool} {L : List Nd} {r : Int} (h : IsTab n t L r) :
    checkF n L r L r = 0 ∧ ∃ fuel s', visitF (addF L ([], [0, 1])).1 fuel ([], [(0, 0), (1, 1)]) ((addF L ([], [0, 1])).2.getD r.toNat 0) = some (s', r) ∧ s'.1 = L := by
  obtain ⟨ho, hv, ht⟩ := h.ord
  have h40 := h.n40
  have hs := h.short
  refine ⟨?_, ?_⟩
  · unfold checkF
    rw [if_neg (by omega), if_neg (by omega), firstErr_ord ho _ _ (by omega), if_neg (by simp), if_neg (by have := hv.1; have := hv.2; omega), if_pos ⟨rfl, rfl⟩]
  · obtain ⟨a, _, b, _, c⟩ := add_root ho (Ord.nil (n := n) (by omega)) hv
    obtain ⟨s', h1, h2⟩ := finish_table a b
    rw [c n 0 (by omega) (topF_range ho.val hv).1, ht, h.eq] at h1 h2
    exact ⟨_, s', h1, h2⟩

/-! ### combine -/
/-- The diagrams of some tables over n variables, in one builder. -/
def Dg.tab (d : Dg) (n : Nat) (t : List Bool) : Prop := d.n = n ∧ IsTab n t d.L d.r

def Tabs (N : List Nd) (n : Nat) : List Int → List (List Bool) → Prop
  | [], [] => True
  | k :: ks, t :: ts => VNum N k ∧ tab N n 0 k = t ∧ Tabs N n ks ts
  | _, _ => False
def DgTabs (n : Nat) : List Dg → List (List Bool) → Prop
  | [], [] => True
  | d :: l, t :: ts => d.tab n t ∧ DgTabs n l ts
  | _, _ => False

theorem Tabs.ext {N N' : List Nd} {n : Nat} (hN : Ord N n) (hp : N <+: N') : ∀ {ks : List Int} {ts : List (List Bool)}, Tabs N n ks ts → Tabs N' n ks ts
  | [], [], _ => trivial
  | k :: ks, t :: ts, h => ⟨h.1.ext hp, by rw [tab_ext hN hp n 0 k (by omega) h.1 (topF_range hN.val h.1).1]; exact h.2.1, Tabs.ext hN hp h.2.2⟩
  | [], _ :: _, h => h.elim
  | _ :: _, [], h => h.elim

theorem Tabs.snoc {N : List Nd} {n : Nat} {k : Int} {t : List Bool} (hk : VNum N k) (ht : tab N n 0 k = t) : ∀ {ks : List Int} {ts : List (List Bool)}, Tabs N n ks ts → Tabs N n (ks ++ [k]) (ts ++ [t])
  | [], [], _ => ⟨hk, ht, trivial⟩
  | _ :: _, _ :: _, h => ⟨h.1, h.2.1, Tabs.snoc hk ht h.2.2⟩
  | [], _ :: _, h => h.elim
  | _ :: _, [], h => h.elim

theorem addAll_tabs {n : Nat} : ∀ (l : List Dg) (ts : List (List Bool)) (N : List Nd) (ks : List Int) (us : List (List Bool)), Ord N n → Tabs N n ks us → DgTabs n l ts →
    Ord (addAllF l (N, ks)).1 n ∧ N <+: (addAllF l (N, ks)).1 ∧ Tabs (addAllF l (N, ks)).1 n (addAllF l (N, ks)).2 (us ++ ts)
  | [], [], N, ks, us, h1, h2, _ => ⟨h1, List.prefix_refl _, by simpa [addAllF] using h2⟩
  | d :: l, t :: ts, N, ks, us, h1, h2, h3 => by
    obtain ⟨ho, hv, ht⟩ := h3.1.2.ord
    obtain ⟨a1, a2, a3, _, a5⟩ := add_root ho h1 hv
    obtain ⟨b1, b2, b3⟩ := addAll_tabs l ts _ _ (us ++ [t]) a1 ((Tabs.ext h1 a2 h2).snoc a3 (by rw [a5 n 0 (by omega) (topF_range ho.val hv).1, ht])) h3.2
    rw [addAllF]
    refine ⟨b1, a2.trans b2, by simpa using b3⟩
  | [], _ :: _, _, _, _, _, _, h => h.elim
  | _ :: _, [], _, _, _, _, _, h => h.elim

theorem DgTabs.mem {n : Nat} : ∀ {l : List Dg} {ts : List (List Bool)}, DgTabs n l ts → ∀ d ∈ l, ∃ t, d.tab n t
  | [], [], _, d, hd => by simp at hd
  | x :: l, t :: ts, h, d, hd => by
    rcases List.mem_cons.1 hd with rfl | hd
    · exact ⟨t, h.1⟩
    · exact DgTabs.mem h.2 d hd
  | [], _ :: _, h, _, _ => h.elim
  | _ :: _, [], h, _, _ => h.elim

theorem Dg.tab.ok {d : Dg} {n : Nat} {t : List Bool} (h : d.tab n t) : d.ok := by
  obtain ⟨ho, hv, _⟩ := h.2.ord
  exact ⟨ho.val, hv.1, hv.2⟩

theorem addF_length2 (L : List Nd) (s : List Nd × List Int) : (addF L s).1.length ≤ s.1.length + L.length := addF_length1 L s

theorem addAllF_length1 {M : Nat} : ∀ (l : List Dg) (s : List Nd × List Int), (∀ d ∈ l, d.L.length ≤ M) → (addAllF l s).1.length ≤ s.1.length + l.length * M
  | [], s, _ => by simp [addAllF]
  | d :: l, s, h => by
    rw [addAllF]
    have h1 := addF_length2 d.L (s.1, [0, 1])
    have h2 := addAllF_length1 l ((addF d.L (s.1, [0, 1])).1, s.2 ++ [(addF d.L (s.1, [0, 1])).2.getD d.r.toNat 0]) (fun x hx => h x (by simp [hx]))
    have h3 := h d (by simp)
    simp only [List.length_cons, Nat.add_mul, Nat.one_mul] at h1 h2 ⊢
    omega

theorem addAllF_cap {n : Nat} {l : List Dg} {ts : List (List Bool)} (h : DgTabs n l ts) (hl : l.length ≤ 4) : ∀ (k : Nat) (hk : k < l.length), (addAllF (l.take k) ([], [])).1.length + l[k].L.length ≤ 100000 := by
  intro k hk
  have hs : ∀ d ∈ l, d.L.length ≤ 16384 := fun d hd => by
    obtain ⟨t, ht⟩ := h.mem d hd
    exact ht.2.short
  have h1 := addAllF_length1 (M := 16384) (l.take k) ([], []) (fun d hd => hs d (List.mem_of_mem_take hd))
  have h2 := hs _ (List.getElem_mem hk)
  simp only [List.length_take, List.length_nil] at h1
  have h3 : min k l.length * 16384 ≤ 3 * 16384 := Nat.mul_le_mul_right _ (by omega)
  omega

end Go.Proofs.Ytaebjalpebgliaa
