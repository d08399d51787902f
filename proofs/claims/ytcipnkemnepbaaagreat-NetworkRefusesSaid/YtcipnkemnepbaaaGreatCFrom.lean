/-  -/
import Derived.Test.YtcipnkemnepbaaaGreatCChange
import Derived.Test.YtcipnkemnepbaaaGreatCOrdO
import Derived.Test.YtcipnkemnepbaaaGreatCCheck
import Derived.Test.YtcipnkemnepbaaaGreatCChgP
set_option maxRecDepth 100000
set_option maxHeartbeats 1000000
set_option linter.unusedVariables false
set_option linter.unusedSimpArgs false
namespace Go.Proofs.YtcipnkemnepbaaaGreat
open Go.RowKit
def DoRet (w : World) (B p m mm : Nat) (a : Option Addr) (cap : Nat) (N N' : List Nd) (k : Int) (e : Ending) (w' : World) : Prop :=
 e = .returned (.int .i64 k) ∧ ∃ a' cap', BuilderAt w' B p m a' cap' N' ∧ Grew (fun i => BB p m i ∨ i = mm) w w' (.slice a N.length cap) (.slice a' N'.length cap')
theorem ints_cell {w : World} {a : Option Addr} {cap : Nat} {l : List Int} (h : SliceAt w 3 1 (.slice a l.length cap) l.length (gw l)) (hn : 0 < l.length) :
 ∃ b off, a = some ⟨b, off, none⟩ ∧ b < w.heap.size ∧ ∀ j (hj : j < l.length), w.cell? ⟨b, off + j, none⟩ = some (.int .i64 l[j]) := by
 obtain ⟨b, off, ha, hb, hc⟩ := h.cell hn
 refine ⟨b, off, ha, hb, fun j hj => hc j _ ?_⟩
 rw [intCells_get l j hj]
 simp [List.getD, hj]
theorem not_do (fuel : Nat) (B p m mm : Nat) (a : Option Addr) (cap : Nat) (N : List Nd) (ar : Option Addr) (capr : Nat) (f : Int) (s' : Is) (k : Int) (w : World) (hB : BuilderAt w B p m a cap N) (hM : MapAt ndv (Value.int .i64) w mm ([] : List (Nd × Int))) (hne : mm ≠ m)
 (hN : VNd N) (hl : SliceAt w 3 1 (.slice ar 1 capr) 1 (gw [f])) (hf : VNum N f) (he : iteF fuel (N, []) f 0 1 = some (s', k)) (hlen : s'.1.length ≤ 90000000) :
 Calls Tryz.prog 107 #[.pointer (some ⟨p, 0, none⟩), .slice ar 1 capr, .map (some mm)] w (DoRet w B p m mm a cap N s'.1 k) := by
 have FIN : ∀ W, Same w W → Calls Tryz.prog 79 #[.pointer (some ⟨p, 0, none⟩), .int .i64 f, .int .i64 0, .int .i64 1, .map (some mm)] W (IRet W B p m mm a cap N s' k) :=
  fun W hs => ite_any fuel B p m mm a cap (N, []) f 0 1 s' k W (hB.same hs) (hM.of_block (hs.block _ hM.lt id)) hne hN (fun _ _ h => by simp [mget] at h) hf ⟨by omega, by simp; omega⟩ ⟨by omega, by simp; omega⟩ he hlen
 obtain ⟨b, off, rfl, hb, hc⟩ := ints_cell (l := [f]) hl (by simp)
 have c0 := hc 0 (by simp)
 simp only [Nat.add_zero, List.getElem_cons_zero, List.getElem_cons_succ] at c0
 clear hl hc hB hM hN he hf
 replace FIN := gi FIN
 go_enter Tryz.func107, Tryz.ntmps107
 go_wp2_with fail
 refine (FIN.out _ fs1).mono ?_
 rintro e w1 ⟨rfl, a', cap', h1, _, h2⟩
 go_wp2_with fail
 go_ret
 exact ⟨rfl, a', cap', h1, (Grew.of_same _ fs1).trans h2⟩
theorem and_do (fuel : Nat) (B p m mm : Nat) (a : Option Addr) (cap : Nat) (N : List Nd) (ar : Option Addr) (capr : Nat) (f g : Int) (s' : Is) (k : Int) (w : World) (hB : BuilderAt w B p m a cap N) (hM : MapAt ndv (Value.int .i64) w mm ([] : List (Nd × Int))) (hne : mm ≠ m)
 (hN : VNd N) (hl : SliceAt w 3 1 (.slice ar 2 capr) 2 (gw [f, g])) (hf : VNum N f) (hg : VNum N g) (he : iteF fuel (N, []) f g 0 = some (s', k)) (hlen : s'.1.length ≤ 90000000) :
 Calls Tryz.prog 108 #[.pointer (some ⟨p, 0, none⟩), .slice ar 2 capr, .map (some mm)] w (DoRet w B p m mm a cap N s'.1 k) := by
 have FIN : ∀ W, Same w W → Calls Tryz.prog 79 #[.pointer (some ⟨p, 0, none⟩), .int .i64 f, .int .i64 g, .int .i64 0, .map (some mm)] W (IRet W B p m mm a cap N s' k) :=
  fun W hs => ite_any fuel B p m mm a cap (N, []) f g 0 s' k W (hB.same hs) (hM.of_block (hs.block _ hM.lt id)) hne hN (fun _ _ h => by simp [mget] at h) hf hg ⟨by omega, by simp; omega⟩ he hlen
 obtain ⟨b, off, rfl, hb, hc⟩ := ints_cell (l := [f, g]) hl (by simp)
 have c0 := hc 0 (by simp)
 have c1 := hc 1 (by simp)
 simp only [Nat.add_zero, List.getElem_cons_zero, List.getElem_cons_succ] at c0 c1
 clear hl hc hB hM hN he hf hg
 replace FIN := gi FIN
 go_enter Tryz.func108, Tryz.ntmps108
 go_wp2_with fail
 refine wp_region_sched (fun _ => True) [0, 0, 0, 1, 0, 0, 1, 0, 3, 0] [0, 1, 2, 4, 5, 7, 3, 6, 8, 9] (by kernel_rfl) (by kernel_rfl) ?_
 repeat ((first | refine gB rfl rfl fun _ k => ?_ | refine gC rfl rfl fun _ k => ?_); go_simp; (first | refine k _ ?_ | refine ⟨_, fun _ => rfl, k _ ?_⟩); clear k)
 refine gD rfl (by decide) (fun _ hK => ?_); go_simp
 refine (FIN.out _ fs1).mono ?_
 rintro e w1 ⟨rfl, a', cap', h1, _, h2⟩
 refine hK _ _ ?_; clear hK; try simp only [Act.put, gj]
 repeat ((first | refine gB rfl rfl fun _ k => ?_ | refine gC rfl rfl fun _ k => ?_); go_simp; (first | refine k _ ?_ | refine ⟨_, fun _ => rfl, k _ ?_⟩); clear k)
 refine gO (NoPanic.normal ?_)
 go_wp2_with fail
 go_ret
 exact ⟨rfl, a', cap', h1, (Grew.of_same _ fs1).trans h2⟩
theorem or_do (fuel : Nat) (B p m mm : Nat) (a : Option Addr) (cap : Nat) (N : List Nd) (ar : Option Addr) (capr : Nat) (f g : Int) (s' : Is) (k : Int) (w : World) (hB : BuilderAt w B p m a cap N) (hM : MapAt ndv (Value.int .i64) w mm ([] : List (Nd × Int))) (hne : mm ≠ m)
 (hN : VNd N) (hl : SliceAt w 3 1 (.slice ar 2 capr) 2 (gw [f, g])) (hf : VNum N f) (hg : VNum N g) (he : iteF fuel (N, []) f 1 g = some (s', k)) (hlen : s'.1.length ≤ 90000000) :
 Calls Tryz.prog 78 #[.pointer (some ⟨p, 0, none⟩), .slice ar 2 capr, .map (some mm)] w (DoRet w B p m mm a cap N s'.1 k) := by
 have FIN : ∀ W, Same w W → Calls Tryz.prog 79 #[.pointer (some ⟨p, 0, none⟩), .int .i64 f, .int .i64 1, .int .i64 g, .map (some mm)] W (IRet W B p m mm a cap N s' k) :=
  fun W hs => ite_any fuel B p m mm a cap (N, []) f 1 g s' k W (hB.same hs) (hM.of_block (hs.block _ hM.lt id)) hne hN (fun _ _ h => by simp [mget] at h) hf ⟨by omega, by simp; omega⟩ hg he hlen
 obtain ⟨b, off, rfl, hb, hc⟩ := ints_cell (l := [f, g]) hl (by simp)
 have c0 := hc 0 (by simp)
 have c1 := hc 1 (by simp)
 simp only [Nat.add_zero, List.getElem_cons_zero, List.getElem_cons_succ] at c0 c1
 clear hl hc hB hM hN he hf hg
 replace FIN := gi FIN
 go_enter Tryz.func78, Tryz.ntmps78
 go_wp2_with fail
 refine wp_region_sched (fun _ => True) [0, 0, 0, 1, 0, 0, 1, 0, 3, 0] [0, 1, 2, 4, 5, 7, 3, 6, 8, 9] (by kernel_rfl) (by kernel_rfl) ?_
 repeat ((first | refine gB rfl rfl fun _ k => ?_ | refine gC rfl rfl fun _ k => ?_); go_simp; (first | refine k _ ?_ | refine ⟨_, fun _ => rfl, k _ ?_⟩); clear k)
 refine gD rfl (by decide) (fun _ hK => ?_); go_simp
 refine (FIN.out _ fs1).mono ?_
 rintro e w1 ⟨rfl, a', cap', h1, _, h2⟩
 refine hK _ _ ?_; clear hK; try simp only [Act.put, gj]
 repeat ((first | refine gB rfl rfl fun _ k => ?_ | refine gC rfl rfl fun _ k => ?_); go_simp; (first | refine k _ ?_ | refine ⟨_, fun _ => rfl, k _ ?_⟩); clear k)
 refine gO (NoPanic.normal ?_)
 go_wp2_with fail
 go_ret
 exact ⟨rfl, a', cap', h1, (Grew.of_same _ fs1).trans h2⟩
theorem ints_block {w : World} {a : Option Addr} {cap : Nat} {l : List Int} (h : SliceAt w 3 1 (.slice a l.length cap) l.length (gw l)) (hn : 0 < l.length) :
 ∃ b off cur, a = some ⟨b, off, none⟩ ∧ w.heap[b]? = some (.cells cur 3 (0, 0)) ∧ ∀ j (hj : j < l.length), w.cell? ⟨b, off + j, none⟩ = some (.int .i64 l[j]) := by
 obtain ⟨b, off, ha, hb, hc⟩ := ints_cell h hn
 obtain ⟨_, a', cap', he, _, _, _, hx⟩ := h
 obtain ⟨b', off', cur, ha', hh, _⟩ := hx hn
 cases he
 rw [ha] at ha'
 cases ha'
 exact ⟨b, off, cur, ha, hh, hc⟩
end Go.Proofs.YtcipnkemnepbaaaGreat
namespace Go.Proofs.YtcipnkemnepbaaaGreat
def addAllF : List Dg → List Nd × List Int → List Nd × List Int
 | [], s => s
 | d :: l, s => addAllF l ((addF d.L (s.1, [0, 1])).1, s.2 ++ [(addF d.L (s.1, [0, 1])).2.getD d.r.toNat 0])
theorem addAllF_snoc (l : List Dg) (d : Dg) (s : List Nd × List Int) : addAllF (l ++ [d]) s = ((addF d.L ((addAllF l s).1, [0, 1])).1, (addAllF l s).2 ++ [(addF d.L ((addAllF l s).1, [0, 1])).2.getD d.r.toNat 0]) := by
 induction l generalizing s with
 | nil => rfl
 | cons x l ih => simp only [List.cons_append, addAllF]; exact ih _
theorem addAllF_length (l : List Dg) (s : List Nd × List Int) : (addAllF l s).2.length = s.2.length + l.length := by
 induction l generalizing s with
 | nil => rfl
 | cons x l ih => rw [addAllF, ih]; simp; omega
def Dg.ok (d : Dg) : Prop := VNd d.L ∧ 0 ≤ d.r ∧ d.r < (d.L.length : Int) + 2
structure IsTab (n : Nat) (t : List Bool) (L : List Nd) (r : Int) : Prop where
 n40 : n ≤ 40
 len : t.length = 2 ^ n
 eq : tableF n [] 0 t = (L, r)
 short : L.length ≤ 16384
theorem IsTab.of {n : Nat} {t : List Bool} (h : n ≤ 12) (ht : t.length = 2 ^ n) : IsTab n t (tableF n [] 0 t).1 (tableF n [] 0 t).2 :=
 ⟨by omega, ht, rfl, by
  have := tableF_length n [] 0 t
  have h2 : 2 ^ n ≤ 2 ^ 12 := Nat.pow_le_pow_right (by omega) h
  simp at this
  omega⟩
theorem IsTab.ord {n : Nat} {t : List Bool} {L : List Nd} {r : Int} (h : IsTab n t L r) : Ord L n ∧ VNum L r ∧ tab L n 0 r = t := by
 have := table_ord (n := n) n [] 0 t (Ord.nil (by have := h.n40; omega)) (by omega) (by omega)
 rw [h.eq] at this
 exact ⟨this.1, this.2.2.1, this.2.2.2.2 h.len⟩
theorem IsTab.small {n : Nat} {t : List Bool} {L : List Nd} {r : Int} (h : IsTab n t L r) : L.length + 1 ≤ 2 ^ n := by
 have := tableF_length n [] 0 t
 rw [h.eq] at this
 simpa using this
theorem firstErr_ord {n : Int} {L : List Nd} (h : Ord L n) : ∀ m i, i + m = L.length → firstErr n L m i = 0 := by
 intro m
 induction m with
 | zero => intro i _; rfl
 | succ m ih =>
  intro i hi
  have hlt : i < L.length := by omega
  have hg : L.getD i (0, 0, 0) = L[i] := by simp [List.getD, hlt]
  have hm : L[i] ∈ L := List.getElem_mem _
  have hv := h.val i L[i] (List.getElem?_eq_getElem hlt)
  have hvar := h.var _ hm
  have hred := h.red _ hm
  have hord := h.ord _ hm
  have hnd : ¬ L[i] ∈ L.take i := by
   intro hc
   obtain ⟨j, hj, he⟩ := List.mem_iff_getElem.1 hc
   simp only [List.length_take] at hj
   rw [List.getElem_take] at he
   have := nodup_inj h.nodup (by omega) hlt he
   omega
  have hz : checkNodeF n L i L[i] (decide (L[i] ∈ L.take i)) = 0 := by
   unfold checkNodeF
   rw [if_neg (by omega), if_neg (by simp [hnd, hred]), if_neg]
   rintro (⟨h1, h2⟩ | ⟨h1, h2⟩)
   · have := topF_node (N := L) (k := L[i].2.1) (by omega); omega
   · have := topF_node (N := L) (k := L[i].2.2) (by omega); omega
  rw [firstErr, hg, if_neg (by simp [hz])]
  exact ih _ (by omega)
theorem check_canon {n : Nat} {t : List Bool} {L : List Nd} {r : Int} (h : IsTab n t L r) :
 checkF n L r L r = 0 ∧ ∃ fuel s', visitF (addF L ([], [0, 1])).1 fuel ([], [(0, 0), (1, 1)]) ((addF L ([], [0, 1])).2.getD r.toNat 0) = some (s', r) ∧ s'.1 = L := by
 obtain ⟨ho, hv, ht⟩ := h.ord
 have h40 := h.n40
 have hs := h.short
 refine ⟨?_, ?_⟩
 · unfold checkF
   rw [if_neg (by omega), if_neg (by omega), firstErr_ord ho _ _ (by omega), if_neg (by simp), if_neg (by have := hv.1; have := hv.2; omega), if_pos ⟨rfl, rfl⟩]
 · obtain ⟨a, _, b, _, c⟩ := add_root ho (Ord.nil (n := n) (by omega)) hv
   obtain ⟨s', h1, h2⟩ := finish_table a b
   rw [c n 0 (by omega) (topF_range ho.val hv).1, ht, h.eq] at h1 h2
   exact ⟨_, s', h1, h2⟩
def Dg.tab (d : Dg) (n : Nat) (t : List Bool) : Prop := d.n = n ∧ IsTab n t d.L d.r
def Tabs (N : List Nd) (n : Nat) : List Int → List (List Bool) → Prop
 | [], [] => True
 | k :: ks, t :: ts => VNum N k ∧ tab N n 0 k = t ∧ Tabs N n ks ts
 | _, _ => False
def DgTabs (n : Nat) : List Dg → List (List Bool) → Prop
 | [], [] => True
 | d :: l, t :: ts => d.tab n t ∧ DgTabs n l ts
 | _, _ => False
theorem Tabs.ext {N N' : List Nd} {n : Nat} (hN : Ord N n) (hp : N <+: N') : ∀ {ks : List Int} {ts : List (List Bool)}, Tabs N n ks ts → Tabs N' n ks ts
 | [], [], _ => trivial
 | k :: ks, t :: ts, h => ⟨h.1.ext hp, by rw [tab_ext hN hp n 0 k (by omega) h.1 (topF_range hN.val h.1).1]; exact h.2.1, Tabs.ext hN hp h.2.2⟩
 | [], _ :: _, h => h.elim
 | _ :: _, [], h => h.elim
theorem Tabs.snoc {N : List Nd} {n : Nat} {k : Int} {t : List Bool} (hk : VNum N k) (ht : tab N n 0 k = t) : ∀ {ks : List Int} {ts : List (List Bool)}, Tabs N n ks ts → Tabs N n (ks ++ [k]) (ts ++ [t])
 | [], [], _ => ⟨hk, ht, trivial⟩
 | _ :: _, _ :: _, h => ⟨h.1, h.2.1, Tabs.snoc hk ht h.2.2⟩
 | [], _ :: _, h => h.elim
 | _ :: _, [], h => h.elim
theorem addAll_tabs {n : Nat} : ∀ (l : List Dg) (ts : List (List Bool)) (N : List Nd) (ks : List Int) (us : List (List Bool)), Ord N n → Tabs N n ks us → DgTabs n l ts →
 Ord (addAllF l (N, ks)).1 n ∧ N <+: (addAllF l (N, ks)).1 ∧ Tabs (addAllF l (N, ks)).1 n (addAllF l (N, ks)).2 (us ++ ts)
 | [], [], N, ks, us, h1, h2, _ => ⟨h1, List.prefix_refl _, by simpa [addAllF] using h2⟩
 | d :: l, t :: ts, N, ks, us, h1, h2, h3 => by
  obtain ⟨ho, hv, ht⟩ := h3.1.2.ord
  obtain ⟨a1, a2, a3, _, a5⟩ := add_root ho h1 hv
  obtain ⟨b1, b2, b3⟩ := addAll_tabs l ts _ _ (us ++ [t]) a1 ((Tabs.ext h1 a2 h2).snoc a3 (by rw [a5 n 0 (by omega) (topF_range ho.val hv).1, ht])) h3.2
  rw [addAllF]
  refine ⟨b1, a2.trans b2, by simpa using b3⟩
 | [], _ :: _, _, _, _, _, _, h => h.elim
 | _ :: _, [], _, _, _, _, _, h => h.elim
theorem DgTabs.mem {n : Nat} : ∀ {l : List Dg} {ts : List (List Bool)}, DgTabs n l ts → ∀ d ∈ l, ∃ t, d.tab n t
 | [], [], _, d, hd => by simp at hd
 | x :: l, t :: ts, h, d, hd => by
  rcases List.mem_cons.1 hd with rfl | hd
  · exact ⟨t, h.1⟩
  · exact DgTabs.mem h.2 d hd
 | [], _ :: _, h, _, _ => h.elim
 | _ :: _, [], h, _, _ => h.elim
theorem Dg.tab.ok {d : Dg} {n : Nat} {t : List Bool} (h : d.tab n t) : d.ok := by
 obtain ⟨ho, hv, _⟩ := h.2.ord
 exact ⟨ho.val, hv.1, hv.2⟩
theorem addF_length2 (L : List Nd) (s : List Nd × List Int) : (addF L s).1.length ≤ s.1.length + L.length := addF_length1 L s
theorem addAllF_length1 {M : Nat} : ∀ (l : List Dg) (s : List Nd × List Int), (∀ d ∈ l, d.L.length ≤ M) → (addAllF l s).1.length ≤ s.1.length + l.length * M
 | [], s, _ => by simp [addAllF]
 | d :: l, s, h => by
  rw [addAllF]
  have h1 := addF_length2 d.L (s.1, [0, 1])
  have h2 := addAllF_length1 l ((addF d.L (s.1, [0, 1])).1, s.2 ++ [(addF d.L (s.1, [0, 1])).2.getD d.r.toNat 0]) (fun x hx => h x (by simp [hx]))
  have h3 := h d (by simp)
  simp only [List.length_cons, Nat.add_mul, Nat.one_mul] at h1 h2 ⊢
  omega
theorem addAllF_cap {n : Nat} {l : List Dg} {ts : List (List Bool)} (h : DgTabs n l ts) (hl : l.length ≤ 4) : ∀ (k : Nat) (hk : k < l.length), (addAllF (l.take k) ([], [])).1.length + l[k].L.length ≤ 90000000 := by
 intro k hk
 have hs : ∀ d ∈ l, d.L.length ≤ 16384 := fun d hd => by
  obtain ⟨t, ht⟩ := h.mem d hd
  exact ht.2.short
 have h1 := addAllF_length1 (M := 16384) (l.take k) ([], []) (fun d hd => hs d (List.mem_of_mem_take hd))
 have h2 := hs _ (List.getElem_mem hk)
 simp only [List.length_take, List.length_nil] at h1
 have h3 : min k l.length * 16384 ≤ 3 * 16384 := Nat.mul_le_mul_right _ (by omega)
 omega
end Go.Proofs.YtcipnkemnepbaaaGreat
namespace Go.Proofs.YtcipnkemnepbaaaGreat
open Go.RowKit
theorem count_ok (n : Int) (w : World) (h : 0 ≤ n ∧ n ≤ 40) : Calls Tryz.prog 48 #[.int .i64 n] w fun e w' => e = .returned (.int .i64 0) ∧ w = w' := by
 have := count_any n w
 rwa [if_neg (by omega)] at this
theorem count_bad (n : Int) (w : World) (h : n < 0 ∨ 40 < n) : Calls Tryz.prog 48 #[.int .i64 n] w fun e w' => e = .returned (.int .i64 2) ∧ w = w' := by
 have := count_any n w
 rwa [if_pos (by omega)] at this
theorem res3 {w w1 : World} {b : Nat} {x y z a c d : Value} {T : TypeId} (kt : w1.heap[b]? = some (.cells #[x, y, z] T (0, 0))) (hs : Same w w1) (hb : w.heap.size ≤ b) :
 (w1.cell? ⟨b, 0, none⟩ = some x ∧ w1.cell? ⟨b, 1, none⟩ = some y ∧ w1.cell? ⟨b, 2, none⟩ = some z ∧ w1.frozen? ⟨b, 0, none⟩ = false ∧ w1.frozen? ⟨b, 1, none⟩ = false ∧ w1.frozen? ⟨b, 2, none⟩ = false ∧ b < w1.heap.size) ∧
 (((w1.setCell ⟨b, 0, none⟩ a).setCell ⟨b, 1, none⟩ c).setCell ⟨b, 2, none⟩ d).cell? ⟨b, 0, none⟩ = some a ∧
 (((w1.setCell ⟨b, 0, none⟩ a).setCell ⟨b, 1, none⟩ c).setCell ⟨b, 2, none⟩ d).cell? ⟨b, 1, none⟩ = some c ∧
 (((w1.setCell ⟨b, 0, none⟩ a).setCell ⟨b, 1, none⟩ c).setCell ⟨b, 2, none⟩ d).cell? ⟨b, 2, none⟩ = some d ∧
 Same w (((w1.setCell ⟨b, 0, none⟩ a).setCell ⟨b, 1, none⟩ c).setCell ⟨b, 2, none⟩ d) ∧
 (∀ k o, w1.heap[k]? = some o → k ≠ b → (((w1.setCell ⟨b, 0, none⟩ a).setCell ⟨b, 1, none⟩ c).setCell ⟨b, 2, none⟩ d).heap[k]? = some o) ∧
 (∀ T' sz v n cells, SliceAt w1 T' sz v n cells → T' ≠ T → SliceAt (((w1.setCell ⟨b, 0, none⟩ a).setCell ⟨b, 1, none⟩ c).setCell ⟨b, 2, none⟩ d) T' sz v n cells) := by
 have kF := stored3 (a := a) (c := c) (d := d) kt
 have hfr := stored3_fr (w := w1) (b := b) (a := a) (c := c) (d := d)
 exact ⟨⟨gn kt 0, gn kt 1, gn kt 2, free_at kt 0, free_at kt 1, free_at kt 2, gu kt⟩, gn kF 0, gn kF 1, gn kF 2, hs.trans hfr (fun i hi h => by omega), fun k o hk hne => hfr.at hk hne,
  fun T' sz v n cells hsl hne => hsl.fr hfr (fun k cur hk h => by rw [h, kt] at hk; simp at hk; exact hne hk.2.symm)⟩
theorem nodes_of_block {w : World} {g : Nat} {L : List Nd} (h : w.heap[g]? = some (.cells (ndCells L).toArray 142 (0, 0))) (hm : L.length ≤ 1000) : SliceAt w 142 3 (.slice (some ⟨g, 0, none⟩) L.length L.length) L.length (ndCells L) :=
 SliceAt.of_owns (own_of_block (base := 0) h (Nat.zero_le _) (ndCells_length L) rfl (by unfold maxLen; omega))
theorem variable_ok (n i : Int) (w : World) (h : 0 ≤ n ∧ n ≤ 40) (hi : 0 ≤ i ∧ i < n) :
 Calls Tryz.prog 73 #[.int .i64 n, .int .i64 i] w (DRet w n [(i, 0, 1)] 2) := by
 obtain ⟨h1, h2⟩ := h
 obtain ⟨h3, h4⟩ := hi
 go_enter Tryz.func73, Tryz.ntmps73
 go_wp2_with fail
 refine (count_ok n _ ⟨h1, h2⟩).mono ?_
 rintro e w' ⟨rfl, rfl⟩
 go_upto_region 6 with fail
 all_goals first | (exfalso; omega) | skip
 have hs : Same w ((w.alloc (.cells #[.int .i64 0, .slice none 0 0, .int .i64 0] 56)).alloc (.cells #[.int .i64 i, .int .i64 0, .int .i64 1] 142)) := fs1
 have kt : ((w.alloc (.cells #[.int .i64 0, .slice none 0 0, .int .i64 0] 56)).alloc (.cells #[.int .i64 i, .int .i64 0, .int .i64 1] 142)).heap[w.heap.size]? = some (.cells #[.int .i64 0, .slice none 0 0, .int .i64 0] 56 (0, 0)) := heap_old (gv _ _) _
 have kn : ((w.alloc (.cells #[.int .i64 0, .slice none 0 0, .int .i64 0] 56)).alloc (.cells #[.int .i64 i, .int .i64 0, .int .i64 1] 142)).heap[w.heap.size + 1]? = some (.cells #[.int .i64 i, .int .i64 0, .int .i64 1] 142 (0, 0)) := heap_new_at (by simp) _
 replace kn := gi kn
 clear hs kt kn
 go_wp2_with fail
 refine bodyPost_ret (v := .tuple #[.agg #[.int .i64 n, .slice (some ⟨w.heap.size + 1, 0, none⟩) 1 1, .int .i64 2], .int .i64 0]) (by simp [results, Tryz.results73, go_sem]) rfl ?_
 exact ⟨some ⟨w.heap.size + 1, 0, none⟩, 1, rfl, nodes_of_block (L := [(i, 0, 1)]) (heap_new_at (by simp) _) (by simp), fs1⟩
theorem constant_ok (n : Int) (v : Bool) (w : World) (h : 0 ≤ n ∧ n ≤ 40) :
 Calls Tryz.prog 76 #[.int .i64 n, .bool v] w (DRet w n [] (if v then 1 else 0)) := by
 obtain ⟨h1, h2⟩ := h
 cases v
 · go_enter Tryz.func76, Tryz.ntmps76
   go_wp2_with fail
   refine (count_ok n _ ⟨h1, h2⟩).mono ?_
   rintro e w' ⟨rfl, rfl⟩
   have hs : Same w ((w.alloc (.cells #[.int .i64 0, .slice none 0 0, .int .i64 0] 56)).alloc (.cells #[.int .i64 n, .slice none 0 0, .int .i64 0] 56)) := fs1
   have kt : ((w.alloc (.cells #[.int .i64 0, .slice none 0 0, .int .i64 0] 56)).alloc (.cells #[.int .i64 n, .slice none 0 0, .int .i64 0] 56)).heap[w.heap.size]? = some (.cells #[.int .i64 0, .slice none 0 0, .int .i64 0] 56 (0, 0)) := heap_old (gv _ _) _
   clear hs kt
   go_wp2_with fail
   refine bodyPost_ret (v := .tuple #[.agg #[.int .i64 n, .slice none 0 0, .int .i64 0], .int .i64 0]) (by simp [results, Tryz.results76, go_sem]) rfl ?_
   exact ⟨none, 0, rfl, SliceAt.nil _ _ _, fs1⟩
 · go_enter Tryz.func76, Tryz.ntmps76
   go_wp2_with fail
   refine (count_ok n _ ⟨h1, h2⟩).mono ?_
   rintro e w' ⟨rfl, rfl⟩
   have hs : Same w (((w.alloc (.cells #[.int .i64 0, .slice none 0 0, .int .i64 0] 56)).alloc (.cells #[.int .i64 n, .slice none 0 0, .int .i64 0] 56)).setCell ⟨w.heap.size + 1, 2, none⟩ (.int .i64 1)) := (show Same w ((w.alloc (.cells #[.int .i64 0, .slice none 0 0, .int .i64 0] 56)).alloc (.cells #[.int .i64 n, .slice none 0 0, .int .i64 0] 56)) from fs1).setCell _ _ (fun h => by simp only at h; omega)
   have kt : (((w.alloc (.cells #[.int .i64 0, .slice none 0 0, .int .i64 0] 56)).alloc (.cells #[.int .i64 n, .slice none 0 0, .int .i64 0] 56)).setCell ⟨w.heap.size + 1, 2, none⟩ (.int .i64 1)).heap[w.heap.size]? = some (.cells #[.int .i64 0, .slice none 0 0, .int .i64 0] 56 (0, 0)) := by
    rw [heap_setCell_other (by simp)]; exact heap_old (gv _ _) _
   clear hs kt
   go_wp2_with fail
   refine bodyPost_ret (v := .tuple #[.agg #[.int .i64 n, .slice none 0 0, .int .i64 1], .int .i64 0]) (by simp [results, Tryz.results76, go_sem]) rfl ?_
   exact ⟨none, 0, rfl, SliceAt.nil _ _ _, fs1⟩
theorem wrap_pow (n : Nat) (h : n ≤ 60) : wrap64 (2 ^ n) = ((2 ^ n : Nat) : Int) := by
 have h2 : 2 ^ n ≤ 2 ^ 60 := Nat.pow_le_pow_right (by omega) h
 have e : ((2 : Int) ^ n) = ((2 ^ n : Nat) : Int) := by simp
 rw [e]
 obtain ⟨k, hk⟩ : ∃ k : Nat, k = 2 ^ n := ⟨_, rfl⟩
 rw [← hk] at h2 ⊢
 exact IntWalk.wrap64_in _ ⟨by omega, by omega⟩
theorem fromTable_row (n : Nat) (t : List Bool) (aT : Option Addr) (capT : Nat) (w : World) (hn : n ≤ 10) (ht : t.length = 2 ^ n) (hT : RowAt w (.slice aT t.length capT) t.length (gz t)) :
 Calls Tryz.prog 18 #[.int .i64 n, .slice aT t.length capT] w (DRet w n (tableF n [] 0 t).1 (tableF n [] 0 t).2) := by
 have h1 : (0 : Int) ≤ n := by omega
 have h2 : (n : Int) ≤ 10 := by omega
 have hp : t.length ≤ 1024 := by
  have h2 : 2 ^ n ≤ 2 ^ 10 := Nat.pow_le_pow_right (by omega) hn
  omega
 have hq : ((t.length : Int) != wrap64 (2 ^ n)) = false := by rw [wrap_pow n (by omega), ht]; simp
 have T := IsTab.of (by omega) ht
 obtain ⟨ho, hv, htab⟩ := T.ord
 obtain ⟨s', v1, v2⟩ := finish_table ho hv
 rw [htab] at v1 v2
 have hlen : (tableF n [] 0 t).1.length ≤ 16384 := T.short
 have hO := v2
 have FIN : ∀ B p m a2 cap2 W, BuilderAt W B p m a2 cap2 (tableF n [] 0 t).1 → Calls Tryz.prog 50 #[.pointer (some ⟨p, 0, none⟩), .int .i64 n, .int .i64 (tableF n [] 0 t).2] W (DRet W n (tableF n [] 0 t).1 (tableF n [] 0 t).2) := by
  intro B p m a2 cap2 W hB
  refine (finish_any B p m a2 cap2 _ n _ (n + 1) s' _ W hB ho.val.laid (by omega) hv.1 hv.2 v1 (by rw [hO]; omega)).mono ?_
  intro e w3 hD
  unfold finishF at hD
  rw [if_pos (by rw [hO]; exact hlen), hO] at hD
  exact hD
 have hown : 0 < t.length → ∀ k, (Value.slice aT t.length capT).ownBlock = some k → k < w.heap.size := hT.below
 replace hown := gi hown
 replace FIN := gi FIN
 replace hT := gi hT
 replace ht := gi ht
 clear T ho hv htab v1 v2 hO hlen
 go_enter Tryz.func18, Tryz.ntmps18
 go_wp2_with fail
 refine (count_ok n _ (by omega)).mono ?_
 rintro e w' ⟨rfl, rfl⟩
 go_wp2_with fail
 refine (begin_any _).mono ?_
 rintro e w2 ⟨p, m, rfl, hB, hs2⟩
 replace hs2 := gi hs2
 replace hB := gi hB
 go_wp2_with fail
 refine (table_any n (w.heap.size + 1) p m none 0 [] 0 aT capT t _ (by omega) ht.out (by have := hB.out; simpa using this) (hT.out.same ((show Same w _ from fs1).same hs2.out)) (fun k hk => by
  have := Nat.two_pow_pos n
  have := hown.out (by rw [ht.out]; omega) k hk
  omega) (by omega) (by omega) (by have := ht.out; simp; omega)).mono ?_
 rintro e w3 hr
 obtain ⟨rfl, a1, cap1, hB1, hG1⟩ := hr.of
 clear hr
 have hs3 : Same w w3 := Grew.same_base (w0 := w) (by have := hB.out; simpa using this) (by simpa [or_false] using hG1) ((show Same w _ from fs1).same hs2.out) (by simp)
 have kt3 : w3.heap[w.heap.size]? = some (.cells #[.int .i64 0, .slice none 0 0, .int .i64 0] 56 (0, 0)) := by
  rw [hG1.below (by have := hB.out; simpa using this) (by omega)]
  exact hs2.out.at (gv _ _) id
 replace hB1 := gi hB1
 replace hs3 := gi hs3
 replace kt3 := gi kt3
 clear hG1
 go_wp2_with fail
 refine (FIN.out _ _ _ _ _ _ hB1.out).mono ?_
 rintro e w4 ⟨ao, co, rfl, hO, hs4⟩
 have kt := hs4.at kt3.out id
 have hs := hs3.out.same hs4
 replace hO := gi hO
 obtain ⟨⟨t0, t1, t2, f0, f1, f2, tb⟩, d0, d1, d2, hF, hK, hSl⟩ := res3 (a := .int .i64 n) (c := .slice ao (tableF n [] 0 t).1.length co) (d := .int .i64 (tableF n [] 0 t).2) kt hs (by omega); replace hF := gi hF; replace hK := gi hK; replace hSl := gi hSl; replace kt := gi kt; replace hs := gi hs
 have hOF := hSl.out _ _ _ _ _ hO.out (by decide)
 replace hOF := gi hOF
 go_wp2_with fail
 refine bodyPost_ret (v := .tuple #[.agg #[.int .i64 n, .slice ao (tableF n [] 0 t).1.length co, .int .i64 (tableF n [] 0 t).2], .int .i64 0]) (by simp [results, Tryz.results18, go_sem, d0, d1, d2]) rfl ?_
 exact ⟨ao, co, rfl, hOF.out, hF.out⟩
end Go.Proofs.YtcipnkemnepbaaaGreat
