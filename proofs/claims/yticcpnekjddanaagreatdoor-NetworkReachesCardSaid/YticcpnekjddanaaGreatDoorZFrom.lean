/-  -/
import Derived.Test.YticcpnekjddanaaGreatDoorZChange
import Derived.Test.YticcpnekjddanaaGreatDoorZTable
import Derived.Test.YticcpnekjddanaaGreatDoorZCheck
import Derived.Test.YticcpnekjddanaaGreatDoorZChgP
set_option maxRecDepth 100000
set_option maxHeartbeats 1000000
set_option linter.unusedVariables false
set_option linter.unusedSimpArgs false
namespace Go.Proofs.YticcpnekjddanaaGreatDoor
open Go.RowKit
def qmz (w : World) (B p m mm : Nat) (a : Option Addr) (cap : Nat) (N N' : List Nd) (k : Int) (e : Ending) (w' : World) : Prop :=
 e = .returned (.int .i64 k) ∧ ∃ a' cap', qah w' B p m a' cap' N' ∧ qaK (fun i => BB p m i ∨ i = mm) w w' (.slice a N.length cap) (.slice a' N'.length cap')
theorem qec {w : World} {a : Option Addr} {cap : Nat} {l : List Int} (h : qaa w 3 1 (.slice a l.length cap) l.length (gw l)) (hn : 0 < l.length) :
 ∃ b off, a = some ⟨b, off, none⟩ ∧ b < w.heap.size ∧ ∀ j (hj : j < l.length), w.cell? ⟨b, off + j, none⟩ = some (.int .i64 l[j]) := by
 obtain ⟨b, off, ha, hb, hc⟩ := h.cell hn
 refine ⟨b, off, ha, hb, fun j hj => hc j _ ?_⟩
 rw [qbf l j hj]
 simp [List.getD, hj]
theorem not_do (fuel : Nat) (B p m mm : Nat) (a : Option Addr) (cap : Nat) (N : List Nd) (ar : Option Addr) (capr : Nat) (f : Int) (s' : Is) (k : Int) (w : World) (hB : qah w B p m a cap N) (hM : qaR ndv (Value.int .i64) w mm ([] : List (Nd × Int))) (hne : mm ≠ m)
 (hN : VNd N) (hl : qaa w 3 1 (.slice ar 1 capr) 1 (gw [f])) (hf : qaH N f) (he : qdY fuel (N, []) f 0 1 = some (s', k)) (hlen : s'.1.length ≤ 90000000) :
 Calls Tryz.prog 66 #[.pointer (some ⟨p, 0, none⟩), .slice ar 1 capr, .map (some mm)] w (qmz w B p m mm a cap N s'.1 k) := by
 have FIN : ∀ W, qad w W → Calls Tryz.prog 67 #[.pointer (some ⟨p, 0, none⟩), .int .i64 f, .int .i64 0, .int .i64 1, .map (some mm)] W (qqd W B p m mm a cap N s' k) :=
  fun W hs => qg2 fuel B p m mm a cap (N, []) f 0 1 s' k W (hB.same hs) (hM.of_block (hs.block _ hM.lt id)) hne hN (fun _ _ h => by simp [qa0] at h) hf ⟨by omega, by simp; omega⟩ ⟨by omega, by simp; omega⟩ he hlen
 obtain ⟨b, off, rfl, hb, hc⟩ := qec (l := [f]) hl (by simp)
 have c0 := hc 0 (by simp)
 simp only [Nat.add_zero, List.getElem_cons_zero, List.getElem_cons_succ] at c0
 clear hl hc hB hM hN he hf
 replace FIN := gi FIN
 go_enter Tryz.func66, Tryz.ntmps66
 go_wp2_with fail
 refine (FIN.out _ fs1).mono ?_
 rintro e w1 ⟨rfl, a', cap', h1, _, h2⟩
 go_wp2_with fail
 go_ret
 exact ⟨rfl, a', cap', h1, (qaK.of_same _ fs1).trans h2⟩
theorem and_do (fuel : Nat) (B p m mm : Nat) (a : Option Addr) (cap : Nat) (N : List Nd) (ar : Option Addr) (capr : Nat) (f g : Int) (s' : Is) (k : Int) (w : World) (hB : qah w B p m a cap N) (hM : qaR ndv (Value.int .i64) w mm ([] : List (Nd × Int))) (hne : mm ≠ m)
 (hN : VNd N) (hl : qaa w 3 1 (.slice ar 2 capr) 2 (gw [f, g])) (hf : qaH N f) (hg : qaH N g) (he : qdY fuel (N, []) f g 0 = some (s', k)) (hlen : s'.1.length ≤ 90000000) :
 Calls Tryz.prog 68 #[.pointer (some ⟨p, 0, none⟩), .slice ar 2 capr, .map (some mm)] w (qmz w B p m mm a cap N s'.1 k) := by
 have FIN : ∀ W, qad w W → Calls Tryz.prog 67 #[.pointer (some ⟨p, 0, none⟩), .int .i64 f, .int .i64 g, .int .i64 0, .map (some mm)] W (qqd W B p m mm a cap N s' k) :=
  fun W hs => qg2 fuel B p m mm a cap (N, []) f g 0 s' k W (hB.same hs) (hM.of_block (hs.block _ hM.lt id)) hne hN (fun _ _ h => by simp [qa0] at h) hf hg ⟨by omega, by simp; omega⟩ he hlen
 obtain ⟨b, off, rfl, hb, hc⟩ := qec (l := [f, g]) hl (by simp)
 have c0 := hc 0 (by simp)
 have c1 := hc 1 (by simp)
 simp only [Nat.add_zero, List.getElem_cons_zero, List.getElem_cons_succ] at c0 c1
 clear hl hc hB hM hN he hf hg
 replace FIN := gi FIN
 go_enter Tryz.func68, Tryz.ntmps68
 go_wp2_with fail
 refine qac (fun _ => True) [0, 0, 0, 1, 0, 0, 1, 0, 3, 0] [0, 1, 2, 4, 5, 7, 3, 6, 8, 9] (by kernel_rfl) (by kernel_rfl) ?_
 repeat ((first | refine gB rfl rfl fun _ k => ?_ | refine gC rfl rfl fun _ k => ?_); go_simp; (first | refine k _ ?_ | refine ⟨_, fun _ => rfl, k _ ?_⟩); clear k)
 refine gD rfl (by decide) (fun _ hK => ?_); go_simp
 refine (FIN.out _ fs1).mono ?_
 rintro e w1 ⟨rfl, a', cap', h1, _, h2⟩
 refine hK _ _ ?_; clear hK; try simp only [Act.put, gj]
 repeat ((first | refine gB rfl rfl fun _ k => ?_ | refine gC rfl rfl fun _ k => ?_); go_simp; (first | refine k _ ?_ | refine ⟨_, fun _ => rfl, k _ ?_⟩); clear k)
 refine gO (NoPanic.normal ?_)
 go_wp2_with fail
 go_ret
 exact ⟨rfl, a', cap', h1, (qaK.of_same _ fs1).trans h2⟩
theorem or_do (fuel : Nat) (B p m mm : Nat) (a : Option Addr) (cap : Nat) (N : List Nd) (ar : Option Addr) (capr : Nat) (f g : Int) (s' : Is) (k : Int) (w : World) (hB : qah w B p m a cap N) (hM : qaR ndv (Value.int .i64) w mm ([] : List (Nd × Int))) (hne : mm ≠ m)
 (hN : VNd N) (hl : qaa w 3 1 (.slice ar 2 capr) 2 (gw [f, g])) (hf : qaH N f) (hg : qaH N g) (he : qdY fuel (N, []) f 1 g = some (s', k)) (hlen : s'.1.length ≤ 90000000) :
 Calls Tryz.prog 121 #[.pointer (some ⟨p, 0, none⟩), .slice ar 2 capr, .map (some mm)] w (qmz w B p m mm a cap N s'.1 k) := by
 have FIN : ∀ W, qad w W → Calls Tryz.prog 67 #[.pointer (some ⟨p, 0, none⟩), .int .i64 f, .int .i64 1, .int .i64 g, .map (some mm)] W (qqd W B p m mm a cap N s' k) :=
  fun W hs => qg2 fuel B p m mm a cap (N, []) f 1 g s' k W (hB.same hs) (hM.of_block (hs.block _ hM.lt id)) hne hN (fun _ _ h => by simp [qa0] at h) hf ⟨by omega, by simp; omega⟩ hg he hlen
 obtain ⟨b, off, rfl, hb, hc⟩ := qec (l := [f, g]) hl (by simp)
 have c0 := hc 0 (by simp)
 have c1 := hc 1 (by simp)
 simp only [Nat.add_zero, List.getElem_cons_zero, List.getElem_cons_succ] at c0 c1
 clear hl hc hB hM hN he hf hg
 replace FIN := gi FIN
 go_enter Tryz.func121, Tryz.ntmps121
 go_wp2_with fail
 refine qac (fun _ => True) [0, 0, 0, 1, 0, 0, 1, 0, 3, 0] [0, 1, 2, 4, 5, 7, 3, 6, 8, 9] (by kernel_rfl) (by kernel_rfl) ?_
 repeat ((first | refine gB rfl rfl fun _ k => ?_ | refine gC rfl rfl fun _ k => ?_); go_simp; (first | refine k _ ?_ | refine ⟨_, fun _ => rfl, k _ ?_⟩); clear k)
 refine gD rfl (by decide) (fun _ hK => ?_); go_simp
 refine (FIN.out _ fs1).mono ?_
 rintro e w1 ⟨rfl, a', cap', h1, _, h2⟩
 refine hK _ _ ?_; clear hK; try simp only [Act.put, gj]
 repeat ((first | refine gB rfl rfl fun _ k => ?_ | refine gC rfl rfl fun _ k => ?_); go_simp; (first | refine k _ ?_ | refine ⟨_, fun _ => rfl, k _ ?_⟩); clear k)
 refine gO (NoPanic.normal ?_)
 go_wp2_with fail
 go_ret
 exact ⟨rfl, a', cap', h1, (qaK.of_same _ fs1).trans h2⟩
theorem qgL {w : World} {a : Option Addr} {cap : Nat} {l : List Int} (h : qaa w 3 1 (.slice a l.length cap) l.length (gw l)) (hn : 0 < l.length) :
 ∃ b off cur, a = some ⟨b, off, none⟩ ∧ w.heap[b]? = some (.cells cur 3 (0, 0)) ∧ ∀ j (hj : j < l.length), w.cell? ⟨b, off + j, none⟩ = some (.int .i64 l[j]) := by
 obtain ⟨b, off, ha, hb, hc⟩ := qec h hn
 obtain ⟨_, a', cap', he, _, _, _, hx⟩ := h
 obtain ⟨b', off', cur, ha', hh, _⟩ := hx hn
 cases he
 rw [ha] at ha'
 cases ha'
 exact ⟨b, off, cur, ha, hh, hc⟩
end Go.Proofs.YticcpnekjddanaaGreatDoor
namespace Go.Proofs.YticcpnekjddanaaGreatDoor
def qay : List Dg → List Nd × List Int → List Nd × List Int
 | [], s => s
 | d :: l, s => qay l ((qa5 d.L (s.1, [0, 1])).1, s.2 ++ [(qa5 d.L (s.1, [0, 1])).2.getD d.r.toNat 0])
theorem qib (l : List Dg) (d : Dg) (s : List Nd × List Int) : qay (l ++ [d]) s = ((qa5 d.L ((qay l s).1, [0, 1])).1, (qay l s).2 ++ [(qa5 d.L ((qay l s).1, [0, 1])).2.getD d.r.toNat 0]) := by
 induction l generalizing s with
 | nil => rfl
 | cons x l ih => simp only [List.cons_append, qay]; exact ih _
theorem qgx (l : List Dg) (s : List Nd × List Int) : (qay l s).2.length = s.2.length + l.length := by
 induction l generalizing s with
 | nil => rfl
 | cons x l ih => rw [qay, ih]; simp; omega
def Dg.ok (d : Dg) : Prop := VNd d.L ∧ 0 ≤ d.r ∧ d.r < (d.L.length : Int) + 2
structure qbN (n : Nat) (t : List Bool) (L : List Nd) (r : Int) : Prop where
 n40 : n ≤ 40
 len : t.length = 2 ^ n
 eq : qal n [] 0 t = (L, r)
 short : L.length ≤ 16384
theorem qbN.of {n : Nat} {t : List Bool} (h : n ≤ 12) (ht : t.length = 2 ^ n) : qbN n t (qal n [] 0 t).1 (qal n [] 0 t).2 :=
 ⟨by omega, ht, rfl, by
  have := qcN n [] 0 t
  have h2 : 2 ^ n ≤ 2 ^ 12 := Nat.pow_le_pow_right (by omega) h
  simp at this
  omega⟩
theorem qbN.ord {n : Nat} {t : List Bool} {L : List Nd} {r : Int} (h : qbN n t L r) : Ord L n ∧ qaH L r ∧ tab L n 0 r = t := by
 have := qhY (n := n) n [] 0 t (Ord.nil (by have := h.n40; omega)) (by omega) (by omega)
 rw [h.eq] at this
 exact ⟨this.1, this.2.2.1, this.2.2.2.2 h.len⟩
theorem qbN.small {n : Nat} {t : List Bool} {L : List Nd} {r : Int} (h : qbN n t L r) : L.length + 1 ≤ 2 ^ n := by
 have := qcN n [] 0 t
 rw [h.eq] at this
 simpa using this
theorem qic {n : Int} {L : List Nd} (h : Ord L n) : ∀ m i, i + m = L.length → qba n L m i = 0 := by
 intro m
 induction m with
 | zero => intro i _; rfl
 | succ m ih =>
  intro i hi
  have hlt : i < L.length := by omega
  have hg : L.getD i (0, 0, 0) = L[i] := by simp [List.getD, hlt]
  have hm : L[i] ∈ L := List.getElem_mem _
  have hv := h.val i L[i] (List.getElem?_eq_getElem hlt)
  have hvar := h.var _ hm
  have hred := h.red _ hm
  have hord := h.ord _ hm
  have hnd : ¬ L[i] ∈ L.take i := by
   intro hc
   obtain ⟨j, hj, he⟩ := List.mem_iff_getElem.1 hc
   simp only [List.length_take] at hj
   rw [List.getElem_take] at he
   have := qfG h.nodup (by omega) hlt he
   omega
  have hz : qaT n L i L[i] (decide (L[i] ∈ L.take i)) = 0 := by
   unfold qaT
   rw [if_neg (by omega), if_neg (by simp [hnd, hred]), if_neg]
   rintro (⟨h1, h2⟩ | ⟨h1, h2⟩)
   · have := qaO (N := L) (k := L[i].2.1) (by omega); omega
   · have := qaO (N := L) (k := L[i].2.2) (by omega); omega
  rw [qba, hg, if_neg (by simp [hz])]
  exact ih _ (by omega)
theorem qjl {n : Nat} {t : List Bool} {L : List Nd} {r : Int} (h : qbN n t L r) :
 qdd n L r L r = 0 ∧ ∃ fuel s', qaW (qa5 L ([], [0, 1])).1 fuel ([], [(0, 0), (1, 1)]) ((qa5 L ([], [0, 1])).2.getD r.toNat 0) = some (s', r) ∧ s'.1 = L := by
 obtain ⟨ho, hv, ht⟩ := h.ord
 have h40 := h.n40
 have hs := h.short
 refine ⟨?_, ?_⟩
 · unfold qdd
   rw [if_neg (by omega), if_neg (by omega), qic ho _ _ (by omega), if_neg (by simp), if_neg (by have := hv.1; have := hv.2; omega), if_pos ⟨rfl, rfl⟩]
 · obtain ⟨a, _, b, _, c⟩ := qg3 ho (Ord.nil (n := n) (by omega)) hv
   obtain ⟨s', h1, h2⟩ := qb7 a b
   rw [c n 0 (by omega) (qaE ho.val hv).1, ht, h.eq] at h1 h2
   exact ⟨_, s', h1, h2⟩
def Dg.tab (d : Dg) (n : Nat) (t : List Bool) : Prop := d.n = n ∧ qbN n t d.L d.r
def qg8 (N : List Nd) (n : Nat) : List Int → List (List Bool) → Prop
 | [], [] => True
 | k :: ks, t :: ts => qaH N k ∧ tab N n 0 k = t ∧ qg8 N n ks ts
 | _, _ => False
def qfL (n : Nat) : List Dg → List (List Bool) → Prop
 | [], [] => True
 | d :: l, t :: ts => d.tab n t ∧ qfL n l ts
 | _, _ => False
theorem qg8.ext {N N' : List Nd} {n : Nat} (hN : Ord N n) (hp : N <+: N') : ∀ {ks : List Int} {ts : List (List Bool)}, qg8 N n ks ts → qg8 N' n ks ts
 | [], [], _ => trivial
 | k :: ks, t :: ts, h => ⟨h.1.ext hp, by rw [qbc hN hp n 0 k (by omega) h.1 (qaE hN.val h.1).1]; exact h.2.1, qg8.ext hN hp h.2.2⟩
 | [], _ :: _, h => h.elim
 | _ :: _, [], h => h.elim
theorem qg8.snoc {N : List Nd} {n : Nat} {k : Int} {t : List Bool} (hk : qaH N k) (ht : tab N n 0 k = t) : ∀ {ks : List Int} {ts : List (List Bool)}, qg8 N n ks ts → qg8 N n (ks ++ [k]) (ts ++ [t])
 | [], [], _ => ⟨hk, ht, trivial⟩
 | _ :: _, _ :: _, h => ⟨h.1, h.2.1, qg8.snoc hk ht h.2.2⟩
 | [], _ :: _, h => h.elim
 | _ :: _, [], h => h.elim
theorem qfM {n : Nat} : ∀ (l : List Dg) (ts : List (List Bool)) (N : List Nd) (ks : List Int) (us : List (List Bool)), Ord N n → qg8 N n ks us → qfL n l ts →
 Ord (qay l (N, ks)).1 n ∧ N <+: (qay l (N, ks)).1 ∧ qg8 (qay l (N, ks)).1 n (qay l (N, ks)).2 (us ++ ts)
 | [], [], N, ks, us, h1, h2, _ => ⟨h1, List.prefix_refl _, by simpa [qay] using h2⟩
 | d :: l, t :: ts, N, ks, us, h1, h2, h3 => by
  obtain ⟨ho, hv, ht⟩ := h3.1.2.ord
  obtain ⟨a1, a2, a3, _, a5⟩ := qg3 ho h1 hv
  obtain ⟨b1, b2, b3⟩ := qfM l ts _ _ (us ++ [t]) a1 ((qg8.ext h1 a2 h2).snoc a3 (by rw [a5 n 0 (by omega) (qaE ho.val hv).1, ht])) h3.2
  rw [qay]
  refine ⟨b1, a2.trans b2, by simpa using b3⟩
 | [], _ :: _, _, _, _, _, _, h => h.elim
 | _ :: _, [], _, _, _, _, _, h => h.elim
theorem qfL.mem {n : Nat} : ∀ {l : List Dg} {ts : List (List Bool)}, qfL n l ts → ∀ d ∈ l, ∃ t, d.tab n t
 | [], [], _, d, hd => by simp at hd
 | x :: l, t :: ts, h, d, hd => by
  rcases List.mem_cons.1 hd with rfl | hd
  · exact ⟨t, h.1⟩
  · exact qfL.mem h.2 d hd
 | [], _ :: _, h, _, _ => h.elim
 | _ :: _, [], h, _, _ => h.elim
theorem Dg.tab.ok {d : Dg} {n : Nat} {t : List Bool} (h : d.tab n t) : d.ok := by
 obtain ⟨ho, hv, _⟩ := h.2.ord
 exact ⟨ho.val, hv.1, hv.2⟩
theorem qid (L : List Nd) (s : List Nd × List Int) : (qa5 L s).1.length ≤ s.1.length + L.length := qc6 L s
theorem qco {M : Nat} : ∀ (l : List Dg) (s : List Nd × List Int), (∀ d ∈ l, d.L.length ≤ M) → (qay l s).1.length ≤ s.1.length + l.length * M
 | [], s, _ => by simp [qay]
 | d :: l, s, h => by
  rw [qay]
  have h1 := qid d.L (s.1, [0, 1])
  have h2 := qco l ((qa5 d.L (s.1, [0, 1])).1, s.2 ++ [(qa5 d.L (s.1, [0, 1])).2.getD d.r.toNat 0]) (fun x hx => h x (by simp [hx]))
  have h3 := h d (by simp)
  simp only [List.length_cons, Nat.add_mul, Nat.one_mul] at h1 h2 ⊢
  omega
theorem qjm {n : Nat} {l : List Dg} {ts : List (List Bool)} (h : qfL n l ts) (hl : l.length ≤ 4) : ∀ (k : Nat) (hk : k < l.length), (qay (l.take k) ([], [])).1.length + l[k].L.length ≤ 90000000 := by
 intro k hk
 have hs : ∀ d ∈ l, d.L.length ≤ 16384 := fun d hd => by
  obtain ⟨t, ht⟩ := h.mem d hd
  exact ht.2.short
 have h1 := qco (M := 16384) (l.take k) ([], []) (fun d hd => hs d (List.mem_of_mem_take hd))
 have h2 := hs _ (List.getElem_mem hk)
 simp only [List.length_take, List.length_nil] at h1
 have h3 : min k l.length * 16384 ≤ 3 * 16384 := Nat.mul_le_mul_right _ (by omega)
 omega
end Go.Proofs.YticcpnekjddanaaGreatDoor
namespace Go.Proofs.YticcpnekjddanaaGreatDoor
open Go.RowKit
theorem qfd (n : Int) (w : World) (h : 0 ≤ n ∧ n ≤ 40) : Calls Tryz.prog 122 #[.int .i64 n] w fun e w' => e = .returned (.int .i64 0) ∧ w = w' := by
 have := qia n w
 rwa [if_neg (by omega)] at this
theorem qmA (n : Int) (w : World) (h : n < 0 ∨ 40 < n) : Calls Tryz.prog 122 #[.int .i64 n] w fun e w' => e = .returned (.int .i64 2) ∧ w = w' := by
 have := qia n w
 rwa [if_pos (by omega)] at this
theorem qqe {w w1 : World} {b : Nat} {x y z a c d : Value} {T : TypeId} (kt : w1.heap[b]? = some (.cells #[x, y, z] T (0, 0))) (hs : qad w w1) (hb : w.heap.size ≤ b) :
 (w1.cell? ⟨b, 0, none⟩ = some x ∧ w1.cell? ⟨b, 1, none⟩ = some y ∧ w1.cell? ⟨b, 2, none⟩ = some z ∧ w1.frozen? ⟨b, 0, none⟩ = false ∧ w1.frozen? ⟨b, 1, none⟩ = false ∧ w1.frozen? ⟨b, 2, none⟩ = false ∧ b < w1.heap.size) ∧
 (((w1.setCell ⟨b, 0, none⟩ a).setCell ⟨b, 1, none⟩ c).setCell ⟨b, 2, none⟩ d).cell? ⟨b, 0, none⟩ = some a ∧
 (((w1.setCell ⟨b, 0, none⟩ a).setCell ⟨b, 1, none⟩ c).setCell ⟨b, 2, none⟩ d).cell? ⟨b, 1, none⟩ = some c ∧
 (((w1.setCell ⟨b, 0, none⟩ a).setCell ⟨b, 1, none⟩ c).setCell ⟨b, 2, none⟩ d).cell? ⟨b, 2, none⟩ = some d ∧
 qad w (((w1.setCell ⟨b, 0, none⟩ a).setCell ⟨b, 1, none⟩ c).setCell ⟨b, 2, none⟩ d) ∧
 (∀ k o, w1.heap[k]? = some o → k ≠ b → (((w1.setCell ⟨b, 0, none⟩ a).setCell ⟨b, 1, none⟩ c).setCell ⟨b, 2, none⟩ d).heap[k]? = some o) ∧
 (∀ T' sz v n cells, qaa w1 T' sz v n cells → T' ≠ T → qaa (((w1.setCell ⟨b, 0, none⟩ a).setCell ⟨b, 1, none⟩ c).setCell ⟨b, 2, none⟩ d) T' sz v n cells) := by
 have kF := qde (a := a) (c := c) (d := d) kt
 have hfr := qaU (w := w1) (b := b) (a := a) (c := c) (d := d)
 exact ⟨⟨gn kt 0, gn kt 1, gn kt 2, qak kt 0, qak kt 1, qak kt 2, gu kt⟩, gn kF 0, gn kF 1, gn kF 2, hs.trans hfr (fun i hi h => by omega), fun k o hk hne => hfr.at hk hne,
  fun T' sz v n cells hsl hne => hsl.fr hfr (fun k cur hk h => by rw [h, kt] at hk; simp at hk; exact hne hk.2.symm)⟩
theorem qjn (n : Int) (v : Bool) (w : World) (h : 0 ≤ n ∧ n ≤ 40) :
 Calls Tryz.prog 95 #[.int .i64 n, .bool v] w (qe0 w n [] (if v then 1 else 0)) := by
 obtain ⟨h1, h2⟩ := h
 cases v
 · go_enter Tryz.func95, Tryz.ntmps95
   go_wp2_with fail
   refine (qfd n _ ⟨h1, h2⟩).mono ?_
   rintro e w' ⟨rfl, rfl⟩
   have hs : qad w ((w.alloc (.cells #[.int .i64 0, .slice none 0 0, .int .i64 0] 46)).alloc (.cells #[.int .i64 n, .slice none 0 0, .int .i64 0] 46)) := fs1
   have kt : ((w.alloc (.cells #[.int .i64 0, .slice none 0 0, .int .i64 0] 46)).alloc (.cells #[.int .i64 n, .slice none 0 0, .int .i64 0] 46)).heap[w.heap.size]? = some (.cells #[.int .i64 0, .slice none 0 0, .int .i64 0] 46 (0, 0)) := qab (gv _ _) _
   clear hs kt
   go_wp2_with fail
   refine bodyPost_ret (v := .tuple #[.agg #[.int .i64 n, .slice none 0 0, .int .i64 0], .int .i64 0]) (by simp [results, Tryz.results95, go_sem]) rfl ?_
   exact ⟨none, 0, rfl, qaa.nil _ _ _, fs1⟩
 · go_enter Tryz.func95, Tryz.ntmps95
   go_wp2_with fail
   refine (qfd n _ ⟨h1, h2⟩).mono ?_
   rintro e w' ⟨rfl, rfl⟩
   have hs : qad w (((w.alloc (.cells #[.int .i64 0, .slice none 0 0, .int .i64 0] 46)).alloc (.cells #[.int .i64 n, .slice none 0 0, .int .i64 0] 46)).setCell ⟨w.heap.size + 1, 2, none⟩ (.int .i64 1)) := (show qad w ((w.alloc (.cells #[.int .i64 0, .slice none 0 0, .int .i64 0] 46)).alloc (.cells #[.int .i64 n, .slice none 0 0, .int .i64 0] 46)) from fs1).setCell _ _ (fun h => by simp only at h; omega)
   have kt : (((w.alloc (.cells #[.int .i64 0, .slice none 0 0, .int .i64 0] 46)).alloc (.cells #[.int .i64 n, .slice none 0 0, .int .i64 0] 46)).setCell ⟨w.heap.size + 1, 2, none⟩ (.int .i64 1)).heap[w.heap.size]? = some (.cells #[.int .i64 0, .slice none 0 0, .int .i64 0] 46 (0, 0)) := by
    rw [qaS (by simp)]; exact qab (gv _ _) _
   clear hs kt
   go_wp2_with fail
   refine bodyPost_ret (v := .tuple #[.agg #[.int .i64 n, .slice none 0 0, .int .i64 1], .int .i64 0]) (by simp [results, Tryz.results95, go_sem]) rfl ?_
   exact ⟨none, 0, rfl, qaa.nil _ _ _, fs1⟩
theorem qg9 (n : Nat) (h : n ≤ 60) : wrap64 (2 ^ n) = ((2 ^ n : Nat) : Int) := by
 have h2 : 2 ^ n ≤ 2 ^ 60 := Nat.pow_le_pow_right (by omega) h
 have e : ((2 : Int) ^ n) = ((2 ^ n : Nat) : Int) := by simp
 rw [e]
 obtain ⟨k, hk⟩ : ∃ k : Nat, k = 2 ^ n := ⟨_, rfl⟩
 rw [← hk] at h2 ⊢
 exact IntWalk.wrap64_in _ ⟨by omega, by omega⟩
end Go.Proofs.YticcpnekjddanaaGreatDoor
