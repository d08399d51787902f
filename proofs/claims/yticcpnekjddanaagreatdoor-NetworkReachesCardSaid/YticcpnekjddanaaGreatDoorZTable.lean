/-  -/
import Derived.Test.YticcpnekjddanaaGreatDoorZRelN
import Derived.Test.YticcpnekjddanaaGreatDoorZLex
import Derived.Test.YticcpnekjddanaaGreatDoorZRowAt
set_option maxRecDepth 100000
set_option maxHeartbeats 1000000
set_option linter.unusedVariables false
set_option linter.unusedSimpArgs false
namespace Go.Proofs.YticcpnekjddanaaGreatDoor
open Go.RowKit
def gw (l : List Int) : List Value := l.map (Value.int .i64)
theorem qaL {w : World} {g : Nat} {T : TypeId} {sz n cap base : Nat} {xs : List Value} (h : w.heap[g]? = some (.cells xs.toArray T (0, 0))) (hb : base ≤ g) (hl : xs.length = n * sz) (hc : n = cap) (hm : cap ≤ maxLen) : w.ownsRow base T sz (.slice (some ⟨g, 0, none⟩) n cap) n xs := by
 subst hc
 exact ⟨hl, .inr ⟨g, n, xs.toArray, rfl, hb, h, Nat.le_refl _, hm, by simpa using hl, by rw [← hl]; simp⟩⟩
theorem qaK.below {w w' : World} {B p m : Nat} {a : Option Addr} {cap : Nat} {N : List Nd} {v' : Value} (hB : qah w B p m a cap N) (hg : qaK (BB p m) w w' (.slice a N.length cap) v') {k : Nat} (hk : k < B) : w'.heap[k]? = w.heap[k]? := by
 have hpl := gu hB.blk
 refine hg.1.block k (by have := hB.pb; omega) ?_
 have hp := hB.pb
 have hm := hB.mb
 rintro (h | h | h)
 · rcases hB.own.2 with ⟨e, _⟩ | ⟨g, c, cur, e, hb, _⟩
   · rw [e] at h; simp [Value.ownBlock] at h
   · rw [e] at h; simp [Value.ownBlock] at h; omega
 · omega
 · omega
theorem qah.apart {w : World} {B p m : Nat} {a : Option Addr} {cap : Nat} {N : List Nd} (hB : qah w B p m a cap N) {k : Nat} {cur : Array Value} {T : TypeId} {fr : Nat × Nat} (hk : w.heap[k]? = some (.cells cur T fr)) (h1 : T ≠ 132) (h2 : T ≠ 160) :
 ¬ ((Value.slice a N.length cap).ownBlock = some k ∨ BB p m k) := by
 rintro (h | h | h)
 · obtain ⟨c, hc⟩ := qaj hB.own h
   rw [hk] at hc
   simp at hc
   exact h1 hc.2.1
 · subst h
   have := hB.blk
   rw [hk] at this
   simp at this
   exact h2 this.2.1
 · subst h
   exact qat hB.map hk rfl
theorem qc0 : (Tryz.prog.info? 3).map (fun i => (i.zero, i.size, i.bytes)) = some (some (.int .i64 0), 1, 8) := by kernel_rfl
theorem qmd (L : List Nd) (x : Nd) (s : List Nd × List Int) : qa5 (L ++ [x]) s = ((qa2 (qa5 L s).1 (x.1, (qa5 L s).2[x.2.1.toNat]?.getD 0, (qa5 L s).2[x.2.2.toNat]?.getD 0)).1, (qa5 L s).2 ++ [(qa2 (qa5 L s).1 (x.1, (qa5 L s).2[x.2.1.toNat]?.getD 0, (qa5 L s).2[x.2.2.toNat]?.getD 0)).2]) := by
 induction L generalizing s with
 | nil => rfl
 | cons y L ih => simp only [List.cons_append, qa5]; exact ih _
theorem qi8 (L : List Nd) (s : List Nd × List Int) : (qa5 L s).2.length = s.2.length + L.length := by
 induction L generalizing s with
 | nil => rfl
 | cons y L ih => simp only [qa5]; rw [ih]; simp; omega
theorem qdM (N : List Nd) (x : Nd) : (qa2 N x).1.length ≤ N.length + 1 := by
 unfold qa2; split
 · simp
 · split <;> simp
theorem qc6 (L : List Nd) (s : List Nd × List Int) : (qa5 L s).1.length ≤ s.1.length + L.length := by
 induction L generalizing s with
 | nil => simp [qa5]
 | cons y L ih =>
  simp only [qa5]
  have h1 := ih ((qa2 s.1 (y.1, s.2[y.2.1.toNat]?.getD 0, s.2[y.2.2.toNat]?.getD 0)).1, s.2 ++ [(qa2 s.1 (y.1, s.2[y.2.1.toNat]?.getD 0, s.2[y.2.2.toNat]?.getD 0)).2])
  have h2 := qdM s.1 (y.1, s.2[y.2.1.toNat]?.getD 0, s.2[y.2.2.toNat]?.getD 0)
  simp at *; omega
def Laid (L : List Nd) : Prop := ∀ (i : Nat) (x : Nd), L[i]? = some x → 0 ≤ x.2.1 ∧ x.2.1 < (i : Int) + 2 ∧ 0 ≤ x.2.2 ∧ x.2.2 < (i : Int) + 2
structure qeX (w : World) (B p m : Nat) (a : Option Addr) (cap : Nat) (N L : List Nd) (box : Array Value) (k : Nat) (v : Value) (wr : World) (N1 : List Nd) (nums : List Int) : Prop where
 eq : qa5 (L.take k) (N, [0, 1]) = (N1, nums)
 len : nums.length = k + 2
 len1 : N1.length ≤ N.length + k
 nums : ∃ an cn, v = .slice an (k + 2) cn ∧ wr.ownsRow w.heap.size 3 1 (.slice an (k + 2) cn) (k + 2) (gw nums)
 bld : ∃ a' cap', qah wr B p m a' cap' N1 ∧ qaK (BB p m) w wr (.slice a N.length cap) (.slice a' N1.length cap')
 box : wr.heap[w.heap.size]? = some (.cells box 46 (0, 0))
theorem qbf (l : List Int) (i : Nat) (h : i < l.length) : (gw l)[i]? = some (.int .i64 (l.getD i 0)) := by
 simp [gw, h]
theorem qeX.facts {w wr : World} {B p m : Nat} {a : Option Addr} {cap : Nat} {N L N1 : List Nd} {nums : List Int} {box : Array Value} {k : Nat} {v : Value} {aL : Option Addr} {capL : Nat} (h : qeX w B p m a cap N L box k v wr N1 nums) (hB : qah w B p m a cap N)
 (hL : qbb w aL L capL) (hLB : 0 < L.length → ∀ k, (Value.slice aL L.length capL).ownBlock = some k → k < B) (hv : Laid L) (hk : k < L.length) :
 (∃ b off, aL = some ⟨b, off, none⟩ ∧ b < wr.heap.size ∧ wr.cell? ⟨b, off + k * 3, none⟩ = some (.int .i64 L[k].1) ∧ wr.cell? ⟨b, off + k * 3 + 1, none⟩ = some (.int .i64 L[k].2.1) ∧ wr.cell? ⟨b, off + k * 3 + 2, none⟩ = some (.int .i64 L[k].2.2)) ∧
 (∃ g cn, v = .slice (some ⟨g, 0, none⟩) (k + 2) cn ∧ g < wr.heap.size ∧ wr.ownsRow w.heap.size 3 1 (.slice (some ⟨g, 0, none⟩) (k + 2) cn) (k + 2) (gw nums) ∧
  wr.cell? ⟨g, L[k].2.1.toNat, none⟩ = some (.int .i64 (nums[L[k].2.1.toNat]?.getD 0)) ∧ wr.cell? ⟨g, L[k].2.2.toNat, none⟩ = some (.int .i64 (nums[L[k].2.2.toNat]?.getD 0))) ∧
 (0 ≤ L[k].2.1 ∧ L[k].2.1 < k + 2 ∧ 0 ≤ L[k].2.2 ∧ L[k].2.2 < k + 2) := by
 have hb := hv k L[k] (by simp [hk])
 refine ⟨?_, ?_, hb⟩
 · obtain ⟨b, off, ha, hbl, c0, c1, c2⟩ := hL.node hk
   obtain ⟨a', cap', hB', hG⟩ := h.bld
   have hbB : b < B := hLB (by omega) b (by simp [Value.ownBlock, ha])
   have hh := hG.below hB hbB
   have hc : ∀ j, wr.cell? ⟨b, j, none⟩ = w.cell? ⟨b, j, none⟩ := fun j => World.cell?_of_block (a := ⟨b, j, none⟩) hh
   exact ⟨b, off, ha, Nat.lt_of_lt_of_le hbl hG.1.size, by rw [hc]; exact c0, by rw [hc]; exact c1, by rw [hc]; exact c2⟩
 · obtain ⟨an, cn, hv', hown⟩ := h.nums
   obtain ⟨g, cn', he, _, hg⟩ := hown.form (by omega)
   simp only [Value.slice.injEq] at he
   obtain ⟨rfl, _, rfl⟩ := he
   have hc := hown.cells (g := g) rfl
   have hc' : ∀ j, j < k + 2 → wr.cell? ⟨g, j, none⟩ = some (.int .i64 (nums[j]?.getD 0)) := by
    intro j hj
    have := hc j _ (qbf _ j (by rw [h.len]; omega))
    rwa [Addr.add_lit, Nat.zero_add] at this
   exact ⟨g, cn, hv', hg, hown, hc' _ (by omega), hc' _ (by omega)⟩
theorem qeX.called {w wr w1 : World} {B p m : Nat} {a : Option Addr} {cap : Nat} {N L N1 N2 : List Nd} {nums : List Int} {box : Array Value} {k : Nat} {v : Value} {g cn : Nat} {a1 : Option Addr} {cap1 : Nat} {a' : Option Addr} {cap' : Nat} {o : Obj}
 (h : qeX w B p m a cap N L box k v wr N1 nums) (hB1 : qah wr B p m a1 cap1 N1) (hG1 : qaK (BB p m) w wr (.slice a N.length cap) (.slice a1 N1.length cap1))
 (hown : wr.ownsRow w.heap.size 3 1 (.slice (some ⟨g, 0, none⟩) (k + 2) cn) (k + 2) (gw nums))
 (hG : qaK (fun i => BB p m i ∨ False) (wr.alloc o).drew w1 (.slice a1 N1.length cap1) (.slice a' N2.length cap')) :
 qaK (BB p m) w w1 (.slice a N.length cap) (.slice a' N2.length cap') ∧ w1.ownsRow w.heap.size 3 1 (.slice (some ⟨g, 0, none⟩) (k + 2) cn) (k + 2) (gw nums) ∧ w1.heap[w.heap.size]? = some (.cells box 46 (0, 0)) := by
 have hs : qad wr (wr.alloc o).drew := fs1
 have hG' : qaK (BB p m) wr w1 (.slice a1 N1.length cap1) (.slice a' N2.length cap') :=
  (qaK.of_same _ hs).trans ⟨hG.1.mono (fun i _ h' => h'.imp id (fun h'' => h''.resolve_right id)), hG.2⟩
 refine ⟨hG1.trans hG', qaN hown hG'.1 (fun i hi => ?_), hG'.1.at h.box (hB1.apart h.box (by decide) (by decide))⟩
 obtain ⟨cur, hc⟩ := qaj hown hi
 exact hB1.apart hc (by decide) (by decide)
theorem qeX.next {w wr w1 w2 : World} {B p m : Nat} {a : Option Addr} {cap : Nat} {N L N1 : List Nd} {nums : List Int} {box : Array Value} {k : Nat} {v : Value} {g cn : Nat} {a' an' : Option Addr} {cap' cn' : Nat} {o : Obj}
 (h : qeX w B p m a cap N L box k v wr N1 nums) (hk : k < L.length)
 (hC : qaK (BB p m) w w1 (.slice a N.length cap) (.slice a' (qa2 N1 (L[k].1, nums[L[k].2.1.toNat]?.getD 0, nums[L[k].2.2.toNat]?.getD 0)).1.length cap') ∧ w1.ownsRow w.heap.size 3 1 (.slice (some ⟨g, 0, none⟩) (k + 2) cn) (k + 2) (gw nums) ∧ w1.heap[w.heap.size]? = some (.cells box 46 (0, 0)))
 (hB' : qah w1 B p m a' cap' (qa2 N1 (L[k].1, nums[L[k].2.1.toNat]?.getD 0, nums[L[k].2.2.toNat]?.getD 0)).1)
 (hown2 : w2.ownsRow w.heap.size 3 1 (.slice an' (k + 2 + 1) cn') (k + 2 + 1) (gw nums ++ [.int .i64 (qa2 N1 (L[k].1, nums[L[k].2.1.toNat]?.getD 0, nums[L[k].2.2.toNat]?.getD 0)).2]))
 (hg : qaK (fun _ => False) (w1.alloc o) w2 (.slice (some ⟨g, 0, none⟩) (k + 2) cn) (.slice an' (k + 2 + 1) cn')) :
 qeX w B p m a cap N L box (k + 1) (.slice an' (k + 2 + 1) cn') w2 (qa2 N1 (L[k].1, nums[L[k].2.1.toNat]?.getD 0, nums[L[k].2.2.toNat]?.getD 0)).1 (nums ++ [(qa2 N1 (L[k].1, nums[L[k].2.1.toNat]?.getD 0, nums[L[k].2.2.toNat]?.getD 0)).2]) := by
 have hs : qad w1 (w1.alloc o) := fs1
 have hg' : qaK (fun _ => False) w1 w2 (.slice (some ⟨g, 0, none⟩) (k + 2) cn) (.slice an' (k + 2 + 1) cn') := (qaK.of_same _ hs).trans hg
 obtain ⟨hG, hown, hbox⟩ := hC
 obtain ⟨cur, hgc⟩ := qaj hown (k := g) rfl
 have hgw : w.heap.size ≤ g := (hown.lt g rfl).1
 have hS : ∀ i, (Value.slice (some ⟨g, 0, none⟩) (k + 2) cn).ownBlock = some i ∨ False → i = g := by
  rintro i (h' | h')
  · simpa [Value.ownBlock] using h'.symm
  · exact h'.elim
 have hne : ∀ i, (BB p m i ∨ (Value.slice a' (qa2 N1 (L[k].1, nums[L[k].2.1.toNat]?.getD 0, nums[L[k].2.2.toNat]?.getD 0)).1.length cap').ownBlock = some i) → i ≠ g := by
  rintro i hi rfl
  exact hB'.apart hgc (by decide) (by decide) hi.symm
 refine ⟨?_, by simp [h.len], ?_, ⟨an', cn', rfl, by simpa [gw] using hown2⟩, ⟨a', cap', ?_, ?_⟩, ?_⟩
 · rw [List.take_succ_eq_append_getElem hk, qmd, h.eq]
 · have := qdM N1 (L[k].1, nums[L[k].2.1.toNat]?.getD 0, nums[L[k].2.2.toNat]?.getD 0)
   have := h.len1
   omega
 · exact hB'.fr hg'.1 (fun hh => hne p (.inl (.inl rfl)) (hS p hh)) (fun hh => hne m (.inl (.inr rfl)) (hS m hh)) (fun i hi hh => hne i (.inr hi) (hS i hh))
 · refine ⟨hG.1.trans hg'.1 (fun i hi hh => ?_), hG.2⟩
   have := hS i hh
   omega
 · refine hg'.1.at hbox (fun hh => ?_)
   have := hS _ hh
   rw [this, hgc] at hbox
   simp at hbox
theorem qi9 (B p m : Nat) (a : Option Addr) (cap : Nat) (N : List Nd) (n r : Int) (aL : Option Addr) (capL : Nat) (L : List Nd) (w : World) (hB : qah w B p m a cap N) (hL : qbb w aL L capL)
 (hLB : 0 < L.length → ∀ k, (Value.slice aL L.length capL).ownBlock = some k → k < B) (hv : Laid L) (hr0 : 0 ≤ r) (hr : r < L.length + 2) (hlen : N.length + L.length ≤ 90000000) :
 Calls Tryz.prog 73 #[.pointer (some ⟨p, 0, none⟩), .agg #[.int .i64 n, .slice aL L.length capL, .int .i64 r]] w
  (qoB (fun _ => False) w B p m a cap N (qa5 L (N, [0, 1])).1 ((qa5 L (N, [0, 1])).2.getD r.toNat 0)) := by
 have hpl := gu hB.blk
 have HB := gi hB
 have HL := gi hL
 have HLB := gi hLB
 have HV := gi hv
 clear hB hL hLB hv
 go_enter Tryz.func73, Tryz.ntmps73
 go_wp2
 go_loopw [5, 12] (fun v i wr => ∃ k : Nat, k ≤ L.length ∧ i = .int .i64 k ∧ ∃ N1 nums, qeX w B p m a cap N L #[.int .i64 n, .slice aL L.length capL, .int .i64 r] k v wr N1 nums) (fun _ i _ => L.length - (intOf i).toNat)
 case atStart =>
  refine ⟨0, by omega, rfl, N, [0, 1], rfl, rfl, by simp, ⟨_, _, rfl, qaL (qae (by simp) _) (by simp) rfl rfl (by decide)⟩, ⟨_, _, HB.out.same fs1, qaK.of_same _ fs1⟩, qab (gv _ _) _⟩
 case round =>
  obtain ⟨k, hk, rfl, N1, nums, hrel⟩ := hrel
  have hR := gi hrel
  clear hrel
  have hl1 := hR.out.len1
  by_cases hlt : k < L.length
  · obtain ⟨⟨b, off, haL, hb, n0, n1, n2⟩, ⟨g, cn, rfl, hg, hown, m1, m2⟩, hb1, hb2, hb3, hb4⟩ := hR.out.facts HB.out HL.out HLB.out HV.out hlt
    have HA := gi haL
    subst haL
    replace hown := gi hown
    obtain ⟨a1, cap1, hB1, hG1⟩ := hR.out.bld
    replace hB1 := gi hB1
    replace hG1 := gi hG1
    obtain ⟨i3, hi3, hi3z, hi3s, hi3b⟩ := info_parts qc0
    go_wp2
    refine qac (fun _ => True) [0, 0, 0, 1, 0, 0, 1, 0, 1, 0, 0, 1, 0, 1, 0, 3, 2, 3, 0] [0, 1, 2, 4, 5, 9, 10, 3, 6, 7, 8, 11, 12, 13, 14, 15, 16, 17, 18] (by kernel_rfl) (by kernel_rfl) ?_
    repeat ((first | refine gB rfl rfl fun _ k => ?_ | refine gC rfl rfl fun _ k => ?_); go_simp; (first | refine k _ ?_ | refine ⟨_, fun _ => rfl, k _ ?_⟩); clear k)
    refine gD rfl (by decide) (fun _ hK => ?_); go_simp
    refine (qeC (fun _ => False) B p m a1 cap1 N1 _ _ _ _ (hB1.out.same fs1) (by omega)).mono ?_
    rintro e w1 ⟨rfl, a', cap', hB', hG'⟩
    have hC := hR.out.called hB1.out hG1.out hown.out hG'
    have hB' := gi hB'
    replace hC := gi hC
    clear hG' m1 m2 n0 n1 n2
    refine hK _ _ ?_; clear hK; try simp only [Act.put, gj]
    refine gF rfl rfl (fun _ hK => ?_); go_simp; refine hK _ _ (Kp.of_same fs1) ?_; clear hK
    refine gD rfl (by decide) (fun _ hK => ?_)
    refine qbe rfl (.tmp 16) (.tmp 32) 33 rfl w.heap.size 3 i3 (.int .i64 0) 1 8 Tryz.underlying33 hi3 hi3z hi3s hi3b rfl (by decide) (by decide) _ (k + 2) cn (gw nums) rfl (qag hC.out.2.1 fs1) (by omega) w1.heap.size [.int .i64 (qa2 N1 (L[k].1, nums[L[k].2.1.toNat]?.getD 0, nums[L[k].2.2.toNat]?.getD 0)).2] rfl rfl (qae (by simp) _) (by simp [Value.oneCell']) (by have := hC.out.1.1.size; simp; omega) ?_
    intro an' cn' w2 hown2 hgrow2
    refine hK _ _ ?_; clear hK; try simp only [Act.put, gj]
    repeat ((first | refine gB rfl rfl fun _ k => ?_ | refine gC rfl rfl fun _ k => ?_); go_simp; (first | refine k _ ?_ | refine ⟨_, fun _ => rfl, k _ ?_⟩); clear k)
    refine gO (NoPanic.normal ?_)
    have hF := hR.out.next hlt hC.out hB'.out hown2 hgrow2
    replace hF := gi hF
    clear hown2 hgrow2 hB'
    go_wp2
    go_roundw
    case rel => exact ⟨k + 1, by omega, by go_num, _, _, hF.out⟩
    case measure => simp [intOf]; omega
  · have hkL : k = L.length := by omega
    obtain ⟨an, cn, hv, hown⟩ := hR.out.nums
    obtain ⟨g, cn', he, _, hg⟩ := hown.form (by omega)
    simp only [Value.slice.injEq] at he
    obtain ⟨rfl, _, rfl⟩ := he
    subst hv
    have hc := hown.cells (g := g) rfl r.toNat _ (qbf _ r.toNat (by rw [hR.out.len]; omega))
    have hbx := gn hR.out.box 2
    have hc : wr.cell? ⟨g, r.toNat, none⟩ = some (.int .i64 (nums[r.toNat]?.getD 0)) := by rwa [Addr.add_lit, Nat.zero_add] at hc
    have he : qa5 L (N, [0, 1]) = (N1, nums) := by have := hR.out.eq; rwa [hkL, List.take_length] at this
    have hbl := hR.out.bld
    have hb0 := gu hR.out.box
    replace hbl := gi hbl
    replace he := gi he
    replace hkL := gi hkL
    clear hown hR
    go_wp2
    go_ret
    rw [he.out]
    obtain ⟨a', cap', h1, h2⟩ := hbl.out
    exact ⟨rfl, a', cap', h1, h2.1.mono (fun i _ h => h.imp id .inl), h2.2⟩
theorem qme (B p m : Nat) (a : Option Addr) (cap : Nat) (N : List Nd) (n r : Int) (aL : Option Addr) (capL : Nat) (L : List Nd) (w : World) (hB : qah w B p m a cap N) (hL : qaa w 132 3 (.slice aL L.length capL) L.length (qap L))
 (hLB : 0 < L.length → ∀ k, (Value.slice aL L.length capL).ownBlock = some k → k < B) (hv : Laid L) (hr0 : 0 ≤ r) (hr : r < L.length + 2) (hlen : N.length + L.length ≤ 90000000) :
 Calls Tryz.prog 73 #[.pointer (some ⟨p, 0, none⟩), .agg #[.int .i64 n, .slice aL L.length capL, .int .i64 r]] w
  (qoB (fun _ => False) w B p m a cap N (qa5 L (N, [0, 1])).1 ((qa5 L (N, [0, 1])).2.getD r.toNat 0)) :=
 qi9 B p m a cap N n r aL capL L w hB hL.nds hLB hv hr0 hr hlen
end Go.Proofs.YticcpnekjddanaaGreatDoor
namespace Go.Proofs.YticcpnekjddanaaGreatDoor
def qow (n : Int) : List Int → List Int → Int
 | [], _ => 0
 | v :: l, seen => if v < 0 ∨ n ≤ v then 2 else if v ∈ seen then 8 else qow n l (seen ++ [v])
def qcY (n : Int) (o : List Int) : Int := if n < 0 ∨ 40 < n then 2 else if (o.length : Int) ≠ n then 4 else qow n o []
theorem qfC {n : Int} : ∀ (l seen : List Int), qow n l seen = 0 ↔ (∀ x ∈ l, 0 ≤ x ∧ x < n) ∧ l.Nodup ∧ ∀ x ∈ l, x ∉ seen
 | [], _ => by simp [qow]
 | v :: l, seen => by
  have ih := qfC (n := n) l (seen ++ [v])
  unfold qow
  split
  · rename_i h
    constructor
    · intro e; omega
    · rintro ⟨h1, _⟩; have := h1 v (by simp); omega
  · rename_i h
    split
    · rename_i hs
      constructor
      · intro e; omega
      · rintro ⟨_, _, h3⟩; exact absurd hs (h3 v (by simp))
    · rename_i hs
      rw [ih]
      simp only [List.mem_cons, forall_eq_or_imp, List.nodup_cons, List.mem_append, List.not_mem_nil, or_false, not_or]
      constructor
      · rintro ⟨h1, h2, h3⟩
        exact ⟨⟨by omega, h1⟩, ⟨fun hm => (h3 v hm).2 rfl, h2⟩, hs, fun x hx => (h3 x hx).1⟩
      · rintro ⟨⟨_, h1⟩, ⟨h2, h3⟩, _, h4⟩
        exact ⟨h1, h3, fun x hx => ⟨h4 x hx, fun e => h2 (e ▸ hx)⟩⟩
theorem qmf {n : Int} {o : List Int} {k : Nat} (hk : k < o.length) : qow n (o.drop k) (o.take k) = if o[k] < 0 ∨ n ≤ o[k] then 2 else if o[k] ∈ o.take k then 8 else qow n (o.drop (k + 1)) (o.take (k + 1)) := by
 rw [List.drop_eq_getElem_cons hk, qow, List.take_succ_eq_append_getElem hk]
def qfD (o : List Int) (k : Nat) : List Bool := (List.range 40).map fun (v : Nat) => decide ((v : Int) ∈ o.take k)
theorem qc7 (o : List Int) (k : Nat) : (qfD o k).length = 40 := by simp [qfD]
theorem qld (o : List Int) : qfD o 0 = List.replicate 40 false := by simp [qfD, List.map_const']
theorem qfE (o : List Int) (k x : Nat) (h : x < 40) : (qfD o k)[x]? = some (decide ((x : Int) ∈ o.take k)) := by simp [qfD, h]
theorem qle {o : List Int} {k x : Nat} (hk : k < o.length) (hx : o[k] = x) : (qfD o k).set x true = qfD o (k + 1) := by
 apply List.ext_getElem?
 intro j
 rw [List.getElem?_set]
 simp only [qc7]
 by_cases hj : j < 40
 · rw [qfE _ _ _ hj, qfE _ _ _ hj, List.take_succ_eq_append_getElem hk, hx]
   by_cases e : x = j
   · subst e; simp [hj]
   · have : ¬ (j : Int) = (x : Int) := by omega
     simp [e, this]
 · have h1 : (qfD o k)[j]? = none := List.getElem?_eq_none (by rw [qc7]; omega)
   have h2 : (qfD o (k + 1))[j]? = none := List.getElem?_eq_none (by rw [qc7]; omega)
   rw [h1, h2]
   split
   · rename_i e; subst e; rw [if_neg hj]
   · rfl
end Go.Proofs.YticcpnekjddanaaGreatDoor
namespace Go.Proofs.YticcpnekjddanaaGreatDoor
open Go.RowKit
def gz (l : List Bool) : List Value := l.map Value.bool
theorem qcM (l : List Bool) (i : Nat) (h : i < l.length) : (gz l)[i]? = some (.bool l[i]) := by
 simp [gz, h]
theorem qoB.of {w w' : World} {B p m : Nat} {a : Option Addr} {cap : Nat} {N N' : List Nd} {k : Int} {e : Ending} (h : qoB (fun _ => False) w B p m a cap N N' k e w') :
 e = .returned (.int .i64 k) ∧ ∃ a' cap', qah w' B p m a' cap' N' ∧ qaK (BB p m) w w' (.slice a N.length cap) (.slice a' N'.length cap') := by
 obtain ⟨he, a', cap', h1, h2⟩ := h
 exact ⟨he, a', cap', h1, h2.1.mono (fun i _ h' => h'.imp id (fun h'' => h''.resolve_right id)), h2.2⟩
theorem qoB.to {w w' : World} {B p m : Nat} {a a' : Option Addr} {cap cap' : Nat} {N N' : List Nd} {k : Int} {e : Ending} (he : e = .returned (.int .i64 k)) (h1 : qah w' B p m a' cap' N') (h2 : qaK (BB p m) w w' (.slice a N.length cap) (.slice a' N'.length cap')) :
 qoB (fun _ => False) w B p m a cap N N' k e w' :=
 ⟨he, a', cap', h1, h2.1.mono (fun i _ h' => h'.imp id .inl), h2.2⟩
theorem qcN (d : Nat) : ∀ (N : List Nd) (v : Int) (t : List Bool), (qal d N v t).1.length + 1 ≤ N.length + 2 ^ d := by
 induction d with
 | zero => intro N v t; simp [qal]
 | succ d ih =>
  intro N v t
  simp only [qal]
  have h1 := ih N (v + 1) (t.take (t.length / 2))
  have h2 := ih (qal d N (v + 1) (t.take (t.length / 2))).1 (v + 1) (t.drop (t.length / 2))
  have h3 := qdM (qal d (qal d N (v + 1) (t.take (t.length / 2))).1 (v + 1) (t.drop (t.length / 2))).1 (v, (qal d N (v + 1) (t.take (t.length / 2))).2, (qal d (qal d N (v + 1) (t.take (t.length / 2))).1 (v + 1) (t.drop (t.length / 2))).2)
  rw [Nat.pow_succ]
  omega
theorem qan.grew {w w' : World} {B p m : Nat} {a : Option Addr} {cap : Nat} {N : List Nd} {v' : Value} {n : Nat} {aS : Option Addr} {cS : Nat} {cells : List Value} (h : qan w (.slice aS n cS) n cells) (hB : qah w B p m a cap N)
 (hg : qaK (BB p m) w w' (.slice a N.length cap) v') (hS : ∀ k, (Value.slice aS n cS).ownBlock = some k → k < B) : qan w' (.slice aS n cS) n cells :=
 h.keep hg.1.size (fun k hk _ => hg.below hB (hS k hk))
end Go.Proofs.YticcpnekjddanaaGreatDoor
