/-  -/
import Derived.Lib.AppendZerosOnto
import Derived.Test.YtcipnkemnepbaaaGreatCAppR
import Derived.Test.YtcipnkemnepbaaaGreatCMkP
set_option linter.unusedVariables false
set_option linter.unusedSimpArgs false
namespace Go.Proofs.YtcipnkemnepbaaaGreat
open Go.RowKit Go.Lib
theorem zeroB (k : Nat) : (Builtin.zeroCells (Value.bool false).cells k).toList = List.replicate k (Value.bool false) := by
 apply List.ext_getElem
 · simp [Builtin.zeroCells, Value.cells]
 · intro i h1 h2
   simp [Builtin.zeroCells, Value.cells, Nat.mod_one]
theorem boolCells_rep (k : Nat) : gz (List.replicate k false) = List.replicate k (Value.bool false) := by simp [gz]
theorem run_appZ {w : World} {base n cap k : Nat} {a : Option Addr} {l : List Bool} (ho : w.ownsRow base 4 1 (.slice a n cap) n (gz l)) (hn : n ≤ 1000) (hk : k ≤ 1000) (hbase : base ≤ w.heap.size) :
 ∃ a' c' w', (Builtin.append_ #[52, 3] 52 #[.slice a n cap, .int .i64 k]).run Tryz.prog w = .ok (.slice a' (n + k) c') w' ∧
  w'.ownsRow base 4 1 (.slice a' (n + k) c') (n + k) (gz (l ++ List.replicate k false)) ∧ Grew (fun _ => False) w w' (.slice a n cap) (.slice a' (n + k) c') := by
 obtain ⟨i3, hi3, hi3z, hi3s, hi3b⟩ := info_parts info4
 have hbl : gz (l ++ List.replicate k false) = gz l ++ List.replicate k (Value.bool false) := by rw [← boolCells_rep]; simp [gz]
 rw [hbl]
 have hl1 := ho.1
 rcases ho.2 with ⟨hnil, hz⟩ | ⟨g, cap', cur, he, hbg, hg, hnc, hcm, hcs, htake⟩
 · simp only [Value.slice.injEq] at hnil
   obtain ⟨rfl, hn0, rfl⟩ := hnil
   subst hn0
   have hl0 : gz l = [] := List.length_eq_zero_iff.1 (by simpa using hl1)
   rw [hl0, List.nil_append]
   have w0 : IntKind.i64.wrap 0 = 0 := by decide
   by_cases hk0 : k = 0
   · subst hk0
     refine ⟨none, 0, w, ?_, World.ownsRow_nil _ _ _ _, Grew.refl _ _ _⟩
     simp [Builtin.append_, run_underlying Tryz.underlying52, run_underlying Tryz.underlying3, sizeOf, typeInfo, zeroValue, hi3, hi3z, hi3s, hi3b, asInt, asIntOf, w0]
   · have hr := run_append_nil_zeros (P := Tryz.prog) w 52 3 52 4 i3 (.bool false) .i64 .i64 Tryz.underlying52 Tryz.underlying3 hi3 hi3z k (by omega) (by rw [hi3s]; decide) (by omega) (by rw [hi3b]; omega)
     have hge := grownCap_ge w k 0 4
     have hcm2 := grownCap_le_maxLen w k 0 4 (by unfold maxLen; omega)
     rw [Nat.zero_add]
     have h6 : w.grownBy (w.drew.alloc (.cells (Builtin.zeroCells (Value.bool false).cells k ++ Builtin.zeroCells (Value.bool false).cells (grownCap w k 0 4 - k)) 4)) (Value.slice none 0 0).ownBlock := ⟨rfl, rfl, rfl, by simp, fun i hi _ => Go.heap_alloc_old w.drew _ hi⟩
     refine ⟨_, _, _, hr, ⟨by simp, .inr ⟨w.heap.size, _, _, rfl, hbase, heap_alloc_new w.drew _, hge, hcm2, ?_, ?_⟩⟩, ⟨(Fr.refl _ _).grown h6 (fun i hi _ => .inl hi), fun i hi => .inr (Nat.le_of_eq (Option.some.inj hi))⟩⟩
     · simp only [Array.size_append, size_zeroCells, Value.cells]
       simp
       omega
     · simp only [Array.toList_append, zeroB]
       rw [Nat.mul_one]
       exact List.take_left' (by simp)
 · cases he
   have hlen : (gz l ++ List.replicate k (Value.bool false)).length = (n + k) * 1 := by rw [List.length_append, hl1, List.length_replicate]; omega
   by_cases hroom : n + k ≤ cap
   · have hw : IntKind.i64.wrap (k : Int) = k := IntWalk.i64_in _ (by omega)
     have hst := run_storeCells_at Tryz.prog g n 4 (List.replicate k (Value.bool false)) 0 cur w hg (by simp; omega) (fun u hu => by rw [List.eq_of_mem_replicate hu]; rfl)
     simp only [Nat.add_zero] at hst
     have hneg : ¬ ((k : Int) < 0) := by omega
     have h48 : ¬ (281474976710656 < (k : Int)) := by omega
     have hcell : (cur.toList.take n ++ List.replicate k (Value.bool false) ++ cur.toList.drop (n + k)).length = cur.size := by simp; omega
     have h6 : w.grownBy (w.setRow g (cur.toList.take n ++ List.replicate k (Value.bool false) ++ cur.toList.drop (n + k)).toArray) (Value.slice (some ⟨g, 0, none⟩) n cap).ownBlock := ⟨rfl, rfl, rfl, by simp, fun i _ hi => setRow_other w g i _ (fun e => hi (by simp [Value.ownBlock, e]))⟩
     rw [List.length_replicate] at hst
     refine ⟨some ⟨g, 0, none⟩, cap, _, ?_, ⟨hlen, .inr ⟨g, cap, _, rfl, hbg, setRow_heap w g cur (cur.toList.take n ++ List.replicate k (Value.bool false) ++ cur.toList.drop (n + k)).toArray 4 _ hg, hroom, hcm, by rw [← hcs, ← hcell]; simp, ?_⟩⟩, ⟨(Fr.refl _ _).grown h6 (fun i hi _ => .inl hi), fun i hi => .inl hi⟩⟩
     · by_cases hk0 : k = 0
       · subst hk0
         have w0 : IntKind.i64.wrap 0 = 0 := by decide
         simp only [List.replicate_zero] at hst ⊢
         simp [Builtin.append_, run_underlying Tryz.underlying52, run_underlying Tryz.underlying3, sizeOf, typeInfo, zeroValue, hi3, hi3z, hi3s, hi3b, asInt, asIntOf, w0, hnc, Addr.add_lit, hst]
       · have hz := zeroB k
         simp [Builtin.append_, run_underlying Tryz.underlying52, run_underlying Tryz.underlying3, sizeOf, typeInfo, zeroValue, hi3, hi3z, hi3s, hi3b, asInt, asIntOf, hw, hneg, h48, hroom, hk0, Addr.add_lit, hst, hz]
     · rw [Nat.mul_one] at htake hlen ⊢
       rw [htake, ← hlen]
       exact List.take_left
   · have hfc : (Builtin.firstCells i3.size n (.slice (some ⟨g, 0, none⟩) n cap)).run Tryz.prog w.drew = .ok (gz l).toArray w.drew := by
       have := run_firstCells_some (P := Tryz.prog) w.drew i3.size n ⟨g, 0, none⟩ n cap (gz l) (by rw [hl1, hi3s]) (fun j u hu => by
        have := ho.cells (g := g) rfl j u hu
        exact this)
       exact this
     have hr := run_append_grow_zeros (P := Tryz.prog) w 52 3 52 4 i3 (.bool false) .i64 .i64 Tryz.underlying52 Tryz.underlying3 hi3 hi3z (some ⟨g, 0, none⟩) n cap (gz l) hfc k (by omega) (by rw [hi3s]; decide) (by omega) (by omega) (by rw [hi3b]; omega) (by rw [hi3b]; have := growslice_fits (bytes := 1) (show cap < n + k by omega) (by omega); simpa using this)
     have hge := grownCap_ge w (n + k) cap 4
     have hcm2 := grownCap_le_maxLen w (n + k) cap 4 (by unfold maxLen; omega)
     have h6 : w.grownBy (w.drew.alloc (.cells ((gz l).toArray ++ Builtin.zeroCells (Value.bool false).cells k ++ Builtin.zeroCells (Value.bool false).cells (grownCap w (n + k) cap 4 - (n + k))) 4)) (Value.slice (some ⟨g, 0, none⟩) n cap).ownBlock := ⟨rfl, rfl, rfl, by simp, fun i hi _ => Go.heap_alloc_old w.drew _ hi⟩
     refine ⟨_, _, _, hr, ⟨hlen, .inr ⟨w.heap.size, _, _, rfl, hbase, heap_alloc_new w.drew _, hge, hcm2, ?_, ?_⟩⟩, ⟨(Fr.refl _ _).grown h6 (fun i hi _ => .inl hi), fun i hi => .inr (Nat.le_of_eq (Option.some.inj hi))⟩⟩
     · have := hl1
       simp only [Array.size_append, List.size_toArray, size_zeroCells, Value.cells, hl1]
       simp
       omega
     · simp only [Array.toList_append, List.append_assoc, zeroB]
       rw [← List.append_assoc, ← hlen]
       exact List.take_left
theorem cloneB_all (l : List Bool) (a : Option Addr) (q c : Nat) (w : World) (hq : l.length = q) (hl : q ≤ 1000) (hB : RowAt w (.slice a q c) q (gz l)) :
 Calls Tryz.prog 17 #[.slice a q c] w fun e w' => ∃ a' c', e = .returned (.slice a' q c') ∧ w'.ownsRow w.heap.size 4 1 (.slice a' q c') q (gz l) ∧ Same w w' := by
 obtain ⟨i3, hi3, hi3z, hi3s, hi3b⟩ := info_parts info4
 have hnil := fun W => Lib.run_eql_slice_nil (P := Tryz.prog) W 52 4 a q c 0 0 Tryz.underlying52
 have h1c : ∀ u ∈ gz l, u.oneCell' = true := by
  intro u hu
  simp only [gz, List.mem_map] at hu
  obtain ⟨b, _, rfl⟩ := hu
  rfl
 cases a with
 | none =>
  obtain ⟨_, a', cap', he, h1, h2, h3, _⟩ := hB
  cases he
  have hc := h3 rfl
  have hz : l = [] := List.length_eq_zero_iff.1 (by omega)
  subst hz
  simp at hq
  subst hq
  subst hc
  clear h1 h2 h3
  go_enter Tryz.func17, Tryz.ntmps17
  go_wp2_with fail
  go_ret
  exact ⟨none, 0, rfl, World.ownsRow_nil _ _ _ _, Fr.refl _ _⟩
 | some ad =>
  clear hq
  replace h1c := gi h1c; replace hB := gi hB
  go_enter Tryz.func17, Tryz.ntmps17
  go_wp2_with (at_builtin; refine wpList_appR rfl (.tmp 5) (.tmp 6) 52 rfl w.heap.size 4 i3 (.bool false) 1 Tryz.underlying52 hi3 hi3z hi3s hi3b rfl (by decide) (.slice (some ⟨w.heap.size, 0, none⟩) 0 0) 0 [] rfl (own_of_block (gv _ _) (Nat.le_refl _) rfl rfl (by unfold maxLen; omega)) (some ad) q c (gz l) rfl (hB.out.same fs2) h1c.out (by omega) (by simp) ?_; intro g cap1 w1 ho1 hG1; simp only [Nat.zero_add, List.nil_append] at ho1 hG1 ⊢; have hs1 : Same w w1 := grew_fresh (W := w.alloc (.cells #[] 4)) fs2 hG1 (fun k hk => by simp only [Value.ownBlock, Option.some.injEq] at hk; omega); replace ho1 := gi ho1; replace hs1 := gi hs1; clear hG1)
  go_ret
  exact ⟨g, cap1, rfl, ho1.out, hs1.out⟩
theorem step_appZ {P : Program} {w : World} {ops : Array Oper} {o : Oper} {a : Act} {KK : Act → World → Prop} {Q : Exit → Act → World → Prop} {E : Prop}
 (hg : o.guard = none) (s x : Operand) (t t' : TypeId) (ho : o.op = .call { callee := .builtin .append, args := #[s, x], argTypes := #[t, t'] }) (v : Value) (w' : World)
 (hr : (Builtin.append_ #[t, t'] o.type #[a.eval s, a.eval x]).run P w = .ok v w') (h : KK (a.put o.dst v) w') : if Region.wanted o (yielded ops a.tmps) = true then Oper.wp P o a w KK Q else E := by
 have hw : Region.wanted o (yielded ops a.tmps) = true := by simp [Region.wanted, hg]
 rw [if_pos hw]
 unfold Oper.wp execOp
 simp only [ho, resolve, invoke, builtin, Sem.run_bind, Sem.run_pure, Result.andThen_ok, List.map_toArray, List.map_cons, List.map_nil, hr]
 exact h
end Go.Proofs.YtcipnkemnepbaaaGreat
