/- RelationReaches walked. plain: the closure under the pairs of the edges is what projection.Reach finds; canonical automata are right. projection.Reach walked. projection.Reach: reach walked. projection.Reach: reach, Reach walked. projection.Reach: observe walked. -/
import Derived.Test.YtcdkklddingfpaaGreatJReaB
import Derived.Test.YtcdkklddingfpaaGreatJMkM
import Derived.Laws.MakeOwn
import Derived.Test.YtcdkklddingfpaaGreatJSortI
import Derived.Test.YtcdkklddingfpaaGreatJRelR
import Derived.Test.YtcdkklddingfpaaGreatJRlN
namespace Go.Proofs.YtcdkklddingfpaaGreat
open Go.RowKit
set_option linter.unusedVariables false
set_option linter.unusedSimpArgs false

theorem infoEs : (Tryz.prog.info? 23).map (fun i => (i.zero, i.size, i.bytes)) = some (some (.slice none 0 0), 1, 24) := by kernel_rfl
theorem made_rep (z : Value) (n : Nat) : madeCells #[z] n = (List.replicate n z).toArray := by
  unfold madeCells
  apply Array.ext
  · simp
  · intro i h1 h2
    simp [Nat.mod_one]
theorem make_edges (n : Nat) (hn : n ≤ 1000) (w : World) : (Instr.makeSlice 131 (.int .i64 n) (.int .i64 n)).run Tryz.prog w = .ok (.slice (some ⟨w.heap.size, 0, none⟩) n n) (w.alloc (.cells (List.replicate n (Value.slice none 0 0)).toArray 23)) := by
  obtain ⟨i3, hi3, hi3z, hi3s, hi3b⟩ := info_parts infoEs
  have := run_make (P := Tryz.prog) w 131 23 i3 _ Tryz.underlying131 hi3 hi3z .i64 .i64 n n (by omega) (by omega) (by rw [hi3b]; omega) (by omega)
  rw [this]
  simp only [Int.toNat_natCast, hi3s, Nat.mul_one, Value.cells, made_rep]

set_option maxRecDepth 100000 in
set_option maxHeartbeats 8000000 in
theorem observe_any (A : Au) (n : Nat) (hn : A.n = n) (hn8 : n ≤ 8) (w : World) (hA : A.at w) (hz : A.small) (hes : ∀ x ∈ A.es, 0 ≤ x.1 ∧ x.1 < n) :
    Calls Tryz.prog 93 #[A.v, .slice none 0 0] w fun e w' => ∃ bo aK qK cK, e = .returned (.agg #[.slice (some ⟨bo, 0, none⟩) n n, .slice none 0 0, .slice aK qK cK, .slice A.aM A.ma.length A.cM]) ∧ OutAt w' bo n A.es ∧ Same w w' := by
  obtain ⟨i3, hi3, hi3z, hi3s, hi3b⟩ := info_parts info3
  obtain ⟨j3, hj3, hj3z, hj3s, hj3b⟩ := info_parts infoE
  have ND := fun (k : Nat) (hk : k < A.es.length) W (hW : Same w W) => (hA.es.same hW).node hk
  have CT := fun (x : Int) W => sContains_any [] x none 0 0 W rfl (RowAt.nil W) (by omega)
  have hal := hA.al
  obtain ⟨al, m, mk, es, aA, cA, aM, cM, aE, cE⟩ := A
  simp only at hn
  subst hn
  unfold Au.v
  simp only at hal ND hes ⊢
  have z1 := hz.al
  have z3 := hz.es
  simp only at z1 z3
  have MK := make_edges n (by omega)
  have hED := fun (k : Nat) (hk : k < es.length) => hes _ (List.getElem_mem hk)
  obtain ⟨qA, hqA⟩ : ∃ q, q = al.length := ⟨_, rfl⟩
  obtain ⟨qE, hqE⟩ : ∃ q, q = es.length := ⟨_, rfl⟩
  rw [← hqA] at hal z1 ⊢
  rw [← hqE] at z3 ⊢
  generalize mk.length = qM at *
  clear hA hz hes
  simp only [List.not_mem_nil, decide_false] at CT
  replace ND := Lib.hid ND; replace CT := Lib.hid CT; replace hal := Lib.hid hal; replace hED := Lib.hid hED; replace hqA := Lib.hid hqA; replace hqE := Lib.hid hqE
  go_enter Tryz.func93, Tryz.ntmps93
  go_upto_region 1 with fail
  have ka := heap_old (heap_new w (.cells #[.slice aA qA cA, .int .i64 n, .slice aM qM cM, .slice aE qE cE] 25)) (.cells #[.slice none 0 0, .slice none 0 0, .slice none 0 0, .slice none 0 0] 133)
  have kr := heap_new (w.alloc (.cells #[.slice aA qA cA, .int .i64 n, .slice aM qM cM, .slice aE qE cE] 25)) (.cells #[.slice none 0 0, .slice none 0 0, .slice none 0 0, .slice none 0 0] 133)
  have hs : Same w ((w.alloc (.cells #[.slice aA qA cA, .int .i64 n, .slice aM qM cM, .slice aE qE cE] 25)).alloc (.cells #[.slice none 0 0, .slice none 0 0, .slice none 0 0, .slice none 0 0] 133)) := (by repeat (first | exact Fr.refl _ _ | apply Fr.alloc | apply Fr.drewN | apply Fr.drew | apply Fr.undrew | apply Fr.undrewN))
  have hz1 : (w.alloc (.cells #[.slice aA qA cA, .int .i64 n, .slice aM qM cM, .slice aE qE cE] 25)).heap.size = w.heap.size + 1 := by simp
  rw [hz1] at kr
  generalize (w.alloc (.cells #[.slice aA qA cA, .int .i64 n, .slice aM qM cM, .slice aE qE cE] 25)).alloc (.cells #[.slice none 0 0, .slice none 0 0, .slice none 0 0, .slice none 0 0] 133) = W0 at *
  clear hz1
  obtain ⟨ba, hba⟩ : ∃ ba, ba = w.heap.size := ⟨_, rfl⟩
  rw [← hba] at ka kr ⊢
  have hbr : ba + 1 < W0.heap.size := lt_of_heap kr
  replace ka := Lib.hid ka; replace kr := Lib.hid kr; replace hs := Lib.hid hs; replace hba := Lib.hid hba
  have x0 := cell_at ka.out 0
  have x1 := cell_at ka.out 1
  have x2 := cell_at ka.out 2
  have x3 := cell_at ka.out 3
  have xl := lt_of_heap ka.out
  go_region
  all_goals first
    | (obtain ⟨W1, hW1⟩ : ∃ W, W = ((W0.alloc (.cells (Array.replicate n (Value.slice none 0 0)) 23)).alloc (.cells #[.slice (some ⟨W0.heap.size, 0, none⟩) n n, .slice none 0 0, .slice none 0 0, .slice aM qM cM] 133)).drew := ⟨_, rfl⟩
       rw [← hW1]
       have kO : W1.heap[W0.heap.size]? = some (.cells (Array.replicate n (Value.slice none 0 0)) 23 (0, 0)) := by rw [hW1]; exact heap_old (heap_new _ _) _
       have kX : W1.heap[W0.heap.size + 1]? = some (.cells #[.slice (some ⟨W0.heap.size, 0, none⟩) n n, .slice none 0 0, .slice none 0 0, .slice aM qM cM] 133 (0, 0)) := by rw [hW1]; exact heap_new_at (by simp) _
       have s1 : Same W0 W1 := by rw [hW1]; exact (by repeat (first | exact Fr.refl _ _ | apply Fr.alloc | apply Fr.drewN | apply Fr.drew | apply Fr.undrew | apply Fr.undrewN))
       obtain ⟨bo, hbo⟩ : ∃ b, b = W0.heap.size := ⟨_, rfl⟩
       obtain ⟨bx, hbx⟩ : ∃ b, b = W0.heap.size + 1 := ⟨_, rfl⟩
       rw [← hbx] at kX ⊢
       rw [← hbo] at kO kX ⊢
       have hlo : W0.heap.size ≤ bo := by omega
       have hlx : W0.heap.size ≤ bx := by omega
       have hox : bo ≠ bx := by omega
       clear hbo hbx hW1)
    | (obtain ⟨W1, hW1⟩ : ∃ W, W = ((W0.alloc (.cells #[.slice (some ⟨W0.heap.size + 1, 0, none⟩) n n, .slice none 0 0, .slice none 0 0, .slice aM qM cM] 133)).alloc (.cells (Array.replicate n (Value.slice none 0 0)) 23)).drew := ⟨_, rfl⟩
       rw [← hW1]
       have kO : W1.heap[W0.heap.size + 1]? = some (.cells (Array.replicate n (Value.slice none 0 0)) 23 (0, 0)) := by rw [hW1]; exact heap_new_at (by simp) _
       have kX : W1.heap[W0.heap.size]? = some (.cells #[.slice (some ⟨W0.heap.size + 1, 0, none⟩) n n, .slice none 0 0, .slice none 0 0, .slice aM qM cM] 133 (0, 0)) := by rw [hW1]; exact heap_old (heap_new _ _) _
       have s1 : Same W0 W1 := by rw [hW1]; exact (by repeat (first | exact Fr.refl _ _ | apply Fr.alloc | apply Fr.drewN | apply Fr.drew | apply Fr.undrew | apply Fr.undrewN))
       obtain ⟨bo, hbo⟩ : ∃ b, b = W0.heap.size + 1 := ⟨_, rfl⟩
       obtain ⟨bx, hbx⟩ : ∃ b, b = W0.heap.size := ⟨_, rfl⟩
       rw [← hbo] at kO kX ⊢
       rw [← hbx] at kX ⊢
       have hlo : W0.heap.size ≤ bo := by omega
       have hlx : W0.heap.size ≤ bx := by omega
       have hox : bo ≠ bx := by omega
       clear hbo hbx hW1)
  all_goals
    clear x0 x1 x2 x3 xl
    replace hs := Lib.hid (hs.out.same s1)
    replace ka := Lib.hid (s1.at ka.out id)
    replace kr := Lib.hid (s1.at kr.out id)
    have hz1 := s1.size
    have O0 : OT W1.heap.size bo W1 (nilE n) := OT.zero (by unfold ArrAt; rw [kO]; simp)
    have hlo1 := lt_of_heap kO
    have hlx1 := lt_of_heap kX
    clear s1 kO
    replace kX := Lib.hid kX; replace O0 := Lib.hid O0
    have x3 := cell_at ka.out 3
    have xl := lt_of_heap ka.out
    go_wp2_with fail
    clear x3 xl
    go_loopw [19] (fun i wr => ∃ (k : Nat) (S : List RE), i = .int .i64 k ∧ k ≤ qE ∧ OT W1.heap.size bo wr S ∧ S.length = n ∧ S.map RE.l = (List.range n).map (fun s : Nat => outE (es.take k) s) ∧ Fr (fun i => i = bo) W1 wr) (fun i _ => qE - (intOf i).toNat)
    case atStart => exact ⟨0, nilE n, rfl, by omega, O0.out, by simp [nilE], by simp [nilE, outE, List.map_const'], Fr.refl _ _⟩
    case round =>
      clear O0
      obtain ⟨k, S, rfl, hk, hO, hSn, hSl, hf⟩ := hrel
      have hsW : Same w wr := hs.out.trans hf (fun i hi e => by have : i = bo := e; have := hba.out; omega)
      have kXr := hf.at kX.out (fun e => hox e.symm)
      by_cases hkE : k < qE
      · have hkl : k < es.length := by rw [← hqE.out]; exact hkE
        obtain ⟨bb, off, rfl, hbl, z0, z1', z2⟩ := ND.out k hkl wr hsW
        have hed := hED.out k hkl
        have hyes := fun s : Int => outE_yes (es := es) (s := s) (k := k) hkl
        have hno := fun s : Int => outE_no (es := es) (s := s) (k := k) hkl
        generalize es[k] = x at *
        obtain ⟨f, e, t⟩ := x
        simp only at z0 z1' z2 hed hyes hno
        obtain ⟨s, hs'⟩ : ∃ s : Nat, s = f.toNat := ⟨_, rfl⟩
        obtain rfl : f = (s : Int) := by omega
        clear hs'
        have hsn : s < n := by omega
        have hsS : s < S.length := by omega
        have hcO := hO.cell hsS
        have hoO := hO.own s hsS
        have hfree := free_at hO.blk s
        have hSl' : ∀ a' c', (S.set s ⟨a', c', S[s].l ++ [((s : Int), e, t)]⟩).map RE.l = (List.range n).map (fun s : Nat => outE (es.take (k + 1)) s) := fun a' c' => by
          apply List.ext_getElem
          · simp [hSn]
          · intro y hy1 hy2
            have hyn : y < n := by simpa using hy2
            have e0 := congrArg (fun l => l[y]?) hSl
            have hyS : y < S.length := by omega
            simp only [List.getElem?_map, List.getElem?_range hyn, List.getElem?_eq_getElem hyS, Option.map_some, Option.some.injEq] at e0
            simp only [List.getElem_map, List.getElem_range]
            by_cases hsy : s = y
            · subst hsy
              simp only [List.getElem_set_self]
              rw [hyes s rfl, e0]
            · rw [List.getElem_set_ne hsy, e0, hno y (by simp only [ne_eq]; omega)]
        have hpush : ∀ (W w' : World) (a' : Option Addr) (c' : Nat), Same wr W → w'.ownsRow W1.heap.size 39 3 (.slice a' (S[s].l.length + 1) c') (S[s].l.length + 1) (ndCells (S[s].l ++ [((s : Int), e, t)])) → Grew (fun _ => False) W w' S[s].v (.slice a' (S[s].l.length + 1) c') →
            OT W1.heap.size bo (w'.setCell ⟨bo, s, none⟩ (.slice a' (S[s].l.length + 1) c')) (S.set s ⟨a', c', S[s].l ++ [((s : Int), e, t)]⟩) ∧ ArrAt w' bo 23 (S.map RE.v) := fun W w' a' c' h1 h2 h3 => hO.push h1 hsS (by simp) h2 h3
        have hne : ∀ k, S[s].v.ownBlock = some k → k ≠ bo ∧ k ≠ bx ∧ k < wr.heap.size := fun k hk => by
          obtain ⟨cur, e1⟩ := own_block hoO hk
          refine ⟨fun e => ?_, fun e => ?_, lt_of_heap e1⟩
          · have e2 := hO.blk
            unfold ArrAt at e2
            rw [← e, e1] at e2
            simp at e2
          · rw [e, kXr] at e1
            simp at e1
        have hql : S[s].l.length ≤ 1000 := by
          have e0 := congrArg (fun l => l[s]?) hSl
          simp only [List.getElem?_map, List.getElem?_range hsn, List.getElem?_eq_getElem hsS, Option.map_some, Option.some.injEq] at e0
          rw [e0]
          unfold outE
          refine Nat.le_trans (List.length_filter_le _ _) ?_
          rw [List.length_take]; omega
        unfold RE.v at hoO hpush hne
        generalize S[s].a = ra at *
        generalize S[s].l = rl at *
        generalize S[s].cap = rc at *
        have hbo := hO.blk.lt
        clear hED
        replace hO := Lib.hid hO; replace hSn := Lib.hid hSn; replace hSl := Lib.hid hSl; replace hf := Lib.hid hf; replace hsW := Lib.hid hsW; replace kXr := Lib.hid kXr; replace hed := Lib.hid hed; replace hyes := Lib.hid hyes; replace hno := Lib.hid hno; replace hcO := Lib.hid hcO; replace hoO := Lib.hid hoO; replace hSl' := Lib.hid hSl'; replace hpush := Lib.hid hpush; replace hne := Lib.hid hne
        go_upto_region 5 with fail
        have k7 := heap_new wr (.cells #[.int .i64 s, .int .i64 e, .int .i64 t] 39)
        have s7 : Same wr (wr.alloc (.cells #[.int .i64 s, .int .i64 e, .int .i64 t] 39)) := (by repeat (first | exact Fr.refl _ _ | apply Fr.alloc | apply Fr.drewN | apply Fr.drew | apply Fr.undrew | apply Fr.undrewN))
        generalize wr.alloc (.cells #[.int .i64 s, .int .i64 e, .int .i64 t] 39) = W7 at *
        obtain ⟨b7, hb7⟩ : ∃ b, b = wr.heap.size := ⟨_, rfl⟩
        rw [← hb7] at k7 ⊢
        have y0 := cell_at k7 0
        have y1 := cell_at k7 1
        have y2 := cell_at k7 2
        have yl := lt_of_heap k7
        have x0 := cell_at (s7.at kXr.out id) 0
        have xl := lt_of_heap (s7.at kXr.out id)
        have zl : bo < W7.heap.size := Nat.lt_of_lt_of_le hbo s7.size
        have zo : W7.cell? ⟨bo, s, none⟩ = some (.slice ra rl.length rc) := by rw [← hcO.out]; exact World.cell?_of_block (a := ⟨bo, s, none⟩) (s7.block bo hbo id)
        have hz7 := s7.size
        have hz8 := hf.out.size
        clear z0 z1' z2
        replace k7 := Lib.hid k7; replace s7 := Lib.hid s7; replace hb7 := Lib.hid hb7
        refine wp_region_sched (fun k => k = bx ∨ k = b7 ∨ k = bo) [0, 1, 0, 1, 0, 1, 0, 1, 0, 1, 1, 2, 2, 0, 3] [0, 2, 4, 6, 1, 3, 5, 7, 8, 9, 10, 11, 12, 13, 14] (by kernel_rfl) (by kernel_rfl) ?_
        repeat (first | (refine sched_w rfl rfl (fun _ hK => ?_); go_simp; refine hK _ ?_; clear hK) | (refine sched_s rfl rfl (fun _ hK => ?_); go_simp; first | (refine hK _ ?_; clear hK) | (refine ⟨_, fun _ => rfl, hK _ ?_⟩; clear hK)))
        refine sched_g rfl rfl (fun _ hK => ?_); go_simp; refine hK _ _ (Kp.of_same (by repeat (first | exact Fr.refl _ _ | apply Fr.alloc | apply Fr.drewN | apply Fr.drew | apply Fr.undrew | apply Fr.undrewN))) ?_; clear hK
        refine sched_g rfl rfl (fun _ hK => ?_)
        refine step_append1 rfl (.tmp 32) (.tmp 34) 23 rfl W1.heap.size 39 j3 (.agg #[.int .i64 0, .int .i64 0, .int .i64 0]) 3 24 Tryz.underlying23 hj3 hj3z hj3s hj3b rfl (by decide) (by decide) ra rl.length rc (ndCells rl) (by go_simp) (owns_same hoO.out (s7.out.same (by repeat (first | exact Fr.refl _ _ | apply Fr.alloc | apply Fr.drewN | apply Fr.drew | apply Fr.undrew | apply Fr.undrewN)))) (by omega) W7.heap.size [.int .i64 s, .int .i64 e, .int .i64 t] (by go_simp) rfl (heap_new_at (by simp) _) (by simp [Value.oneCell']) (by simp; omega) ?_
        intro a9 c9 w9 ho9 hG9
        have hap : ndCells (rl ++ [((s : Int), e, t)]) = ndCells rl ++ [.int .i64 s, .int .i64 e, .int .i64 t] := by rw [ndCells_append]; rfl
        have P := hpush.out _ w9 a9 c9 (s7.out.same (by repeat (first | exact Fr.refl _ _ | apply Fr.alloc | apply Fr.drewN | apply Fr.drew | apply Fr.undrew | apply Fr.undrewN))) (by rw [hap]; exact ho9) hG9
        refine hK _ _ (Kp.of_fr hG9.1 (fun k hk _ hS => ?_)) ?_
        · rcases hS with hS | hS
          · obtain ⟨n1, n2, n3⟩ := hne.out k hS
            have := hb7.out
            rcases hk with hk | hk | hk <;> omega
          · exact hS
        clear hK
        try simp only [Act.put, List.setIfInBounds_toArray, List.set_cons_zero, List.set_cons_succ]
        have q9 := cell_at P.2 s
        have p9 := free_at P.2 s
        have l9 := lt_of_heap P.2
        have f9 : Fr (fun i => i = bo) W1 (w9.setCell ⟨bo, s, none⟩ (.slice a9 (rl.length + 1) c9)) := ((hf.out.same (s7.out.same (by repeat (first | exact Fr.refl _ _ | apply Fr.alloc | apply Fr.drewN | apply Fr.drew | apply Fr.undrew | apply Fr.undrewN)))).trans hG9.1 (fun i hi hS => by
          rcases hS with hS | hS
          · have := (hoO.out.lt i hS).1; omega
          · exact hS.elim)).trans ((Fr.refl (fun k => k = bo) _).setCell _ _ (fun _ => rfl)) (fun i hi e => e)
        have P2 := P.1
        have hl9 := hSl'.out a9 c9
        have hn9 : (S.set s ⟨a9, c9, rl ++ [((s : Int), e, t)]⟩).length = n := by rw [List.length_set]; exact hSn.out
        clear ho9 hG9 P
        replace P2 := Lib.hid P2; replace hl9 := Lib.hid hl9; replace f9 := Lib.hid f9; replace hn9 := Lib.hid hn9
        repeat (first | (refine sched_w rfl rfl (fun _ hK => ?_); go_simp; refine hK _ ?_; clear hK) | (refine sched_s rfl rfl (fun _ hK => ?_); go_simp; first | (refine hK _ ?_; clear hK) | (refine ⟨_, fun _ => rfl, hK _ ?_⟩; clear hK)))
        refine sched_l rfl (by decide) (fun _ hK => ?_); go_simp
        refine hK _ _ ?_; clear hK; try simp only [Act.put, List.setIfInBounds_toArray, List.set_cons_zero, List.set_cons_succ]
        refine sched_nil (NoPanic.normal ?_)
        go_wp2_with fail
        go_roundw
        case rel => exact ⟨k + 1, _, by go_num, by omega, P2.out.same (by repeat (first | exact Fr.refl _ _ | apply Fr.alloc | apply Fr.drewN | apply Fr.drew | apply Fr.undrew | apply Fr.undrewN)), hn9.out, hl9.out, f9.out.same (by repeat (first | exact Fr.refl _ _ | apply Fr.alloc | apply Fr.drewN | apply Fr.drew | apply Fr.undrew | apply Fr.undrewN))⟩
        case measure => simp [intOf]; omega
      · obtain rfl : k = qE := by omega
        have hOA : OutAt wr bo n es := OutAt.of hO hSn (by rw [hSl, List.take_of_length_le (by rw [← hqE.out]; exact Nat.le_refl _)])
        have hrE := hf.at ka.out (fun e => by have := lt_of_heap ka.out; omega)
        have hrR := hf.at kr.out (fun e => by have := lt_of_heap kr.out; omega)
        have hwz := hf.size
        clear hO hSl hED
        replace hOA := Lib.hid hOA; replace hrE := Lib.hid hrE; replace hrR := Lib.hid hrR; replace hsW := Lib.hid hsW; replace kXr := Lib.hid kXr; replace hf := Lib.hid hf
        have x0 := cell_at hrE.out 0
        have xl := lt_of_heap hrE.out
        go_wp2_with fail
        clear x0 xl
        obtain ⟨w2, rfl⟩ : ∃ w2, w2 = wr := ⟨_, rfl⟩
        have B0 : w2.ownsRow w2.heap.size 3 1 (.slice none 0 0) 0 [] := World.ownsRow_nil _ _ _ _
        replace B0 := Lib.hid B0
        go_loopw [41] (fun i wr => ∃ (k : Nat) (l : List Int) (a : Option Addr) (c : Nat), i = .int .i64 k ∧ k ≤ qA ∧ l.length = k ∧ wr.heap[bx]? = some (.cells #[.slice (some ⟨bo, 0, none⟩) n n, .slice none 0 0, .slice a k c, .slice aM qM cM] 133 (0, 0)) ∧ wr.ownsRow w2.heap.size 3 1 (.slice a k c) k (intCells l) ∧ Fr (fun i => i = bx) w2 wr) (fun i _ => qA - (intOf i).toNat)
        case atStart => exact ⟨0, [], none, 0, rfl, by omega, rfl, kXr.out, B0.out, Fr.refl _ _⟩
        case round =>
          clear B0
          obtain ⟨j, l, a, c, rfl, hj, hl, hX, ho, hf2⟩ := hrel
          have hsW2 := hsW.out.trans hf2 (fun i hi e => by have : i = bx := e; have := hba.out; omega)
          by_cases hjA : j < qA
          · obtain ⟨bc, off2, rfl, hcl, z1⟩ := (hal.out.same hsW2).int (k := j) hqA.out.symm hjA
            generalize al[j]'(by rw [← hqA.out]; exact hjA) = x at z1
            have y2 := cell_at hX 2
            have p2 := free_at hX 2
            have yl := lt_of_heap hX
            have CT1 := CT.out x
            have hz2 := hf2.size
            replace hX := Lib.hid hX; replace ho := Lib.hid ho; replace hf2 := Lib.hid hf2; replace hsW2 := Lib.hid hsW2; replace hl := Lib.hid hl; replace CT1 := Lib.hid CT1
            go_wp2_with fail
            refine (CT1.out _).mono ?_
            rintro e6 w6 ⟨rfl, s6⟩
            replace hX := Lib.hid (s6.at hX.out id)
            replace ho := Lib.hid (owns_same ho.out s6)
            replace hf2 := Lib.hid (hf2.out.same s6)
            have hz6 := s6.size
            clear s6 z1 hcl y2 p2 yl
            have y2 := cell_at hX.out 2
            have p2 := free_at hX.out 2
            have yl := lt_of_heap hX.out
            go_wp2_with (at_builtin; refine wpList_append1 rfl (.tmp 55) (.tmp 57) 22 rfl w2.heap.size 3 i3 (.int .i64 0) 1 8 Tryz.underlying22 hi3 hi3z hi3s hi3b rfl (by decide) (by decide) a j c (intCells l) rfl (owns_same ho.out (by repeat (first | exact Fr.refl _ _ | apply Fr.alloc | apply Fr.drewN | apply Fr.drew | apply Fr.undrew | apply Fr.undrewN))) (by omega) w6.heap.size [.int .i64 x] rfl rfl (heap_new _ _) (by simp [Value.oneCell']) (by simp; omega) ?_; intro a9 c9 w9 ho9 hG9; have hne9 : ∀ k, (Value.slice a j c).ownBlock = some k → k ≠ bx := (fun k hk e => by obtain ⟨cur, e1⟩ := own_block ho.out hk; rw [e, hX.out] at e1; simp at e1); have hX9 := hG9.1.at ((show Same w6 _ from (by repeat (first | exact Fr.refl _ _ | apply Fr.alloc | apply Fr.drewN | apply Fr.drew | apply Fr.undrew | apply Fr.undrewN))).at hX.out id) (fun e => by rcases e with e | e; exact hne9 bx e rfl; exact e); have q2 := cell_at hX9 2; have q3 := free_at hX9 2; have ql := lt_of_heap hX9; have f9 : Fr (fun i => i = bx) w2 w9 := (hf2.out.same (by repeat (first | exact Fr.refl _ _ | apply Fr.alloc | apply Fr.drewN | apply Fr.drew | apply Fr.undrew | apply Fr.undrewN))).trans hG9.1 (fun i hi e => by rcases e with e | e; have := (ho.out.lt i e).1; omega; exact e.elim); clear hne9; replace hX9 := Lib.hid hX9; replace ho9 := Lib.hid ho9; replace f9 := Lib.hid f9; clear hG9)
            have hX10 : (w9.setCell ⟨bx, 2, none⟩ (.slice a9 (j + 1) c9)).heap[bx]? = some (.cells #[.slice (some ⟨bo, 0, none⟩) n n, .slice none 0 0, .slice a9 (j + 1) c9, .slice aM qM cM] 133 (0, 0)) := by
              have := heap_setCell_same hX9.out 2 (.slice a9 (j + 1) c9)
              rw [this]; simp
            have hF10 : Fr (fun k => k = bx) w9 (w9.setCell ⟨bx, 2, none⟩ (.slice a9 (j + 1) c9)) := (Fr.refl _ _).setCell _ _ (fun _ => rfl)
            have ho10 : (w9.setCell ⟨bx, 2, none⟩ (.slice a9 (j + 1) c9)).ownsRow w2.heap.size 3 1 (.slice a9 (j + 1) c9) (j + 1) (intCells (l ++ [x])) := by
              have := owns_fr ho9.out hF10 (fun k hk e => by
                obtain ⟨cur, e1⟩ := own_block ho9.out hk
                rw [show k = bx from e, hX9.out] at e1
                simp at e1)
              simpa [intCells] using this
            have hf10 := f9.out.trans hF10 (fun i hi e => e)
            go_roundw
            case rel => exact ⟨j + 1, l ++ [x], a9, c9, by go_num, by omega, by rw [List.length_append, hl.out]; rfl, hX10, ho10, hf10⟩
            case measure => simp [intOf]; omega
          · obtain rfl : j = qA := by omega
            have hkr := hf2.at hrR.out (fun e => by have := lt_of_heap kr.out; omega)
            have x0 := cell_at hX 0
            have x1 := cell_at hX 1
            have x2 := cell_at hX 2
            have x3 := cell_at hX 3
            have xl := lt_of_heap hX
            have hOA2 : OutAt wr bo n es := hOA.out.fr hf2 (fun e => hox e) (fun k cur hk e => by rw [show k = bx from e, kXr.out] at hk; simp at hk)
            obtain ⟨y0, y1, y2, y3, f0, f1, f2, f3, yl⟩ := box4_facts hkr
            replace hX := Lib.hid hX; replace ho := Lib.hid ho; replace hf2 := Lib.hid hf2; replace hsW2 := Lib.hid hsW2; replace hl := Lib.hid hl; replace hkr := Lib.hid hkr; replace hOA2 := Lib.hid hOA2
            go_wp2_with fail
            obtain ⟨k6, f6⟩ := box_au (u0 := .slice (some ⟨bo, 0, none⟩) n n) (u1 := .slice none 0 0) (u2 := .slice a j c) (u3 := .slice aM qM cM) hkr.out
            clear y0 y1 y2 y3 f0 f1 f2 f3 yl x0 x1 x2 x3 xl
            have hO6 := hOA2.out.fr f6 (fun e => by have := lt_of_heap kr.out; omega) (fun k cur hk e => by rw [show k = ba + 1 from e, hkr.out] at hk; simp at hk)
            have hs6 := hsW2.out.trans f6 (fun i hi e => by have : i = ba + 1 := e; have := hba.out; omega)
            generalize (((wr.setCell ⟨ba + 1, 0, none⟩ (.slice (some ⟨bo, 0, none⟩) n n)).setCell ⟨ba + 1, 1, none⟩ (.slice none 0 0)).setCell ⟨ba + 1, 2, none⟩ (.slice a j c)).setCell ⟨ba + 1, 3, none⟩ (.slice aM qM cM) = W6 at *
            obtain ⟨d0, d1, d2, d3, f0, f1, f2, f3, yl⟩ := box4_facts k6
            refine bodyPost_ret (v := .agg #[.slice (some ⟨bo, 0, none⟩) n n, .slice none 0 0, .slice a j c, .slice aM qM cM]) (by simp [results, Tryz.results93, go_sem, d0, d1, d2, d3]) rfl ?_
            exact ⟨bo, a, j, c, rfl, hO6, hs6⟩
end Go.Proofs.YtcdkklddingfpaaGreat
namespace Go.Proofs.YtcdkklddingfpaaGreat
open Go.RowKit
set_option linter.unusedVariables false
set_option linter.unusedSimpArgs false

/-! ### the states that are seen, and their list -/
def seenF (l : List Int) (n : Nat) : List Bool := colF (fun i => decide ((i : Int) ∈ l)) n
theorem seenF_get {l : List Int} {n x : Nat} (hx : x < n) : (boolCells (seenF l n))[x]? = some (.bool (decide ((x : Int) ∈ l))) := by
  simp [seenF, colF, boolCells, hx]
theorem seenF_set {l : List Int} {n x : Nat} (hx : x < n) : (boolCells (seenF l n)).set x (.bool true) = boolCells (seenF (l ++ [(x : Int)]) n) := by
  apply List.ext_getElem?
  intro i
  by_cases hi : i < n
  · rw [seenF_get hi]
    by_cases e : x = i
    · subst e
      rw [List.getElem?_set_self (by simp [seenF, colF, boolCells, hx])]
      simp
    · rw [List.getElem?_set_ne e, seenF_get hi]
      have : ¬ (i : Int) = (x : Int) := by omega
      simp [this]
  · rw [List.getElem?_eq_none (by simp [seenF, colF, boolCells]; omega), List.getElem?_eq_none (by simp [seenF, colF, boolCells]; omega)]
structure RS (base bs b7 b8 n : Nat) (l : List Int) (a : Option Addr) (c : Nat) (w : World) : Prop where
  ks : ArrAt w bs 4 (boolCells (seenF l n))
  k7 : w.heap[b7]? = some (.cells #[.slice (some ⟨bs, 0, none⟩) n n] 63 (0, 0))
  k8 : w.heap[b8]? = some (.cells #[.slice a l.length c] 22 (0, 0))
  own : w.ownsRow base 3 1 (.slice a l.length c) l.length (intCells l)
theorem RS.same {base bs b7 b8 n : Nat} {l : List Int} {a : Option Addr} {c : Nat} {w w' : World} (h : RS base bs b7 b8 n l a c w) (hs : Same w w') : RS base bs b7 b8 n l a c w' :=
  ⟨h.ks.same hs, hs.at h.k7 id, hs.at h.k8 id, owns_same h.own hs⟩
theorem RS.ne {base bs b7 b8 n : Nat} {l : List Int} {a : Option Addr} {c : Nat} {w : World} (h : RS base bs b7 b8 n l a c w) : bs ≠ b7 ∧ bs ≠ b8 ∧ b7 ≠ b8 := by
  have h1 := h.ks
  unfold ArrAt at h1
  refine ⟨fun e => ?_, fun e => ?_, fun e => ?_⟩
  · rw [e, h.k7] at h1; simp at h1
  · rw [e, h.k8] at h1; simp at h1
  · have := h.k7; rw [e, h.k8] at this; simp at this

set_option maxRecDepth 100000 in
set_option maxHeartbeats 2000000 in
theorem reachAdd_any {base bs b7 b8 n x : Nat} {l : List Int} {a : Option Addr} {c : Nat} (Wb w : World) (hx : x < n) (hn : n ≤ 1000) (hl : l.length ≤ 1000) (h : RS base bs b7 b8 n l a c w) (hb : base = Wb.heap.size) (hf : Fr (fun k => k = bs ∨ k = b8) Wb w) :
    Calls Tryz.prog 119 #[.int .i64 x, .pointer (some ⟨b7, 0, none⟩), .pointer (some ⟨b8, 0, none⟩)] w fun e w' => e = .returned (.tuple #[]) ∧ ∃ a' c', RS base bs b7 b8 n (addL l x) a' c' w' ∧ Fr (fun k => k = bs ∨ k = b8) Wb w' := by
  obtain ⟨i3, hi3, hi3z, hi3s, hi3b⟩ := info_parts info3
  obtain ⟨n1, n2, n3⟩ := h.ne
  have c7 := cell_at h.k7 0
  have l7 := lt_of_heap h.k7
  have cx := cell_at h.ks x
  have fx := free_at h.ks x
  have lx := h.ks.lt
  have hget := seenF_get (l := l) hx
  have cx2 : w.cell? ⟨bs, x, none⟩ = some (.bool (decide ((x : Int) ∈ l))) := by rw [cx]; simpa using hget
  clear cx hget
  have hzb := hf.size
  by_cases hm : (x : Int) ∈ l
  · have e1 : addL l x = l := by unfold addL; rw [if_pos hm]
    rw [e1]
    rw [decide_eq_true hm] at cx2
    replace h := Lib.hid h; replace hf := Lib.hid hf; replace hm := Lib.hid hm; replace e1 := Lib.hid e1; replace hb := Lib.hid hb
    go_enter Tryz.func119, Tryz.ntmps119
    go_wp2_with fail
    refine bodyPost_end (v := .tuple #[]) (by simp [results, Tryz.results119, go_sem]) rfl ?_
    exact ⟨rfl, a, c, h.out.same (by repeat (first | exact Fr.refl _ _ | apply Fr.alloc | apply Fr.drewN | apply Fr.drew | apply Fr.undrew | apply Fr.undrewN)), hf.out.same (by repeat (first | exact Fr.refl _ _ | apply Fr.alloc | apply Fr.drewN | apply Fr.drew | apply Fr.undrew | apply Fr.undrewN))⟩
  · have e1 : addL l x = l ++ [(x : Int)] := by unfold addL; rw [if_neg hm]
    rw [e1]
    rw [decide_eq_false hm] at cx2
    have hF1 : Fr (fun k => k = bs) w (w.setCell ⟨bs, x, none⟩ (.bool true)) := (Fr.refl _ _).setCell _ _ (fun _ => rfl)
    have ks1 : ArrAt (w.setCell ⟨bs, x, none⟩ (.bool true)) bs 4 (boolCells (seenF (l ++ [(x : Int)]) n)) := by
      have := h.ks.set x (.bool true)
      rw [seenF_set hx] at this
      exact this
    have k71 := hF1.at h.k7 (fun e => n1 e.symm)
    have k81 := hF1.at h.k8 (fun e => n2 e.symm)
    have own1 := owns_fr h.own hF1 (fun k hk e => by
      obtain ⟨cur, e1⟩ := own_block h.own hk
      have e2 := h.ks
      unfold ArrAt at e2
      rw [show k = bs from e, e2] at e1
      simp at e1)
    have hf1 := hf.trans hF1 (fun i hi e => .inl e)
    replace h := Lib.hid h; replace hf := Lib.hid hf; replace hm := Lib.hid hm; replace e1 := Lib.hid e1; replace hb := Lib.hid hb; replace ks1 := Lib.hid ks1; replace k71 := Lib.hid k71; replace k81 := Lib.hid k81; replace own1 := Lib.hid own1; replace hf1 := Lib.hid hf1; replace hF1 := Lib.hid hF1
    go_enter Tryz.func119, Tryz.ntmps119
    go_upto_region 2 with fail
    generalize w.setCell ⟨bs, x, none⟩ (.bool true) = W1 at *
    clear c7 l7 cx2 fx lx hF1
    have c8 := cell_at k81.out 0
    have l8 := lt_of_heap k81.out
    have hz1 := hf1.out.size
    go_wp2_with (at_builtin; refine wpList_append1 rfl (.tmp 12) (.tmp 14) 22 rfl base 3 i3 (.int .i64 0) 1 8 Tryz.underlying22 hi3 hi3z hi3s hi3b rfl (by decide) (by decide) a l.length c (intCells l) rfl (owns_same own1.out (by repeat (first | exact Fr.refl _ _ | apply Fr.alloc | apply Fr.drewN | apply Fr.drew | apply Fr.undrew | apply Fr.undrewN))) (by omega) W1.heap.size [.int .i64 x] rfl rfl (heap_new _ _) (by simp [Value.oneCell']) (by have := hb.out; simp; omega) ?_; intro a9 c9 w9 ho9 hG9; have hne9 : ∀ k, (Value.slice a l.length c).ownBlock = some k → k ≠ bs ∧ k ≠ b8 ∧ k ≠ b7 := (fun k hk => by obtain ⟨cur, e1⟩ := own_block own1.out hk; refine ⟨fun e => ?_, fun e => ?_, fun e => ?_⟩; have e2 := ks1.out; unfold ArrAt at e2; rw [e, e2] at e1; simp at e1; rw [e, k81.out] at e1; simp at e1; rw [e, k71.out] at e1; simp at e1); have sA : Same W1 (W1.alloc (.cells #[.int .i64 x] 3)) := (by repeat (first | exact Fr.refl _ _ | apply Fr.alloc | apply Fr.drewN | apply Fr.drew | apply Fr.undrew | apply Fr.undrewN)); have ks9 := (ks1.out.same sA).fr hG9.1 (fun e => by rcases e with e | e; exact (hne9 bs e).1 rfl; exact e); have k79 := hG9.1.at (sA.at k71.out id) (fun e => by rcases e with e | e; exact (hne9 b7 e).2.2 rfl; exact e); have k89 := hG9.1.at (sA.at k81.out id) (fun e => by rcases e with e | e; exact (hne9 b8 e).2.1 rfl; exact e); have f9 := (hf1.out.same sA).trans hG9.1 (fun i hi e => by rcases e with e | e; have := (own1.out.lt i e).1; have := hb.out; omega; exact e.elim); have q0 := cell_at k89 0; have p0 := free_at k89 0; have ql := lt_of_heap k89; clear hne9 sA hG9; replace ks9 := Lib.hid ks9; replace k79 := Lib.hid k79; replace k89 := Lib.hid k89; replace f9 := Lib.hid f9; replace ho9 := Lib.hid ho9)
    have hF9 : Fr (fun k => k = b8) w9 (w9.setCell ⟨b8, 0, none⟩ (.slice a9 (l.length + 1) c9)) := (Fr.refl _ _).setCell _ _ (fun _ => rfl)
    have k8' : (w9.setCell ⟨b8, 0, none⟩ (.slice a9 (l.length + 1) c9)).heap[b8]? = some (.cells #[.slice a9 (l ++ [(x : Int)]).length c9] 22 (0, 0)) := by
      have := heap_setCell_same k89.out 0 (.slice a9 (l.length + 1) c9)
      rw [this]; simp
    have own' : (w9.setCell ⟨b8, 0, none⟩ (.slice a9 (l.length + 1) c9)).ownsRow base 3 1 (.slice a9 (l ++ [(x : Int)]).length c9) (l ++ [(x : Int)]).length (intCells (l ++ [(x : Int)])) := by
      have := owns_fr ho9.out hF9 (fun k hk e => by
        obtain ⟨cur, e1⟩ := own_block ho9.out hk
        rw [show k = b8 from e, k89.out] at e1
        simp at e1)
      rw [show (l ++ [(x : Int)]).length = l.length + 1 by simp]
      simpa [intCells] using this
    have hR : RS base bs b7 b8 n (l ++ [(x : Int)]) a9 c9 _ := ⟨ks9.out.fr hF9 n2, hF9.at k79.out n3, k8', own'⟩
    have hf' := f9.out.trans hF9 (fun i hi e => .inr e)
    refine bodyPost_end (v := .tuple #[]) (by simp [results, Tryz.results119, go_sem]) rfl ?_
    exact ⟨rfl, a9, c9, hR.same (by repeat (first | exact Fr.refl _ _ | apply Fr.alloc | apply Fr.drewN | apply Fr.drew | apply Fr.undrew | apply Fr.undrewN)), hf'.same (by repeat (first | exact Fr.refl _ _ | apply Fr.alloc | apply Fr.drewN | apply Fr.drew | apply Fr.undrew | apply Fr.undrewN))⟩
end Go.Proofs.YtcdkklddingfpaaGreat
namespace Go.Proofs.YtcdkklddingfpaaGreat
open Go.RowKit
set_option linter.unusedVariables false
set_option linter.unusedSimpArgs false

theorem infoBo : (Tryz.prog.info? 4).map (fun i => (i.zero, i.size, i.bytes)) = some (some (.bool false), 1, 1) := by kernel_rfl
theorem make_bools (n : Nat) (hn : n ≤ 1000) (w : World) : (Instr.makeSlice 63 (.int .i64 n) (.int .i64 n)).run Tryz.prog w = .ok (.slice (some ⟨w.heap.size, 0, none⟩) n n) (w.alloc (.cells (List.replicate n (Value.bool false)).toArray 4)) := by
  obtain ⟨i3, hi3, hi3z, hi3s, hi3b⟩ := info_parts infoBo
  have := run_make (P := Tryz.prog) w 63 4 i3 _ Tryz.underlying63 hi3 hi3z .i64 .i64 n n (by omega) (by omega) (by rw [hi3b]; omega) (by omega)
  rw [this]
  simp only [Int.toNat_natCast, hi3s, Nat.mul_one, Value.cells, made_rep]
theorem enter_add (args : Array Value) (W : World) : (callFunc 119 args).run Tryz.prog W = .ok (.enter 119 args) W := by kernel_rfl
theorem seenF_nil (n : Nat) : boolCells (seenF [] n) = List.replicate n (Value.bool false) := by
  simp [seenF, colF, boolCells, List.map_const', Function.comp_def]

set_option maxRecDepth 100000 in
set_option maxHeartbeats 8000000 in
theorem reach_any (n bo : Nat) (hn8 : n ≤ 8) (aK aM : Option Addr) (qK cK qM cM : Nat) (es : List Nd) (he : EsIn n es) (hes : es.length ≤ 1000) (fr ev : List Int) (hfr : ∀ x ∈ fr, 0 ≤ x ∧ x < n) (aF aV : Option Addr) (qF cF qV cV : Nat) (w : World) (hO : OutAt w bo n es)
    (hqF : fr.length = qF) (hF : RowAt w (.slice aF qF cF) qF (intCells fr)) (hqF9 : qF ≤ 1000) (hqV : ev.length = qV) (hV : RowAt w (.slice aV qV cV) qV (intCells ev)) (hqV9 : qV ≤ 1000) :
    Calls Tryz.prog 94 #[.agg #[.slice (some ⟨bo, 0, none⟩) n n, .slice none 0 0, .slice aK qK cK, .slice aM qM cM], .slice aF qF cF, .slice aV qV cV] w fun e w' =>
      ∃ a c, e = .returned (.slice a (reachF es ev n fr).length c) ∧ RowAt w' (.slice a (reachF es ev n fr).length c) (reachF es ev n fr).length (intCells (sortL (reachF es ev n fr))) ∧ Same w w' := by
  have CT := fun (x : Int) W (hW : Same w W) => sContains_any ev x aV qV cV W hqV (hV.same hW) (by omega)
  have MK := make_bools n (by omega)
  have hfok := fun k (h : k ≤ fr.length) => fromL_ok hfr k h
  have hfs := fun k (h : k < fr.length) => fromL_succ (fr := fr) h
  have hfi := fun (k : Nat) (h : k < fr.length) => hfr _ (List.getElem_mem h)
  obtain ⟨R, hR⟩ : ∃ R, R = reachF es ev n fr := ⟨_, rfl⟩
  rw [← hR]
  have hR0 : reaF es ev n 0 (fromL fr fr.length) = R := hR.symm
  have hout := fun u : Nat => outE_in he (u : Int)
  have hol : ∀ u : Int, (outE es u).length ≤ 1000 := fun u => Nat.le_trans (List.length_filter_le _ _) hes
  clear hfr hR hV hes
  replace CT := Lib.hid CT; replace hfok := Lib.hid hfok; replace hfs := Lib.hid hfs; replace hfi := Lib.hid hfi; replace hR0 := Lib.hid hR0; replace hout := Lib.hid hout; replace hol := Lib.hid hol; replace hO := Lib.hid hO; replace hF := Lib.hid hF; replace he := Lib.hid he; replace hqF := Lib.hid hqF; replace hqV := Lib.hid hqV
  go_enter Tryz.func94, Tryz.ntmps94
  go_upto_region 1 with fail
  have ka := heap_new w (.cells #[.slice (some ⟨bo, 0, none⟩) n n, .slice none 0 0, .slice aK qK cK, .slice aM qM cM] 133)
  have hs : Same w (w.alloc (.cells #[.slice (some ⟨bo, 0, none⟩) n n, .slice none 0 0, .slice aK qK cK, .slice aM qM cM] 133)) := (by repeat (first | exact Fr.refl _ _ | apply Fr.alloc | apply Fr.drewN | apply Fr.drew | apply Fr.undrew | apply Fr.undrewN))
  generalize w.alloc (.cells #[.slice (some ⟨bo, 0, none⟩) n n, .slice none 0 0, .slice aK qK cK, .slice aM qM cM] 133) = W0 at *
  obtain ⟨ba, hba⟩ : ∃ ba, ba = w.heap.size := ⟨_, rfl⟩
  rw [← hba] at ka ⊢
  replace ka := Lib.hid ka; replace hs := Lib.hid hs; replace hba := Lib.hid hba
  have x0 := cell_at ka.out 0
  have xl := lt_of_heap ka.out
  go_upto_region 3 with fail
  clear x0 xl
  obtain ⟨W1, hW1⟩ : ∃ W, W = (((W0.alloc (.cells (Array.replicate n (Value.bool false)) 4)).alloc (.cells #[.slice (some ⟨W0.heap.size, 0, none⟩) n n] 63)).alloc (.cells #[.slice none 0 0] 22)) := ⟨_, rfl⟩
  rw [← hW1]
  have hz3 : W1.heap.size = W0.heap.size + 1 + 1 + 1 := by rw [hW1]; simp
  have kS : W1.heap[W0.heap.size]? = some (.cells (Array.replicate n (Value.bool false)) 4 (0, 0)) := by rw [hW1]; exact heap_old (heap_old (heap_new _ _) _) _
  have k7 : W1.heap[W0.heap.size + 1]? = some (.cells #[.slice (some ⟨W0.heap.size, 0, none⟩) n n] 63 (0, 0)) := by rw [hW1]; exact heap_old (heap_new_at (by simp) _) _
  have k8 : W1.heap[W0.heap.size + 1 + 1]? = some (.cells #[.slice none 0 0] 22 (0, 0)) := by rw [hW1]; exact heap_new_at (by simp) _
  have s1 : Same W0 W1 := by rw [hW1]; exact (by repeat (first | exact Fr.refl _ _ | apply Fr.alloc | apply Fr.drewN | apply Fr.drew | apply Fr.undrew | apply Fr.undrewN))
  obtain ⟨b8, hb8⟩ : ∃ b, b = W0.heap.size + 1 + 1 := ⟨_, rfl⟩
  obtain ⟨b7, hb7⟩ : ∃ b, b = W0.heap.size + 1 := ⟨_, rfl⟩
  obtain ⟨bs, hbs⟩ : ∃ b, b = W0.heap.size := ⟨_, rfl⟩
  rw [← hb8] at k8 ⊢
  rw [← hb7] at k7 ⊢
  rw [← hbs] at kS k7 ⊢
  clear hW1
  have hz0 := hs.out.size
  have hws : w.heap.size ≤ bs := by omega
  have hw7 : w.heap.size ≤ b7 := by omega
  have hw8 : w.heap.size ≤ b8 := by omega
  clear hb8 hb7 hbs
  have R0 : RS W1.heap.size bs b7 b8 n [] none 0 W1 := ⟨by unfold ArrAt; rw [kS, seenF_nil]; simp, k7, k8, World.ownsRow_nil _ _ _ _⟩
  have hw1 := hs.out.same s1
  have hSW : ∀ W, Fr (fun k => k = bs ∨ k = b8) W1 W → Same w W := fun W hf => hw1.trans hf (fun i hi e => by omega)
  have hka : ∀ W, Fr (fun k => k = bs ∨ k = b8) W1 W → W.heap[ba]? = some (.cells #[.slice (some ⟨bo, 0, none⟩) n n, .slice none 0 0, .slice aK qK cK, .slice aM qM cM] 133 (0, 0)) := fun W hf => hf.at (s1.at ka.out id) (fun e => by
    have := lt_of_heap ka.out
    have h1 := ka.out
    have h2 := R0.ks
    unfold ArrAt at h2
    have h3 := s1.at h1 id
    rcases e with e | e
    · rw [e] at h3; rw [h3] at h2; simp at h2
    · rw [e] at h3; rw [h3] at k8; simp at k8)
  have hnn := R0.ne
  have f0 : Fr (fun k => k = bs ∨ k = b8) W1 W1 := Fr.refl _ _
  have hzw := s1.size
  clear kS k7 k8 s1 hs ka
  replace R0 := Lib.hid R0; replace hSW := Lib.hid hSW; replace hka := Lib.hid hka; replace f0 := Lib.hid f0; replace hnn := Lib.hid hnn; replace hw1 := Lib.hid hw1; replace hba := Lib.hid hba
  go_wp2_with fail
  go_loopw [22] (fun i wr => ∃ (k : Nat) (a : Option Addr) (c : Nat), i = .int .i64 k ∧ k ≤ qF ∧ RS W1.heap.size bs b7 b8 n (fromL fr k) a c wr ∧ Fr (fun k => k = bs ∨ k = b8) W1 wr) (fun i _ => qF - (intOf i).toNat)
  case atStart => exact ⟨0, none, 0, rfl, by omega, by rw [fromL_0]; exact R0.out, f0.out⟩
  case round =>
    clear R0 f0
    obtain ⟨k, a, c, rfl, hk, hR1, hf⟩ := hrel
    have hsw := hSW.out _ hf
    have hok := hfok.out k (by rw [hqF.out]; exact hk)
    have hkl0 := hok.len
    by_cases hkF : k < qF
    · have hkl : k < fr.length := by rw [hqF.out]; exact hkF
      have hst := hfs.out k hkl
      have hxi := hfi.out k hkl
      obtain ⟨bb, off, rfl, hbl, z0⟩ := (hF.out.same hsw).int (k := k) hqF.out hkF
      generalize fr[k] = x at *
      obtain ⟨u, hu⟩ : ∃ u : Nat, u = x.toNat := ⟨_, rfl⟩
      obtain rfl : x = (u : Int) := by omega
      clear hu
      have AD := reachAdd_any (x := u) W1 wr (by omega) (by omega) (by omega) hR1 rfl hf
      rw [← hst] at AD
      replace hR1 := Lib.hid hR1; replace hf := Lib.hid hf; replace hsw := Lib.hid hsw; replace hok := Lib.hid hok; replace AD := Lib.hid AD; replace hst := Lib.hid hst; replace hxi := Lib.hid hxi
      go_wp2_with fail
      refine AD.out.mono ?_
      rintro e6 w6 ⟨rfl, a6, c6, hR6, hf6⟩
      replace hR6 := Lib.hid hR6; replace hf6 := Lib.hid hf6
      go_wp2_with fail
      go_roundw
      case rel => exact ⟨k + 1, a6, c6, by go_num, by omega, hR6.out.same (by repeat (first | exact Fr.refl _ _ | apply Fr.alloc | apply Fr.drewN | apply Fr.drew | apply Fr.undrew | apply Fr.undrewN)), hf6.out.same (by repeat (first | exact Fr.refl _ _ | apply Fr.alloc | apply Fr.drewN | apply Fr.drew | apply Fr.undrew | apply Fr.undrewN))⟩
      case measure => simp [intOf]; omega
    · obtain rfl : k = qF := by omega
      have hR1' : RS W1.heap.size bs b7 b8 n (fromL fr fr.length) a c wr := by rw [hqF.out]; exact hR1
      have hok' : FndOk n (fromL fr fr.length) := by rw [hqF.out]; exact hok
      replace hR1' := Lib.hid hR1'; replace hf := Lib.hid hf; replace hsw := Lib.hid hsw; replace hok' := Lib.hid hok'
      clear hR1 hok
      go_wp2_with fail
      go_loopw [12] (fun i wr => ∃ (j : Nat) (l : List Int) (a : Option Addr) (c : Nat), i = .int .i64 j ∧ j ≤ l.length ∧ RS W1.heap.size bs b7 b8 n l a c wr ∧ FndOk n l ∧ reaF es ev (n - j) j l = R ∧ Fr (fun k => k = bs ∨ k = b8) W1 wr) (fun i _ => n - (intOf i).toNat)
      case atStart => exact ⟨0, fromL fr fr.length, a, c, rfl, by omega, hR1'.out, hok'.out, hR0.out, hf.out⟩
      case round =>
        clear hR1' hf hsw hok'
        obtain ⟨j, l, a, c, rfl, hj, hR1, hok, hR2, hf⟩ := hrel
        have hsw := hSW.out _ hf
        have hlen := hok.len
        have c8 := cell_at hR1.k8 0
        have l8 := lt_of_heap hR1.k8
        by_cases hjl : j < l.length
        · obtain ⟨f, hfd⟩ : ∃ f, n - j = f + 1 := ⟨n - j - 1, by omega⟩
          rw [hfd, reaF_go hjl] at hR2
          obtain rfl : f = n - (j + 1) := by omega
          clear hfd
          have hin := hok.2 _ (List.getElem_mem hjl)
          obtain ⟨bl, ol, rfl, hbl, z0⟩ := ((SliceAt.of_owns hR1.own).row).int (k := j) rfl hjl
          generalize l[j] = s at *
          obtain ⟨u, hu⟩ : ∃ u : Nat, u = s.toNat := ⟨_, rfl⟩
          obtain rfl : s = (u : Int) := by omega
          clear hu
          have hun : u < n := by omega
          obtain ⟨ro, qo, co, zo0, hqo, hro⟩ := hO.out.2 u hun
          have zl : bo < wr.heap.size := Nat.lt_of_lt_of_le hO.out.1 hsw.size
          have zo : wr.cell? ⟨bo, u, none⟩ = some (.slice ro qo co) := by rw [← zo0]; exact World.cell?_of_block (a := ⟨bo, u, none⟩) (hsw.block bo hO.out.1 id)
          have kaW := hka.out _ hf
          have x0 := cell_at kaW 0
          have xl := lt_of_heap kaW
          have hquo := hol.out (u : Int)
          rw [← hqo] at hquo
          have hOe : ∀ W, Same w W → ∀ k (h : k < (outE es u).length), _ := fun W hW k h => (hro.same hW).node h
          clear hro zo0
          replace hR1 := Lib.hid hR1; replace hok := Lib.hid hok; replace hR2 := Lib.hid hR2; replace hf := Lib.hid hf; replace hsw := Lib.hid hsw; replace hin := Lib.hid hin; replace hqo := Lib.hid hqo; replace hOe := Lib.hid hOe; replace kaW := Lib.hid kaW
          go_upto_region 12 with fail
          refine wp_region_sched (fun k => k = ba ∨ k = b8 ∨ k = bl ∨ k = bo) [0, 1, 1, 0, 0, 1, 0, 1, 0, 0] [0, 3, 9, 1, 2, 4, 5, 6, 7, 8] (by kernel_rfl) (by kernel_rfl) ?_
          repeat (first | (refine sched_w rfl rfl (fun _ hK => ?_); go_simp; refine hK _ ?_; clear hK) | (refine sched_s rfl rfl (fun _ hK => ?_); go_simp; first | (refine hK _ ?_; clear hK) | (refine ⟨_, fun _ => rfl, hK _ ?_⟩; clear hK)))
          refine sched_nil (NoPanic.normal ?_)
          clear c8 l8 z0 hbl zo zl x0 xl
          go_wp2_with fail
          obtain ⟨wo, rfl⟩ : ∃ wo, wo = wr := ⟨_, rfl⟩
          have hqo2 := hqo.out
          obtain ⟨os, hosd⟩ : ∃ os, os = outE es (u : Int) := ⟨_, rfl⟩
          have hosn : EsIn n os := by rw [hosd]; exact hout.out u
          rw [← hosd] at hR2 hOe hqo2
          clear hqo hosd
          replace hqo2 := Lib.hid hqo2; replace hosn := Lib.hid hosn
          go_loopw [45] (fun i wr => ∃ (k : Nat) (l2 : List Int) (a : Option Addr) (c : Nat), i = .int .i64 k ∧ k ≤ qo ∧ l2 = expR ev os l k ∧ RS W1.heap.size bs b7 b8 n l2 a c wr ∧ Fr (fun k => k = bs ∨ k = b8) W1 wr) (fun i _ => qo - (intOf i).toNat)
          case atStart => exact ⟨0, l, _, c, rfl, by omega, (expR_0 _ _ _).symm, hR1.out.same (by repeat (first | exact Fr.refl _ _ | apply Fr.alloc | apply Fr.drewN | apply Fr.drew | apply Fr.undrew | apply Fr.undrewN)), hf.out.same (by repeat (first | exact Fr.refl _ _ | apply Fr.alloc | apply Fr.drewN | apply Fr.drew | apply Fr.undrew | apply Fr.undrewN))⟩
          case round =>
            clear hR1 hf
            obtain ⟨k, l2, a2, c2, rfl, hk, hl2, hR1, hf⟩ := hrel
            have hok2 : FndOk n l2 := by rw [hl2]; exact expR_ok hosn.out hok.out k (by rw [← hqo2.out]; exact hk)
            have hpre : l <+: l2 := by rw [hl2]; exact expR_pre k (by rw [← hqo2.out]; exact hk)
            have hlen2 := hok2.len
            have hsw2 := hSW.out _ hf
            by_cases hkq : k < qo
            · have hko : k < os.length := by rw [← hqo2.out]; exact hkq
              obtain ⟨bq, oq, rfl, hql, z0, z1, z2⟩ := hOe.out wr hsw2 k hko
              have hyes := expR_yes (ev := ev) (os := os) (l := l) (k := k) hko
              have hno := expR_no (ev := ev) (os := os) (l := l) (k := k) hko
              have htn := hosn.out _ (List.getElem_mem hko)
              rw [← hl2] at hyes hno
              generalize os[k] = x at *
              obtain ⟨f, e, t⟩ := x
              simp only at z0 z1 z2 hyes hno htn
              obtain ⟨v, hv⟩ : ∃ v : Nat, v = t.toNat := ⟨_, rfl⟩
              obtain rfl : t = (v : Int) := by omega
              clear hv
              have hvn : v < n := by omega
              have CT1 := CT.out e
              obtain ⟨B, hB⟩ : ∃ B, B = decide (e ∈ ev) := ⟨_, rfl⟩
              rw [← hB] at CT1
              replace hR1 := Lib.hid hR1; replace hf := Lib.hid hf; replace hok2 := Lib.hid hok2; replace hsw2 := Lib.hid hsw2; replace hl2 := Lib.hid hl2; replace hpre := Lib.hid hpre; replace hyes := Lib.hid hyes; replace hno := Lib.hid hno; replace htn := Lib.hid htn; replace CT1 := Lib.hid CT1; replace hB := Lib.hid hB
              go_upto_region 15 with fail
              have k14 := heap_new wr (.cells #[.int .i64 f, .int .i64 e, .int .i64 v] 39)
              have s14 : Same wr (wr.alloc (.cells #[.int .i64 f, .int .i64 e, .int .i64 v] 39)) := (by repeat (first | exact Fr.refl _ _ | apply Fr.alloc | apply Fr.drewN | apply Fr.drew | apply Fr.undrew | apply Fr.undrewN))
              generalize wr.alloc (.cells #[.int .i64 f, .int .i64 e, .int .i64 v] 39) = W4 at *
              obtain ⟨b14, hb14⟩ : ∃ b, b = wr.heap.size := ⟨_, rfl⟩
              rw [← hb14] at k14 ⊢
              replace hR1 := Lib.hid (hR1.out.same s14)
              replace hf := Lib.hid (hf.out.same s14)
              replace hsw2 := Lib.hid (hsw2.out.same s14)
              clear z0 z1 z2 hql s14
              have y1 := cell_at k14 1
              have yl := lt_of_heap k14
              replace k14 := Lib.hid k14; replace hb14 := Lib.hid hb14
              go_wp2_with fail
              refine (CT1.out _ hsw2.out).mono ?_
              rintro e6 w6 ⟨rfl, s6⟩
              replace hR1 := Lib.hid (hR1.out.same s6)
              replace hf := Lib.hid (hf.out.same s6)
              replace hsw2 := Lib.hid (hsw2.out.same s6)
              replace k14 := Lib.hid (s6.at k14.out id)
              clear s6 y1 yl
              cases B with
              | true =>
                have hst := hyes.out (of_decide_eq_true hB.out.symm)
                have AD := reachAdd_any (x := v) W1 w6 hvn (by omega) (by omega) hR1.out rfl hf.out
                rw [← hst] at AD
                have y2 := cell_at k14.out 2
                have yl := lt_of_heap k14.out
                replace AD := Lib.hid AD; replace hst := Lib.hid hst
                go_wp2_with fail
                refine AD.out.mono ?_
                rintro e7 w7 ⟨rfl, a7, c7, hR7, hf7⟩
                replace hR7 := Lib.hid hR7; replace hf7 := Lib.hid hf7
                go_wp2_with fail
                go_roundw
                case rel => exact ⟨k + 1, _, a7, c7, by go_num, by omega, rfl, hR7.out.same (by repeat (first | exact Fr.refl _ _ | apply Fr.alloc | apply Fr.drewN | apply Fr.drew | apply Fr.undrew | apply Fr.undrewN)), hf7.out.same (by repeat (first | exact Fr.refl _ _ | apply Fr.alloc | apply Fr.drewN | apply Fr.drew | apply Fr.undrew | apply Fr.undrewN))⟩
                case measure => simp [intOf]; omega
              | false =>
                have hst := hno.out (of_decide_eq_false hB.out.symm)
                replace hst := Lib.hid hst
                go_wp2_with fail
                go_roundw
                case rel => exact ⟨k + 1, l2, a2, c2, by go_num, by omega, hst.out.symm, hR1.out.same (by repeat (first | exact Fr.refl _ _ | apply Fr.alloc | apply Fr.drewN | apply Fr.drew | apply Fr.undrew | apply Fr.undrewN)), hf.out.same (by repeat (first | exact Fr.refl _ _ | apply Fr.alloc | apply Fr.drewN | apply Fr.drew | apply Fr.undrew | apply Fr.undrewN))⟩
                case measure => simp [intOf]; omega
            · obtain rfl : k = qo := by omega
              have hR3 := hR2.out
              rw [← hqo2.out, ← hl2] at hR3
              have hjl2 : j + 1 ≤ l2.length := Nat.le_trans hjl hpre.length_le
              replace hR1 := Lib.hid hR1; replace hf := Lib.hid hf; replace hok2 := Lib.hid hok2; replace hR3 := Lib.hid hR3; replace hsw2 := Lib.hid hsw2; replace hl2 := Lib.hid hl2; replace hpre := Lib.hid hpre
              go_wp2_with fail
              go_roundw
              case rel => exact ⟨j + 1, l2, a2, c2, by go_num, hjl2, hR1.out.same (by repeat (first | exact Fr.refl _ _ | apply Fr.alloc | apply Fr.drewN | apply Fr.drew | apply Fr.undrew | apply Fr.undrewN)), hok2.out, hR3.out, hf.out.same (by repeat (first | exact Fr.refl _ _ | apply Fr.alloc | apply Fr.drewN | apply Fr.drew | apply Fr.undrew | apply Fr.undrewN))⟩
              case measure => simp [intOf]; omega
        · obtain rfl : j = l.length := by omega
          rw [reaF_end (by omega)] at hR2
          subst hR2
          replace hR1 := Lib.hid hR1; replace hok := Lib.hid hok; replace hf := Lib.hid hf; replace hsw := Lib.hid hsw
          go_wp2_with fail
          have SO := sort_own W1.heap.size l a c wr hR1.out.own (by omega)
          refine SO.mono ?_
          rintro e9 w9 ⟨rfl, ho9, hG9⟩
          have hne : ∀ k, (Value.slice a l.length c).ownBlock = some k → k ≠ b8 := fun k hk e => by
            obtain ⟨cur, e1⟩ := own_block hR1.out.own hk
            rw [e, hR1.out.k8] at e1
            simp at e1
          have k89 := hG9.1.at hR1.out.k8 (fun e => by
            rcases e with e | e
            · exact hne b8 e rfl
            · exact e)
          have c8' := cell_at k89 0
          have l8' := lt_of_heap k89
          have hrow := (SliceAt.of_owns ho9).row
          have hsw9 : Same w w9 := hsw.out.trans hG9.1 (fun i hi e => by
            rcases e with e | e
            · have := (hR1.out.own.lt i e).1
              have := hw1.out.size
              omega
            · exact e)
          clear hne hG9 k89 ho9 c8 l8 SO
          replace hrow := Lib.hid hrow; replace hsw9 := Lib.hid hsw9
          go_wp2_with fail
          go_ret
          exact ⟨a, c, rfl, hrow.out.same (by repeat (first | exact Fr.refl _ _ | apply Fr.alloc | apply Fr.drewN | apply Fr.drew | apply Fr.undrew | apply Fr.undrewN)), hsw9.out.same (by repeat (first | exact Fr.refl _ _ | apply Fr.alloc | apply Fr.drewN | apply Fr.drew | apply Fr.undrew | apply Fr.undrewN))⟩
end Go.Proofs.YtcdkklddingfpaaGreat
namespace Go.Proofs.YtcdkklddingfpaaGreat
open Go.RowKit
set_option linter.unusedVariables false
set_option linter.unusedSimpArgs false

theorem renErr_rng {m : Int} {qs : List Int} (h : renErr m qs qs.length 0 = 0) : ∀ x ∈ qs, 0 ≤ x ∧ x < m := by
  intro x hx
  obtain ⟨j, hj, rfl⟩ := List.mem_iff_getElem.1 hx
  have := renErr_up qs.length 0 h j (by omega) (by omega)
  unfold toF at this
  simp [List.getD, hj] at this
  exact ⟨this.1, this.2.1⟩
theorem renErr_prw {m : Int} {qs : List Int} (h : renErr m qs qs.length 0 = 0) : qs.Pairwise (· < ·) := by
  have step : ∀ j, j + 1 < qs.length → toF qs j < toF qs (j + 1) := fun j hj => by
    have := (renErr_up qs.length 0 h (j + 1) (by omega) (by omega)).2.2 (by omega)
    simpa using this
  have all : ∀ d i, i + d + 1 < qs.length → toF qs i < toF qs (i + d + 1) := by
    intro d
    induction d with
    | zero => intro i hi; exact step i hi
    | succ d ih => intro i hi; exact Int.lt_trans (ih i (by omega)) (step (i + d + 1) hi)
  rw [List.pairwise_iff_getElem]
  intro i j hi hj hij
  have := all (j - i - 1) i (by omega)
  rw [show i + (j - i - 1) + 1 = j by omega] at this
  unfold toF at this
  simpa [List.getD, hi, hj] using this
theorem AuOk.esIn {A : Au} {n : Nat} (h : AuOk A) (hn : A.n = n) : EsIn n A.es := fun x hx => by
  have := h.edge hx
  rw [hn] at this
  omega
set_option maxRecDepth 100000 in
set_option maxHeartbeats 8000000 in
theorem preach_any (A : Au) (n : Nat) (hn : A.n = n) (hn8 : n ≤ 8) (w : World) (hA : A.at w) (hz : A.small) (hok : autErr A = 0) (fr ev : List Int) (aF aV : Option Addr) (qF cF qV cV : Nat)
    (hqF : fr.length = qF) (hF : RowAt w (.slice aF qF cF) qF (intCells fr)) (hqF9 : qF ≤ 1000) (hqV : ev.length = qV) (hV : RowAt w (.slice aV qV cV) qV (intCells ev)) (hqV9 : qV ≤ 1000)
    (hEF : renErr n fr fr.length 0 = 0) (hEV : renErr 32 ev ev.length 0 = 0) :
    Calls Tryz.prog 51 #[A.v, .slice aF qF cF, .slice aV qV cV] w fun e w' =>
      ∃ a c, e = .returned (.tuple #[.slice a (reachF A.es ev n fr).length c, .int .i64 0]) ∧ RowAt w' (.slice a (reachF A.es ev n fr).length c) (reachF A.es ev n fr).length (intCells (sortL (reachF A.es ev n fr))) ∧ Same w w' := by
  have hAk := AuOk.of hok
  have CK := fun W (hW : Same w W) => pCheck_any A W (hA.same hW) hz hok ev aV qV cV hqV (hV.same hW) hqV9 hEV
  have CS := fun W (hW : Same w W) => pSet_any n fr aF cF W (by omega) (by rw [hqF]; exact hF.same hW)
  rw [hEF, hqF] at CS
  have OB := fun W (hW : Same w W) => observe_any A n hn hn8 W (hA.same hW) hz (fun x hx => by have := hAk.edge hx; rw [hn] at this; omega)
  have RE := fun bo aK qK cK W (hW : Same w W) (hO : OutAt W bo n A.es) => reach_any n bo hn8 aK A.aM qK cK A.ma.length A.cM A.es (hAk.esIn hn) hz.es fr ev (fun x hx => renErr_rng hEF x hx) aF aV qF cF qV cV W hO hqF (hF.same hW) hqF9 hqV (hV.same hW) hqV9
  obtain ⟨R, hR⟩ : ∃ R, R = reachF A.es ev n fr := ⟨_, rfl⟩
  rw [← hR] at RE ⊢
  obtain ⟨al, m, mk, es, aA, cA, aM, cM, aE, cE⟩ := A
  simp only at hn
  subst hn
  unfold Au.v at CK OB ⊢
  simp only at CK OB RE ⊢
  generalize al.length = qA at *
  generalize mk.length = qM at *
  generalize es.length = qE at *
  clear hA hz hok hV hF hEF hEV hqF hqV hAk hR
  replace CK := Lib.hid CK; replace CS := Lib.hid CS; replace OB := Lib.hid OB; replace RE := Lib.hid RE
  go_enter Tryz.func51, Tryz.ntmps51
  go_upto_region 1 with fail
  have ka := heap_new w (.cells #[.slice aA qA cA, .int .i64 n, .slice aM qM cM, .slice aE qE cE] 25)
  have hs : Same w (w.alloc (.cells #[.slice aA qA cA, .int .i64 n, .slice aM qM cM, .slice aE qE cE] 25)) := (by repeat (first | exact Fr.refl _ _ | apply Fr.alloc | apply Fr.drewN | apply Fr.drew | apply Fr.undrew | apply Fr.undrewN))
  generalize w.alloc (.cells #[.slice aA qA cA, .int .i64 n, .slice aM qM cM, .slice aE qE cE] 25) = W0 at *
  obtain ⟨ba, hba⟩ : ∃ ba, ba = w.heap.size := ⟨_, rfl⟩
  rw [← hba] at ka ⊢
  replace ka := Lib.hid ka; replace hs := Lib.hid hs; replace hba := Lib.hid hba
  have x0 := cell_at ka.out 0
  have x1 := cell_at ka.out 1
  have x2 := cell_at ka.out 2
  have x3 := cell_at ka.out 3
  have xl := lt_of_heap ka.out
  go_wp2_with fail
  refine (CK.out _ hs.out).mono ?_
  rintro e w1 ⟨rfl, s1⟩
  replace hs := Lib.hid (hs.out.same s1); replace ka := Lib.hid (s1.at ka.out id)
  clear s1 x0 x1 x2 x3 xl
  have x1 := cell_at ka.out 1
  have xl := lt_of_heap ka.out
  go_wp2_with fail
  refine (CS.out _ hs.out).mono ?_
  rintro e w2 ⟨rfl, rfl⟩
  have x0 := cell_at ka.out 0
  have x2 := cell_at ka.out 2
  have x3 := cell_at ka.out 3
  go_wp2_with fail
  refine (OB.out _ hs.out).mono ?_
  rintro e w3 ⟨bo, aK, qK, cK, rfl, hO, s3⟩
  replace hs := Lib.hid (hs.out.same s3)
  clear s3 x0 x1 x2 x3 xl
  replace hO := Lib.hid hO
  go_wp2_with fail
  refine (RE.out _ _ _ _ _ hs.out hO.out).mono ?_
  rintro e w4 ⟨a, c, rfl, hr, s4⟩
  replace hs := Lib.hid (hs.out.same s4)
  clear s4
  replace hr := Lib.hid hr
  go_wp2_with fail
  go_ret2
  exact ⟨a, c, rfl, hr.out.same (by repeat (first | exact Fr.refl _ _ | apply Fr.alloc | apply Fr.drewN | apply Fr.drew | apply Fr.undrew | apply Fr.undrewN)), hs.out.same (by repeat (first | exact Fr.refl _ _ | apply Fr.alloc | apply Fr.drewN | apply Fr.drew | apply Fr.undrew | apply Fr.undrewN))⟩
end Go.Proofs.YtcdkklddingfpaaGreat
namespace Go.Proofs.YtcdkklddingfpaaGreat
open Go.RowKit
set_option linter.unusedVariables false
set_option linter.unusedSimpArgs false

theorem strictI_ext : ∀ (a b : List Int), a.Pairwise (· < ·) → b.Pairwise (· < ·) → (∀ x, x ∈ a ↔ x ∈ b) → a = b
  | [], [], _, _, _ => rfl
  | [], y :: b, _, _, h => by have := (h y).2 (by simp); simp at this
  | x :: a, [], _, _, h => by have := (h x).1 (by simp); simp at this
  | x :: a, y :: b, ha, hb, h => by
    rw [List.pairwise_cons] at ha hb
    have hxy : x = y := by
      have h1 := (h x).1 (by simp)
      have h2 := (h y).2 (by simp)
      rcases List.mem_cons.1 h1 with e | e
      · exact e
      · rcases List.mem_cons.1 h2 with e' | e'
        · exact e'.symm
        · have := hb.1 x e
          have := ha.1 y e'
          omega
    subst hxy
    rw [strictI_ext a b ha.2 hb.2 (fun z => ⟨fun hz => by
      rcases List.mem_cons.1 ((h z).1 (List.mem_cons_of_mem _ hz)) with e | e
      · subst e; have := ha.1 z hz; omega
      · exact e, fun hz => by
      rcases List.mem_cons.1 ((h z).2 (List.mem_cons_of_mem _ hz)) with e | e
      · subst e; have := hb.1 z hz; omega
      · exact e⟩)]
theorem sortL_strict {l : List Int} (h : l.Nodup) : (sortL l).Pairwise (· < ·) := by
  have hp : (sortL l).Perm l := List.mergeSort_perm _ _
  have hn : (sortL l).Nodup := hp.nodup_iff.2 h
  have hs : (sortL l).Pairwise fun x y => decide (x ≤ y) = true := List.pairwise_mergeSort (fun a b c h1 h2 => by simp at *; omega) (fun a b => by simp; omega) _
  refine (hs.and hn).imp ?_
  rintro x y ⟨h1, h2⟩
  have := of_decide_eq_true h1
  omega
theorem sortL_mem {l : List Int} {x : Int} : x ∈ sortL l ↔ x ∈ l := (List.mergeSort_perm l _).mem_iff
theorem uniF_mem {A B : List Nat} {n x : Nat} : x ∈ uniF A B n ↔ x < n ∧ (x ∈ A ∨ x ∈ B) := by simp [uniF, filF_mem]
theorem evP_mem {es : List Nd} {ev : List Int} {p : Nat × Nat} : p ∈ evP es ev ↔ ∃ x ∈ es, x.2.1 ∈ ev ∧ x.1.toNat = p.1 ∧ x.2.2.toNat = p.2 := by
  unfold evP
  simp only [List.mem_map, List.mem_filter, decide_eq_true_eq]
  constructor
  · rintro ⟨x, ⟨h1, h2⟩, rfl⟩; exact ⟨x, h1, h2, rfl, rfl⟩
  · rintro ⟨x, h1, h2, h3, h4⟩; exact ⟨x, ⟨h1, h2⟩, by rw [h3, h4]⟩
theorem stepF_mem {l : List (Nat × Nat)} {S : List Nat} {n y : Nat} : y ∈ stepF false l S n ↔ y < n ∧ ∃ p ∈ l, p.2 = y ∧ p.1 ∈ S := by
  unfold stepF
  rw [filF_mem, List.any_eq_true]
  constructor
  · rintro ⟨h1, p, hp, h2⟩
    obtain ⟨a, b⟩ := p
    rw [stM_f] at h2
    simp only [Bool.and_eq_true, decide_eq_true_eq] at h2
    exact ⟨h1, (a, b), hp, h2⟩
  · rintro ⟨h1, p, hp, h2, h3⟩
    obtain ⟨a, b⟩ := p
    exact ⟨h1, (a, b), hp, by rw [stM_f]; simp at h2 h3 ⊢; exact ⟨h2, h3⟩⟩
theorem reach_law {n : Nat} {es : List Nd} {ev : List Int} (he : ∀ x ∈ es, 0 ≤ x.1 ∧ x.1 < n ∧ 0 ≤ x.2.2 ∧ x.2.2 < n) {p : Nat → Bool} {k : Nat}
    (hfix : (haveF false (evP es ev) (filF p n) n (k + 1)).length = (haveF false (evP es ev) (filF p n) n k).length) :
    natI (haveF false (evP es ev) (filF p n) n k) = sortL (reachF es ev n (natI (filF p n))) := by
  obtain ⟨q, hq⟩ := have_fil (back := false) (l := evP es ev) (p := p) (n := n) k
  have hfx : uniF (haveF false (evP es ev) (filF p n) n k) (stepF false (evP es ev) (haveF false (evP es ev) (filF p n) n k) n) n = haveF false (evP es ev) (filF p n) n k := by
    have h2 : haveF false (evP es ev) (filF p n) n (k + 1) = uniF (haveF false (evP es ev) (filF p n) n k) (stepF false (evP es ev) (haveF false (evP es ev) (filF p n) n k) n) n := rfl
    rw [h2] at hfix
    rw [hq] at hfix ⊢
    exact (uni_len.2 hfix.symm).symm
  have hfr : ∀ x ∈ natI (filF p n), 0 ≤ x ∧ x < n := fun x hx => by
    obtain ⟨i, hi, rfl⟩ := List.mem_map.1 hx
    have := (filF_mem.1 hi).1
    omega
  obtain ⟨h1, h2, h3⟩ := reachF_ok (ev := ev) (fun x hx => by have := he x hx; omega) hfr
  have hsub : ∀ m x, x ∈ filF p n → x ∈ haveF false (evP es ev) (filF p n) n m := fun m => by
    induction m with
    | zero => exact fun x hx => hx
    | succ m ih =>
      intro x hx
      exact uniF_mem.2 ⟨(filF_mem.1 hx).1, .inl (ih x hx)⟩
  have hA : ∀ x ∈ reachF es ev n (natI (filF p n)), x ∈ natI (haveF false (evP es ev) (filF p n) n k) := by
    refine reachF_sub (P := fun x => x ∈ natI (haveF false (evP es ev) (filF p n) n k)) (fun x hx hs hm => ?_) (fun x hx => ?_)
    · obtain ⟨i, hi, e⟩ := List.mem_map.1 hs
      have hb := he x hx
      have e2 : x.2.2 = ((x.2.2.toNat : Nat) : Int) := by omega
      show x.2.2 ∈ natI _
      rw [e2, natI_mem, ← hfx]
      exact uniF_mem.2 ⟨by omega, .inr (stepF_mem.2 ⟨by omega, (x.1.toNat, x.2.2.toNat), evP_mem.2 ⟨x, hx, hm, rfl, rfl⟩, rfl, by rw [show x.1.toNat = i by omega]; exact hi⟩)⟩
    · obtain ⟨i, hi, rfl⟩ := List.mem_map.1 hx
      show ((i : Nat) : Int) ∈ natI _
      rw [natI_mem]
      exact hsub k i hi
  have hB : ∀ m (y : Nat), y ∈ haveF false (evP es ev) (filF p n) n m → (y : Int) ∈ reachF es ev n (natI (filF p n)) := fun m => by
    induction m with
    | zero => exact fun y hy => h2 _ (natI_mem.2 hy)
    | succ m ih =>
      intro y hy
      obtain ⟨hyn, hy | hy⟩ := uniF_mem.1 hy
      · exact ih y hy
      · obtain ⟨_, pr, hp, e1, e2⟩ := stepF_mem.1 hy
        obtain ⟨x, hx, hm, e3, e4⟩ := evP_mem.1 hp
        have hb := he x hx
        have hi := ih _ e2
        have := h3 x hx (by rw [show x.1 = ((pr.1 : Nat) : Int) by omega]; exact hi) hm
        rw [show ((y : Nat) : Int) = x.2.2 by omega]
        exact this
  refine strictI_ext _ _ ?_ (sortL_strict h1.1) (fun x => ?_)
  · rw [hq]
    unfold natI
    rw [List.pairwise_map]
    exact (filF_pair q n).imp (fun h => by omega)
  · rw [sortL_mem]
    constructor
    · intro hx
      obtain ⟨i, hi, rfl⟩ := List.mem_map.1 hx
      exact hB k i hi
    · exact hA x
/-- Canonical automata are right. -/
theorem MkAu.ok {al : List Int} {g : List Nat} {C : Au} (h : MkAu al g C) (hal : renErr 32 al al.length 0 = 0) : autErr C = 0 := by
  have hF := foundF_ok (al := al) (edgG_in al (mkN g) (gT g) (mkN g))
  refine AuOk.err ⟨by rw [h.hal]; exact hal, ?_, ?_, ?_, ?_⟩
  · rw [h.hn]; split <;> omega
  · have := mkF_len al g
    rw [h.hn]; split <;> omega
  · rw [h.hma, h.hn]
    by_cases c : 250 ≤ gS g
    · rw [if_pos c, if_pos c]; rfl
    · rw [if_neg c, if_neg c]
      exact fil_err _ _
  · rw [h.hes, h.hn, h.hal]
    by_cases c : 250 ≤ gS g
    · rw [if_pos c, if_pos c]; rfl
    · rw [if_neg c, if_neg c]
      exact edgC_ok (renErr_prw hal) hF.2
theorem MkAu.n5 {al : List Int} {g : List Nat} {C : Au} (h : MkAu al g C) : ∃ n : Nat, C.n = n ∧ n ≤ 5 := by
  by_cases c : 250 ≤ gS g
  · exact ⟨0, by rw [h.hn, if_pos c]; rfl, by omega⟩
  · exact ⟨(mkF al g).length, by rw [h.hn, if_neg c], mkF_len al g⟩
theorem MkAu.small {al : List Int} {g : List Nat} {C : Au} (h : MkAu al g C) (hal : al.length ≤ 5) : C.small ∧ C.es.length ≤ 25 := by
  have hF := mkF_len al g
  have hE : C.es.length ≤ 25 := by
    rw [h.hes]
    by_cases c : 250 ≤ gS g
    · rw [if_pos c]; simp
    · rw [if_neg c]
      refine Nat.le_trans (edgC_len _ _ _ _) ?_
      exact Nat.mul_le_mul hF hal
  refine ⟨⟨by rw [h.hal]; omega, ?_, by omega⟩, hE⟩
  rw [h.hma]
  by_cases c : 250 ≤ gS g
  · rw [if_pos c]; simp
  · rw [if_neg c, natI_len]
    exact Nat.le_trans (filF_len _ _) (by omega)
end Go.Proofs.YtcdkklddingfpaaGreat
namespace Go.Proofs.YtcdkklddingfpaaGreat
open Go.RowKit
set_option linter.unusedVariables false
set_option linter.unusedSimpArgs false

theorem reaO_open {E : Int} {b s : Nat} {r u : List Bool} {w w' : World} {e : Ending} (h : ClE E b s r u w e w') (h0 : E = 0) : ∃ (k : Nat) (a : Option Addr) (c : Nat) (L : List Nd) (q : Int), e = .returned (.tuple #[.agg #[.int .i64 b, .slice a L.length c, .int .i64 q], .int .i64 k, .int .i64 0]) ∧ Dg.at w' ⟨b, a, c, L, q⟩ ∧ IsTab b (clI b s r u k) L q ∧ clI b s r u (k + 1) = clI b s r u k ∧ (∀ j, j < k → clI b s r u j ≠ clI b s r u (j + 1)) ∧ Same w w' := (ClE.ok h h0).open
theorem have_lenR {back : Bool} {l : List (Nat × Nat)} {p : Nat → Bool} {n : Nat} (k : Nat) : (haveF back l (filF p n) n k).length ≤ n := by
  obtain ⟨q, hq⟩ := have_fil (back := back) (l := l) (p := p) (n := n) k
  rw [hq]; exact filF_len _ _
theorem infoS2 : (Tryz.prog.info? 89).map (·.size) = some 2 := by kernel_rfl
theorem infoGr : (Tryz.prog.info? 93).map (·.size) = some 27 := by kernel_rfl

set_option maxRecDepth 100000 in
set_option maxHeartbeats 16000000 in
theorem rreaches_any (ss : List Nat) (h2 : ss.length = 2) (hss : ∀ y ∈ ss, y < 256) (g : List Nat) (h27 : g.length = 27) (hg : ∀ y ∈ g, y < 256) (x : Int) (hx : 0 ≤ x ∧ x ≤ 65535) (w : World) :
    Calls Tryz.prog 13 #[.agg (bytC ss).toArray, .agg (bytC g).toArray, .int .u16 x] w fun e w' => e = .returned (.bool true) ∧ Same w w' := by
  clear hx hss
  match ss, h2 with
  | [s0, s1], _ =>
  clear h2
  have KN := fun W => known_any W
  have EV := fun (s : Int) W => events_any s W
  have MK := fun a c W (h : RowAt W (.slice a (evL s0).length c) (evL s0).length (intCells (evL s0))) => make_any (evL s0) a (evL s0).length c g W rfl h (evL_len _) h27 hg
  have hcs : (bytC g).toArray.size = 27 := by simp [bytC, h27]
  generalize (bytC g).toArray = cs at *
  have e2 : (bytC [s0, s1]).toArray = #[.int .u8 s0, .int .u8 s1] := rfl
  rw [e2]
  clear e2 h27 hg
  replace KN := Lib.hid KN; replace EV := Lib.hid EV; replace MK := Lib.hid MK
  go_enter Tryz.func13, Tryz.ntmps13
  go_upto_region 1 with fail
  have k3 := heap_old (heap_new w (.cells #[.int .u8 s0, .int .u8 s1] 89)) (.cells cs 93)
  have k4 := heap_new (w.alloc (.cells #[.int .u8 s0, .int .u8 s1] 89)) (.cells cs 93)
  have hw : Same w ((w.alloc (.cells #[.int .u8 s0, .int .u8 s1] 89)).alloc (.cells cs 93)) := (by repeat (first | exact Fr.refl _ _ | apply Fr.alloc | apply Fr.drewN | apply Fr.drew | apply Fr.undrew | apply Fr.undrewN))
  have hz1 : (w.alloc (.cells #[.int .u8 s0, .int .u8 s1] 89)).heap.size = w.heap.size + 1 := by simp
  rw [hz1] at k4
  generalize (w.alloc (.cells #[.int .u8 s0, .int .u8 s1] 89)).alloc (.cells cs 93) = W0 at *
  clear hz1
  obtain ⟨b3, hb3⟩ : ∃ b, b = w.heap.size := ⟨_, rfl⟩
  rw [← hb3] at k3 k4 ⊢
  replace k3 := Lib.hid k3; replace k4 := Lib.hid k4; replace hw := Lib.hid hw; replace hb3 := Lib.hid hb3
  go_wp2_with fail
  refine (KN.out _).mono ?_
  rintro e w1 ⟨rfl, s1'⟩
  replace hw := Lib.hid (hw.out.same s1'); replace k3 := Lib.hid (s1'.at k3.out id); replace k4 := Lib.hid (s1'.at k4.out id)
  clear s1' KN
  have x0 := cell_at k3.out 0
  have x1 := cell_at k3.out 1
  have xl := lt_of_heap k3.out
  have yl := lt_of_heap k4.out
  go_upto_region 3 with fail
  refine wp_region_plan (fun k => k = b3 ∨ k = b3 + 1) [0, 1, 2, 1, 2, 0, 1, 2, 2, 3, 0] (.fork [0, 5, 1, 3, 6] 2 (.fork [] 4 (.fork [] 7 (.run [8, 9, 10]) 8 (.run [7, 9, 10])) 8 (.run [4, 7, 9, 10])) 8 (.run [2, 4, 7, 9, 10])) (by kernel_rfl) (by kernel_rfl) ?_
  refine plan_fork ?_
  (first | (refine sched_w rfl rfl (fun _ hK => ?_); go_simp; refine hK _ ?_; clear hK) | (refine sched_s rfl rfl (fun _ hK => ?_); go_simp; first | (refine hK _ ?_; clear hK) | (refine ⟨_, fun _ => rfl, hK _ ?_⟩; clear hK)))
  (first | (refine sched_w rfl rfl (fun _ hK => ?_); go_simp; refine hK _ ?_; clear hK) | (refine sched_s rfl rfl (fun _ hK => ?_); go_simp; first | (refine hK _ ?_; clear hK) | (refine ⟨_, fun _ => rfl, hK _ ?_⟩; clear hK)))
  (first | (refine sched_w rfl rfl (fun _ hK => ?_); go_simp; refine hK _ ?_; clear hK) | (refine sched_s rfl rfl (fun _ hK => ?_); go_simp; first | (refine hK _ ?_; clear hK) | (refine ⟨_, fun _ => rfl, hK _ ?_⟩; clear hK)))
  refine sched_load rfl rfl rfl 93 (.tmp 4) rfl (b3 + 1) 0 rfl cs.toList _ yl (.inr rfl) (by have := range_row k4.out 0 27; rw [List.drop_zero, List.take_of_length_le (by simp [hcs])] at this; exact this) Tryz.underlying93 rfl (by rw [infoGr]; simp [hcs]) ?_
  (try simp only [Act.put, List.setIfInBounds_toArray, List.set_cons_zero, List.set_cons_succ])
  repeat (first | (refine sched_w rfl rfl (fun _ hK => ?_); go_simp; refine hK _ ?_; clear hK) | (refine sched_s rfl rfl (fun _ hK => ?_); go_simp; first | (refine hK _ ?_; clear hK) | (refine ⟨_, fun _ => rfl, hK _ ?_⟩; clear hK)))
  have hw0 : Same w w1.drew := hw.out.same (by repeat (first | exact Fr.refl _ _ | apply Fr.alloc | apply Fr.drewN | apply Fr.drew | apply Fr.undrew | apply Fr.undrewN))
  clear x0 x1 xl yl k3 k4 hw
  generalize w1.drew = c0 at *
  replace hw := Lib.hid hw0
  clear hw0
  refine sched_nil ⟨?_, ?_⟩
  · refine fork_g rfl rfl (fun _ hK => ?_)
    go_simp
    refine (EV.out s0 _).mono ?_
    rintro e c1 ⟨aE, cE, rfl, hoE, sE⟩
    have hAl := (SliceAt.of_owns hoE).row
    refine hK _ _ (Kp.of_same sE) ?_
    clear hK hoE
    (try simp only [Act.put, List.setIfInBounds_toArray, List.set_cons_zero, List.set_cons_succ])
    have sE := (show Same c0 _ from (by repeat (first | exact Fr.refl _ _ | apply Fr.undrew | apply Fr.undrewN | apply Fr.drew | apply Fr.drewN | apply Fr.alloc))).same sE
    replace hw := Lib.hid (hw.out.same sE)
    clear sE
    replace hAl := Lib.hid hAl
    refine plan_fork ?_
    refine sched_nil ⟨?_, ?_⟩
    · refine fork_g rfl rfl (fun _ hK => ?_)
      go_simp
      refine (MK.out aE cE _ (hAl.out.same (by repeat (first | exact Fr.refl _ _ | apply Fr.undrew | apply Fr.undrewN | apply Fr.drew | apply Fr.drewN | apply Fr.alloc)))).mono ?_
      rintro e c2 ⟨C, rfl, hC, hMk, sM⟩
      refine hK _ _ (Kp.of_same sM) ?_
      clear hK
      unfold Au.v
      (try simp only [Act.put, List.setIfInBounds_toArray, List.set_cons_zero, List.set_cons_succ])
      have sM := (show Same c1 _ from (by repeat (first | exact Fr.refl _ _ | apply Fr.undrew | apply Fr.undrewN | apply Fr.drew | apply Fr.drewN | apply Fr.alloc))).same sM
      replace hw := Lib.hid (hw.out.same sM)
      replace hAl := Lib.hid (hAl.out.same sM)
      clear sM
      replace hC := Lib.hid hC
      refine plan_fork ?_
      refine sched_nil ⟨?_, ?_⟩
      · refine fork_g rfl rfl (fun _ hK => ?_)
        go_simp
        refine (EV.out s1 _).mono ?_
        rintro e c3 ⟨aV, cV, rfl, hoV, sV⟩
        have hV := SliceAt.of_owns hoV
        refine hK _ _ (Kp.of_same sV) ?_
        clear hK hoV
        (try simp only [Act.put, List.setIfInBounds_toArray, List.set_cons_zero, List.set_cons_succ])
        have sV := (show Same c2 _ from (by repeat (first | exact Fr.refl _ _ | apply Fr.undrew | apply Fr.undrewN | apply Fr.drew | apply Fr.drewN | apply Fr.alloc))).same sV
        replace hw := Lib.hid (hw.out.same sV)
        replace hAl := Lib.hid (hAl.out.same sV)
        replace hC := Lib.hid (hC.out.same sV)
        clear sV
        replace hV := Lib.hid hV
        refine plan_run ?_
        refine sched_g rfl rfl (fun _ hK => ?_)
        go_simp
        refine hK _ _ (Kp.of_same (by repeat (first | exact Fr.refl _ _ | apply Fr.undrew | apply Fr.undrewN | apply Fr.drew | apply Fr.drewN | apply Fr.alloc))) ?_
        clear hK
        (try simp only [Act.put, List.setIfInBounds_toArray, List.set_cons_zero, List.set_cons_succ])
        have kz := heap_new c3 (.cells #[.slice none 0 0, .int .i64 0, .slice none 0 0, .slice none 0 0] 25)
        have sA : Same c3 (c3.alloc (.cells #[.slice none 0 0, .int .i64 0, .slice none 0 0, .slice none 0 0] 25)) := (by repeat (first | exact Fr.refl _ _ | apply Fr.alloc | apply Fr.drewN | apply Fr.drew | apply Fr.undrew | apply Fr.undrewN))
        generalize c3.alloc (.cells #[.slice none 0 0, .int .i64 0, .slice none 0 0, .slice none 0 0] 25) = c4 at *
        obtain ⟨b7, hb7⟩ : ∃ b, b = c3.heap.size := ⟨_, rfl⟩
        rw [← hb7] at kz ⊢
        have hb7w : w.heap.size ≤ b7 := by have := hw.out.size; omega
        clear hb7
        replace hw := Lib.hid (hw.out.same sA)
        replace hAl := Lib.hid (hAl.out.same sA)
        replace hC := Lib.hid (hC.out.same sA)
        replace hV := Lib.hid (hV.out.same sA)
        clear sA
        replace kz := Lib.hid kz
        obtain ⟨y0, y1, y2, y3, f0, f1, f2, f3, yl⟩ := box4_facts kz.out
        refine sched_l rfl (by decide) (fun _ hK => ?_); go_simp
        refine hK _ _ ?_; clear hK; try simp only [Act.put, List.setIfInBounds_toArray, List.set_cons_zero, List.set_cons_succ]
        repeat (first | (refine sched_w rfl rfl (fun _ hK => ?_); go_simp; refine hK _ ?_; clear hK) | (refine sched_s rfl rfl (fun _ hK => ?_); go_simp; first | (refine hK _ ?_; clear hK) | (refine ⟨_, fun _ => rfl, hK _ ?_⟩; clear hK)))
        refine sched_nil (NoPanic.normal ?_)
        clear y0 y1 y2 y3 f0 f1 f2 f3 yl hAl
        obtain ⟨k6, f6⟩ := box_au (u0 := .slice C.aA C.al.length C.cA) (u1 := .int .i64 C.n) (u2 := .slice C.aM C.ma.length C.cM) (u3 := .slice C.aE C.es.length C.cE) kz.out
        replace hC := Lib.hid (hC.out.bx kz.out f6)
        replace hV := Lib.hid (SliceAt.bx hV.out kz.out (by decide) f6)
        replace hw := Lib.hid (hw.out.trans f6 (fun i hi e => by have : i = b7 := e; omega))
        clear f6 kz
        generalize (((c4.setCell ⟨b7, 0, none⟩ (.slice C.aA C.al.length C.cA)).setCell ⟨b7, 1, none⟩ (.int .i64 C.n)).setCell ⟨b7, 2, none⟩ (.slice C.aM C.ma.length C.cM)).setCell ⟨b7, 3, none⟩ (.slice C.aE C.es.length C.cE) = W4 at *
        obtain ⟨n, hCn, hn5⟩ := hMk.n5
        obtain ⟨hz, hE25⟩ := hMk.small (evL_len _)
        have hok := hMk.ok (evL_err _)
        have hAk := AuOk.of hok
        have hkb : n ≤ 2 ^ bitsF n := (bitsF_is (n := n) (by omega)).1
        have hb4 : bitsF n ≤ 4 := (bitsF_is (n := n) (by omega)).bd (by omega)
        obtain ⟨b, hb⟩ : ∃ b, b = bitsF n := ⟨_, rfl⟩
        rw [← hb] at hkb hb4
        obtain ⟨m, hm⟩ : ∃ m, m = 2 * b := ⟨_, rfl⟩
        have hnt : C.n.toNat = n := by rw [hCn]; exact Int.toNat_natCast n
        have ME := fun W => members_any n x W (by omega)
        have hfe : fromErr C (evL s1) = 0 := by unfold fromErr; rw [if_neg (by simpa using hok)]; exact evL_err _
        have FR := fun W (hW : Same W4 W) => (From_any C W (hC.out.at.same hW) hz (by rw [hCn]; omega) (evL s1) aV _ cV rfl ((hV.out.same hW).row) (by have := evL_len (s1 : Int); omega)).mono fun e w' h => DgE.ok h hfe
        rw [hnt, ← hb, ← hm] at FR
        have hP := evP_lt hAk (evL s1)
        rw [hnt] at hP
        have SE := fun a cap W h => setP (k := n) (by omega) hb (memP x) a cap W h
        have FW := fun (dr df : Dg) (t u : List Bool) (W : World) (h1 : dr.at W) (h2 : df.at W) (h3 : dr.tab m t) (h4 : df.tab b u) => Forward_any (m := m) (b := b) (fun _ => by omega) dr df t u W h1 h2 h3 h4
        simp only [if_pos hm] at FW
        have hS := SetIs.tabS (p := memP x) hkb
        have H0 := fun j => hS.have (s := 0) (by omega) hkb hP j
        simp only [show decide (0 = 1) = false from rfl] at H0
        have ST := fun (S : List Nat) (t : List Bool) (h : SetIs b n t S) => stP (k := n) (by omega) hb hkb h
        have hfix : ∀ j, clI b 0 (relT b (evP C.es (evL s1))) (tabS b 0 (filF (memP x) n)) (j + 1) = clI b 0 (relT b (evP C.es (evL s1))) (tabS b 0 (filF (memP x) n)) j → natI (haveF false (evP C.es (evL s1)) (filF (memP x) n) n j) = sortL (reachF C.es (evL s1) n (natI (filF (memP x) n))) := fun j hj => reach_law (fun y hy => by have := hAk.edge hy; rw [hCn] at this; omega) (by have h1 := H0 (j + 1); rw [hj] at h1; rw [h1.uniq (H0 j)])
        have PR := fun aM cM W (hW : Same W4 W) hF => preach_any C n hCn (by omega) W (hC.out.at.same hW) hz hok (natI (filF (memP x) n)) (evL s1) aM aV (filF (memP x) n).length cM (evL s1).length cV (natI_len _) hF (Nat.le_trans (filF_len _ _) (by omega)) rfl ((hV.out.same hW).row) (by have := evL_len (s1 : Int); omega) (fil_err _ _) (evL_err _)
        have hMl := filF_len (memP x) n
        have hHl := fun j => have_lenR (back := false) (l := evP C.es (evL s1)) (p := memP x) (n := n) j
        generalize reachF C.es (evL s1) n (natI (filF (memP x) n)) = RR at *
        generalize evP C.es (evL s1) = P at *
        generalize filF (memP x) n = M at *
        generalize tabS b 0 M = tM at *
        generalize relT b P = tR at *
        generalize (evL s1).length = qV at *
        unfold Au.v at FR PR
        rw [hCn] at k6 ⊢
        simp only [hCn] at FR PR
        generalize C.al.length = qA at *
        generalize C.ma.length = qM at *
        generalize C.es.length = qE at *
        generalize C.aA = fA at *
        generalize C.cA = gA at *
        generalize C.aM = fM at *
        generalize C.cM = gM at *
        generalize C.aE = fE at *
        generalize C.cE = gE at *
        clear hAk hok hz hfe hnt hP hE25 hMk
        have h4 : Same W4 W4 := Fr.refl _ _
        have kA := k6
        clear k6
        replace FR := Lib.hid FR; replace ME := Lib.hid ME; replace SE := Lib.hid SE; replace FW := Lib.hid FW; replace hS := Lib.hid hS; replace H0 := Lib.hid H0; replace ST := Lib.hid ST; replace hfix := Lib.hid hfix; replace PR := Lib.hid PR; replace hHl := Lib.hid hHl; replace hb := Lib.hid hb; replace hm := Lib.hid hm; replace kA := Lib.hid kA; replace h4 := Lib.hid h4
        have x0 := cell_at kA.out 0
        have x1 := cell_at kA.out 1
        have x2 := cell_at kA.out 2
        have x3 := cell_at kA.out 3
        have xl := lt_of_heap kA.out
        go_wp2_with fail
        refine (ME.out _).mono ?_
        rintro e w5 ⟨aM, cM, rfl, hme, s5⟩
        have hMr := (SliceAt.of_owns hme).row
        replace s5 := (show Same W4 _ from (by repeat (first | exact Fr.refl _ _ | apply Fr.undrew | apply Fr.undrewN | apply Fr.drew | apply Fr.drewN | apply Fr.alloc))).same s5
        replace h4 := Lib.hid (h4.out.same s5)
        replace kA := Lib.hid (s5.at kA.out id)
        clear s5 hme x0 x1 x2 x3 xl
        replace hMr := Lib.hid hMr
        have x0 := cell_at kA.out 0
        have x1 := cell_at kA.out 1
        have x2 := cell_at kA.out 2
        have x3 := cell_at kA.out 3
        have xl := lt_of_heap kA.out
        go_upto_region 5 with fail
        go_wp2_with fail
        refine (FR.out _ h4.out).mono ?_
        intro e v6 hM
        obtain ⟨a6, c6, L6, r6, rfl, d6, z6, s6⟩ := hM.open
        clear hM
        clear x0 x1 x2 x3 xl
        go_upto_region 6 with fail
        have q6 : Bx (v6.alloc (.cells #[.int .i64 m, .slice a6 L6.length c6, .int .i64 r6] 29)) v6.heap.size m _ a6 c6 L6 r6 := ⟨heap_new _ _, SliceAt.same d6 (by repeat (first | exact Fr.refl _ _ | apply Fr.alloc | apply Fr.drewN | apply Fr.drew | apply Fr.undrew | apply Fr.undrewN)), z6⟩
        have s6 := s6.same (show Same v6 (v6.alloc (.cells #[.int .i64 m, .slice a6 L6.length c6, .int .i64 r6] 29)) from (by repeat (first | exact Fr.refl _ _ | apply Fr.alloc | apply Fr.drewN | apply Fr.drew | apply Fr.undrew | apply Fr.undrewN)))
        clear d6 z6
        generalize v6.alloc (.cells #[.int .i64 m, .slice a6 L6.length c6, .int .i64 r6] 29) = w6 at *
        generalize v6.heap.size = b6 at *
        replace h4 := Lib.hid (h4.out.same s6); replace hMr := Lib.hid (hMr.out.same s6)
        replace q6 := Lib.hid q6; replace s6 := Lib.hid s6
        replace s6 := s6.out
        replace kA := Lib.hid (s6.at kA.out id)
        clear s6
        have x1 := cell_at kA.out 1
        have xl := lt_of_heap kA.out
        have C7 := SE.out _ _ _ hMr.out
        replace C7 := Lib.hid C7
        go_wp2_with fail
        refine (C7.out).mono ?_
        intro e v17 hM
        obtain ⟨a17, c17, L17, r17, rfl, d17, z17, s17⟩ := hM.open
        clear hM
        clear x1 xl
        go_upto_region 7 with fail
        have q17 : Bx (v17.alloc (.cells #[.int .i64 b, .slice a17 L17.length c17, .int .i64 r17] 29)) v17.heap.size b _ a17 c17 L17 r17 := ⟨heap_new _ _, SliceAt.same d17 (by repeat (first | exact Fr.refl _ _ | apply Fr.alloc | apply Fr.drewN | apply Fr.drew | apply Fr.undrew | apply Fr.undrewN)), z17⟩
        have s17 := s17.same (show Same v17 (v17.alloc (.cells #[.int .i64 b, .slice a17 L17.length c17, .int .i64 r17] 29)) from (by repeat (first | exact Fr.refl _ _ | apply Fr.alloc | apply Fr.drewN | apply Fr.drew | apply Fr.undrew | apply Fr.undrewN)))
        clear d17 z17
        generalize v17.alloc (.cells #[.int .i64 b, .slice a17 L17.length c17, .int .i64 r17] 29) = w17 at *
        generalize v17.heap.size = b17 at *
        replace h4 := Lib.hid (h4.out.same s17); replace hMr := Lib.hid (hMr.out.same s17); replace q6 := Lib.hid (q6.out.same s17)
        replace q17 := Lib.hid q17; replace s17 := Lib.hid s17
        replace s17 := s17.out
        replace kA := Lib.hid (s17.at kA.out id)
        clear s17 C7
        have x0 := cell_at q6.out.heap 0
        have x1 := cell_at q6.out.heap 1
        have x2 := cell_at q6.out.heap 2
        have xl := lt_of_heap q6.out.heap
        have y0 := cell_at q17.out.heap 0
        have y1 := cell_at q17.out.heap 1
        have y2 := cell_at q17.out.heap 2
        have yl := lt_of_heap q17.out.heap
        have F1 := FW.out ⟨m, a6, c6, L6, r6⟩ ⟨b, a17, c17, L17, r17⟩ _ _ w17 q6.out.at' q17.out.at' ⟨rfl, q6.out.tab⟩ ⟨rfl, q17.out.tab⟩
        replace F1 := Lib.hid F1
        go_wp2_with fail
        refine F1.out.mono ?_
        intro e v12 hM
        obtain ⟨j, a12, c12, L12, r12, rfl, d12, z12, hj1, hj2, s12⟩ := reaO_open hM rfl
        clear x0 x1 x2 xl
        clear y0 y1 y2 yl
        clear hM F1 hj2
        go_upto_region 8 with fail
        have q12 : Bx (v12.alloc (.cells #[.int .i64 b, .slice a12 L12.length c12, .int .i64 r12] 29)) v12.heap.size b _ a12 c12 L12 r12 := ⟨heap_new _ _, SliceAt.same d12 (by repeat (first | exact Fr.refl _ _ | apply Fr.alloc | apply Fr.drewN | apply Fr.drew | apply Fr.undrew | apply Fr.undrewN)), z12⟩
        have s12 := s12.same (show Same v12 (v12.alloc (.cells #[.int .i64 b, .slice a12 L12.length c12, .int .i64 r12] 29)) from (by repeat (first | exact Fr.refl _ _ | apply Fr.alloc | apply Fr.drewN | apply Fr.drew | apply Fr.undrew | apply Fr.undrewN)))
        clear d12 z12
        generalize v12.alloc (.cells #[.int .i64 b, .slice a12 L12.length c12, .int .i64 r12] 29) = w12 at *
        generalize v12.heap.size = b12 at *
        replace h4 := Lib.hid (h4.out.same s12); replace hMr := Lib.hid (hMr.out.same s12)
        replace q12 := Lib.hid q12; replace s12 := Lib.hid s12
        replace s12 := s12.out
        replace kA := Lib.hid (s12.at kA.out id)
        clear s12
        have hfx := hfix.out j hj1
        have S8 := ST.out _ _ (H0.out j) ⟨b, a12, c12, L12, r12⟩ w12 q12.out.at' ⟨rfl, q12.out.tab⟩
        have hHl1 := hHl.out j
        generalize haveF false P M n j = HH at *
        replace S8 := Lib.hid S8; replace hfx := Lib.hid hfx; replace hj1 := Lib.hid hj1
        have x1 := cell_at kA.out 1
        have xl := lt_of_heap kA.out
        have y0 := cell_at q12.out.heap 0
        have y1 := cell_at q12.out.heap 1
        have y2 := cell_at q12.out.heap 2
        have yl := lt_of_heap q12.out.heap
        go_wp2_with fail
        refine S8.out.mono ?_
        rintro e w8 ⟨a8, c8, rfl, hr8, s8⟩
        replace kA := Lib.hid (s8.at kA.out id)
        replace h4 := Lib.hid (h4.out.same s8)
        replace hMr := Lib.hid (hMr.out.same s8)
        clear s8 S8 x1 xl
        clear y0 y1 y2 yl
        replace hr8 := Lib.hid hr8
        have x0 := cell_at kA.out 0
        have x1 := cell_at kA.out 1
        have x2 := cell_at kA.out 2
        have x3 := cell_at kA.out 3
        have xl := lt_of_heap kA.out
        go_wp2_with fail
        refine (PR.out _ _ _ h4.out hMr.out).mono ?_
        rintro e w9 ⟨a9, c9, rfl, hr9, s9⟩
        replace h4 := Lib.hid (h4.out.same s9)
        replace hr8 := Lib.hid (hr8.out.same s9)
        clear s9 x0 x1 x2 x3 xl
        rw [← hfx.out] at hr9
        have hRl : (natI HH).length = RR.length := by rw [hfx.out]; exact sortL_length RR
        have SI := sameInts_any (natI HH) (natI HH) a8 a9 HH.length RR.length c8 c9 w9 (natI_len _) hRl hr8.out hr9 (by omega)
        simp only [decide_true] at SI
        replace SI := Lib.hid SI; replace hr9 := Lib.hid hr9; replace hRl := Lib.hid hRl
        go_wp2_with fail
        refine SI.out.mono ?_
        rintro e w10 ⟨rfl, s10⟩
        replace h4 := Lib.hid (h4.out.same s10)
        go_wp2_with fail
        go_ret
        exact ⟨rfl, (hw.out.same h4.out).same (by repeat (first | exact Fr.refl _ _ | apply Fr.alloc | apply Fr.drewN | apply Fr.drew | apply Fr.undrew | apply Fr.undrewN))⟩
      · refine fork_g rfl rfl (fun _ hK => ?_)
        go_simp
        refine hK _ _ (Kp.of_same (by repeat (first | exact Fr.refl _ _ | apply Fr.undrew | apply Fr.undrewN | apply Fr.drew | apply Fr.drewN | apply Fr.alloc))) ?_
        clear hK
        (try simp only [Act.put, List.setIfInBounds_toArray, List.set_cons_zero, List.set_cons_succ])
        have kz := heap_new c2 (.cells #[.slice none 0 0, .int .i64 0, .slice none 0 0, .slice none 0 0] 25)
        have sA : Same c2 (c2.alloc (.cells #[.slice none 0 0, .int .i64 0, .slice none 0 0, .slice none 0 0] 25)) := (by repeat (first | exact Fr.refl _ _ | apply Fr.alloc | apply Fr.drewN | apply Fr.drew | apply Fr.undrew | apply Fr.undrewN))
        generalize c2.alloc (.cells #[.slice none 0 0, .int .i64 0, .slice none 0 0, .slice none 0 0] 25) = c3 at *
        obtain ⟨b7, hb7⟩ : ∃ b, b = c2.heap.size := ⟨_, rfl⟩
        rw [← hb7] at kz ⊢
        have hb7w : w.heap.size ≤ b7 := by have := hw.out.size; omega
        clear hb7
        replace hw := Lib.hid (hw.out.same sA)
        replace hAl := Lib.hid (hAl.out.same sA)
        replace hC := Lib.hid (hC.out.same sA)
        clear sA
        replace kz := Lib.hid kz
        refine plan_run ?_
        refine sched_g rfl rfl (fun _ hK => ?_)
        go_simp
        refine (EV.out s1 _).mono ?_
        rintro e c4 ⟨aV, cV, rfl, hoV, sV⟩
        have hV := SliceAt.of_owns hoV
        refine hK _ _ (Kp.of_same sV) ?_
        clear hK hoV
        (try simp only [Act.put, List.setIfInBounds_toArray, List.set_cons_zero, List.set_cons_succ])
        have sV := (show Same c3 _ from (by repeat (first | exact Fr.refl _ _ | apply Fr.undrew | apply Fr.undrewN | apply Fr.drew | apply Fr.drewN | apply Fr.alloc))).same sV
        replace hw := Lib.hid (hw.out.same sV)
        replace hAl := Lib.hid (hAl.out.same sV)
        replace hC := Lib.hid (hC.out.same sV)
        replace kz := Lib.hid (sV.at kz.out id)
        clear sV
        replace hV := Lib.hid hV
        obtain ⟨y0, y1, y2, y3, f0, f1, f2, f3, yl⟩ := box4_facts kz.out
        refine sched_l rfl (by decide) (fun _ hK => ?_); go_simp
        refine hK _ _ ?_; clear hK; try simp only [Act.put, List.setIfInBounds_toArray, List.set_cons_zero, List.set_cons_succ]
        repeat (first | (refine sched_w rfl rfl (fun _ hK => ?_); go_simp; refine hK _ ?_; clear hK) | (refine sched_s rfl rfl (fun _ hK => ?_); go_simp; first | (refine hK _ ?_; clear hK) | (refine ⟨_, fun _ => rfl, hK _ ?_⟩; clear hK)))
        refine sched_nil (NoPanic.normal ?_)
        clear y0 y1 y2 y3 f0 f1 f2 f3 yl hAl
        obtain ⟨k6, f6⟩ := box_au (u0 := .slice C.aA C.al.length C.cA) (u1 := .int .i64 C.n) (u2 := .slice C.aM C.ma.length C.cM) (u3 := .slice C.aE C.es.length C.cE) kz.out
        replace hC := Lib.hid (hC.out.bx kz.out f6)
        replace hV := Lib.hid (SliceAt.bx hV.out kz.out (by decide) f6)
        replace hw := Lib.hid (hw.out.trans f6 (fun i hi e => by have : i = b7 := e; omega))
        clear f6 kz
        generalize (((c4.setCell ⟨b7, 0, none⟩ (.slice C.aA C.al.length C.cA)).setCell ⟨b7, 1, none⟩ (.int .i64 C.n)).setCell ⟨b7, 2, none⟩ (.slice C.aM C.ma.length C.cM)).setCell ⟨b7, 3, none⟩ (.slice C.aE C.es.length C.cE) = W4 at *
        obtain ⟨n, hCn, hn5⟩ := hMk.n5
        obtain ⟨hz, hE25⟩ := hMk.small (evL_len _)
        have hok := hMk.ok (evL_err _)
        have hAk := AuOk.of hok
        have hkb : n ≤ 2 ^ bitsF n := (bitsF_is (n := n) (by omega)).1
        have hb4 : bitsF n ≤ 4 := (bitsF_is (n := n) (by omega)).bd (by omega)
        obtain ⟨b, hb⟩ : ∃ b, b = bitsF n := ⟨_, rfl⟩
        rw [← hb] at hkb hb4
        obtain ⟨m, hm⟩ : ∃ m, m = 2 * b := ⟨_, rfl⟩
        have hnt : C.n.toNat = n := by rw [hCn]; exact Int.toNat_natCast n
        have ME := fun W => members_any n x W (by omega)
        have hfe : fromErr C (evL s1) = 0 := by unfold fromErr; rw [if_neg (by simpa using hok)]; exact evL_err _
        have FR := fun W (hW : Same W4 W) => (From_any C W (hC.out.at.same hW) hz (by rw [hCn]; omega) (evL s1) aV _ cV rfl ((hV.out.same hW).row) (by have := evL_len (s1 : Int); omega)).mono fun e w' h => DgE.ok h hfe
        rw [hnt, ← hb, ← hm] at FR
        have hP := evP_lt hAk (evL s1)
        rw [hnt] at hP
        have SE := fun a cap W h => setP (k := n) (by omega) hb (memP x) a cap W h
        have FW := fun (dr df : Dg) (t u : List Bool) (W : World) (h1 : dr.at W) (h2 : df.at W) (h3 : dr.tab m t) (h4 : df.tab b u) => Forward_any (m := m) (b := b) (fun _ => by omega) dr df t u W h1 h2 h3 h4
        simp only [if_pos hm] at FW
        have hS := SetIs.tabS (p := memP x) hkb
        have H0 := fun j => hS.have (s := 0) (by omega) hkb hP j
        simp only [show decide (0 = 1) = false from rfl] at H0
        have ST := fun (S : List Nat) (t : List Bool) (h : SetIs b n t S) => stP (k := n) (by omega) hb hkb h
        have hfix : ∀ j, clI b 0 (relT b (evP C.es (evL s1))) (tabS b 0 (filF (memP x) n)) (j + 1) = clI b 0 (relT b (evP C.es (evL s1))) (tabS b 0 (filF (memP x) n)) j → natI (haveF false (evP C.es (evL s1)) (filF (memP x) n) n j) = sortL (reachF C.es (evL s1) n (natI (filF (memP x) n))) := fun j hj => reach_law (fun y hy => by have := hAk.edge hy; rw [hCn] at this; omega) (by have h1 := H0 (j + 1); rw [hj] at h1; rw [h1.uniq (H0 j)])
        have PR := fun aM cM W (hW : Same W4 W) hF => preach_any C n hCn (by omega) W (hC.out.at.same hW) hz hok (natI (filF (memP x) n)) (evL s1) aM aV (filF (memP x) n).length cM (evL s1).length cV (natI_len _) hF (Nat.le_trans (filF_len _ _) (by omega)) rfl ((hV.out.same hW).row) (by have := evL_len (s1 : Int); omega) (fil_err _ _) (evL_err _)
        have hMl := filF_len (memP x) n
        have hHl := fun j => have_lenR (back := false) (l := evP C.es (evL s1)) (p := memP x) (n := n) j
        generalize reachF C.es (evL s1) n (natI (filF (memP x) n)) = RR at *
        generalize evP C.es (evL s1) = P at *
        generalize filF (memP x) n = M at *
        generalize tabS b 0 M = tM at *
        generalize relT b P = tR at *
        generalize (evL s1).length = qV at *
        unfold Au.v at FR PR
        rw [hCn] at k6 ⊢
        simp only [hCn] at FR PR
        generalize C.al.length = qA at *
        generalize C.ma.length = qM at *
        generalize C.es.length = qE at *
        generalize C.aA = fA at *
        generalize C.cA = gA at *
        generalize C.aM = fM at *
        generalize C.cM = gM at *
        generalize C.aE = fE at *
        generalize C.cE = gE at *
        clear hAk hok hz hfe hnt hP hE25 hMk
        have h4 : Same W4 W4 := Fr.refl _ _
        have kA := k6
        clear k6
        replace FR := Lib.hid FR; replace ME := Lib.hid ME; replace SE := Lib.hid SE; replace FW := Lib.hid FW; replace hS := Lib.hid hS; replace H0 := Lib.hid H0; replace ST := Lib.hid ST; replace hfix := Lib.hid hfix; replace PR := Lib.hid PR; replace hHl := Lib.hid hHl; replace hb := Lib.hid hb; replace hm := Lib.hid hm; replace kA := Lib.hid kA; replace h4 := Lib.hid h4
        have x0 := cell_at kA.out 0
        have x1 := cell_at kA.out 1
        have x2 := cell_at kA.out 2
        have x3 := cell_at kA.out 3
        have xl := lt_of_heap kA.out
        go_wp2_with fail
        refine (ME.out _).mono ?_
        rintro e w5 ⟨aM, cM, rfl, hme, s5⟩
        have hMr := (SliceAt.of_owns hme).row
        replace s5 := (show Same W4 _ from (by repeat (first | exact Fr.refl _ _ | apply Fr.undrew | apply Fr.undrewN | apply Fr.drew | apply Fr.drewN | apply Fr.alloc))).same s5
        replace h4 := Lib.hid (h4.out.same s5)
        replace kA := Lib.hid (s5.at kA.out id)
        clear s5 hme x0 x1 x2 x3 xl
        replace hMr := Lib.hid hMr
        have x0 := cell_at kA.out 0
        have x1 := cell_at kA.out 1
        have x2 := cell_at kA.out 2
        have x3 := cell_at kA.out 3
        have xl := lt_of_heap kA.out
        go_upto_region 5 with fail
        go_wp2_with fail
        refine (FR.out _ h4.out).mono ?_
        intro e v6 hM
        obtain ⟨a6, c6, L6, r6, rfl, d6, z6, s6⟩ := hM.open
        clear hM
        clear x0 x1 x2 x3 xl
        go_upto_region 6 with fail
        have q6 : Bx (v6.alloc (.cells #[.int .i64 m, .slice a6 L6.length c6, .int .i64 r6] 29)) v6.heap.size m _ a6 c6 L6 r6 := ⟨heap_new _ _, SliceAt.same d6 (by repeat (first | exact Fr.refl _ _ | apply Fr.alloc | apply Fr.drewN | apply Fr.drew | apply Fr.undrew | apply Fr.undrewN)), z6⟩
        have s6 := s6.same (show Same v6 (v6.alloc (.cells #[.int .i64 m, .slice a6 L6.length c6, .int .i64 r6] 29)) from (by repeat (first | exact Fr.refl _ _ | apply Fr.alloc | apply Fr.drewN | apply Fr.drew | apply Fr.undrew | apply Fr.undrewN)))
        clear d6 z6
        generalize v6.alloc (.cells #[.int .i64 m, .slice a6 L6.length c6, .int .i64 r6] 29) = w6 at *
        generalize v6.heap.size = b6 at *
        replace h4 := Lib.hid (h4.out.same s6); replace hMr := Lib.hid (hMr.out.same s6)
        replace q6 := Lib.hid q6; replace s6 := Lib.hid s6
        replace s6 := s6.out
        replace kA := Lib.hid (s6.at kA.out id)
        clear s6
        have x1 := cell_at kA.out 1
        have xl := lt_of_heap kA.out
        have C7 := SE.out _ _ _ hMr.out
        replace C7 := Lib.hid C7
        go_wp2_with fail
        refine (C7.out).mono ?_
        intro e v17 hM
        obtain ⟨a17, c17, L17, r17, rfl, d17, z17, s17⟩ := hM.open
        clear hM
        clear x1 xl
        go_upto_region 7 with fail
        have q17 : Bx (v17.alloc (.cells #[.int .i64 b, .slice a17 L17.length c17, .int .i64 r17] 29)) v17.heap.size b _ a17 c17 L17 r17 := ⟨heap_new _ _, SliceAt.same d17 (by repeat (first | exact Fr.refl _ _ | apply Fr.alloc | apply Fr.drewN | apply Fr.drew | apply Fr.undrew | apply Fr.undrewN)), z17⟩
        have s17 := s17.same (show Same v17 (v17.alloc (.cells #[.int .i64 b, .slice a17 L17.length c17, .int .i64 r17] 29)) from (by repeat (first | exact Fr.refl _ _ | apply Fr.alloc | apply Fr.drewN | apply Fr.drew | apply Fr.undrew | apply Fr.undrewN)))
        clear d17 z17
        generalize v17.alloc (.cells #[.int .i64 b, .slice a17 L17.length c17, .int .i64 r17] 29) = w17 at *
        generalize v17.heap.size = b17 at *
        replace h4 := Lib.hid (h4.out.same s17); replace hMr := Lib.hid (hMr.out.same s17); replace q6 := Lib.hid (q6.out.same s17)
        replace q17 := Lib.hid q17; replace s17 := Lib.hid s17
        replace s17 := s17.out
        replace kA := Lib.hid (s17.at kA.out id)
        clear s17 C7
        have x0 := cell_at q6.out.heap 0
        have x1 := cell_at q6.out.heap 1
        have x2 := cell_at q6.out.heap 2
        have xl := lt_of_heap q6.out.heap
        have y0 := cell_at q17.out.heap 0
        have y1 := cell_at q17.out.heap 1
        have y2 := cell_at q17.out.heap 2
        have yl := lt_of_heap q17.out.heap
        have F1 := FW.out ⟨m, a6, c6, L6, r6⟩ ⟨b, a17, c17, L17, r17⟩ _ _ w17 q6.out.at' q17.out.at' ⟨rfl, q6.out.tab⟩ ⟨rfl, q17.out.tab⟩
        replace F1 := Lib.hid F1
        go_wp2_with fail
        refine F1.out.mono ?_
        intro e v12 hM
        obtain ⟨j, a12, c12, L12, r12, rfl, d12, z12, hj1, hj2, s12⟩ := reaO_open hM rfl
        clear x0 x1 x2 xl
        clear y0 y1 y2 yl
        clear hM F1 hj2
        go_upto_region 8 with fail
        have q12 : Bx (v12.alloc (.cells #[.int .i64 b, .slice a12 L12.length c12, .int .i64 r12] 29)) v12.heap.size b _ a12 c12 L12 r12 := ⟨heap_new _ _, SliceAt.same d12 (by repeat (first | exact Fr.refl _ _ | apply Fr.alloc | apply Fr.drewN | apply Fr.drew | apply Fr.undrew | apply Fr.undrewN)), z12⟩
        have s12 := s12.same (show Same v12 (v12.alloc (.cells #[.int .i64 b, .slice a12 L12.length c12, .int .i64 r12] 29)) from (by repeat (first | exact Fr.refl _ _ | apply Fr.alloc | apply Fr.drewN | apply Fr.drew | apply Fr.undrew | apply Fr.undrewN)))
        clear d12 z12
        generalize v12.alloc (.cells #[.int .i64 b, .slice a12 L12.length c12, .int .i64 r12] 29) = w12 at *
        generalize v12.heap.size = b12 at *
        replace h4 := Lib.hid (h4.out.same s12); replace hMr := Lib.hid (hMr.out.same s12)
        replace q12 := Lib.hid q12; replace s12 := Lib.hid s12
        replace s12 := s12.out
        replace kA := Lib.hid (s12.at kA.out id)
        clear s12
        have hfx := hfix.out j hj1
        have S8 := ST.out _ _ (H0.out j) ⟨b, a12, c12, L12, r12⟩ w12 q12.out.at' ⟨rfl, q12.out.tab⟩
        have hHl1 := hHl.out j
        generalize haveF false P M n j = HH at *
        replace S8 := Lib.hid S8; replace hfx := Lib.hid hfx; replace hj1 := Lib.hid hj1
        have x1 := cell_at kA.out 1
        have xl := lt_of_heap kA.out
        have y0 := cell_at q12.out.heap 0
        have y1 := cell_at q12.out.heap 1
        have y2 := cell_at q12.out.heap 2
        have yl := lt_of_heap q12.out.heap
        go_wp2_with fail
        refine S8.out.mono ?_
        rintro e w8 ⟨a8, c8, rfl, hr8, s8⟩
        replace kA := Lib.hid (s8.at kA.out id)
        replace h4 := Lib.hid (h4.out.same s8)
        replace hMr := Lib.hid (hMr.out.same s8)
        clear s8 S8 x1 xl
        clear y0 y1 y2 yl
        replace hr8 := Lib.hid hr8
        have x0 := cell_at kA.out 0
        have x1 := cell_at kA.out 1
        have x2 := cell_at kA.out 2
        have x3 := cell_at kA.out 3
        have xl := lt_of_heap kA.out
        go_wp2_with fail
        refine (PR.out _ _ _ h4.out hMr.out).mono ?_
        rintro e w9 ⟨a9, c9, rfl, hr9, s9⟩
        replace h4 := Lib.hid (h4.out.same s9)
        replace hr8 := Lib.hid (hr8.out.same s9)
        clear s9 x0 x1 x2 x3 xl
        rw [← hfx.out] at hr9
        have hRl : (natI HH).length = RR.length := by rw [hfx.out]; exact sortL_length RR
        have SI := sameInts_any (natI HH) (natI HH) a8 a9 HH.length RR.length c8 c9 w9 (natI_len _) hRl hr8.out hr9 (by omega)
        simp only [decide_true] at SI
        replace SI := Lib.hid SI; replace hr9 := Lib.hid hr9; replace hRl := Lib.hid hRl
        go_wp2_with fail
        refine SI.out.mono ?_
        rintro e w10 ⟨rfl, s10⟩
        replace h4 := Lib.hid (h4.out.same s10)
        go_wp2_with fail
        go_ret
        exact ⟨rfl, (hw.out.same h4.out).same (by repeat (first | exact Fr.refl _ _ | apply Fr.alloc | apply Fr.drewN | apply Fr.drew | apply Fr.undrew | apply Fr.undrewN))⟩
    · refine fork_g rfl rfl (fun _ hK => ?_)
      go_simp
      refine hK _ _ (Kp.of_same (by repeat (first | exact Fr.refl _ _ | apply Fr.undrew | apply Fr.undrewN | apply Fr.drew | apply Fr.drewN | apply Fr.alloc))) ?_
      clear hK
      (try simp only [Act.put, List.setIfInBounds_toArray, List.set_cons_zero, List.set_cons_succ])
      have kz := heap_new c1 (.cells #[.slice none 0 0, .int .i64 0, .slice none 0 0, .slice none 0 0] 25)
      have sA : Same c1 (c1.alloc (.cells #[.slice none 0 0, .int .i64 0, .slice none 0 0, .slice none 0 0] 25)) := (by repeat (first | exact Fr.refl _ _ | apply Fr.alloc | apply Fr.drewN | apply Fr.drew | apply Fr.undrew | apply Fr.undrewN))
      generalize c1.alloc (.cells #[.slice none 0 0, .int .i64 0, .slice none 0 0, .slice none 0 0] 25) = c2 at *
      obtain ⟨b7, hb7⟩ : ∃ b, b = c1.heap.size := ⟨_, rfl⟩
      rw [← hb7] at kz ⊢
      have hb7w : w.heap.size ≤ b7 := by have := hw.out.size; omega
      clear hb7
      replace hw := Lib.hid (hw.out.same sA)
      replace hAl := Lib.hid (hAl.out.same sA)
      clear sA
      replace kz := Lib.hid kz
      refine plan_run ?_
      refine sched_g rfl rfl (fun _ hK => ?_)
      go_simp
      refine (MK.out aE cE _ (hAl.out.same (by repeat (first | exact Fr.refl _ _ | apply Fr.undrew | apply Fr.undrewN | apply Fr.drew | apply Fr.drewN | apply Fr.alloc)))).mono ?_
      rintro e c3 ⟨C, rfl, hC, hMk, sM⟩
      refine hK _ _ (Kp.of_same sM) ?_
      clear hK
      unfold Au.v
      (try simp only [Act.put, List.setIfInBounds_toArray, List.set_cons_zero, List.set_cons_succ])
      have sM := (show Same c2 _ from (by repeat (first | exact Fr.refl _ _ | apply Fr.undrew | apply Fr.undrewN | apply Fr.drew | apply Fr.drewN | apply Fr.alloc))).same sM
      replace hw := Lib.hid (hw.out.same sM)
      replace hAl := Lib.hid (hAl.out.same sM)
      replace kz := Lib.hid (sM.at kz.out id)
      clear sM
      replace hC := Lib.hid hC
      refine sched_g rfl rfl (fun _ hK => ?_)
      go_simp
      refine (EV.out s1 _).mono ?_
      rintro e c4 ⟨aV, cV, rfl, hoV, sV⟩
      have hV := SliceAt.of_owns hoV
      refine hK _ _ (Kp.of_same sV) ?_
      clear hK hoV
      (try simp only [Act.put, List.setIfInBounds_toArray, List.set_cons_zero, List.set_cons_succ])
      have sV := (show Same c3 _ from (by repeat (first | exact Fr.refl _ _ | apply Fr.undrew | apply Fr.undrewN | apply Fr.drew | apply Fr.drewN | apply Fr.alloc))).same sV
      replace hw := Lib.hid (hw.out.same sV)
      replace hAl := Lib.hid (hAl.out.same sV)
      replace kz := Lib.hid (sV.at kz.out id)
      replace hC := Lib.hid (hC.out.same sV)
      clear sV
      replace hV := Lib.hid hV
      obtain ⟨y0, y1, y2, y3, f0, f1, f2, f3, yl⟩ := box4_facts kz.out
      refine sched_l rfl (by decide) (fun _ hK => ?_); go_simp
      refine hK _ _ ?_; clear hK; try simp only [Act.put, List.setIfInBounds_toArray, List.set_cons_zero, List.set_cons_succ]
      repeat (first | (refine sched_w rfl rfl (fun _ hK => ?_); go_simp; refine hK _ ?_; clear hK) | (refine sched_s rfl rfl (fun _ hK => ?_); go_simp; first | (refine hK _ ?_; clear hK) | (refine ⟨_, fun _ => rfl, hK _ ?_⟩; clear hK)))
      refine sched_nil (NoPanic.normal ?_)
      clear y0 y1 y2 y3 f0 f1 f2 f3 yl hAl
      obtain ⟨k6, f6⟩ := box_au (u0 := .slice C.aA C.al.length C.cA) (u1 := .int .i64 C.n) (u2 := .slice C.aM C.ma.length C.cM) (u3 := .slice C.aE C.es.length C.cE) kz.out
      replace hC := Lib.hid (hC.out.bx kz.out f6)
      replace hV := Lib.hid (SliceAt.bx hV.out kz.out (by decide) f6)
      replace hw := Lib.hid (hw.out.trans f6 (fun i hi e => by have : i = b7 := e; omega))
      clear f6 kz
      generalize (((c4.setCell ⟨b7, 0, none⟩ (.slice C.aA C.al.length C.cA)).setCell ⟨b7, 1, none⟩ (.int .i64 C.n)).setCell ⟨b7, 2, none⟩ (.slice C.aM C.ma.length C.cM)).setCell ⟨b7, 3, none⟩ (.slice C.aE C.es.length C.cE) = W4 at *
      obtain ⟨n, hCn, hn5⟩ := hMk.n5
      obtain ⟨hz, hE25⟩ := hMk.small (evL_len _)
      have hok := hMk.ok (evL_err _)
      have hAk := AuOk.of hok
      have hkb : n ≤ 2 ^ bitsF n := (bitsF_is (n := n) (by omega)).1
      have hb4 : bitsF n ≤ 4 := (bitsF_is (n := n) (by omega)).bd (by omega)
      obtain ⟨b, hb⟩ : ∃ b, b = bitsF n := ⟨_, rfl⟩
      rw [← hb] at hkb hb4
      obtain ⟨m, hm⟩ : ∃ m, m = 2 * b := ⟨_, rfl⟩
      have hnt : C.n.toNat = n := by rw [hCn]; exact Int.toNat_natCast n
      have ME := fun W => members_any n x W (by omega)
      have hfe : fromErr C (evL s1) = 0 := by unfold fromErr; rw [if_neg (by simpa using hok)]; exact evL_err _
      have FR := fun W (hW : Same W4 W) => (From_any C W (hC.out.at.same hW) hz (by rw [hCn]; omega) (evL s1) aV _ cV rfl ((hV.out.same hW).row) (by have := evL_len (s1 : Int); omega)).mono fun e w' h => DgE.ok h hfe
      rw [hnt, ← hb, ← hm] at FR
      have hP := evP_lt hAk (evL s1)
      rw [hnt] at hP
      have SE := fun a cap W h => setP (k := n) (by omega) hb (memP x) a cap W h
      have FW := fun (dr df : Dg) (t u : List Bool) (W : World) (h1 : dr.at W) (h2 : df.at W) (h3 : dr.tab m t) (h4 : df.tab b u) => Forward_any (m := m) (b := b) (fun _ => by omega) dr df t u W h1 h2 h3 h4
      simp only [if_pos hm] at FW
      have hS := SetIs.tabS (p := memP x) hkb
      have H0 := fun j => hS.have (s := 0) (by omega) hkb hP j
      simp only [show decide (0 = 1) = false from rfl] at H0
      have ST := fun (S : List Nat) (t : List Bool) (h : SetIs b n t S) => stP (k := n) (by omega) hb hkb h
      have hfix : ∀ j, clI b 0 (relT b (evP C.es (evL s1))) (tabS b 0 (filF (memP x) n)) (j + 1) = clI b 0 (relT b (evP C.es (evL s1))) (tabS b 0 (filF (memP x) n)) j → natI (haveF false (evP C.es (evL s1)) (filF (memP x) n) n j) = sortL (reachF C.es (evL s1) n (natI (filF (memP x) n))) := fun j hj => reach_law (fun y hy => by have := hAk.edge hy; rw [hCn] at this; omega) (by have h1 := H0 (j + 1); rw [hj] at h1; rw [h1.uniq (H0 j)])
      have PR := fun aM cM W (hW : Same W4 W) hF => preach_any C n hCn (by omega) W (hC.out.at.same hW) hz hok (natI (filF (memP x) n)) (evL s1) aM aV (filF (memP x) n).length cM (evL s1).length cV (natI_len _) hF (Nat.le_trans (filF_len _ _) (by omega)) rfl ((hV.out.same hW).row) (by have := evL_len (s1 : Int); omega) (fil_err _ _) (evL_err _)
      have hMl := filF_len (memP x) n
      have hHl := fun j => have_lenR (back := false) (l := evP C.es (evL s1)) (p := memP x) (n := n) j
      generalize reachF C.es (evL s1) n (natI (filF (memP x) n)) = RR at *
      generalize evP C.es (evL s1) = P at *
      generalize filF (memP x) n = M at *
      generalize tabS b 0 M = tM at *
      generalize relT b P = tR at *
      generalize (evL s1).length = qV at *
      unfold Au.v at FR PR
      rw [hCn] at k6 ⊢
      simp only [hCn] at FR PR
      generalize C.al.length = qA at *
      generalize C.ma.length = qM at *
      generalize C.es.length = qE at *
      generalize C.aA = fA at *
      generalize C.cA = gA at *
      generalize C.aM = fM at *
      generalize C.cM = gM at *
      generalize C.aE = fE at *
      generalize C.cE = gE at *
      clear hAk hok hz hfe hnt hP hE25 hMk
      have h4 : Same W4 W4 := Fr.refl _ _
      have kA := k6
      clear k6
      replace FR := Lib.hid FR; replace ME := Lib.hid ME; replace SE := Lib.hid SE; replace FW := Lib.hid FW; replace hS := Lib.hid hS; replace H0 := Lib.hid H0; replace ST := Lib.hid ST; replace hfix := Lib.hid hfix; replace PR := Lib.hid PR; replace hHl := Lib.hid hHl; replace hb := Lib.hid hb; replace hm := Lib.hid hm; replace kA := Lib.hid kA; replace h4 := Lib.hid h4
      have x0 := cell_at kA.out 0
      have x1 := cell_at kA.out 1
      have x2 := cell_at kA.out 2
      have x3 := cell_at kA.out 3
      have xl := lt_of_heap kA.out
      go_wp2_with fail
      refine (ME.out _).mono ?_
      rintro e w5 ⟨aM, cM, rfl, hme, s5⟩
      have hMr := (SliceAt.of_owns hme).row
      replace s5 := (show Same W4 _ from (by repeat (first | exact Fr.refl _ _ | apply Fr.undrew | apply Fr.undrewN | apply Fr.drew | apply Fr.drewN | apply Fr.alloc))).same s5
      replace h4 := Lib.hid (h4.out.same s5)
      replace kA := Lib.hid (s5.at kA.out id)
      clear s5 hme x0 x1 x2 x3 xl
      replace hMr := Lib.hid hMr
      have x0 := cell_at kA.out 0
      have x1 := cell_at kA.out 1
      have x2 := cell_at kA.out 2
      have x3 := cell_at kA.out 3
      have xl := lt_of_heap kA.out
      go_upto_region 5 with fail
      go_wp2_with fail
      refine (FR.out _ h4.out).mono ?_
      intro e v6 hM
      obtain ⟨a6, c6, L6, r6, rfl, d6, z6, s6⟩ := hM.open
      clear hM
      clear x0 x1 x2 x3 xl
      go_upto_region 6 with fail
      have q6 : Bx (v6.alloc (.cells #[.int .i64 m, .slice a6 L6.length c6, .int .i64 r6] 29)) v6.heap.size m _ a6 c6 L6 r6 := ⟨heap_new _ _, SliceAt.same d6 (by repeat (first | exact Fr.refl _ _ | apply Fr.alloc | apply Fr.drewN | apply Fr.drew | apply Fr.undrew | apply Fr.undrewN)), z6⟩
      have s6 := s6.same (show Same v6 (v6.alloc (.cells #[.int .i64 m, .slice a6 L6.length c6, .int .i64 r6] 29)) from (by repeat (first | exact Fr.refl _ _ | apply Fr.alloc | apply Fr.drewN | apply Fr.drew | apply Fr.undrew | apply Fr.undrewN)))
      clear d6 z6
      generalize v6.alloc (.cells #[.int .i64 m, .slice a6 L6.length c6, .int .i64 r6] 29) = w6 at *
      generalize v6.heap.size = b6 at *
      replace h4 := Lib.hid (h4.out.same s6); replace hMr := Lib.hid (hMr.out.same s6)
      replace q6 := Lib.hid q6; replace s6 := Lib.hid s6
      replace s6 := s6.out
      replace kA := Lib.hid (s6.at kA.out id)
      clear s6
      have x1 := cell_at kA.out 1
      have xl := lt_of_heap kA.out
      have C7 := SE.out _ _ _ hMr.out
      replace C7 := Lib.hid C7
      go_wp2_with fail
      refine (C7.out).mono ?_
      intro e v17 hM
      obtain ⟨a17, c17, L17, r17, rfl, d17, z17, s17⟩ := hM.open
      clear hM
      clear x1 xl
      go_upto_region 7 with fail
      have q17 : Bx (v17.alloc (.cells #[.int .i64 b, .slice a17 L17.length c17, .int .i64 r17] 29)) v17.heap.size b _ a17 c17 L17 r17 := ⟨heap_new _ _, SliceAt.same d17 (by repeat (first | exact Fr.refl _ _ | apply Fr.alloc | apply Fr.drewN | apply Fr.drew | apply Fr.undrew | apply Fr.undrewN)), z17⟩
      have s17 := s17.same (show Same v17 (v17.alloc (.cells #[.int .i64 b, .slice a17 L17.length c17, .int .i64 r17] 29)) from (by repeat (first | exact Fr.refl _ _ | apply Fr.alloc | apply Fr.drewN | apply Fr.drew | apply Fr.undrew | apply Fr.undrewN)))
      clear d17 z17
      generalize v17.alloc (.cells #[.int .i64 b, .slice a17 L17.length c17, .int .i64 r17] 29) = w17 at *
      generalize v17.heap.size = b17 at *
      replace h4 := Lib.hid (h4.out.same s17); replace hMr := Lib.hid (hMr.out.same s17); replace q6 := Lib.hid (q6.out.same s17)
      replace q17 := Lib.hid q17; replace s17 := Lib.hid s17
      replace s17 := s17.out
      replace kA := Lib.hid (s17.at kA.out id)
      clear s17 C7
      have x0 := cell_at q6.out.heap 0
      have x1 := cell_at q6.out.heap 1
      have x2 := cell_at q6.out.heap 2
      have xl := lt_of_heap q6.out.heap
      have y0 := cell_at q17.out.heap 0
      have y1 := cell_at q17.out.heap 1
      have y2 := cell_at q17.out.heap 2
      have yl := lt_of_heap q17.out.heap
      have F1 := FW.out ⟨m, a6, c6, L6, r6⟩ ⟨b, a17, c17, L17, r17⟩ _ _ w17 q6.out.at' q17.out.at' ⟨rfl, q6.out.tab⟩ ⟨rfl, q17.out.tab⟩
      replace F1 := Lib.hid F1
      go_wp2_with fail
      refine F1.out.mono ?_
      intro e v12 hM
      obtain ⟨j, a12, c12, L12, r12, rfl, d12, z12, hj1, hj2, s12⟩ := reaO_open hM rfl
      clear x0 x1 x2 xl
      clear y0 y1 y2 yl
      clear hM F1 hj2
      go_upto_region 8 with fail
      have q12 : Bx (v12.alloc (.cells #[.int .i64 b, .slice a12 L12.length c12, .int .i64 r12] 29)) v12.heap.size b _ a12 c12 L12 r12 := ⟨heap_new _ _, SliceAt.same d12 (by repeat (first | exact Fr.refl _ _ | apply Fr.alloc | apply Fr.drewN | apply Fr.drew | apply Fr.undrew | apply Fr.undrewN)), z12⟩
      have s12 := s12.same (show Same v12 (v12.alloc (.cells #[.int .i64 b, .slice a12 L12.length c12, .int .i64 r12] 29)) from (by repeat (first | exact Fr.refl _ _ | apply Fr.alloc | apply Fr.drewN | apply Fr.drew | apply Fr.undrew | apply Fr.undrewN)))
      clear d12 z12
      generalize v12.alloc (.cells #[.int .i64 b, .slice a12 L12.length c12, .int .i64 r12] 29) = w12 at *
      generalize v12.heap.size = b12 at *
      replace h4 := Lib.hid (h4.out.same s12); replace hMr := Lib.hid (hMr.out.same s12)
      replace q12 := Lib.hid q12; replace s12 := Lib.hid s12
      replace s12 := s12.out
      replace kA := Lib.hid (s12.at kA.out id)
      clear s12
      have hfx := hfix.out j hj1
      have S8 := ST.out _ _ (H0.out j) ⟨b, a12, c12, L12, r12⟩ w12 q12.out.at' ⟨rfl, q12.out.tab⟩
      have hHl1 := hHl.out j
      generalize haveF false P M n j = HH at *
      replace S8 := Lib.hid S8; replace hfx := Lib.hid hfx; replace hj1 := Lib.hid hj1
      have x1 := cell_at kA.out 1
      have xl := lt_of_heap kA.out
      have y0 := cell_at q12.out.heap 0
      have y1 := cell_at q12.out.heap 1
      have y2 := cell_at q12.out.heap 2
      have yl := lt_of_heap q12.out.heap
      go_wp2_with fail
      refine S8.out.mono ?_
      rintro e w8 ⟨a8, c8, rfl, hr8, s8⟩
      replace kA := Lib.hid (s8.at kA.out id)
      replace h4 := Lib.hid (h4.out.same s8)
      replace hMr := Lib.hid (hMr.out.same s8)
      clear s8 S8 x1 xl
      clear y0 y1 y2 yl
      replace hr8 := Lib.hid hr8
      have x0 := cell_at kA.out 0
      have x1 := cell_at kA.out 1
      have x2 := cell_at kA.out 2
      have x3 := cell_at kA.out 3
      have xl := lt_of_heap kA.out
      go_wp2_with fail
      refine (PR.out _ _ _ h4.out hMr.out).mono ?_
      rintro e w9 ⟨a9, c9, rfl, hr9, s9⟩
      replace h4 := Lib.hid (h4.out.same s9)
      replace hr8 := Lib.hid (hr8.out.same s9)
      clear s9 x0 x1 x2 x3 xl
      rw [← hfx.out] at hr9
      have hRl : (natI HH).length = RR.length := by rw [hfx.out]; exact sortL_length RR
      have SI := sameInts_any (natI HH) (natI HH) a8 a9 HH.length RR.length c8 c9 w9 (natI_len _) hRl hr8.out hr9 (by omega)
      simp only [decide_true] at SI
      replace SI := Lib.hid SI; replace hr9 := Lib.hid hr9; replace hRl := Lib.hid hRl
      go_wp2_with fail
      refine SI.out.mono ?_
      rintro e w10 ⟨rfl, s10⟩
      replace h4 := Lib.hid (h4.out.same s10)
      go_wp2_with fail
      go_ret
      exact ⟨rfl, (hw.out.same h4.out).same (by repeat (first | exact Fr.refl _ _ | apply Fr.alloc | apply Fr.drewN | apply Fr.drew | apply Fr.undrew | apply Fr.undrewN))⟩
  · refine fork_g rfl rfl (fun _ hK => ?_)
    go_simp
    refine hK _ _ (Kp.of_same (by repeat (first | exact Fr.refl _ _ | apply Fr.undrew | apply Fr.undrewN | apply Fr.drew | apply Fr.drewN | apply Fr.alloc))) ?_
    clear hK
    (try simp only [Act.put, List.setIfInBounds_toArray, List.set_cons_zero, List.set_cons_succ])
    have kz := heap_new c0 (.cells #[.slice none 0 0, .int .i64 0, .slice none 0 0, .slice none 0 0] 25)
    have sA : Same c0 (c0.alloc (.cells #[.slice none 0 0, .int .i64 0, .slice none 0 0, .slice none 0 0] 25)) := (by repeat (first | exact Fr.refl _ _ | apply Fr.alloc | apply Fr.drewN | apply Fr.drew | apply Fr.undrew | apply Fr.undrewN))
    generalize c0.alloc (.cells #[.slice none 0 0, .int .i64 0, .slice none 0 0, .slice none 0 0] 25) = c1 at *
    obtain ⟨b7, hb7⟩ : ∃ b, b = c0.heap.size := ⟨_, rfl⟩
    rw [← hb7] at kz ⊢
    have hb7w : w.heap.size ≤ b7 := by have := hw.out.size; omega
    clear hb7
    replace hw := Lib.hid (hw.out.same sA)
    clear sA
    replace kz := Lib.hid kz
    refine plan_run ?_
    refine sched_g rfl rfl (fun _ hK => ?_)
    go_simp
    refine (EV.out s0 _).mono ?_
    rintro e c2 ⟨aE, cE, rfl, hoE, sE⟩
    have hAl := (SliceAt.of_owns hoE).row
    refine hK _ _ (Kp.of_same sE) ?_
    clear hK hoE
    (try simp only [Act.put, List.setIfInBounds_toArray, List.set_cons_zero, List.set_cons_succ])
    have sE := (show Same c1 _ from (by repeat (first | exact Fr.refl _ _ | apply Fr.undrew | apply Fr.undrewN | apply Fr.drew | apply Fr.drewN | apply Fr.alloc))).same sE
    replace hw := Lib.hid (hw.out.same sE)
    replace kz := Lib.hid (sE.at kz.out id)
    clear sE
    replace hAl := Lib.hid hAl
    refine sched_g rfl rfl (fun _ hK => ?_)
    go_simp
    refine (MK.out aE cE _ (hAl.out.same (by repeat (first | exact Fr.refl _ _ | apply Fr.undrew | apply Fr.undrewN | apply Fr.drew | apply Fr.drewN | apply Fr.alloc)))).mono ?_
    rintro e c3 ⟨C, rfl, hC, hMk, sM⟩
    refine hK _ _ (Kp.of_same sM) ?_
    clear hK
    unfold Au.v
    (try simp only [Act.put, List.setIfInBounds_toArray, List.set_cons_zero, List.set_cons_succ])
    have sM := (show Same c2 _ from (by repeat (first | exact Fr.refl _ _ | apply Fr.undrew | apply Fr.undrewN | apply Fr.drew | apply Fr.drewN | apply Fr.alloc))).same sM
    replace hw := Lib.hid (hw.out.same sM)
    replace kz := Lib.hid (sM.at kz.out id)
    replace hAl := Lib.hid (hAl.out.same sM)
    clear sM
    replace hC := Lib.hid hC
    refine sched_g rfl rfl (fun _ hK => ?_)
    go_simp
    refine (EV.out s1 _).mono ?_
    rintro e c4 ⟨aV, cV, rfl, hoV, sV⟩
    have hV := SliceAt.of_owns hoV
    refine hK _ _ (Kp.of_same sV) ?_
    clear hK hoV
    (try simp only [Act.put, List.setIfInBounds_toArray, List.set_cons_zero, List.set_cons_succ])
    have sV := (show Same c3 _ from (by repeat (first | exact Fr.refl _ _ | apply Fr.undrew | apply Fr.undrewN | apply Fr.drew | apply Fr.drewN | apply Fr.alloc))).same sV
    replace hw := Lib.hid (hw.out.same sV)
    replace kz := Lib.hid (sV.at kz.out id)
    replace hAl := Lib.hid (hAl.out.same sV)
    replace hC := Lib.hid (hC.out.same sV)
    clear sV
    replace hV := Lib.hid hV
    obtain ⟨y0, y1, y2, y3, f0, f1, f2, f3, yl⟩ := box4_facts kz.out
    refine sched_l rfl (by decide) (fun _ hK => ?_); go_simp
    refine hK _ _ ?_; clear hK; try simp only [Act.put, List.setIfInBounds_toArray, List.set_cons_zero, List.set_cons_succ]
    repeat (first | (refine sched_w rfl rfl (fun _ hK => ?_); go_simp; refine hK _ ?_; clear hK) | (refine sched_s rfl rfl (fun _ hK => ?_); go_simp; first | (refine hK _ ?_; clear hK) | (refine ⟨_, fun _ => rfl, hK _ ?_⟩; clear hK)))
    refine sched_nil (NoPanic.normal ?_)
    clear y0 y1 y2 y3 f0 f1 f2 f3 yl hAl
    obtain ⟨k6, f6⟩ := box_au (u0 := .slice C.aA C.al.length C.cA) (u1 := .int .i64 C.n) (u2 := .slice C.aM C.ma.length C.cM) (u3 := .slice C.aE C.es.length C.cE) kz.out
    replace hC := Lib.hid (hC.out.bx kz.out f6)
    replace hV := Lib.hid (SliceAt.bx hV.out kz.out (by decide) f6)
    replace hw := Lib.hid (hw.out.trans f6 (fun i hi e => by have : i = b7 := e; omega))
    clear f6 kz
    generalize (((c4.setCell ⟨b7, 0, none⟩ (.slice C.aA C.al.length C.cA)).setCell ⟨b7, 1, none⟩ (.int .i64 C.n)).setCell ⟨b7, 2, none⟩ (.slice C.aM C.ma.length C.cM)).setCell ⟨b7, 3, none⟩ (.slice C.aE C.es.length C.cE) = W4 at *
    obtain ⟨n, hCn, hn5⟩ := hMk.n5
    obtain ⟨hz, hE25⟩ := hMk.small (evL_len _)
    have hok := hMk.ok (evL_err _)
    have hAk := AuOk.of hok
    have hkb : n ≤ 2 ^ bitsF n := (bitsF_is (n := n) (by omega)).1
    have hb4 : bitsF n ≤ 4 := (bitsF_is (n := n) (by omega)).bd (by omega)
    obtain ⟨b, hb⟩ : ∃ b, b = bitsF n := ⟨_, rfl⟩
    rw [← hb] at hkb hb4
    obtain ⟨m, hm⟩ : ∃ m, m = 2 * b := ⟨_, rfl⟩
    have hnt : C.n.toNat = n := by rw [hCn]; exact Int.toNat_natCast n
    have ME := fun W => members_any n x W (by omega)
    have hfe : fromErr C (evL s1) = 0 := by unfold fromErr; rw [if_neg (by simpa using hok)]; exact evL_err _
    have FR := fun W (hW : Same W4 W) => (From_any C W (hC.out.at.same hW) hz (by rw [hCn]; omega) (evL s1) aV _ cV rfl ((hV.out.same hW).row) (by have := evL_len (s1 : Int); omega)).mono fun e w' h => DgE.ok h hfe
    rw [hnt, ← hb, ← hm] at FR
    have hP := evP_lt hAk (evL s1)
    rw [hnt] at hP
    have SE := fun a cap W h => setP (k := n) (by omega) hb (memP x) a cap W h
    have FW := fun (dr df : Dg) (t u : List Bool) (W : World) (h1 : dr.at W) (h2 : df.at W) (h3 : dr.tab m t) (h4 : df.tab b u) => Forward_any (m := m) (b := b) (fun _ => by omega) dr df t u W h1 h2 h3 h4
    simp only [if_pos hm] at FW
    have hS := SetIs.tabS (p := memP x) hkb
    have H0 := fun j => hS.have (s := 0) (by omega) hkb hP j
    simp only [show decide (0 = 1) = false from rfl] at H0
    have ST := fun (S : List Nat) (t : List Bool) (h : SetIs b n t S) => stP (k := n) (by omega) hb hkb h
    have hfix : ∀ j, clI b 0 (relT b (evP C.es (evL s1))) (tabS b 0 (filF (memP x) n)) (j + 1) = clI b 0 (relT b (evP C.es (evL s1))) (tabS b 0 (filF (memP x) n)) j → natI (haveF false (evP C.es (evL s1)) (filF (memP x) n) n j) = sortL (reachF C.es (evL s1) n (natI (filF (memP x) n))) := fun j hj => reach_law (fun y hy => by have := hAk.edge hy; rw [hCn] at this; omega) (by have h1 := H0 (j + 1); rw [hj] at h1; rw [h1.uniq (H0 j)])
    have PR := fun aM cM W (hW : Same W4 W) hF => preach_any C n hCn (by omega) W (hC.out.at.same hW) hz hok (natI (filF (memP x) n)) (evL s1) aM aV (filF (memP x) n).length cM (evL s1).length cV (natI_len _) hF (Nat.le_trans (filF_len _ _) (by omega)) rfl ((hV.out.same hW).row) (by have := evL_len (s1 : Int); omega) (fil_err _ _) (evL_err _)
    have hMl := filF_len (memP x) n
    have hHl := fun j => have_lenR (back := false) (l := evP C.es (evL s1)) (p := memP x) (n := n) j
    generalize reachF C.es (evL s1) n (natI (filF (memP x) n)) = RR at *
    generalize evP C.es (evL s1) = P at *
    generalize filF (memP x) n = M at *
    generalize tabS b 0 M = tM at *
    generalize relT b P = tR at *
    generalize (evL s1).length = qV at *
    unfold Au.v at FR PR
    rw [hCn] at k6 ⊢
    simp only [hCn] at FR PR
    generalize C.al.length = qA at *
    generalize C.ma.length = qM at *
    generalize C.es.length = qE at *
    generalize C.aA = fA at *
    generalize C.cA = gA at *
    generalize C.aM = fM at *
    generalize C.cM = gM at *
    generalize C.aE = fE at *
    generalize C.cE = gE at *
    clear hAk hok hz hfe hnt hP hE25 hMk
    have h4 : Same W4 W4 := Fr.refl _ _
    have kA := k6
    clear k6
    replace FR := Lib.hid FR; replace ME := Lib.hid ME; replace SE := Lib.hid SE; replace FW := Lib.hid FW; replace hS := Lib.hid hS; replace H0 := Lib.hid H0; replace ST := Lib.hid ST; replace hfix := Lib.hid hfix; replace PR := Lib.hid PR; replace hHl := Lib.hid hHl; replace hb := Lib.hid hb; replace hm := Lib.hid hm; replace kA := Lib.hid kA; replace h4 := Lib.hid h4
    have x0 := cell_at kA.out 0
    have x1 := cell_at kA.out 1
    have x2 := cell_at kA.out 2
    have x3 := cell_at kA.out 3
    have xl := lt_of_heap kA.out
    go_wp2_with fail
    refine (ME.out _).mono ?_
    rintro e w5 ⟨aM, cM, rfl, hme, s5⟩
    have hMr := (SliceAt.of_owns hme).row
    replace s5 := (show Same W4 _ from (by repeat (first | exact Fr.refl _ _ | apply Fr.undrew | apply Fr.undrewN | apply Fr.drew | apply Fr.drewN | apply Fr.alloc))).same s5
    replace h4 := Lib.hid (h4.out.same s5)
    replace kA := Lib.hid (s5.at kA.out id)
    clear s5 hme x0 x1 x2 x3 xl
    replace hMr := Lib.hid hMr
    have x0 := cell_at kA.out 0
    have x1 := cell_at kA.out 1
    have x2 := cell_at kA.out 2
    have x3 := cell_at kA.out 3
    have xl := lt_of_heap kA.out
    go_upto_region 5 with fail
    go_wp2_with fail
    refine (FR.out _ h4.out).mono ?_
    intro e v6 hM
    obtain ⟨a6, c6, L6, r6, rfl, d6, z6, s6⟩ := hM.open
    clear hM
    clear x0 x1 x2 x3 xl
    go_upto_region 6 with fail
    have q6 : Bx (v6.alloc (.cells #[.int .i64 m, .slice a6 L6.length c6, .int .i64 r6] 29)) v6.heap.size m _ a6 c6 L6 r6 := ⟨heap_new _ _, SliceAt.same d6 (by repeat (first | exact Fr.refl _ _ | apply Fr.alloc | apply Fr.drewN | apply Fr.drew | apply Fr.undrew | apply Fr.undrewN)), z6⟩
    have s6 := s6.same (show Same v6 (v6.alloc (.cells #[.int .i64 m, .slice a6 L6.length c6, .int .i64 r6] 29)) from (by repeat (first | exact Fr.refl _ _ | apply Fr.alloc | apply Fr.drewN | apply Fr.drew | apply Fr.undrew | apply Fr.undrewN)))
    clear d6 z6
    generalize v6.alloc (.cells #[.int .i64 m, .slice a6 L6.length c6, .int .i64 r6] 29) = w6 at *
    generalize v6.heap.size = b6 at *
    replace h4 := Lib.hid (h4.out.same s6); replace hMr := Lib.hid (hMr.out.same s6)
    replace q6 := Lib.hid q6; replace s6 := Lib.hid s6
    replace s6 := s6.out
    replace kA := Lib.hid (s6.at kA.out id)
    clear s6
    have x1 := cell_at kA.out 1
    have xl := lt_of_heap kA.out
    have C7 := SE.out _ _ _ hMr.out
    replace C7 := Lib.hid C7
    go_wp2_with fail
    refine (C7.out).mono ?_
    intro e v17 hM
    obtain ⟨a17, c17, L17, r17, rfl, d17, z17, s17⟩ := hM.open
    clear hM
    clear x1 xl
    go_upto_region 7 with fail
    have q17 : Bx (v17.alloc (.cells #[.int .i64 b, .slice a17 L17.length c17, .int .i64 r17] 29)) v17.heap.size b _ a17 c17 L17 r17 := ⟨heap_new _ _, SliceAt.same d17 (by repeat (first | exact Fr.refl _ _ | apply Fr.alloc | apply Fr.drewN | apply Fr.drew | apply Fr.undrew | apply Fr.undrewN)), z17⟩
    have s17 := s17.same (show Same v17 (v17.alloc (.cells #[.int .i64 b, .slice a17 L17.length c17, .int .i64 r17] 29)) from (by repeat (first | exact Fr.refl _ _ | apply Fr.alloc | apply Fr.drewN | apply Fr.drew | apply Fr.undrew | apply Fr.undrewN)))
    clear d17 z17
    generalize v17.alloc (.cells #[.int .i64 b, .slice a17 L17.length c17, .int .i64 r17] 29) = w17 at *
    generalize v17.heap.size = b17 at *
    replace h4 := Lib.hid (h4.out.same s17); replace hMr := Lib.hid (hMr.out.same s17); replace q6 := Lib.hid (q6.out.same s17)
    replace q17 := Lib.hid q17; replace s17 := Lib.hid s17
    replace s17 := s17.out
    replace kA := Lib.hid (s17.at kA.out id)
    clear s17 C7
    have x0 := cell_at q6.out.heap 0
    have x1 := cell_at q6.out.heap 1
    have x2 := cell_at q6.out.heap 2
    have xl := lt_of_heap q6.out.heap
    have y0 := cell_at q17.out.heap 0
    have y1 := cell_at q17.out.heap 1
    have y2 := cell_at q17.out.heap 2
    have yl := lt_of_heap q17.out.heap
    have F1 := FW.out ⟨m, a6, c6, L6, r6⟩ ⟨b, a17, c17, L17, r17⟩ _ _ w17 q6.out.at' q17.out.at' ⟨rfl, q6.out.tab⟩ ⟨rfl, q17.out.tab⟩
    replace F1 := Lib.hid F1
    go_wp2_with fail
    refine F1.out.mono ?_
    intro e v12 hM
    obtain ⟨j, a12, c12, L12, r12, rfl, d12, z12, hj1, hj2, s12⟩ := reaO_open hM rfl
    clear x0 x1 x2 xl
    clear y0 y1 y2 yl
    clear hM F1 hj2
    go_upto_region 8 with fail
    have q12 : Bx (v12.alloc (.cells #[.int .i64 b, .slice a12 L12.length c12, .int .i64 r12] 29)) v12.heap.size b _ a12 c12 L12 r12 := ⟨heap_new _ _, SliceAt.same d12 (by repeat (first | exact Fr.refl _ _ | apply Fr.alloc | apply Fr.drewN | apply Fr.drew | apply Fr.undrew | apply Fr.undrewN)), z12⟩
    have s12 := s12.same (show Same v12 (v12.alloc (.cells #[.int .i64 b, .slice a12 L12.length c12, .int .i64 r12] 29)) from (by repeat (first | exact Fr.refl _ _ | apply Fr.alloc | apply Fr.drewN | apply Fr.drew | apply Fr.undrew | apply Fr.undrewN)))
    clear d12 z12
    generalize v12.alloc (.cells #[.int .i64 b, .slice a12 L12.length c12, .int .i64 r12] 29) = w12 at *
    generalize v12.heap.size = b12 at *
    replace h4 := Lib.hid (h4.out.same s12); replace hMr := Lib.hid (hMr.out.same s12)
    replace q12 := Lib.hid q12; replace s12 := Lib.hid s12
    replace s12 := s12.out
    replace kA := Lib.hid (s12.at kA.out id)
    clear s12
    have hfx := hfix.out j hj1
    have S8 := ST.out _ _ (H0.out j) ⟨b, a12, c12, L12, r12⟩ w12 q12.out.at' ⟨rfl, q12.out.tab⟩
    have hHl1 := hHl.out j
    generalize haveF false P M n j = HH at *
    replace S8 := Lib.hid S8; replace hfx := Lib.hid hfx; replace hj1 := Lib.hid hj1
    have x1 := cell_at kA.out 1
    have xl := lt_of_heap kA.out
    have y0 := cell_at q12.out.heap 0
    have y1 := cell_at q12.out.heap 1
    have y2 := cell_at q12.out.heap 2
    have yl := lt_of_heap q12.out.heap
    go_wp2_with fail
    refine S8.out.mono ?_
    rintro e w8 ⟨a8, c8, rfl, hr8, s8⟩
    replace kA := Lib.hid (s8.at kA.out id)
    replace h4 := Lib.hid (h4.out.same s8)
    replace hMr := Lib.hid (hMr.out.same s8)
    clear s8 S8 x1 xl
    clear y0 y1 y2 yl
    replace hr8 := Lib.hid hr8
    have x0 := cell_at kA.out 0
    have x1 := cell_at kA.out 1
    have x2 := cell_at kA.out 2
    have x3 := cell_at kA.out 3
    have xl := lt_of_heap kA.out
    go_wp2_with fail
    refine (PR.out _ _ _ h4.out hMr.out).mono ?_
    rintro e w9 ⟨a9, c9, rfl, hr9, s9⟩
    replace h4 := Lib.hid (h4.out.same s9)
    replace hr8 := Lib.hid (hr8.out.same s9)
    clear s9 x0 x1 x2 x3 xl
    rw [← hfx.out] at hr9
    have hRl : (natI HH).length = RR.length := by rw [hfx.out]; exact sortL_length RR
    have SI := sameInts_any (natI HH) (natI HH) a8 a9 HH.length RR.length c8 c9 w9 (natI_len _) hRl hr8.out hr9 (by omega)
    simp only [decide_true] at SI
    replace SI := Lib.hid SI; replace hr9 := Lib.hid hr9; replace hRl := Lib.hid hRl
    go_wp2_with fail
    refine SI.out.mono ?_
    rintro e w10 ⟨rfl, s10⟩
    replace h4 := Lib.hid (h4.out.same s10)
    go_wp2_with fail
    go_ret
    exact ⟨rfl, (hw.out.same h4.out).same (by repeat (first | exact Fr.refl _ _ | apply Fr.alloc | apply Fr.drewN | apply Fr.drew | apply Fr.undrew | apply Fr.undrewN))⟩
end Go.Proofs.YtcdkklddingfpaaGreat
