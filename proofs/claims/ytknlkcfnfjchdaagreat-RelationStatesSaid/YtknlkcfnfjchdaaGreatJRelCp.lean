/- package relation: Compose at relations of up to 4 bits; Forward, Backward. -/
import Derived.Test.YtknlkcfnfjchdaaGreatJRelCo
import Derived.Test.YtknlkcfnfjchdaaGreatJRelU
namespace Go.Proofs.YtknlkcfnfjchdaaGreat
open Go.RowKit
set_option linter.unusedVariables false
set_option linter.unusedSimpArgs false

theorem upGa {b : Nat} : Up (fun i => ((gaF i : Nat) : Int)) ((2 * b : Nat) : Int) ((3 * b : Nat) : Int) := by
  constructor
  · intro i hi
    unfold gaF
    omega
  · intro i j h hj
    unfold gaF
    omega
set_option maxHeartbeats 1000000 in
theorem Compose_any {b : Nat} (hb : b ≤ 4) (dr df : Dg) (t u : List Bool) (w : World) (hr : dr.at w) (hf : df.at w) (T : dr.tab (2 * b) t) (U : df.tab (2 * b) u) :
    Calls Tryz.prog 120 #[.agg #[.int .i64 dr.n, .slice dr.a dr.L.length dr.cap, .int .i64 dr.r], .agg #[.int .i64 df.n, .slice df.a df.L.length df.cap, .int .i64 df.r]] w (DgN (2 * b) (coT b t u) w) := by
  have hco := comp_tab (b := b) T.2.len U.2.len
  have := Compose_gen (b := b) (by omega) 0 (2 * b) (2 * b) (by rw [if_neg (by omega), if_neg (by omega)]) (fun _ => rfl) (by omega) (by omega) dr df
    (renT (fun i => ((plF 0 i : Nat) : Int)) (2 * b) (3 * b) t) (renT (fun i => ((plF 1 i : Nat) : Int)) (2 * b) (3 * b) u)
    (ite3 (renT (fun i => ((plF 0 i : Nat) : Int)) (2 * b) (3 * b) t) (renT (fun i => ((plF 1 i : Nat) : Int)) (2 * b) (3 * b) u) (fls (3 * b)))
    (renT (fun i => ((gaF i : Nat) : Int)) (2 * b) (3 * b) (coT b t u)) (coT b t u) w T.1 U.1
    (fun W hW => check_tab dr (2 * b) t W (SliceAt.same hr hW) T) (fun W hW => check_tab df (2 * b) u W (SliceAt.same hf hW) U)
    (fun _ W hW => placed_any dr b 0 t W (by omega) (by omega) (SliceAt.same hr hW) T) (fun _ W hW => placed_any df b 1 u W (by omega) (by omega) (SliceAt.same hf hW) U)
    (fun d d' W h1 h2 t1 t2 => And_tab (by omega) h1 h2 t1 t2)
    (fun d W aQ cQ h1 t1 hQ => by
      have := Exists_gL (n := 3 * b) (k := b) (g := fun i => 3 * i + 1) (by omega) (by omega) (fun i hi => by omega) (fun i hi => by omega) h1 t1 hQ
      rw [show (List.range b).map (fun i => 3 * i + 1) = midL b from rfl, hco] at this
      exact this)
    (fun d W h1 t1 => Gather_dg (n := 2 * b) (m := 3 * b) (by omega) (by omega) upGa (show (coT b t u).length = 2 ^ (2 * b) from tbF_len _ _) h1 t1 166 #[] (fun v => 2 * (v / 3) + v % 3 / 2) (fun v hv => by simp only [gaF]; omega) enter_comp1 comp1_any)
  exact this.mono fun e w' h => by
    rcases h with ⟨h, _⟩ | ⟨_, h⟩
    · exact absurd rfl h
    · exact h

set_option maxRecDepth 100000 in
set_option maxHeartbeats 4000000 in
theorem Forward_any {m b : Nat} (hb6 : m = 2 * b → b ≤ 6) (dr df : Dg) (t u : List Bool) (w : World) (hr : dr.at w) (hf : df.at w) (T : dr.tab m t) (U : df.tab b u) :
    Calls Tryz.prog 95 #[.agg #[.int .i64 dr.n, .slice dr.a dr.L.length dr.cap, .int .i64 dr.r], .agg #[.int .i64 df.n, .slice df.a df.L.length df.cap, .int .i64 df.r]] w (ClE (if m = 2 * b then 0 else 4) b 0 t u w) := by
  have CL := fun W (hW : Same w W) => closure_any (s := 0) (by omega) hb6 dr df t u W (SliceAt.same hr hW) (SliceAt.same hf hW) T U
  obtain ⟨E, hE⟩ : ∃ E : Int, E = if m = 2 * b then 0 else 4 := ⟨_, rfl⟩
  rw [← hE] at CL ⊢
  obtain ⟨rn, ra, rc, rL, rr⟩ := dr
  obtain ⟨fn, fa, fc, fL, fr⟩ := df
  simp only at CL ⊢
  generalize rL.length = rq at *
  generalize fL.length = fq at *
  clear hr hf T U
  replace CL := Lib.hid CL; replace hE := Lib.hid hE
  go_enter Tryz.func95, Tryz.ntmps95
  go_upto_region 1 with fail
  have kc := heap_new ((w.alloc (.cells #[.int .i64 rn, .slice ra rq rc, .int .i64 rr] 54)).alloc (.cells #[.int .i64 fn, .slice fa fq fc, .int .i64 fr] 54)) (.cells #[.int .i64 0, .slice none 0 0, .int .i64 0] 54)
  have ka := heap_old (heap_old (heap_new w (.cells #[.int .i64 rn, .slice ra rq rc, .int .i64 rr] 54)) (.cells #[.int .i64 fn, .slice fa fq fc, .int .i64 fr] 54)) (.cells #[.int .i64 0, .slice none 0 0, .int .i64 0] 54)
  have kb := heap_old (heap_new (w.alloc (.cells #[.int .i64 rn, .slice ra rq rc, .int .i64 rr] 54)) (.cells #[.int .i64 fn, .slice fa fq fc, .int .i64 fr] 54)) (.cells #[.int .i64 0, .slice none 0 0, .int .i64 0] 54)
  have hs : Same w (((w.alloc (.cells #[.int .i64 rn, .slice ra rq rc, .int .i64 rr] 54)).alloc (.cells #[.int .i64 fn, .slice fa fq fc, .int .i64 fr] 54)).alloc (.cells #[.int .i64 0, .slice none 0 0, .int .i64 0] 54)) := (by repeat (first | exact Fr.refl _ _ | apply Fr.alloc | apply Fr.drewN | apply Fr.drew | apply Fr.undrew | apply Fr.undrewN))
  have hz1 : (w.alloc (.cells #[.int .i64 rn, .slice ra rq rc, .int .i64 rr] 54)).heap.size = w.heap.size + 1 := by simp
  have hz2 : ((w.alloc (.cells #[.int .i64 rn, .slice ra rq rc, .int .i64 rr] 54)).alloc (.cells #[.int .i64 fn, .slice fa fq fc, .int .i64 fr] 54)).heap.size = w.heap.size + 1 + 1 := by simp
  rw [hz1] at kb
  rw [hz2] at kc
  generalize ((w.alloc (.cells #[.int .i64 rn, .slice ra rq rc, .int .i64 rr] 54)).alloc (.cells #[.int .i64 fn, .slice fa fq fc, .int .i64 fr] 54)).alloc (.cells #[.int .i64 0, .slice none 0 0, .int .i64 0] 54) = W0 at *
  clear hz1 hz2
  replace ka := Lib.hid ka; replace kb := Lib.hid kb; replace kc := Lib.hid kc; replace hs := Lib.hid hs
  have x0 := cell_at ka.out 0
  have x1 := cell_at ka.out 1
  have x2 := cell_at ka.out 2
  have xl := lt_of_heap ka.out
  have y0 := cell_at kb.out 0
  have y1 := cell_at kb.out 1
  have y2 := cell_at kb.out 2
  have yl := lt_of_heap kb.out
  go_wp2_with fail
  refine (CL.out _ hs.out).mono ?_
  intro e w1 hM
  clear x0 x1 x2 xl
  clear y0 y1 y2 yl
  rcases hM with ⟨h0, rfl, s1⟩ | ⟨h0, d, k, rfl, hd, ht, h1, h2, s1⟩
  · replace kc := Lib.hid (s1.at kc.out id)
    have hs1 := hs.out.same s1
    clear s1
    replace hs1 := Lib.hid hs1; replace h0 := Lib.hid h0
    obtain ⟨x0, x1, x2, z0, z1, z2, xl⟩ := box_facts kc.out
    go_wp2_with fail
    obtain ⟨d0, d1, d2, hsF⟩ := dg_zeroed hs1.out (by omega) kc.out
    refine bodyPost_ret (v := .tuple #[.agg #[.int .i64 0, .slice none 0 0, .int .i64 0], .int .i64 0, .int .i64 E]) (by simp [results, Tryz.results95, go_sem, d0, d1, d2]) rfl ?_
    exact .inl ⟨h0.out, rfl, hsF⟩
  · replace kc := Lib.hid (s1.at kc.out id)
    have hs1 := hs.out.same s1
    clear s1
    replace hs1 := Lib.hid hs1; replace h0 := Lib.hid h0; replace h1 := Lib.hid h1; replace h2 := Lib.hid h2; replace hd := Lib.hid hd; replace ht := Lib.hid ht
    obtain ⟨x0, x1, x2, z0, z1, z2, xl⟩ := box_facts kc.out
    go_wp2_with fail
    obtain ⟨d0, d1, d2, hdF, hsF⟩ := dg_stored hs1.out (by omega) hd.out kc.out
    refine bodyPost_ret (v := .tuple #[.agg #[.int .i64 d.n, .slice d.a d.L.length d.cap, .int .i64 d.r], .int .i64 k, .int .i64 0]) (by simp [results, Tryz.results95, go_sem, d0, d1, d2]) rfl ?_
    exact .inr ⟨h0.out, d, k, rfl, hdF, ht.out, h1.out, h2.out, hsF⟩

set_option maxRecDepth 100000 in
set_option maxHeartbeats 4000000 in
theorem Backward_any {m b : Nat} (hb6 : m = 2 * b → b ≤ 6) (dr df : Dg) (t u : List Bool) (w : World) (hr : dr.at w) (hf : df.at w) (T : dr.tab m t) (U : df.tab b u) :
    Calls Tryz.prog 98 #[.agg #[.int .i64 dr.n, .slice dr.a dr.L.length dr.cap, .int .i64 dr.r], .agg #[.int .i64 df.n, .slice df.a df.L.length df.cap, .int .i64 df.r]] w (ClE (if m = 2 * b then 0 else 4) b 1 t u w) := by
  have CL := fun W (hW : Same w W) => closure_any (s := 1) (by omega) hb6 dr df t u W (SliceAt.same hr hW) (SliceAt.same hf hW) T U
  obtain ⟨E, hE⟩ : ∃ E : Int, E = if m = 2 * b then 0 else 4 := ⟨_, rfl⟩
  rw [← hE] at CL ⊢
  obtain ⟨rn, ra, rc, rL, rr⟩ := dr
  obtain ⟨fn, fa, fc, fL, fr⟩ := df
  simp only at CL ⊢
  generalize rL.length = rq at *
  generalize fL.length = fq at *
  clear hr hf T U
  replace CL := Lib.hid CL; replace hE := Lib.hid hE
  go_enter Tryz.func98, Tryz.ntmps98
  go_upto_region 1 with fail
  have kc := heap_new ((w.alloc (.cells #[.int .i64 rn, .slice ra rq rc, .int .i64 rr] 54)).alloc (.cells #[.int .i64 fn, .slice fa fq fc, .int .i64 fr] 54)) (.cells #[.int .i64 0, .slice none 0 0, .int .i64 0] 54)
  have ka := heap_old (heap_old (heap_new w (.cells #[.int .i64 rn, .slice ra rq rc, .int .i64 rr] 54)) (.cells #[.int .i64 fn, .slice fa fq fc, .int .i64 fr] 54)) (.cells #[.int .i64 0, .slice none 0 0, .int .i64 0] 54)
  have kb := heap_old (heap_new (w.alloc (.cells #[.int .i64 rn, .slice ra rq rc, .int .i64 rr] 54)) (.cells #[.int .i64 fn, .slice fa fq fc, .int .i64 fr] 54)) (.cells #[.int .i64 0, .slice none 0 0, .int .i64 0] 54)
  have hs : Same w (((w.alloc (.cells #[.int .i64 rn, .slice ra rq rc, .int .i64 rr] 54)).alloc (.cells #[.int .i64 fn, .slice fa fq fc, .int .i64 fr] 54)).alloc (.cells #[.int .i64 0, .slice none 0 0, .int .i64 0] 54)) := (by repeat (first | exact Fr.refl _ _ | apply Fr.alloc | apply Fr.drewN | apply Fr.drew | apply Fr.undrew | apply Fr.undrewN))
  have hz1 : (w.alloc (.cells #[.int .i64 rn, .slice ra rq rc, .int .i64 rr] 54)).heap.size = w.heap.size + 1 := by simp
  have hz2 : ((w.alloc (.cells #[.int .i64 rn, .slice ra rq rc, .int .i64 rr] 54)).alloc (.cells #[.int .i64 fn, .slice fa fq fc, .int .i64 fr] 54)).heap.size = w.heap.size + 1 + 1 := by simp
  rw [hz1] at kb
  rw [hz2] at kc
  generalize ((w.alloc (.cells #[.int .i64 rn, .slice ra rq rc, .int .i64 rr] 54)).alloc (.cells #[.int .i64 fn, .slice fa fq fc, .int .i64 fr] 54)).alloc (.cells #[.int .i64 0, .slice none 0 0, .int .i64 0] 54) = W0 at *
  clear hz1 hz2
  replace ka := Lib.hid ka; replace kb := Lib.hid kb; replace kc := Lib.hid kc; replace hs := Lib.hid hs
  have x0 := cell_at ka.out 0
  have x1 := cell_at ka.out 1
  have x2 := cell_at ka.out 2
  have xl := lt_of_heap ka.out
  have y0 := cell_at kb.out 0
  have y1 := cell_at kb.out 1
  have y2 := cell_at kb.out 2
  have yl := lt_of_heap kb.out
  go_wp2_with fail
  refine (CL.out _ hs.out).mono ?_
  intro e w1 hM
  clear x0 x1 x2 xl
  clear y0 y1 y2 yl
  rcases hM with ⟨h0, rfl, s1⟩ | ⟨h0, d, k, rfl, hd, ht, h1, h2, s1⟩
  · replace kc := Lib.hid (s1.at kc.out id)
    have hs1 := hs.out.same s1
    clear s1
    replace hs1 := Lib.hid hs1; replace h0 := Lib.hid h0
    obtain ⟨x0, x1, x2, z0, z1, z2, xl⟩ := box_facts kc.out
    go_wp2_with fail
    obtain ⟨d0, d1, d2, hsF⟩ := dg_zeroed hs1.out (by omega) kc.out
    refine bodyPost_ret (v := .tuple #[.agg #[.int .i64 0, .slice none 0 0, .int .i64 0], .int .i64 0, .int .i64 E]) (by simp [results, Tryz.results98, go_sem, d0, d1, d2]) rfl ?_
    exact .inl ⟨h0.out, rfl, hsF⟩
  · replace kc := Lib.hid (s1.at kc.out id)
    have hs1 := hs.out.same s1
    clear s1
    replace hs1 := Lib.hid hs1; replace h0 := Lib.hid h0; replace h1 := Lib.hid h1; replace h2 := Lib.hid h2; replace hd := Lib.hid hd; replace ht := Lib.hid ht
    obtain ⟨x0, x1, x2, z0, z1, z2, xl⟩ := box_facts kc.out
    go_wp2_with fail
    obtain ⟨d0, d1, d2, hdF, hsF⟩ := dg_stored hs1.out (by omega) hd.out kc.out
    refine bodyPost_ret (v := .tuple #[.agg #[.int .i64 d.n, .slice d.a d.L.length d.cap, .int .i64 d.r], .int .i64 k, .int .i64 0]) (by simp [results, Tryz.results98, go_sem, d0, d1, d2]) rfl ?_
    exact .inr ⟨h0.out, d, k, rfl, hdF, ht.out, h1.out, h2.out, hsF⟩

end Go.Proofs.YtknlkcfnfjchdaaGreat
