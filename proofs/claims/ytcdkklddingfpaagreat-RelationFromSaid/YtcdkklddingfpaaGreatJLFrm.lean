/- RelationFrom walked. -/
import Derived.Test.YtcdkklddingfpaaGreatJRlN
import Derived.Test.YtcdkklddingfpaaGreatJAutR
namespace Go.Proofs.YtcdkklddingfpaaGreat
open Go.RowKit
set_option linter.unusedVariables false
set_option linter.unusedSimpArgs false

theorem DgE.badF {E : Int} {n : Nat} {t : List Bool} {w w' : World} {e : Ending} (h : DgE E n t w e w') (h0 : E ≠ 0) : DErr w E e w' := by
  rcases h with ⟨_, h⟩ | ⟨h, _⟩
  · exact h
  · exact absurd h h0
set_option maxRecDepth 100000 in
set_option maxHeartbeats 8000000 in
theorem rfrom_far (A : Au) (ev : List Int) (a : Option Addr) (c : Nat) (w : World) (h : 12 < A.al.length ∨ 12 < A.ma.length ∨ 12 < A.es.length ∨ 40 < A.n ∨ 8 < ev.length) :
    Calls Tryz.prog 3 #[A.v, .slice a ev.length c] w fun e w' => e = .returned (.bool true) ∧ Same w w' := by
  have KN := fun W => known_any W
  obtain ⟨al, n, mk, es, aA, cA, aM, cM, aE, cE⟩ := A
  unfold Au.v
  simp only at h ⊢
  generalize al.length = qA at *
  generalize mk.length = qM at *
  generalize es.length = qE at *
  generalize ev.length = qV at *
  replace KN := Lib.hid KN
  go_enter Tryz.func3, Tryz.ntmps3
  go_upto_region 1 with fail
  have ka := heap_new w (.cells #[.slice aA qA cA, .int .i64 n, .slice aM qM cM, .slice aE qE cE] 25)
  have hw : Same w (w.alloc (.cells #[.slice aA qA cA, .int .i64 n, .slice aM qM cM, .slice aE qE cE] 25)) := (by repeat (first | exact Fr.refl _ _ | apply Fr.alloc | apply Fr.drewN | apply Fr.drew | apply Fr.undrew | apply Fr.undrewN))
  generalize w.alloc (.cells #[.slice aA qA cA, .int .i64 n, .slice aM qM cM, .slice aE qE cE] 25) = W0 at *
  generalize w.heap.size = ba at *
  replace ka := Lib.hid ka; replace hw := Lib.hid hw
  go_wp2_with fail
  refine (KN.out _).mono ?_
  rintro e w1 ⟨rfl, s1⟩
  replace hw := Lib.hid (hw.out.same s1); replace ka := Lib.hid (s1.at ka.out id)
  clear s1
  have x0 := cell_at ka.out 0
  have x1 := cell_at ka.out 1
  have x2 := cell_at ka.out 2
  have x3 := cell_at ka.out 3
  have xl := lt_of_heap ka.out
  by_cases c1 : 12 < qA
  case' neg =>
    by_cases c2 : 12 < qM
    case' neg =>
      by_cases c3 : 12 < qE
      case' neg => by_cases c4 : 40 < n
  all_goals
    first
      | have d1 : ((12 : Int) < qA) = True := by simp; omega
      | have d1 : ((12 : Int) < qA) = False := by simp; omega
    try first
      | have d2 : ((12 : Int) < qM) = True := by simp; omega
      | have d2 : ((12 : Int) < qM) = False := by simp; omega
    try first
      | have d3 : ((12 : Int) < qE) = True := by simp; omega
      | have d3 : ((12 : Int) < qE) = False := by simp; omega
    try first
      | have d4 : ((40 : Int) < n) = True := by simp; omega
      | have d4 : ((40 : Int) < n) = False := by simp; omega
    try have d5 : ((8 : Int) < qV) = True := by simp; omega
    replace h := Lib.hid h
    go_wp2_with fail
    refine (KN.out _).mono ?_
    rintro e w2 ⟨rfl, s2⟩
    have hw := hw.out.same s2
    replace hw := Lib.hid hw
    go_wp2_with fail
    go_ret
    exact ⟨rfl, hw.out⟩

set_option maxRecDepth 100000 in
set_option maxHeartbeats 8000000 in
/-- The errors. -/
theorem rfrom_err (A : Au) (ev : List Int) (a : Option Addr) (c : Nat) (w : World) (hA : A.at w) (hV : RowAt w (.slice a ev.length c) ev.length (intCells ev)) (h1 : A.al.length ≤ 12) (h2 : A.ma.length ≤ 12) (h3 : A.es.length ≤ 12) (h4 : A.n ≤ 40) (h5 : ev.length ≤ 8) (hE : fromErr A ev ≠ 0) :
    Calls Tryz.prog 3 #[A.v, .slice a ev.length c] w fun e w' => e = .returned (.bool true) ∧ Same w w' := by
  have KN := fun W => known_any W
  have hz : A.small := ⟨by omega, by omega, by omega⟩
  have FR := fun W (hW : Same w W) => (From_any A W (hA.same hW) hz (by omega) ev a _ c rfl (hV.same hW) (by omega)).mono fun e w' h => DgE.badF h hE
  have CK := fun W (hW : Same w W) => rCheck_any A W (hA.same hW) hz
  have RL := fun W (hW : Same w W) => rlist_any 32 ev a ev.length c W rfl (by omega) (hV.same hW)
  obtain ⟨E, hEd⟩ : ∃ E, E = fromErr A ev := ⟨_, rfl⟩
  rw [← hEd] at hE
  simp only [← hEd] at FR
  unfold fromErr at hEd
  generalize autErr A = E1 at *
  generalize renErr 32 ev ev.length 0 = E2 at *
  obtain ⟨al, n, mk, es, aA, cA, aM, cM, aE, cE⟩ := A
  unfold Au.v at FR CK ⊢
  simp only at h1 h2 h3 h4 FR CK ⊢
  generalize al.length = qA at *
  generalize mk.length = qM at *
  generalize es.length = qE at *
  generalize ev.length = qV at *
  have d1 : ((12 : Int) < qA) = False := by simp; omega
  have d2 : ((12 : Int) < qM) = False := by simp; omega
  have d3 : ((12 : Int) < qE) = False := by simp; omega
  have d4 : ((40 : Int) < n) = False := by simp; omega
  have d5 : ((8 : Int) < qV) = False := by simp; omega
  have hE' : (E == 0) = false := by simpa using hE
  have hEE : (E == E) = true := by simp
  clear hA hV hz h1 h2 h3 h4 h5
  replace KN := Lib.hid KN; replace FR := Lib.hid FR; replace CK := Lib.hid CK; replace RL := Lib.hid RL; replace hE := Lib.hid hE; replace hEd := Lib.hid hEd
  go_enter Tryz.func3, Tryz.ntmps3
  go_upto_region 1 with fail
  have ka := heap_new w (.cells #[.slice aA qA cA, .int .i64 n, .slice aM qM cM, .slice aE qE cE] 25)
  have hw : Same w (w.alloc (.cells #[.slice aA qA cA, .int .i64 n, .slice aM qM cM, .slice aE qE cE] 25)) := (by repeat (first | exact Fr.refl _ _ | apply Fr.alloc | apply Fr.drewN | apply Fr.drew | apply Fr.undrew | apply Fr.undrewN))
  generalize w.alloc (.cells #[.slice aA qA cA, .int .i64 n, .slice aM qM cM, .slice aE qE cE] 25) = W0 at *
  generalize w.heap.size = ba at *
  replace ka := Lib.hid ka; replace hw := Lib.hid hw
  go_wp2_with fail
  refine (KN.out _).mono ?_
  rintro e w1 ⟨rfl, s1⟩
  replace hw := Lib.hid (hw.out.same s1); replace ka := Lib.hid (s1.at ka.out id)
  clear s1
  have x0 := cell_at ka.out 0
  have x1 := cell_at ka.out 1
  have x2 := cell_at ka.out 2
  have x3 := cell_at ka.out 3
  have xl := lt_of_heap ka.out
  go_upto_region 3 with fail
  go_wp2_with fail
  refine (FR.out _ hw.out).mono ?_
  rintro e w2 ⟨rfl, s2⟩
  clear x0 x1 x2 x3 xl
  replace hw := Lib.hid (hw.out.same s2); replace ka := Lib.hid (s2.at ka.out id)
  clear s2
  go_upto_region 4 with fail
  have kz := heap_new w2 (.cells #[.int .i64 0, .slice none 0 0, .int .i64 0] 29)
  have sz : Same w2 (w2.alloc (.cells #[.int .i64 0, .slice none 0 0, .int .i64 0] 29)) := (by repeat (first | exact Fr.refl _ _ | apply Fr.alloc | apply Fr.drewN | apply Fr.drew | apply Fr.undrew | apply Fr.undrewN))
  replace hw := Lib.hid (hw.out.same sz); replace ka := Lib.hid (sz.at ka.out id)
  generalize w2.alloc (.cells #[.int .i64 0, .slice none 0 0, .int .i64 0] 29) = w3 at *
  generalize w2.heap.size = bz at *
  clear sz
  replace kz := Lib.hid kz
  have x0 := cell_at ka.out 0
  have x1 := cell_at ka.out 1
  have x2 := cell_at ka.out 2
  have x3 := cell_at ka.out 3
  have xl := lt_of_heap ka.out
  go_wp2_with fail
  refine (CK.out _ hw.out).mono ?_
  rintro e w4 ⟨rfl, s4⟩
  clear x0 x1 x2 x3 xl
  replace hw := Lib.hid (hw.out.same s4); replace ka := Lib.hid (s4.at ka.out id); replace kz := Lib.hid (s4.at kz.out id)
  clear s4
  by_cases hE1 : E1 = 0
  · subst hE1
    have hE2 : E = E2 := by rw [hEd.out, if_neg (by simp)]
    subst hE2
    go_wp2_with fail
    refine (RL.out _ hw.out).mono ?_
    rintro e w5 ⟨rfl, s5⟩
    replace hw := Lib.hid (hw.out.same s5); replace ka := Lib.hid (s5.at ka.out id); replace kz := Lib.hid (s5.at kz.out id)
    clear s5
    go_upto_region 8 with fail
    have x0 := cell_at kz.out 0
    have x1 := cell_at kz.out 1
    have x2 := cell_at kz.out 2
    have xl := lt_of_heap kz.out
    go_wp2_with fail
    refine (none11 _).mono ?_
    rintro e w6 ⟨rfl, s6⟩
    replace hw := Lib.hid (hw.out.same s6)
    clear s6
    go_wp2_with fail
    go_ret
    exact ⟨rfl, hw.out⟩
  · have hE2 : E = E1 := by rw [hEd.out, if_pos hE1]
    subst hE2
    replace hE1 := Lib.hid hE1
    go_upto_region 8 with fail
    have x0 := cell_at kz.out 0
    have x1 := cell_at kz.out 1
    have x2 := cell_at kz.out 2
    have xl := lt_of_heap kz.out
    go_wp2_with fail
    refine (none11 _).mono ?_
    rintro e w6 ⟨rfl, s6⟩
    replace hw := Lib.hid (hw.out.same s6)
    clear s6
    go_wp2_with fail
    go_ret
    exact ⟨rfl, hw.out⟩

set_option maxRecDepth 100000 in
set_option maxHeartbeats 8000000 in
theorem rfrom_ok (A : Au) (k : Nat) (hAn : A.n = k) (ev : List Int) (a : Option Addr) (c : Nat) (w : World) (hA : A.at w) (hV : RowAt w (.slice a ev.length c) ev.length (intCells ev)) (h1 : A.al.length ≤ 12) (h2 : A.ma.length ≤ 12) (h3 : A.es.length ≤ 12) (h4 : k ≤ 40) (h5 : ev.length ≤ 8) (hE1 : autErr A = 0) (hE2 : renErr 32 ev ev.length 0 = 0) :
    Calls Tryz.prog 3 #[A.v, .slice a ev.length c] w fun e w' => e = .returned (.bool true) ∧ Same w w' := by
  have KN := fun W => known_any W
  have hz : A.small := ⟨by omega, by omega, by omega⟩
  have hE : fromErr A ev = 0 := by unfold fromErr; rw [if_neg (by simpa using hE1), hE2]
  have FR := fun W (hW : Same w W) => (From_any A W (hA.same hW) hz (by omega) ev a _ c rfl (hV.same hW) (by omega)).mono fun e w' h => DgE.ok h hE
  have CK := fun W (hW : Same w W) => rCheck_any A W (hA.same hW) hz
  have RL := fun W (hW : Same w W) => rlist_any 32 ev a ev.length c W rfl (by omega) (hV.same hW)
  rw [hE1] at CK
  rw [hE2] at RL
  have hP := evP_lt (AuOk.of hE1) ev
  have hkn : A.n.toNat = k := by rw [hAn]; exact Int.toNat_natCast k
  rw [hkn] at FR hP
  have hkb : k ≤ 2 ^ bitsF k := (bitsF_is (n := k) (by omega)).1
  have hb6 : bitsF k ≤ 6 := (bitsF_is (n := k) (by omega)).bd (by omega)
  obtain ⟨b, hb⟩ : ∃ b, b = bitsF k := ⟨_, rfl⟩
  rw [← hb] at hkb hb6
  obtain ⟨m, hm⟩ : ∃ m, m = 2 * b := ⟨_, rfl⟩
  have CT := fun (x : Int) W (hW : Same w W) => lHas_any ev x a ev.length c W rfl (hV.same hW) (by omega)
  have ND := fun (i : Nat) (hi : i < A.es.length) W (hW : Same w W) => (hA.es.same hW).node hi
  have hlen := evP_len A.es ev
  have hyes := fun i h => evP_yes (es := A.es) (ev := ev) (k := i) h
  have hno := fun i h => evP_no (es := A.es) (ev := ev) (k := i) h
  have hall := evP_all A.es ev A.es.length rfl
  have hED := fun (i : Nat) (hi : i < A.es.length) => (AuOk.of hE1).edge (List.getElem_mem hi)
  have hPl := hlen A.es.length
  rw [hall] at hPl
  have PA := fun (d : Dg) (W : World) (hat : d.at W) (T : d.tab (2 * b) (relT b (evP A.es ev))) => paP (k := k) (by omega) hb hkb hP (Nat.le_trans relT_few (by omega)) d W hat T
  have OD := fun a c W h => ordered_any (evP A.es ev) k a _ c W (by omega) rfl h (by omega)
  have hOB : (prsT k fun x y => decide ((x, y) ∈ evP A.es ev)).length ≤ 5000 := by rw [← ordP_all]; exact ordP_len _ (by omega) (Nat.le_refl _) (by omega)
  simp only [← hb] at FR
  simp only [← hm] at FR PA
  obtain ⟨P, hPd⟩ : ∃ P, P = evP A.es ev := ⟨_, rfl⟩
  rw [← hPd] at hall hP hPl
  simp only [← hPd] at FR PA OD hOB
  generalize (prsT k fun x y => decide ((x, y) ∈ P)) = OB at *
  generalize relT b P = tR at *
  obtain ⟨al, n, mk, es, aA, cA, aM, cM, aE, cE⟩ := A
  simp only at hAn
  subst hAn
  unfold Au.v at FR CK ⊢
  simp only at h1 h2 h3 FR CK ND hlen hyes hno hall hED hPl hPd ⊢
  obtain ⟨qE, hqE⟩ : ∃ q, q = es.length := ⟨_, rfl⟩
  have hL : es.length = qE := hqE.symm
  simp only [← hqE] at h3 hall FR CK hPl ⊢
  generalize al.length = qA at *
  generalize mk.length = qM at *
  generalize ev.length = qV at *
  have d1 : ((12 : Int) < qA) = False := by simp; omega
  have d2 : ((12 : Int) < qM) = False := by simp; omega
  have d3 : ((12 : Int) < qE) = False := by simp; omega
  have d4 : ((40 : Int) < k) = False := by simp; omega
  have d5 : ((8 : Int) < qV) = False := by simp; omega
  obtain ⟨i3, hi3, hi3z, hi3s, hi3b⟩ := info_parts infoP
  clear hA hV hz h1 h2 hE hE1 hE2 hkn hqE
  replace KN := Lib.hid KN; replace FR := Lib.hid FR; replace CK := Lib.hid CK; replace RL := Lib.hid RL; replace CT := Lib.hid CT; replace ND := Lib.hid ND; replace hlen := Lib.hid hlen; replace hyes := Lib.hid hyes; replace hno := Lib.hid hno; replace hall := Lib.hid hall; replace hED := Lib.hid hED; replace PA := Lib.hid PA; replace OD := Lib.hid OD; replace hL := Lib.hid hL; replace hb := Lib.hid hb; replace hm := Lib.hid hm; replace hP := Lib.hid hP; replace hPd := Lib.hid hPd
  go_enter Tryz.func3, Tryz.ntmps3
  go_upto_region 1 with fail
  have ka := heap_new w (.cells #[.slice aA qA cA, .int .i64 k, .slice aM qM cM, .slice aE qE cE] 25)
  have hw : Same w (w.alloc (.cells #[.slice aA qA cA, .int .i64 k, .slice aM qM cM, .slice aE qE cE] 25)) := (by repeat (first | exact Fr.refl _ _ | apply Fr.alloc | apply Fr.drewN | apply Fr.drew | apply Fr.undrew | apply Fr.undrewN))
  generalize w.alloc (.cells #[.slice aA qA cA, .int .i64 k, .slice aM qM cM, .slice aE qE cE] 25) = W0 at *
  generalize w.heap.size = ba at *
  replace ka := Lib.hid ka; replace hw := Lib.hid hw
  go_wp2_with fail
  refine (KN.out _).mono ?_
  rintro e w1 ⟨rfl, s1⟩
  replace hw := Lib.hid (hw.out.same s1); replace ka := Lib.hid (s1.at ka.out id)
  clear s1
  have x0 := cell_at ka.out 0
  have x1 := cell_at ka.out 1
  have x2 := cell_at ka.out 2
  have x3 := cell_at ka.out 3
  have xl := lt_of_heap ka.out
  go_upto_region 3 with fail
  go_wp2_with fail
  refine (FR.out _ hw.out).mono ?_
  intro e v5 hM
  obtain ⟨a5, c5, L5, r5, rfl, d5, z5, s5⟩ := hM.open
  clear hM
  clear x0 x1 x2 x3 xl
  go_upto_region 4 with fail
  have q5 : Bx (v5.alloc (.cells #[.int .i64 m, .slice a5 L5.length c5, .int .i64 r5] 29)) v5.heap.size m _ a5 c5 L5 r5 := ⟨heap_new _ _, SliceAt.same d5 (by repeat (first | exact Fr.refl _ _ | apply Fr.alloc | apply Fr.drewN | apply Fr.drew | apply Fr.undrew | apply Fr.undrewN)), z5⟩
  have s5 := s5.same (show Same v5 (v5.alloc (.cells #[.int .i64 m, .slice a5 L5.length c5, .int .i64 r5] 29)) from (by repeat (first | exact Fr.refl _ _ | apply Fr.alloc | apply Fr.drewN | apply Fr.drew | apply Fr.undrew | apply Fr.undrewN)))
  clear d5 z5
  generalize v5.alloc (.cells #[.int .i64 m, .slice a5 L5.length c5, .int .i64 r5] 29) = w5 at *
  generalize v5.heap.size = b5 at *
  replace hw := Lib.hid (hw.out.same s5)
  replace q5 := Lib.hid q5; replace s5 := Lib.hid s5
  replace s5 := s5.out
  replace ka := Lib.hid (s5.at ka.out id)
  clear s5
  have x0 := cell_at ka.out 0
  have x1 := cell_at ka.out 1
  have x2 := cell_at ka.out 2
  have x3 := cell_at ka.out 3
  have xl := lt_of_heap ka.out
  go_wp2_with fail
  refine (CK.out _ hw.out).mono ?_
  rintro e w6 ⟨rfl, s6⟩
  clear x0 x1 x2 x3 xl
  replace hw := Lib.hid (hw.out.same s6); replace q5 := Lib.hid (q5.out.same s6); replace ka := Lib.hid (s6.at ka.out id)
  clear s6
  go_wp2_with fail
  refine (RL.out _ hw.out).mono ?_
  rintro e w7 ⟨rfl, s7⟩
  replace hw := Lib.hid (hw.out.same s7); replace q5 := Lib.hid (q5.out.same s7); replace ka := Lib.hid (s7.at ka.out id)
  clear s7
  have x3 := cell_at ka.out 3
  have xl := lt_of_heap ka.out
  have hw7 := hw.out.size
  go_wp2_with fail
  clear x3 xl
  go_loopw [8, 9] (fun v i wr => ∃ (j q c : Nat) (a : Option Addr), i = .int .i64 j ∧ j ≤ qE ∧ q = (evP (es.take j) ev).length ∧ v = .slice a q c ∧ wr.ownsRow w7.heap.size 40 2 (.slice a q c) q (prC (evP (es.take j) ev)) ∧ Same w7 wr) (fun _ i _ => qE - (intOf i).toNat)
  case atStart => exact ⟨0, 0, 0, none, rfl, by omega, rfl, rfl, World.ownsRow_nil _ _ _ _, Fr.refl _ _⟩
  case round =>
    obtain ⟨j, q, c, a, rfl, hj, hq, rfl, ho, hs2⟩ := hrel
    have hws := hs2.size
    have hql := hlen.out j
    rw [← hq] at hql
    have ka7 := hs2.at ka.out id
    have hs3 := hw.out.same hs2
    by_cases hlt : j < qE
    · have hjl : j < es.length := by rw [hL.out]; exact hlt
      obtain ⟨bb, off, rfl, hbl, z0, z1, z2⟩ := ND.out j hjl wr hs3
      have hbd := hED.out j hjl
      have hyes' := hyes.out j hjl
      have hno' := hno.out j hjl
      generalize es[j]'hjl = x at *
      obtain ⟨f, e, t⟩ := x
      simp only at z0 z1 z2 hbd hyes' hno'
      generalize evP (es.take j) ev = O at *
      have CT1 := CT.out e
      obtain ⟨bmm, hbm⟩ : ∃ b, b = decide (e ∈ ev) := ⟨_, rfl⟩
      rw [← hbm] at CT1
      have hNd := fun W (hW : Same wr W) => ND.out j hjl W (hs3.same hW)
      replace hs2 := Lib.hid hs2; replace hs3 := Lib.hid hs3; replace hq := Lib.hid hq; replace hyes' := Lib.hid hyes'; replace hno' := Lib.hid hno'; replace ho := Lib.hid ho; replace CT1 := Lib.hid CT1; replace hbm := Lib.hid hbm; replace ka7 := Lib.hid ka7
      have x3 := cell_at ka7.out 3
      have xl := lt_of_heap ka7.out
      go_wp2_with fail
      refine (CT1.out _ hs3.out).mono ?_
      rintro er w8 ⟨rfl, s8⟩
      have c0 : w8.cell? ⟨bb, off + j * 3, none⟩ = some (.int .i64 f) := by rw [← z0]; exact World.cell?_of_block (a := ⟨bb, off + j * 3, none⟩) (s8.block bb hbl id)
      have c2 : w8.cell? ⟨bb, off + j * 3 + 2, none⟩ = some (.int .i64 t) := by rw [← z2]; exact World.cell?_of_block (a := ⟨bb, off + j * 3 + 2, none⟩) (s8.block bb hbl id)
      have hbl8 : bb < w8.heap.size := Nat.lt_of_lt_of_le hbl s8.size
      clear x3 xl z0 z1 z2 hbl hNd
      replace hs2 := Lib.hid (hs2.out.same s8); replace hs3 := Lib.hid (hs3.out.same s8); replace ka7 := Lib.hid (s8.at ka7.out id)
      replace ho := Lib.hid (owns_same ho.out s8)
      clear s8
      have hz8 := hs2.out.size
      cases bmm with
      | false =>
        have hst := hno'.out (of_decide_eq_false hbm.out.symm)
        replace hst := Lib.hid hst
        go_wp2_with fail
        go_roundw
        case rel => exact ⟨j + 1, q, c, a, by go_num, by omega, by rw [hst.out]; exact hq.out, rfl, by rw [hst.out]; exact owns_same ho.out (by repeat (first | exact Fr.refl _ _ | apply Fr.alloc | apply Fr.drewN | apply Fr.drew | apply Fr.undrew | apply Fr.undrewN)), hs2.out.same (by repeat (first | exact Fr.refl _ _ | apply Fr.alloc | apply Fr.drewN | apply Fr.drew | apply Fr.undrew | apply Fr.undrewN))⟩
        case measure => simp [intOf]; omega
      | true =>
        have hst := hyes'.out (of_decide_eq_true hbm.out.symm)
        have ef : f = ((f.toNat : Nat) : Int) := by omega
        have et : t = ((t.toNat : Nat) : Int) := by omega
        generalize f.toNat = u at *
        generalize t.toNat = v at *
        subst ef et
        have hpc : prC (O ++ [(u, v)]) = prC O ++ [.int .i64 (u : Nat), .int .i64 (v : Nat)] := by rw [prC_append]; rfl
        have x3 := cell_at ka7.out 3
        have xl := lt_of_heap ka7.out
        replace hst := Lib.hid hst; replace hbd := Lib.hid hbd; replace hpc := Lib.hid hpc
        go_upto_region 14 with fail
        refine wp_region_sched (fun k => k = ba ∨ k = bb) [0, 0, 1, 0, 0, 0, 1, 0, 1, 0, 0, 0, 1, 0, 2, 3, 0] [0, 1, 3, 7, 9, 2, 4, 5, 6, 8, 10, 11, 12, 13, 14, 15, 16] (by kernel_rfl) (by kernel_rfl) ?_
        repeat (first | (refine sched_w rfl rfl (fun _ hK => ?_); go_simp; refine hK _ ?_; clear hK) | (refine sched_s rfl rfl (fun _ hK => ?_); go_simp; first | (refine hK _ ?_; clear hK) | (refine ⟨_, fun _ => rfl, hK _ ?_⟩; clear hK)))
        refine sched_g rfl rfl (fun _ hK => ?_); go_simp; refine hK _ _ (Kp.of_same (by repeat (first | exact Fr.refl _ _ | apply Fr.alloc | apply Fr.drewN | apply Fr.drew | apply Fr.undrew | apply Fr.undrewN))) ?_; clear hK
        refine sched_l rfl (by decide) (fun _ hK => ?_)
        refine step_append1 rfl (.tmp 79) (.tmp 93) 36 rfl w7.heap.size 40 i3 (.agg #[.int .i64 0, .int .i64 0]) 2 16 Tryz.underlying36 hi3 hi3z hi3s hi3b rfl (by decide) (by decide) a q c (prC O) (by go_simp) (owns_same ho.out (by repeat (first | exact Fr.refl _ _ | apply Fr.alloc | apply Fr.drewN | apply Fr.drew | apply Fr.undrew | apply Fr.undrewN))) (by omega) w8.heap.size [.int .i64 (u : Nat), .int .i64 (v : Nat)] (by go_simp) rfl (heap_new_at (by simp) _) (by simp [Value.oneCell']) (by simp; omega) ?_
        intro a5' c5' w9 ho5 hG5
        have hs9 : Same w7 w9 := grew_fresh (hs2.out.same (by repeat (first | exact Fr.refl _ _ | apply Fr.alloc | apply Fr.drewN | apply Fr.drew | apply Fr.undrew | apply Fr.undrewN))) hG5 (fun k hk => (ho.out.lt k hk).1)
        have ho5' : w9.ownsRow w7.heap.size 40 2 (.slice a5' (q + 1) c5') (q + 1) (prC (O ++ [(u, v)])) := by rw [hpc.out]; exact ho5
        have hq5 : q + 1 = (O ++ [(u, v)]).length := by have := hq.out; simp; omega
        clear ho5 hG5
        replace ho5' := Lib.hid ho5'; replace hs9 := Lib.hid hs9; replace hq5 := Lib.hid hq5
        refine hK _ _ ?_; clear hK; try simp only [Act.put, List.setIfInBounds_toArray, List.set_cons_zero, List.set_cons_succ]
        repeat (first | (refine sched_w rfl rfl (fun _ hK => ?_); go_simp; refine hK _ ?_; clear hK) | (refine sched_s rfl rfl (fun _ hK => ?_); go_simp; first | (refine hK _ ?_; clear hK) | (refine ⟨_, fun _ => rfl, hK _ ?_⟩; clear hK)))
        refine sched_nil (NoPanic.normal ?_)
        go_wp2_with fail
        go_roundw
        case rel => exact ⟨j + 1, q + 1, c5', a5', by go_num, by omega, by rw [hst.out]; exact hq5.out, rfl, by rw [hst.out]; exact ho5'.out, hs9.out⟩
        case measure => simp [intOf]; omega
    · obtain rfl : j = qE := by omega
      rw [hall.out] at hq ho
      subst hq
      have hR := SliceAt.of_owns ho
      replace q5 := Lib.hid (q5.out.same hs2)
      replace hw := Lib.hid (hw.out.same hs2)
      have x1 := cell_at ka7 1
      have x3 := cell_at ka7 3
      have xl := lt_of_heap ka7
      clear ho hs3 hs2
      replace hR := Lib.hid hR; replace ka7 := Lib.hid ka7
      have y0 := cell_at q5.out.heap 0
      have y1 := cell_at q5.out.heap 1
      have y2 := cell_at q5.out.heap 2
      have yl := lt_of_heap q5.out.heap
      have P15 := PA.out ⟨m, a5, c5, L5, r5⟩ wr q5.out.at' ⟨rfl, q5.out.tab⟩
      replace P15 := Lib.hid P15
      go_wp2_with fail
      refine P15.out.mono ?_
      rintro e w10 ⟨a10, c10, rfl, hr10, s10⟩
      clear y0 y1 y2 yl
      clear x1 x3 xl
      replace hw := Lib.hid (hw.out.same s10); replace hR := Lib.hid (hR.out.same s10); replace ka7 := Lib.hid (s10.at ka7.out id)
      clear s10 P15
      replace hr10 := Lib.hid hr10
      have x1 := cell_at ka7.out 1
      have xl := lt_of_heap ka7.out
      go_wp2_with fail
      refine (OD.out _ _ _ hR.out).mono ?_
      rintro e w11 ⟨a11, c11, rfl, ho11, s11⟩
      have hr11 := SliceAt.of_owns ho11
      clear x1 xl ho11
      replace hw := Lib.hid (hw.out.same s11); replace hr10 := Lib.hid (hr10.out.same s11)
      clear s11
      replace hr11 := Lib.hid hr11
      go_wp2_with fail
      refine (samePairs_any OB OB a10 a11 OB.length OB.length c10 c11 _ rfl rfl hr10.out hr11.out (by omega)).mono ?_
      rintro e w12 ⟨rfl, s12⟩
      simp only [decide_true]
      replace hw := Lib.hid (hw.out.same s12)
      clear s12
      go_wp2_with fail
      go_ret
      exact ⟨rfl, hw.out⟩
theorem rfrom_any (A : Au) (ev : List Int) (a : Option Addr) (c : Nat) (w : World) (hA : A.at w) (hV : RowAt w (.slice a ev.length c) ev.length (intCells ev)) :
    Calls Tryz.prog 3 #[A.v, .slice a ev.length c] w fun e w' => e = .returned (.bool true) ∧ Same w w' := by
  by_cases h : 12 < A.al.length ∨ 12 < A.ma.length ∨ 12 < A.es.length ∨ 40 < A.n ∨ 8 < ev.length
  · exact rfrom_far A ev a c w h
  · by_cases hE : fromErr A ev = 0
    · have hE' := hE
      unfold fromErr at hE'
      by_cases h1 : autErr A = 0
      · rw [if_neg (by simpa using h1)] at hE'
        have h0 := (AuOk.of h1).n0
        exact rfrom_ok A A.n.toNat (by omega) ev a c w hA hV (by omega) (by omega) (by omega) (by omega) (by omega) h1 hE'
      · rw [if_pos (by simpa using h1)] at hE'
        exact absurd hE' h1
    · exact rfrom_err A ev a c w hA hV (by omega) (by omega) (by omega) (by omega) (by omega) hE
end Go.Proofs.YtcdkklddingfpaaGreat
