/- RelationSets: the given statement. Printed by wip/mkrow.py. RelationSets walked. -/
import Derived.Test.YtcdkklddingfpaaGreatJRlN
import Derived.Test.YtcdkklddingfpaaGreatJValue
import Derived.Test.YtcdkklddingfpaaGreatJRowS
namespace Go.Proofs.YtcdkklddingfpaaGreat
open Go.RowKit
set_option linter.unusedVariables false
set_option linter.unusedSimpArgs false

theorem srt_eq : ∀ l m : List Nat, l.Pairwise (· < ·) → m.Pairwise (· < ·) → (∀ x, x ∈ l ↔ x ∈ m) → l = m
  | [], [], _, _, _ => rfl
  | [], y :: m, _, _, h => by have := (h y).2 (by simp); simp at this
  | x :: l, [], _, _, h => by have := (h x).1 (by simp); simp at this
  | x :: l, y :: m, h1, h2, h => by
    rw [List.pairwise_cons] at h1 h2
    have e : x = y := by
      have hx := (h x).1 (by simp)
      have hy := (h y).2 (by simp)
      rcases List.mem_cons.1 hx with e | hx
      · exact e
      · rcases List.mem_cons.1 hy with e | hy
        · exact e.symm
        · have := h2.1 x hx; have := h1.1 y hy; omega
    subst e
    congr 1
    refine srt_eq l m h1.2 h2.2 (fun z => ?_)
    have := h z
    simp only [List.mem_cons] at this
    constructor
    · intro hz
      have hne : z ≠ x := fun e => by have := h1.1 z hz; omega
      rcases this.1 (.inr hz) with e | hm
      · exact absurd e hne
      · exact hm
    · intro hz
      have hne : z ≠ x := fun e => by have := h2.1 z hz; omega
      rcases this.2 (.inr hz) with e | hm
      · exact absurd e hne
      · exact hm
theorem list_fil {k : Nat} {l : List Int} (h : renErr k l l.length 0 = 0) : l = natI (filF (fun i => decide ((i : Int) ∈ l)) k) := by
  have hu := renErr_up _ _ h
  have hb : ∀ j (hj : j < l.length), 0 ≤ l[j] ∧ l[j] < k := fun j hj => by
    have := (hu j (by omega) (by omega))
    rw [show toF l j = l[j] by simp [toF, List.getD, hj]] at this
    exact ⟨this.1, this.2.1⟩
  have hs : ∀ j (hj : j + 1 < l.length), l[j] < l[j + 1] := fun j hj => by
    have := (hu (j + 1) (by omega) (by omega)).2.2 (by omega)
    rw [Nat.add_sub_cancel, show toF l j = l[j] by simp [toF, List.getD, show j < l.length by omega], show toF l (j + 1) = l[j + 1] by simp [toF, List.getD, hj]] at this
    exact this
  have hmono : ∀ d i (hi : i + d + 1 < l.length), l[i] < l[i + d + 1] := by
    intro d
    induction d with
    | zero => intro i hi; exact hs i hi
    | succ d ih => intro i hi; exact Int.lt_trans (ih i (by omega)) (hs (i + d + 1) hi)
  have e1 : l.map Int.toNat = filF (fun i => decide ((i : Int) ∈ l)) k := by
    refine srt_eq _ _ ?_ (filF_pair _ _) (fun x => ?_)
    · rw [List.pairwise_iff_getElem]
      intro i j hi hj hij
      rw [List.length_map] at hi hj
      rw [List.getElem_map, List.getElem_map]
      have := hmono (j - i - 1) i (by omega)
      have h1 := hb i hi
      simp only [show i + (j - i - 1) + 1 = j by omega] at this
      omega
    · rw [filF_mem, List.mem_map, decide_eq_true_eq]
      constructor
      · rintro ⟨z, hz, rfl⟩
        obtain ⟨j, hj, rfl⟩ := List.mem_iff_getElem.1 hz
        have := hb j hj
        refine ⟨by omega, ?_⟩
        rw [show ((l[j].toNat : Nat) : Int) = l[j] by omega]
        exact hz
      · rintro ⟨_, hz⟩
        exact ⟨_, hz, by omega⟩
  rw [← e1]
  unfold natI
  rw [List.map_map]
  conv => lhs; rw [← List.map_id l]
  refine List.map_congr_left (fun z hz => ?_)
  obtain ⟨j, hj, rfl⟩ := List.mem_iff_getElem.1 hz
  have := hb j hj
  simp only [id, Function.comp]
  omega
theorem posT_count : ∀ (t : List Bool) (b : Nat), (posT t b).length = t.count true
  | [], _ => rfl
  | x :: t, b => by
    rw [posT, List.count_cons, ← posT_count t (b + 1)]
    cases x <;> simp

set_option maxRecDepth 100000 in
set_option maxHeartbeats 8000000 in
theorem rsets_far (x : Int) (l : List Int) (a : Option Addr) (c : Nat) (w : World) (hl : 10 < l.length) :
    Calls Tryz.prog 7 #[.int .u8 x, .slice a l.length c] w fun e w' => e = .returned (.bool true) ∧ Same w w' := by
  have KN := fun W => known_any W
  generalize l.length = q at *
  have hq' : (10 : Int) < q := by omega
  replace KN := Lib.hid KN
  go_enter Tryz.func7, Tryz.ntmps7
  go_wp2_with fail
  refine (KN.out _).mono ?_
  rintro e w1 ⟨rfl, s1⟩
  replace s1 := Lib.hid s1
  go_wp2_with fail
  refine (KN.out _).mono ?_
  rintro e w2 ⟨rfl, s2⟩
  have hw := s1.out.same s2
  replace hw := Lib.hid hw
  go_wp2_with fail
  go_ret
  exact ⟨rfl, hw.out⟩
set_option maxRecDepth 100000 in
set_option maxHeartbeats 8000000 in
theorem rsets_near (x : Int) (hx : 0 ≤ x ∧ x ≤ 255) (l : List Int) (a : Option Addr) (c : Nat) (w : World) (hl : l.length ≤ 10) (hat : RowAt w (.slice a l.length c) l.length (intCells l)) :
    Calls Tryz.prog 7 #[.int .u8 x, .slice a l.length c] w fun e w' => e = .returned (.bool true) ∧ Same w w' := by
  obtain ⟨k, hk⟩ : ∃ k : Nat, k = x.toNat % 21 := ⟨_, rfl⟩
  have hk20 : k ≤ 20 := by omega
  have h1 : x.tmod 21 = (k : Int) := by rw [Int.tmod_eq_emod_of_nonneg hx.1]; omega
  have h2 : IntKind.u8.wrap (k : Int) = k := by unfold IntKind.wrap; simp [IntKind.bits, IntKind.signed]; omega
  have h3 : wrap64 (k : Int) = k := by unfold wrap64; omega
  have h4 : IntKind.i64.wrap (k : Int) = k := IntWalk.i64_in _ (by omega)
  have hkb : k ≤ 2 ^ bitsF k := (bitsF_is (n := k) (by omega)).1
  have hb5 : bitsF k ≤ 5 := (bitsF_is (n := k) (by omega)).bd (by omega)
  have KN := fun W => known_any W
  have RL := fun W (hW : Same w W) => rlist_any k l a l.length c W rfl (by omega) (hat.same hW)
  have LB := fun W => lbits_any k W (by omega)
  have hq' : ¬ (10 : Int) < l.length := by omega
  clear hk hx
  by_cases hE : renErr k l l.length 0 = 0
  · have hli := list_fil hE
    obtain ⟨p, hp⟩ : ∃ p : Nat → Bool, p = fun (i : Nat) => decide ((i : Int) ∈ l) := ⟨_, rfl⟩
    rw [← hp] at hli
    rw [hE] at RL
    have hML : (filF p k).length = l.length := by have := congrArg List.length hli; rw [natI_len] at this; exact this.symm
    obtain ⟨b, hb⟩ : ∃ b, b = bitsF k := ⟨_, rfl⟩
    rw [← hb] at hkb hb5 LB
    have SE := fun W h => setP (k := k) (by omega) hb p a c W h
    have hS := SetIs.tabS (p := p) hkb
    have hct : (tabS b 0 (filF p k)).count true = (filF p k).length := by rw [← posT_count _ 0, hS.pos hkb]
    have ST := stP (k := k) (by omega) hb hkb hS
    have hR : RowAt w (.slice a (filF p k).length c) (filF p k).length (intCells (natI (filF p k))) := by rw [hML, ← hli]; exact hat
    rw [← hML] at hq' RL ⊢
    generalize filF p k = M at *
    have SI := fun a1 c1 a2 c2 W h1 h2 => sameInts_any (natI M) (natI M) a1 a2 M.length M.length c1 c2 W (natI_len _) (natI_len _) h1 h2 (by omega)
    simp only [decide_true] at SI
    generalize tabS b 0 M = tM at *
    have CT := fun (d : Dg) W (h : d.at W) (T : d.tab b tM) => count_tab d b tM W h T
    rw [hct] at CT
    have CK := fun (d : Dg) (W : World) (h : d.at W) (T : d.tab b tM) => check_tab d b tM W h T
    clear hli hML hE hct hat hl
    have hw := Fr.refl (fun _ => False) w
    replace KN := Lib.hid KN; replace RL := Lib.hid RL; replace LB := Lib.hid LB; replace SE := Lib.hid SE; replace ST := Lib.hid ST; replace SI := Lib.hid SI; replace CT := Lib.hid CT; replace CK := Lib.hid CK; replace hb := Lib.hid hb; replace hR := Lib.hid hR; replace hS := Lib.hid hS; replace hp := Lib.hid hp; replace hw := Lib.hid hw
    go_enter Tryz.func7, Tryz.ntmps7
    go_wp2_with fail
    refine (KN.out _).mono ?_
    rintro e w1 ⟨rfl, s1⟩
    replace hR := Lib.hid (hR.out.same s1); replace hw := Lib.hid (hw.out.same s1)
    clear s1
    go_upto_region 4 with fail
    have S5 := SE.out _ hR.out
    replace S5 := Lib.hid S5
    go_wp2_with fail
    refine (S5.out).mono ?_
    intro e v5 hM
    obtain ⟨a5, c5, L5, r5, rfl, d5, z5, s5⟩ := hM.open
    clear hM
    
    go_upto_region 5 with fail
    have q5 : Bx (v5.alloc (.cells #[.int .i64 b, .slice a5 L5.length c5, .int .i64 r5] 29)) v5.heap.size b _ a5 c5 L5 r5 := ⟨heap_new _ _, SliceAt.same d5 (by repeat (first | exact Fr.refl _ _ | apply Fr.alloc | apply Fr.drewN | apply Fr.drew | apply Fr.undrew | apply Fr.undrewN)), z5⟩
    have s5 := s5.same (show Same v5 (v5.alloc (.cells #[.int .i64 b, .slice a5 L5.length c5, .int .i64 r5] 29)) from (by repeat (first | exact Fr.refl _ _ | apply Fr.alloc | apply Fr.drewN | apply Fr.drew | apply Fr.undrew | apply Fr.undrewN)))
    clear d5 z5
    generalize v5.alloc (.cells #[.int .i64 b, .slice a5 L5.length c5, .int .i64 r5] 29) = w5 at *
    generalize v5.heap.size = b5 at *
    replace hR := Lib.hid (hR.out.same s5); replace hw := Lib.hid (hw.out.same s5)
    replace q5 := Lib.hid q5; replace s5 := Lib.hid s5
    clear s5 S5
    go_wp2_with fail
    refine (RL.out _ hw.out).mono ?_
    rintro e w6 ⟨rfl, s6⟩
    replace hR := Lib.hid (hR.out.same s6); replace hw := Lib.hid (hw.out.same s6); replace q5 := Lib.hid (q5.out.same s6)
    clear s6
    go_upto_region 8 with fail
    have x0 := cell_at q5.out.heap 0
    have x1 := cell_at q5.out.heap 1
    have x2 := cell_at q5.out.heap 2
    have xl := lt_of_heap q5.out.heap
    have S7 := ST.out ⟨b, a5, c5, L5, r5⟩ w6 q5.out.at' ⟨rfl, q5.out.tab⟩
    replace S7 := Lib.hid S7
    go_wp2_with fail
    refine S7.out.mono ?_
    rintro e w7 ⟨a7, c7, rfl, hr7, s7⟩
    clear x0 x1 x2 xl
    replace hR := Lib.hid (hR.out.same s7); replace hw := Lib.hid (hw.out.same s7); replace q5 := Lib.hid (q5.out.same s7)
    clear s7 S7
    replace hr7 := Lib.hid hr7
    go_upto_region 9 with fail
    have x0 := cell_at q5.out.heap 0
    have x1 := cell_at q5.out.heap 1
    have x2 := cell_at q5.out.heap 2
    have xl := lt_of_heap q5.out.heap
    have S8 := CT.out ⟨b, a5, c5, L5, r5⟩ w7 q5.out.at' ⟨rfl, q5.out.tab⟩
    replace S8 := Lib.hid S8
    go_wp2_with fail
    refine S8.out.mono ?_
    rintro e w8 ⟨rfl, s8⟩
    clear x0 x1 x2 xl
    replace hR := Lib.hid (hR.out.same s8); replace hw := Lib.hid (hw.out.same s8); replace q5 := Lib.hid (q5.out.same s8); replace hr7 := Lib.hid (hr7.out.same s8)
    clear s8 S8
    go_upto_region 10 with fail
    have x0 := cell_at q5.out.heap 0
    have x1 := cell_at q5.out.heap 1
    have x2 := cell_at q5.out.heap 2
    have xl := lt_of_heap q5.out.heap
    refine wp_region_sched (fun k => k = b5) [0, 0, 0, 1, 2, 0, 0, 0, 0, 1, 0, 2, 0, 0, 0, 0, 0, 0, 0, 0, 0, 2, 0, 0, 0, 0, 0, 0, 0, 0, 0, 0, 0, 0] [0, 1, 2, 3, 4, 5, 6, 7, 8, 10, 9, 11, 12, 13, 14, 15, 16, 17, 18, 19, 20, 21, 22, 23, 24, 25, 26, 27, 28, 29, 30, 31, 32, 33] (by kernel_rfl) (by kernel_rfl) ?_
    repeat (first | (refine sched_w rfl rfl (fun _ hK => ?_); go_simp; refine hK _ ?_; clear hK) | (refine sched_s rfl rfl (fun _ hK => ?_); go_simp; first | (refine hK _ ?_; clear hK) | (refine ⟨_, fun _ => rfl, hK _ ?_⟩; clear hK)))
    refine sched_g rfl rfl (fun _ hK => ?_)
    go_simp
    refine (CK.out ⟨b, a5, c5, L5, r5⟩ _ (SliceAt.same q5.out.at' (by repeat (first | exact Fr.refl _ _ | apply Fr.undrew | apply Fr.undrewN | apply Fr.drew | apply Fr.drewN | apply Fr.alloc))) ⟨rfl, q5.out.tab⟩).mono ?_
    rintro e w9 ⟨rfl, s9⟩
    refine hK _ _ (Kp.of_same s9) ?_
    clear hK
    (try simp only [Act.put, List.setIfInBounds_toArray, List.set_cons_zero, List.set_cons_succ])
    clear x0 x1 x2 xl
    replace s9 := (show Same w8 _ from (by repeat (first | exact Fr.refl _ _ | apply Fr.undrew | apply Fr.undrewN | apply Fr.drew | apply Fr.drewN | apply Fr.alloc))).same s9
    replace hR := Lib.hid (hR.out.same s9); replace hw := Lib.hid (hw.out.same s9); replace q5 := Lib.hid (q5.out.same s9); replace hr7 := Lib.hid (hr7.out.same s9)
    clear s9
    have x0 := cell_at q5.out.heap 0
    have x1 := cell_at q5.out.heap 1
    have x2 := cell_at q5.out.heap 2
    have xl := lt_of_heap q5.out.heap
    repeat (first | (refine sched_w rfl rfl (fun _ hK => ?_); go_simp; refine hK _ ?_; clear hK) | (refine sched_s rfl rfl (fun _ hK => ?_); go_simp; first | (refine hK _ ?_; clear hK) | (refine ⟨_, fun _ => rfl, hK _ ?_⟩; clear hK)))
    refine sched_g rfl rfl (fun _ hK => ?_)
    go_simp
    refine (LB.out _).mono ?_
    rintro e w10 ⟨rfl, s10⟩
    refine hK _ _ (Kp.of_same s10) ?_
    clear hK
    (try simp only [Act.put, List.setIfInBounds_toArray, List.set_cons_zero, List.set_cons_succ])
    clear x0 x1 x2 xl
    replace hR := Lib.hid (hR.out.same s10); replace hw := Lib.hid (hw.out.same s10); replace hr7 := Lib.hid (hr7.out.same s10)
    clear s10 q5
    repeat (first | (refine sched_w rfl rfl (fun _ hK => ?_); go_simp; refine hK _ ?_; clear hK) | (refine sched_s rfl rfl (fun _ hK => ?_); go_simp; first | (refine hK _ ?_; clear hK) | (refine ⟨_, fun _ => rfl, hK _ ?_⟩; clear hK)))
    refine sched_g rfl rfl (fun _ hK => ?_)
    go_simp
    refine (SI.out _ _ _ _ _ hr7.out hR.out).mono ?_
    rintro e w11 ⟨rfl, s11⟩
    refine hK _ _ (Kp.of_same s11) ?_
    clear hK
    (try simp only [Act.put, List.setIfInBounds_toArray, List.set_cons_zero, List.set_cons_succ])
    replace hw := Lib.hid (hw.out.same s11)
    clear s11 hr7 hR
    repeat (first | (refine sched_w rfl rfl (fun _ hK => ?_); go_simp; refine hK _ ?_; clear hK) | (refine sched_s rfl rfl (fun _ hK => ?_); go_simp; first | (refine hK _ ?_; clear hK) | (refine ⟨_, fun _ => rfl, hK _ ?_⟩; clear hK)))
    refine sched_nil (NoPanic.normal ?_)
    go_wp2_with fail
    go_ret
    exact ⟨rfl, hw.out⟩
  · have SE := fun W (hW : Same w W) => Set_order (n := k) (by omega) l a l.length c W rfl (hat.same hW) (by omega) hE
    have hE' : (renErr k l l.length 0 == 0) = false := by simpa using hE
    have hq9 := hl
    generalize renErr k l l.length 0 = E at *
    generalize l.length = q at *
    have hEE : (E == E) = true := by simp
    clear hat hkb hb5
    have hw := Fr.refl (fun _ => False) w
    replace KN := Lib.hid KN; replace RL := Lib.hid RL; replace LB := Lib.hid LB; replace SE := Lib.hid SE; replace hE := Lib.hid hE; replace hw := Lib.hid hw
    go_enter Tryz.func7, Tryz.ntmps7
    go_wp2_with fail
    refine (KN.out _).mono ?_
    rintro e w1 ⟨rfl, s1⟩
    replace hw := Lib.hid (hw.out.same s1)
    clear s1
    go_wp2_with fail
    refine (SE.out _ hw.out).mono ?_
    rintro e w2 ⟨rfl, s2⟩
    replace hw := Lib.hid (hw.out.same s2)
    clear s2
    go_upto_region 5 with fail
    have kz := heap_new w2 (.cells #[.int .i64 0, .slice none 0 0, .int .i64 0] 29)
    have sz : Same w2 (w2.alloc (.cells #[.int .i64 0, .slice none 0 0, .int .i64 0] 29)) := (by repeat (first | exact Fr.refl _ _ | apply Fr.alloc | apply Fr.drewN | apply Fr.drew | apply Fr.undrew | apply Fr.undrewN))
    replace hw := Lib.hid (hw.out.same sz)
    generalize w2.alloc (.cells #[.int .i64 0, .slice none 0 0, .int .i64 0] 29) = w3 at *
    generalize w2.heap.size = bz at *
    clear sz
    replace kz := Lib.hid kz
    go_wp2_with fail
    refine (RL.out _ hw.out).mono ?_
    rintro e w4 ⟨rfl, s4⟩
    replace hw := Lib.hid (hw.out.same s4); replace kz := Lib.hid (s4.at kz.out id)
    clear s4
    go_upto_region 7 with fail
    have x0 := cell_at kz.out 0
    have x1 := cell_at kz.out 1
    have x2 := cell_at kz.out 2
    have xl := lt_of_heap kz.out
    go_wp2_with fail
    refine (none11 _).mono ?_
    rintro e w5 ⟨rfl, s5⟩
    replace hw := Lib.hid (hw.out.same s5)
    clear s5
    go_wp2_with fail
    go_ret
    exact ⟨rfl, hw.out⟩
theorem rsets_any (x : Int) (hx : 0 ≤ x ∧ x ≤ 255) (l : List Int) (a : Option Addr) (c : Nat) (w : World) (hat : RowAt w (.slice a l.length c) l.length (intCells l)) :
    Calls Tryz.prog 7 #[.int .u8 x, .slice a l.length c] w fun e w' => e = .returned (.bool true) ∧ Same w w' := by
  by_cases hl : 10 < l.length
  · exact rsets_far x l a c w hl
  · exact rsets_near x hx l a c w (by omega) hat
end Go.Proofs.YtcdkklddingfpaaGreat
namespace Go.Proofs.YtcdkklddingfpaaGreat.relationSets
open Go.ChangeShapes Go.WideShapes Go.ChangeAt Go.RowKit
set_option linter.unusedVariables false

theorem own : ownKnob Tryz.prog.godebug = none := by kernel_rfl

set_option maxRecDepth 100000 in
theorem lifted (os : Os) (started : os.Started) (H : Type) (enc : TypeId × Value → H) :
    ReturnsInHanded {} Tryz.checked os 7 .any (Rows.relationSetsSpec.pre6 enc Tryz.prog Tryz.f7 Rows.relationSetsRow.domain false) (Rows.relationSetsSpec.post enc Tryz.prog Tryz.f7 false true false false) := by
  refine returnsInHanded_of_change (C := Tryz.checked) own started (by kernel_rfl) Tryz.func7
    (ChangeSpec.witness6 (enc := enc) (C := Tryz.checked) false ⟨#[], #[.int .u8 0, .slice none 0 0], []⟩ 8 (by kernel_rfl) (by kernel_rfl) (by kernel_rfl) (by kernel_rfl)) ?_
  intro W base args ds gs before hval0 hW hcnd _
  have hval : ∀ (j : Nat) t v, Tryz.f7.params[j]? = some t → args[j]? = some v → Value.okWide Tryz.prog W .any base t v := hval0
  have hW' := hW
  obtain ⟨p, q, hA0, hV, rfl, hfz, hnd⟩ := hW
  have hA : DataW.TrodAll enc Tryz.prog W 0 (fun _ => true) true Tryz.f7.params.toList args.toList ds p := hA0
  rw [Tryz.params7] at hA hval
  obtain ⟨v0, vs0, d0, ds0, p0, q0, hargs, rfl, rfl, h0, r0⟩ := trodAll_cons hA
  obtain ⟨v1, vs1, d1, ds1, p1, q1, rfl, rfl, rfl, h1, r1⟩ := trodAll_cons r0
  obtain ⟨rfl, rfl, rfl⟩ := trodAll_nil r1
  obtain rfl : args = #[v0, v1] := by cases args; simp_all
  obtain ⟨rfl, rfl⟩ := trodVars_none hV
  obtain ⟨a0, rfl, rfl, rfl, w0⟩ := open_int Tryz.underlying5 (hval 0 5 v0 rfl rfl) h0
  have k1 := h1
  obtain ⟨a1, t1, c1, rfl, R1⟩ := open_intsR h1 (okWide_slice Tryz.underlying22 (hval 1 22 v1 rfl rfl))
  clear hA0 hval0
  simp only [List.append_nil] at hW'
  refine (rsets_any a0 (u8_wf w0) t1 a1 c1 W R1).mono fun e W' ⟨he, hg⟩ => ?_
  subst he
  exact ⟨_, rfl, post_fr (pa := ([] ++ (p1 ++ []))) (pv := []) hW' (fun _ _ _ => (trodAll_cons_mk (shut_bool Tryz.underlying4 _) trodAll_mk0)) (fun sp SP => (trodAll_cons_mk (shut_int Tryz.underlying5 w0) (trodAll_cons_mk (stays (by kernel_rfl) (of_decide_eq_true (by kernel_rfl)) k1 hg (fun x hx => hW'.lt x (by simp [hx])) (fun x hx => SP x (by simp [hx]))) trodAll_mk0))) (fun _ _ => rfl) (by simp) hg (ok_one (by kernel_rfl) rfl (okWide_bool_mk Tryz.underlying4 _))⟩

theorem over : Rows.relationSetsRow.holds Tryz.pinned (OpenSpec.ofChange Rows.relationSetsSpec) :=
  OpenClaim.holds_of_wide 7 Tryz.f7 rfl rfl rfl rfl rfl rfl rfl ⟨rfl, rfl, rfl, rfl, rfl⟩ rfl rfl rfl rfl rfl (by kernel_rfl) Tryz.func7 (by kernel_rfl)
    (of_decide_eq_true (by kernel_rfl)) (by unfold Func.isWrapper; first | (rw [if_pos (by decide +kernel)]; kernel_rfl) | (rw [if_neg (by decide +kernel)]; exact ⟨rfl, rfl⟩))
    (fun os started H enc _ => lifted os started H enc)
end Go.Proofs.YtcdkklddingfpaaGreat.relationSets

namespace Go.Proofs.YtcdkklddingfpaaGreat
/-- The given statement. -/
theorem relationSets_holds : Rows.RelationSetsSaid := relationSets.over
#print axioms relationSets_holds
end Go.Proofs.YtcdkklddingfpaaGreat
