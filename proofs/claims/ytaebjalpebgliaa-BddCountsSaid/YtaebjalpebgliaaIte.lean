/- The builder: ite. -/
import Derived.Test.YtaebjalpebgliaaVisit
namespace Go.Proofs.Ytaebjalpebgliaa
open Go.RowKit
set_option linter.unusedVariables false
set_option linter.unusedSimpArgs false

/-- A call of ite on a builder with its memory mm. -/
def IRet (w : World) (B p m mm : Nat) (a : Option Addr) (cap : Nat) (N : List Nd) (s' : Is) (k : Int) (e : Ending) (w' : World) : Prop :=
  e = .returned (.int .i64 k) ∧ ∃ a' cap', BuilderAt w' B p m a' cap' s'.1 ∧ MapAt ndv (Value.int .i64) w' mm s'.2 ∧ Grew (fun i => BB p m i ∨ i = mm) w w' (.slice a N.length cap) (.slice a' s'.1.length cap')

/-- The memory of ite is another map than the builder's, and is kept by number. -/
theorem BuilderAt.other_map {w : World} {B p m mm : Nat} {a : Option Addr} {cap : Nat} {N : List Nd} {K V : Type} {enc : K → Value} {venc : V → Value} {M : List (K × V)} (hB : BuilderAt w B p m a cap N) (hM : MapAt enc venc w mm M) (hne : mm ≠ m) :
    ¬ ((Value.slice a N.length cap).ownBlock = some mm ∨ BB p m mm) := by
  rintro (h | h | h)
  · obtain ⟨c, hc⟩ := own_block hB.own h
    exact map_ne_cells hM hc rfl
  · subst h; exact map_ne_cells hM hB.blk rfl
  · exact hne h

theorem iteF_eq (n : Nat) (s : Is) (f g h : Int) (h1 : ¬ (f = 1 ∨ g = h)) (h0 : ¬ f = 0) (hm : mget s.2 (f, g, h) = none) {r : Is × Int} (hr : iteF (n + 1) s f g h = some r) :
    ∃ s1 low s2 high, iteF n s (partF s.1 f (min3 (topF s.1 f) (topF s.1 g) (topF s.1 h)) false) (partF s.1 g (min3 (topF s.1 f) (topF s.1 g) (topF s.1 h)) false) (partF s.1 h (min3 (topF s.1 f) (topF s.1 g) (topF s.1 h)) false) = some (s1, low) ∧
      iteF n s1 (partF s1.1 f (min3 (topF s.1 f) (topF s.1 g) (topF s.1 h)) true) (partF s1.1 g (min3 (topF s.1 f) (topF s.1 g) (topF s.1 h)) true) (partF s1.1 h (min3 (topF s.1 f) (topF s.1 g) (topF s.1 h)) true) = some (s2, high) ∧
      r = (((numF s2.1 (min3 (topF s.1 f) (topF s.1 g) (topF s.1 h), low, high)).1, mput s2.2 (f, g, h) (numF s2.1 (min3 (topF s.1 f) (topF s.1 g) (topF s.1 h), low, high)).2), (numF s2.1 (min3 (topF s.1 f) (topF s.1 g) (topF s.1 h), low, high)).2) := by
  unfold iteF at hr
  rw [if_neg h1, if_neg h0, hm] at hr
  simp only at hr
  split at hr
  · cases hr
  rename_i s1 low e1
  split at hr
  · cases hr
  rename_i s2 high e2
  simp only [Option.some.injEq] at hr
  exact ⟨s1, low, s2, high, e1, e2, hr.symm⟩

/-- 'm[k] = v' at a loud operation of a drawn region. -/
theorem step_mput {K V : Type} [DecidableEq K] {enc : K → Value} {venc : V → Value} {P : Program} {w : World} {kt et t : TypeId} {ops : Array Oper} {o : Oper} {a : Act} {KK : Act → World → Prop} {Q : Exit → Act → World → Prop} {E : Prop}
    (hg : o.guard = none) (m k x : Operand) (hop : o.op = Op.mapUpdate t m k x) (hK : KeyOK P kt enc) (ht : P.underlying t = some (.map kt et)) (mb : Nat) (M : List (K × V))
    (hm : a.eval m = .map (some mb)) (hM : MapAt enc venc w mb M) (key : K) (hk : a.eval k = enc key) (val : V) (hv : a.eval x = venc val)
    (h : ∀ ob, MapAt enc venc (setObj w mb ob) mb (mput M key val) → KK (a.put o.dst undef) (setObj w mb ob)) : if Region.wanted o (yielded ops a.tmps) = true then Oper.wp P o a w KK Q else E := by
  have hw : Region.wanted o (yielded ops a.tmps) = true := by simp [Region.wanted, hg]
  rw [if_pos hw]
  obtain ⟨ob, hr, h2⟩ := update_run (w := w) hK ht hM key val
  unfold Oper.wp
  simp [execOp, hop, hm, hk, hv, hr, Result.andThen]
  exact h ob h2

/-- What a call of ite keeps besides its blocks. -/
theorem ite_keeps {w w' : World} {B p m mm : Nat} {a a' : Option Addr} {cap cap' : Nat} {N N' : List Nd} {K V : Type} {enc : K → Value} {venc : V → Value} {M : List (K × V)} (hB : BuilderAt w B p m a cap N) (hM : MapAt enc venc w mm M)
    (hG : Grew (fun i => BB p m i ∨ i = mm) w w' (.slice a N.length cap) (.slice a' N'.length cap')) {k : Nat} {cur : Array Value} {T : TypeId} (hk : w.heap[k]? = some (.cells cur T (0, 0))) (h1 : T ≠ 80) (h2 : T ≠ 117) : w'.heap[k]? = some (.cells cur T (0, 0)) := by
  refine hG.1.at hk ?_
  rintro (h | h | h)
  · exact hB.apart hk h1 h2 (.inl h)
  · exact hB.apart hk h1 h2 (.inr h)
  · subst h; exact map_ne_cells hM hk rfl

theorem number_keeps {w w' : World} {B p m : Nat} {a a' : Option Addr} {cap cap' : Nat} {N N' : List Nd} (hB : BuilderAt w B p m a cap N)
    (hG : Grew (fun i => BB p m i ∨ False) w w' (.slice a N.length cap) (.slice a' N'.length cap')) {k : Nat} {cur : Array Value} {T : TypeId} (hk : w.heap[k]? = some (.cells cur T (0, 0))) (h1 : T ≠ 80) (h2 : T ≠ 117) : w'.heap[k]? = some (.cells cur T (0, 0)) := by
  refine hG.1.at hk ?_
  rintro (h | h | h)
  · exact hB.apart hk h1 h2 (.inl h)
  · exact hB.apart hk h1 h2 (.inr h)
  · exact h

theorem number_keeps_map {w w' : World} {B p m mm : Nat} {a a' : Option Addr} {cap cap' : Nat} {N N' : List Nd} {K V : Type} {enc : K → Value} {venc : V → Value} {M : List (K × V)} (hB : BuilderAt w B p m a cap N)
    (hG : Grew (fun i => BB p m i ∨ False) w w' (.slice a N.length cap) (.slice a' N'.length cap')) (hM : MapAt enc venc w mm M) (hne : mm ≠ m) : MapAt enc venc w' mm M := by
  refine hM.of_block (hG.1.block _ hM.lt ?_)
  rintro (h | h | h)
  · exact hB.other_map hM hne (.inl h)
  · exact hB.other_map hM hne (.inr h)
  · exact h

set_option maxRecDepth 100000 in
set_option maxHeartbeats 2000000 in
theorem ite_any (fuel : Nat) : ∀ (B p m mm : Nat) (a : Option Addr) (cap : Nat) (s : Is) (f g h : Int) (s' : Is) (k : Int) (w : World), BuilderAt w B p m a cap s.1 → MapAt ndv (Value.int .i64) w mm s.2 → mm ≠ m →
    VNd s.1 → VM s.1 s.2 → VNum s.1 f → VNum s.1 g → VNum s.1 h → iteF fuel s f g h = some (s', k) → s'.1.length ≤ 100000 →
    Calls Try.prog 50 #[.pointer (some ⟨p, 0, none⟩), .int .i64 f, .int .i64 g, .int .i64 h, .map (some mm)] w (IRet w B p m mm a cap s.1 s' k) := by
  induction fuel with
  | zero => intro B p m mm a cap s f g h s' k w _ _ _ _ _ _ _ _ he; simp [iteF] at he
  | succ fuel ih =>
    intro B p m mm a cap s f g h s' k w hB hM hne hN hVM hf hg hh he hlen
    obtain ⟨N, M⟩ := s
    simp only at hB hM hN hVM hf hg hh ⊢
    have keep : ∀ c : Int, IRet w B p m mm a cap N (N, M) c (.returned (.int .i64 c)) w := fun c => ⟨rfl, a, cap, hB, hM, Grew.refl _ _ _⟩
    by_cases h1 : f = 1 ∨ g = h
    · have e1 : s' = (N, M) ∧ k = g := by
        unfold iteF at he; rw [if_pos h1] at he
        simp only [Option.some.injEq, Prod.mk.injEq] at he; exact ⟨he.1.symm, he.2.symm⟩
      obtain ⟨rfl, rfl⟩ := e1
      replace keep := Lib.hid keep
      by_cases h2 : f = 1
      · have hb : (f == 1) = true := by simpa using h2
        clear he h1 h2 hf hg hh hB hM hN hVM ih
        go_enter Try.func50, Try.ntmps50
        go_wp2_with fail
        go_ret
        exact keep.out _
      · have hb : (f == 1) = false := by simpa using h2
        have hb2 : (k == h) = true := by simpa using h1.resolve_left h2
        clear he h1 h2 hf hg hh hB hM hN hVM ih
        go_enter Try.func50, Try.ntmps50
        go_wp2_with fail
        go_ret
        exact keep.out _
    · by_cases h0 : f = 0
      · have e1 : s' = (N, M) ∧ k = h := by
          unfold iteF at he; rw [if_neg h1, if_pos h0] at he
          simp only [Option.some.injEq, Prod.mk.injEq] at he; exact ⟨he.1.symm, he.2.symm⟩
        obtain ⟨rfl, rfl⟩ := e1
        replace keep := Lib.hid keep
        have hb : (f == 1) = false := by simpa using fun h => h1 (.inl h)
        have hb2 : (g == k) = false := by simpa using fun h => h1 (.inr h)
        have hb3 : (f == 0) = true := by simpa using h0
        clear he h1 h0 hf hg hh hB hM hN hVM ih
        go_enter Try.func50, Try.ntmps50
        go_wp2_with fail
        go_ret
        exact keep.out _
      · have hb : (f == 1) = false := by simpa using fun h => h1 (.inl h)
        have hb2 : (g == h) = false := by simpa using fun h => h1 (.inr h)
        have hb3 : (f == 0) = false := by simpa using h0
        cases hm : mget M (f, g, h) with
        | some u =>
          have e1 : s' = (N, M) ∧ k = u := by
            unfold iteF at he; rw [if_neg h1, if_neg h0, hm] at he
            simp only [Option.some.injEq, Prod.mk.injEq] at he; exact ⟨he.1.symm, he.2.symm⟩
          obtain ⟨rfl, rfl⟩ := e1
          have hl : ∀ o, (Instr.lookup 86 (.map (some mm)) (.agg #[.int .i64 f, .int .i64 g, .int .i64 h]) true).run Try.prog (w.alloc o) = .ok (.tuple #[.int .i64 k, .bool true]) (w.alloc o) :=
            fun o => lookup_hit keyA mapA (hM.of_block (Below.heap_alloc w o mm hM.lt)) hm true
          clear he h1 h0 hf hg hh hN hVM ih hm keep
          replace hB := Lib.hid hB
          replace hM := Lib.hid hM
          go_enter Try.func50, Try.ntmps50
          go_wp2_with fail
          go_ret
          exact ⟨rfl, a, cap, hB.out.same (by repeat (first | exact Fr.refl _ _ | apply Fr.alloc | apply Fr.drewN | apply Fr.drew)), hM.out.of_block (Below.heap_alloc w _ mm hM.out.lt), Grew.of_same _ (by repeat (first | exact Fr.refl _ _ | apply Fr.alloc | apply Fr.drewN | apply Fr.drew))⟩
        | none =>
          obtain ⟨⟨N1, M1⟩, low, ⟨N2, M2⟩, high, e1, e2, hr⟩ := iteF_eq fuel (N, M) f g h h1 h0 hm he
          simp only at e1 e2 hr
          have hf2 : 2 ≤ f := by have := hf.1; omega
          obtain ⟨v, hv⟩ : ∃ v, v = min3 (topF N f) (topF N g) (topF N h) := ⟨_, rfl⟩
          rw [← hv] at e1 e2 hr
          have hv1 : v < 40 := by
            have := (topF_range hN hf).2.2 hf2
            rw [hv]; unfold min3; omega
          have hv0 : 0 ≤ v := by
            have := (topF_range hN hf).1
            have := (topF_range hN hg).1
            have := (topF_range hN hh).1
            rw [hv]; unfold min3; omega
          obtain ⟨a1, a2, a3, a4⟩ := iteF_valid _ _ _ _ _ _ _ e1 hN hVM (partF_valid hN hf hv1) (partF_valid hN hg hv1) (partF_valid hN hh hv1)
          obtain ⟨b1, b2, b3, b4⟩ := iteF_valid _ _ _ _ _ _ _ e2 a1 a2 (partF_valid a1 (hf.mono a4) hv1) (partF_valid a1 (hg.mono a4) hv1) (partF_valid a1 (hh.mono a4) hv1)
          simp only at a1 a2 a3 a4 b1 b2 b3 b4
          have hn := numF_grows N2 (v, low, high)
          simp only [Prod.mk.injEq] at hr
          obtain ⟨rfl, rfl⟩ := hr
          simp only at hlen
          have hne' : mm ≠ m := hne
          have F1 : ∀ W, Same w W → Calls Try.prog 50 #[.pointer (some ⟨p, 0, none⟩), .int .i64 (partF N f v false), .int .i64 (partF N g v false), .int .i64 (partF N h v false), .map (some mm)] W (IRet W B p m mm a cap N (N1, M1) low) :=
            fun W hW => ih B p m mm a cap (N, M) _ _ _ (N1, M1) low W (hB.same hW) (hM.of_block (hW.block _ hM.lt id)) hne hN hVM (partF_valid hN hf hv1) (partF_valid hN hg hv1) (partF_valid hN hh hv1) e1 (by simp only; omega)
          have F2 : ∀ a' cap' W, BuilderAt W B p m a' cap' N1 → MapAt ndv (Value.int .i64) W mm M1 → Calls Try.prog 50 #[.pointer (some ⟨p, 0, none⟩), .int .i64 (partF N1 f v true), .int .i64 (partF N1 g v true), .int .i64 (partF N1 h v true), .map (some mm)] W (IRet W B p m mm a' cap' N1 (N2, M2) high) :=
            fun a' cap' W hB1 hM1 => ih B p m mm a' cap' (N1, M1) _ _ _ (N2, M2) high W hB1 hM1 hne a1 a2 (partF_valid a1 (hf.mono a4) hv1) (partF_valid a1 (hg.mono a4) hv1) (partF_valid a1 (hh.mono a4) hv1) e2 (by simp only; omega)
          have hl : ∀ o, (Instr.lookup 86 (.map (some mm)) (.agg #[.int .i64 f, .int .i64 g, .int .i64 h]) true).run Try.prog (w.alloc o) = .ok (.tuple #[.int .i64 0, .bool false]) (w.alloc o) :=
            fun o => lookup_miss keyA mapA (hM.of_block (Below.heap_alloc w o mm hM.lt)) hm (zeroI _) true
          have q1 := hf.1
          have q2 := hf.2
          have q3 := hg.1
          have q4 := hg.2
          have q5 := hh.1
          have q6 := hh.2
          clear he h1 h0 hf hg hh hN hVM ih hm keep e1 e2 a1 a2 a3 b1 b2 b3
          replace hB := Lib.hid hB
          replace hM := Lib.hid hM
          replace F1 := Lib.hid F1
          replace F2 := Lib.hid F2
          replace hv := Lib.hid hv
          replace hne := Lib.hid hne
          clear hne'
          go_enter Try.func50, Try.ntmps50
          go_wp2_with (first | (go_at_call 77; refine (top_any B p m a cap N _ _ (hB.out.same (by repeat (first | exact Fr.refl _ _ | apply Fr.alloc | apply Fr.drewN | apply Fr.drew))) (by omega) (by omega) (by omega)).mono ?_; rintro e w' ⟨rfl, rfl⟩))
          rw [← hv.out]
          go_wp2_with (first | (go_at_call 78; refine (part_any B p m a cap N _ v _ _ (hB.out.same (by repeat (first | exact Fr.refl _ _ | apply Fr.alloc | apply Fr.drewN | apply Fr.drew))) (by omega) (by omega) (by omega) hv1).mono ?_; rintro e w' ⟨rfl, rfl⟩))
          refine (F1.out _ (by repeat (first | exact Fr.refl _ _ | apply Fr.alloc | apply Fr.drewN | apply Fr.drew))).mono ?_
          rintro e w1 ⟨rfl, a1, cap1, hB1, hM1, hG1⟩
          simp only at hB1 hM1 hG1
          have k1 : w1.heap[w.heap.size]? = some (.cells #[.int .i64 f, .int .i64 g, .int .i64 h] 111 (0, 0)) := ite_keeps (hB.out.same (by repeat (first | exact Fr.refl _ _ | apply Fr.alloc | apply Fr.drewN | apply Fr.drew))) (hM.out.of_block (Below.heap_alloc w _ mm hM.out.lt)) hG1 (heap_new _ _) (by decide) (by decide)
          have g1 : Grew (fun i => BB p m i ∨ i = mm) w w1 (.slice a N.length cap) (.slice a1 N1.length cap1) := (Grew.of_same _ (by repeat (first | exact Fr.refl _ _ | apply Fr.alloc | apply Fr.drewN | apply Fr.drew))).trans hG1
          replace hB1 := Lib.hid hB1
          replace hM1 := Lib.hid hM1
          replace k1 := Lib.hid k1
          replace g1 := Lib.hid g1
          clear hG1 F1 hl
          go_wp2_with (first | (go_at_call 78; refine (part_any B p m a1 cap1 N1 _ v _ _ (hB1.out.same (by repeat (first | exact Fr.refl _ _ | apply Fr.alloc | apply Fr.drewN | apply Fr.drew))) (by omega) (by omega) (by omega) hv1).mono ?_; rintro e w' ⟨rfl, rfl⟩))
          refine (F2.out a1 cap1 _ (hB1.out.same (by repeat (first | exact Fr.refl _ _ | apply Fr.alloc | apply Fr.drewN | apply Fr.drew))) (hM1.out)).mono ?_
          rintro e w2 ⟨rfl, a2, cap2, hB2, hM2, hG2⟩
          simp only at hB2 hM2 hG2
          have k2 : w2.heap[w.heap.size]? = some (.cells #[.int .i64 f, .int .i64 g, .int .i64 h] 111 (0, 0)) := ite_keeps hB1.out hM1.out hG2 k1.out (by decide) (by decide)
          have g2 : Grew (fun i => BB p m i ∨ i = mm) w w2 (.slice a N.length cap) (.slice a2 N2.length cap2) := g1.out.trans hG2
          have c0 := cell_at k2 0
          have c1 := cell_at k2 1
          have c2 := cell_at k2 2
          have cb := lt_of_heap k2
          replace hB2 := Lib.hid hB2
          replace hM2 := Lib.hid hM2
          replace k2 := Lib.hid k2
          replace g2 := Lib.hid g2
          clear hG2 F2 k1 hB1 hM1 g1
          go_wp2_with fail
          refine wp_region_sched (Lk w.heap.size) [0, 1, 0, 0, 0, 0, 0, 2, 3] [0, 2, 3, 4, 5, 6, 1, 7, 8] (by kernel_rfl) (by kernel_rfl) ?_
          repeat (first | (refine sched_w rfl rfl (fun _ hK => ?_); go_simp; refine hK _ ?_; clear hK) | (refine sched_s rfl rfl (fun _ hK => ?_); go_simp; first | (refine hK _ ?_; clear hK) | (refine ⟨_, fun _ => rfl, hK _ ?_⟩; clear hK)))
          refine sched_g rfl rfl (fun _ hK => ?_)
          go_simp
          refine (number_any (fun _ => False) B p m a2 cap2 N2 v low high _ (hB2.out.same (by repeat (first | exact Fr.refl _ _ | apply Fr.alloc | apply Fr.drewN | apply Fr.drew))) (by omega)).mono ?_
          rintro e w3 ⟨rfl, a3, cap3, hB3, hG3⟩
          have k3 : w3.heap[w.heap.size]? = some (.cells #[.int .i64 f, .int .i64 g, .int .i64 h] 111 (0, 0)) := number_keeps (hB2.out.same (by repeat (first | exact Fr.refl _ _ | apply Fr.alloc | apply Fr.drewN | apply Fr.drew))) hG3 k2.out (by decide) (by decide)
          have hM3 : MapAt ndv (Value.int .i64) w3 mm M2 := number_keeps_map (hB2.out.same (by repeat (first | exact Fr.refl _ _ | apply Fr.alloc | apply Fr.drewN | apply Fr.drew))) hG3 hM2.out hne.out
          have g3 : Grew (fun i => BB p m i ∨ i = mm) w w3 (.slice a N.length cap) (.slice a3 (numF N2 (v, low, high)).1.length cap3) := g2.out.trans ((Grew.of_same _ (by repeat (first | exact Fr.refl _ _ | apply Fr.alloc | apply Fr.drewN | apply Fr.drew))).trans ⟨hG3.1.mono (fun i _ h => h.imp id (fun h => .inl (h.resolve_right id))), hG3.2⟩)
          have hKp : Kp (Lk w.heap.size) w2 w3 := ⟨hG3.1.size, fun k hk _ => by rw [show k = w.heap.size from hk, k3, k2.out]⟩
          replace hB3 := Lib.hid hB3
          replace hM3 := Lib.hid hM3
          replace k3 := Lib.hid k3
          replace g3 := Lib.hid g3
          clear hG3 c0 c1 c2 cb
          refine hK _ _ hKp ?_
          clear hK hKp
          try simp only [Act.put, List.setIfInBounds_toArray, List.set_cons_zero, List.set_cons_succ]
          refine sched_l rfl (by decide) (fun _ hK => ?_)
          refine step_mput rfl (.tmp 82) (.tmp 83) (.tmp 89) rfl keyA mapA mm M2 rfl hM3.out (f, g, h) rfl (numF N2 (v, low, high)).2 rfl ?_
          intro ob hM4
          refine hK _ _ ?_
          clear hK
          try simp only [Act.put]
          have k4 : (setObj w3 mm ob).heap[w.heap.size]? = some (.cells #[.int .i64 f, .int .i64 g, .int .i64 h] 111 (0, 0)) := by
            rw [heap_setObj_other (fun e => by rw [← e] at hM3; exact map_ne_cells hM3.out k3.out rfl)]; exact k3.out
          have c0 := cell_at k4 0
          have c1 := cell_at k4 1
          have c2 := cell_at k4 2
          have cb := lt_of_heap k4
          have hl4 : (Instr.lookup 86 (.map (some mm)) (.agg #[.int .i64 f, .int .i64 g, .int .i64 h]) false).run Try.prog (setObj w3 mm ob) = .ok (.int .i64 (numF N2 (v, low, high)).2) (setObj w3 mm ob) :=
            lookup_hit keyA mapA hM4 (k := (f, g, h)) (mget_put_same _ _ _) false
          refine sched_nil (NoPanic.normal ?_)
          clear k4
          replace hM4 := Lib.hid hM4
          go_wp2_with fail
          go_ret
          have hm3 := hB3.out.other_map hM3.out hne.out
          refine ⟨rfl, a3, cap3, hB3.out.fr (S := fun k => k = mm) ((Fr.refl _ _).setObj mm ob (fun _ => rfl)) (fun h => hm3 (.inr (.inl h.symm))) (fun h => hm3 (.inr (.inr h.symm))) (fun k hk h => hm3 (.inl (h ▸ hk))), hM4.out, g3.out.1.setObj mm ob (fun _ => .inr (.inr rfl)), g3.out.2⟩
end Go.Proofs.Ytaebjalpebgliaa
