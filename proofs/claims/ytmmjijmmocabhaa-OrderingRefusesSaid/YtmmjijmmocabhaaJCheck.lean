/- Check walked. The builder: ite. -/
import Derived.Test.YtmmjijmmocabhaaJCheckN
import Derived.Test.YtmmjijmmocabhaaJOrdO
namespace Go.Proofs.Ytmmjijmmocabhaa
open Go.RowKit
set_option linter.unusedVariables false
set_option linter.unusedSimpArgs false

/-- A call of ite on a builder with its memory mm. -/
def IRet (w : World) (B p m mm : Nat) (a : Option Addr) (cap : Nat) (N : List Nd) (s' : Is) (k : Int) (e : Ending) (w' : World) : Prop :=
  e = .returned (.int .i64 k) ∧ ∃ a' cap', BuilderAt w' B p m a' cap' s'.1 ∧ MapAt ndv (Value.int .i64) w' mm s'.2 ∧ Grew (fun i => BB p m i ∨ i = mm) w w' (.slice a N.length cap) (.slice a' s'.1.length cap')

/-- The memory of ite is another map than the builder's, and is kept by number. -/
theorem BuilderAt.other_map {w : World} {B p m mm : Nat} {a : Option Addr} {cap : Nat} {N : List Nd} {K V : Type} {enc : K → Value} {venc : V → Value} {M : List (K × V)} (hB : BuilderAt w B p m a cap N) (hM : MapAt enc venc w mm M) (hne : mm ≠ m) :
    ¬ ((Value.slice a N.length cap).ownBlock = some mm ∨ BB p m mm) := by
  rintro (h | h | h)
  · obtain ⟨c, hc⟩ := own_block hB.own h
    exact map_ne_cells hM hc rfl
  · subst h; exact map_ne_cells hM hB.blk rfl
  · exact hne h

theorem iteF_eq (n : Nat) (s : Is) (f g h : Int) (h1 : ¬ (f = 1 ∨ g = h)) (h0 : ¬ f = 0) (hm : mget s.2 (f, g, h) = none) {r : Is × Int} (hr : iteF (n + 1) s f g h = some r) :
    ∃ s1 low s2 high, iteF n s (partF s.1 f (min3 (topF s.1 f) (topF s.1 g) (topF s.1 h)) false) (partF s.1 g (min3 (topF s.1 f) (topF s.1 g) (topF s.1 h)) false) (partF s.1 h (min3 (topF s.1 f) (topF s.1 g) (topF s.1 h)) false) = some (s1, low) ∧
      iteF n s1 (partF s1.1 f (min3 (topF s.1 f) (topF s.1 g) (topF s.1 h)) true) (partF s1.1 g (min3 (topF s.1 f) (topF s.1 g) (topF s.1 h)) true) (partF s1.1 h (min3 (topF s.1 f) (topF s.1 g) (topF s.1 h)) true) = some (s2, high) ∧
      r = (((numF s2.1 (min3 (topF s.1 f) (topF s.1 g) (topF s.1 h), low, high)).1, mput s2.2 (f, g, h) (numF s2.1 (min3 (topF s.1 f) (topF s.1 g) (topF s.1 h), low, high)).2), (numF s2.1 (min3 (topF s.1 f) (topF s.1 g) (topF s.1 h), low, high)).2) := by
  unfold iteF at hr
  rw [if_neg h1, if_neg h0, hm] at hr
  simp only at hr
  split at hr
  · cases hr
  rename_i s1 low e1
  split at hr
  · cases hr
  rename_i s2 high e2
  simp only [Option.some.injEq] at hr
  exact ⟨s1, low, s2, high, e1, e2, hr.symm⟩

/-- 'm[k] = v' at a loud operation of a drawn region. -/
theorem step_mput {K V : Type} [DecidableEq K] {enc : K → Value} {venc : V → Value} {P : Program} {w : World} {kt et t : TypeId} {ops : Array Oper} {o : Oper} {a : Act} {KK : Act → World → Prop} {Q : Exit → Act → World → Prop} {E : Prop}
    (hg : o.guard = none) (m k x : Operand) (hop : o.op = Op.mapUpdate t m k x) (hK : KeyOK P kt enc) (ht : P.underlying t = some (.map kt et)) (mb : Nat) (M : List (K × V))
    (hm : a.eval m = .map (some mb)) (hM : MapAt enc venc w mb M) (key : K) (hk : a.eval k = enc key) (val : V) (hv : a.eval x = venc val)
    (h : ∀ ob, MapAt enc venc (setObj w mb ob) mb (mput M key val) → KK (a.put o.dst undef) (setObj w mb ob)) : if Region.wanted o (yielded ops a.tmps) = true then Oper.wp P o a w KK Q else E := by
  have hw : Region.wanted o (yielded ops a.tmps) = true := by simp [Region.wanted, hg]
  rw [if_pos hw]
  obtain ⟨ob, hr, h2⟩ := update_run (w := w) hK ht hM key val
  unfold Oper.wp
  simp [execOp, hop, hm, hk, hv, hr, Result.andThen]
  exact h ob h2

/-- What a call of ite keeps besides its blocks. -/
theorem ite_keeps {w w' : World} {B p m mm : Nat} {a a' : Option Addr} {cap cap' : Nat} {N N' : List Nd} {K V : Type} {enc : K → Value} {venc : V → Value} {M : List (K × V)} (hB : BuilderAt w B p m a cap N) (hM : MapAt enc venc w mm M)
    (hG : Grew (fun i => BB p m i ∨ i = mm) w w' (.slice a N.length cap) (.slice a' N'.length cap')) {k : Nat} {cur : Array Value} {T : TypeId} (hk : w.heap[k]? = some (.cells cur T (0, 0))) (h1 : T ≠ 94) (h2 : T ≠ 124) : w'.heap[k]? = some (.cells cur T (0, 0)) := by
  refine hG.1.at hk ?_
  rintro (h | h | h)
  · exact hB.apart hk h1 h2 (.inl h)
  · exact hB.apart hk h1 h2 (.inr h)
  · subst h; exact map_ne_cells hM hk rfl

theorem number_keeps {w w' : World} {B p m : Nat} {a a' : Option Addr} {cap cap' : Nat} {N N' : List Nd} (hB : BuilderAt w B p m a cap N)
    (hG : Grew (fun i => BB p m i ∨ False) w w' (.slice a N.length cap) (.slice a' N'.length cap')) {k : Nat} {cur : Array Value} {T : TypeId} (hk : w.heap[k]? = some (.cells cur T (0, 0))) (h1 : T ≠ 94) (h2 : T ≠ 124) : w'.heap[k]? = some (.cells cur T (0, 0)) := by
  refine hG.1.at hk ?_
  rintro (h | h | h)
  · exact hB.apart hk h1 h2 (.inl h)
  · exact hB.apart hk h1 h2 (.inr h)
  · exact h

theorem number_keeps_map {w w' : World} {B p m mm : Nat} {a a' : Option Addr} {cap cap' : Nat} {N N' : List Nd} {K V : Type} {enc : K → Value} {venc : V → Value} {M : List (K × V)} (hB : BuilderAt w B p m a cap N)
    (hG : Grew (fun i => BB p m i ∨ False) w w' (.slice a N.length cap) (.slice a' N'.length cap')) (hM : MapAt enc venc w mm M) (hne : mm ≠ m) : MapAt enc venc w' mm M := by
  refine hM.of_block (hG.1.block _ hM.lt ?_)
  rintro (h | h | h)
  · exact hB.other_map hM hne (.inl h)
  · exact hB.other_map hM hne (.inr h)
  · exact h

set_option maxRecDepth 100000 in
set_option maxHeartbeats 2000000 in
theorem ite_any (fuel : Nat) : ∀ (B p m mm : Nat) (a : Option Addr) (cap : Nat) (s : Is) (f g h : Int) (s' : Is) (k : Int) (w : World), BuilderAt w B p m a cap s.1 → MapAt ndv (Value.int .i64) w mm s.2 → mm ≠ m →
    VNd s.1 → VM s.1 s.2 → VNum s.1 f → VNum s.1 g → VNum s.1 h → iteF fuel s f g h = some (s', k) → s'.1.length ≤ 100000 →
    Calls Try.prog 88 #[.pointer (some ⟨p, 0, none⟩), .int .i64 f, .int .i64 g, .int .i64 h, .map (some mm)] w (IRet w B p m mm a cap s.1 s' k) := by
  induction fuel with
  | zero => intro B p m mm a cap s f g h s' k w _ _ _ _ _ _ _ _ he; simp [iteF] at he
  | succ fuel ih =>
    intro B p m mm a cap s f g h s' k w hB hM hne hN hVM hf hg hh he hlen
    obtain ⟨N, M⟩ := s
    simp only at hB hM hN hVM hf hg hh ⊢
    have keep : ∀ c : Int, IRet w B p m mm a cap N (N, M) c (.returned (.int .i64 c)) w := fun c => ⟨rfl, a, cap, hB, hM, Grew.refl _ _ _⟩
    by_cases h1 : f = 1 ∨ g = h
    · have e1 : s' = (N, M) ∧ k = g := by
        unfold iteF at he; rw [if_pos h1] at he
        simp only [Option.some.injEq, Prod.mk.injEq] at he; exact ⟨he.1.symm, he.2.symm⟩
      obtain ⟨rfl, rfl⟩ := e1
      replace keep := Lib.hid keep
      by_cases h2 : f = 1
      · have hb : (f == 1) = true := by simpa using h2
        clear he h1 h2 hf hg hh hB hM hN hVM ih
        go_enter Try.func88, Try.ntmps88
        go_wp2_with fail
        go_ret
        exact keep.out _
      · have hb : (f == 1) = false := by simpa using h2
        have hb2 : (k == h) = true := by simpa using h1.resolve_left h2
        clear he h1 h2 hf hg hh hB hM hN hVM ih
        go_enter Try.func88, Try.ntmps88
        go_wp2_with fail
        go_ret
        exact keep.out _
    · by_cases h0 : f = 0
      · have e1 : s' = (N, M) ∧ k = h := by
          unfold iteF at he; rw [if_neg h1, if_pos h0] at he
          simp only [Option.some.injEq, Prod.mk.injEq] at he; exact ⟨he.1.symm, he.2.symm⟩
        obtain ⟨rfl, rfl⟩ := e1
        replace keep := Lib.hid keep
        have hb : (f == 1) = false := by simpa using fun h => h1 (.inl h)
        have hb2 : (g == k) = false := by simpa using fun h => h1 (.inr h)
        have hb3 : (f == 0) = true := by simpa using h0
        clear he h1 h0 hf hg hh hB hM hN hVM ih
        go_enter Try.func88, Try.ntmps88
        go_wp2_with fail
        go_ret
        exact keep.out _
      · have hb : (f == 1) = false := by simpa using fun h => h1 (.inl h)
        have hb2 : (g == h) = false := by simpa using fun h => h1 (.inr h)
        have hb3 : (f == 0) = false := by simpa using h0
        cases hm : mget M (f, g, h) with
        | some u =>
          have e1 : s' = (N, M) ∧ k = u := by
            unfold iteF at he; rw [if_neg h1, if_neg h0, hm] at he
            simp only [Option.some.injEq, Prod.mk.injEq] at he; exact ⟨he.1.symm, he.2.symm⟩
          obtain ⟨rfl, rfl⟩ := e1
          have hl : ∀ o, (Instr.lookup 135 (.map (some mm)) (.agg #[.int .i64 f, .int .i64 g, .int .i64 h]) true).run Try.prog (w.alloc o) = .ok (.tuple #[.int .i64 k, .bool true]) (w.alloc o) :=
            fun o => lookup_hit keyA mapA (hM.of_block (Below.heap_alloc w o mm hM.lt)) hm true
          clear he h1 h0 hf hg hh hN hVM ih hm keep
          replace hB := Lib.hid hB
          replace hM := Lib.hid hM
          go_enter Try.func88, Try.ntmps88
          go_wp2_with fail
          go_ret
          exact ⟨rfl, a, cap, hB.out.same (by repeat (first | exact Fr.refl _ _ | apply Fr.alloc | apply Fr.drewN | apply Fr.drew)), hM.out.of_block (Below.heap_alloc w _ mm hM.out.lt), Grew.of_same _ (by repeat (first | exact Fr.refl _ _ | apply Fr.alloc | apply Fr.drewN | apply Fr.drew))⟩
        | none =>
          obtain ⟨⟨N1, M1⟩, low, ⟨N2, M2⟩, high, e1, e2, hr⟩ := iteF_eq fuel (N, M) f g h h1 h0 hm he
          simp only at e1 e2 hr
          have hf2 : 2 ≤ f := by have := hf.1; omega
          obtain ⟨v, hv⟩ : ∃ v, v = min3 (topF N f) (topF N g) (topF N h) := ⟨_, rfl⟩
          rw [← hv] at e1 e2 hr
          have hv1 : v < 40 := by
            have := (topF_range hN hf).2.2 hf2
            rw [hv]; unfold min3; omega
          have hv0 : 0 ≤ v := by
            have := (topF_range hN hf).1
            have := (topF_range hN hg).1
            have := (topF_range hN hh).1
            rw [hv]; unfold min3; omega
          obtain ⟨a1, a2, a3, a4⟩ := iteF_valid _ _ _ _ _ _ _ e1 hN hVM (partF_valid hN hf hv1) (partF_valid hN hg hv1) (partF_valid hN hh hv1)
          obtain ⟨b1, b2, b3, b4⟩ := iteF_valid _ _ _ _ _ _ _ e2 a1 a2 (partF_valid a1 (hf.mono a4) hv1) (partF_valid a1 (hg.mono a4) hv1) (partF_valid a1 (hh.mono a4) hv1)
          simp only at a1 a2 a3 a4 b1 b2 b3 b4
          have hn := numF_grows N2 (v, low, high)
          simp only [Prod.mk.injEq] at hr
          obtain ⟨rfl, rfl⟩ := hr
          simp only at hlen
          have hne' : mm ≠ m := hne
          have F1 : ∀ W, Same w W → Calls Try.prog 88 #[.pointer (some ⟨p, 0, none⟩), .int .i64 (partF N f v false), .int .i64 (partF N g v false), .int .i64 (partF N h v false), .map (some mm)] W (IRet W B p m mm a cap N (N1, M1) low) :=
            fun W hW => ih B p m mm a cap (N, M) _ _ _ (N1, M1) low W (hB.same hW) (hM.of_block (hW.block _ hM.lt id)) hne hN hVM (partF_valid hN hf hv1) (partF_valid hN hg hv1) (partF_valid hN hh hv1) e1 (by simp only; omega)
          have F2 : ∀ a' cap' W, BuilderAt W B p m a' cap' N1 → MapAt ndv (Value.int .i64) W mm M1 → Calls Try.prog 88 #[.pointer (some ⟨p, 0, none⟩), .int .i64 (partF N1 f v true), .int .i64 (partF N1 g v true), .int .i64 (partF N1 h v true), .map (some mm)] W (IRet W B p m mm a' cap' N1 (N2, M2) high) :=
            fun a' cap' W hB1 hM1 => ih B p m mm a' cap' (N1, M1) _ _ _ (N2, M2) high W hB1 hM1 hne a1 a2 (partF_valid a1 (hf.mono a4) hv1) (partF_valid a1 (hg.mono a4) hv1) (partF_valid a1 (hh.mono a4) hv1) e2 (by simp only; omega)
          have hl : ∀ o, (Instr.lookup 135 (.map (some mm)) (.agg #[.int .i64 f, .int .i64 g, .int .i64 h]) true).run Try.prog (w.alloc o) = .ok (.tuple #[.int .i64 0, .bool false]) (w.alloc o) :=
            fun o => lookup_miss keyA mapA (hM.of_block (Below.heap_alloc w o mm hM.lt)) hm (zeroI _) true
          have q1 := hf.1
          have q2 := hf.2
          have q3 := hg.1
          have q4 := hg.2
          have q5 := hh.1
          have q6 := hh.2
          clear he h1 h0 hf hg hh hN hVM ih hm keep e1 e2 a1 a2 a3 b1 b2 b3
          replace hB := Lib.hid hB
          replace hM := Lib.hid hM
          replace F1 := Lib.hid F1
          replace F2 := Lib.hid F2
          replace hv := Lib.hid hv
          replace hne := Lib.hid hne
          clear hne'
          go_enter Try.func88, Try.ntmps88
          go_wp2_with (first | (go_at_call 95; refine (top_any B p m a cap N _ _ (hB.out.same (by repeat (first | exact Fr.refl _ _ | apply Fr.alloc | apply Fr.drewN | apply Fr.drew))) (by omega) (by omega) (by omega)).mono ?_; rintro e w' ⟨rfl, rfl⟩))
          rw [← hv.out]
          go_wp2_with (first | (go_at_call 96; refine (part_any B p m a cap N _ v _ _ (hB.out.same (by repeat (first | exact Fr.refl _ _ | apply Fr.alloc | apply Fr.drewN | apply Fr.drew))) (by omega) (by omega) (by omega) hv1).mono ?_; rintro e w' ⟨rfl, rfl⟩))
          refine (F1.out _ (by repeat (first | exact Fr.refl _ _ | apply Fr.alloc | apply Fr.drewN | apply Fr.drew))).mono ?_
          rintro e w1 ⟨rfl, a1, cap1, hB1, hM1, hG1⟩
          simp only at hB1 hM1 hG1
          have k1 : w1.heap[w.heap.size]? = some (.cells #[.int .i64 f, .int .i64 g, .int .i64 h] 143 (0, 0)) := ite_keeps (hB.out.same (by repeat (first | exact Fr.refl _ _ | apply Fr.alloc | apply Fr.drewN | apply Fr.drew))) (hM.out.of_block (Below.heap_alloc w _ mm hM.out.lt)) hG1 (heap_new _ _) (by decide) (by decide)
          have g1 : Grew (fun i => BB p m i ∨ i = mm) w w1 (.slice a N.length cap) (.slice a1 N1.length cap1) := (Grew.of_same _ (by repeat (first | exact Fr.refl _ _ | apply Fr.alloc | apply Fr.drewN | apply Fr.drew))).trans hG1
          replace hB1 := Lib.hid hB1
          replace hM1 := Lib.hid hM1
          replace k1 := Lib.hid k1
          replace g1 := Lib.hid g1
          clear hG1 F1 hl
          go_wp2_with (first | (go_at_call 96; refine (part_any B p m a1 cap1 N1 _ v _ _ (hB1.out.same (by repeat (first | exact Fr.refl _ _ | apply Fr.alloc | apply Fr.drewN | apply Fr.drew))) (by omega) (by omega) (by omega) hv1).mono ?_; rintro e w' ⟨rfl, rfl⟩))
          refine (F2.out a1 cap1 _ (hB1.out.same (by repeat (first | exact Fr.refl _ _ | apply Fr.alloc | apply Fr.drewN | apply Fr.drew))) (hM1.out)).mono ?_
          rintro e w2 ⟨rfl, a2, cap2, hB2, hM2, hG2⟩
          simp only at hB2 hM2 hG2
          have k2 : w2.heap[w.heap.size]? = some (.cells #[.int .i64 f, .int .i64 g, .int .i64 h] 143 (0, 0)) := ite_keeps hB1.out hM1.out hG2 k1.out (by decide) (by decide)
          have g2 : Grew (fun i => BB p m i ∨ i = mm) w w2 (.slice a N.length cap) (.slice a2 N2.length cap2) := g1.out.trans hG2
          have c0 := cell_at k2 0
          have c1 := cell_at k2 1
          have c2 := cell_at k2 2
          have cb := lt_of_heap k2
          replace hB2 := Lib.hid hB2
          replace hM2 := Lib.hid hM2
          replace k2 := Lib.hid k2
          replace g2 := Lib.hid g2
          clear hG2 F2 k1 hB1 hM1 g1
          go_wp2_with fail
          refine wp_region_sched (Lk w.heap.size) [0, 1, 0, 0, 0, 0, 0, 2, 3] [0, 2, 3, 4, 5, 6, 1, 7, 8] (by kernel_rfl) (by kernel_rfl) ?_
          repeat (first | (refine sched_w rfl rfl (fun _ hK => ?_); go_simp; refine hK _ ?_; clear hK) | (refine sched_s rfl rfl (fun _ hK => ?_); go_simp; first | (refine hK _ ?_; clear hK) | (refine ⟨_, fun _ => rfl, hK _ ?_⟩; clear hK)))
          refine sched_g rfl rfl (fun _ hK => ?_)
          go_simp
          refine (number_any (fun _ => False) B p m a2 cap2 N2 v low high _ (hB2.out.same (by repeat (first | exact Fr.refl _ _ | apply Fr.alloc | apply Fr.drewN | apply Fr.drew))) (by omega)).mono ?_
          rintro e w3 ⟨rfl, a3, cap3, hB3, hG3⟩
          have k3 : w3.heap[w.heap.size]? = some (.cells #[.int .i64 f, .int .i64 g, .int .i64 h] 143 (0, 0)) := number_keeps (hB2.out.same (by repeat (first | exact Fr.refl _ _ | apply Fr.alloc | apply Fr.drewN | apply Fr.drew))) hG3 k2.out (by decide) (by decide)
          have hM3 : MapAt ndv (Value.int .i64) w3 mm M2 := number_keeps_map (hB2.out.same (by repeat (first | exact Fr.refl _ _ | apply Fr.alloc | apply Fr.drewN | apply Fr.drew))) hG3 hM2.out hne.out
          have g3 : Grew (fun i => BB p m i ∨ i = mm) w w3 (.slice a N.length cap) (.slice a3 (numF N2 (v, low, high)).1.length cap3) := g2.out.trans ((Grew.of_same _ (by repeat (first | exact Fr.refl _ _ | apply Fr.alloc | apply Fr.drewN | apply Fr.drew))).trans ⟨hG3.1.mono (fun i _ h => h.imp id (fun h => .inl (h.resolve_right id))), hG3.2⟩)
          have hKp : Kp (Lk w.heap.size) w2 w3 := ⟨hG3.1.size, fun k hk _ => by rw [show k = w.heap.size from hk, k3, k2.out]⟩
          replace hB3 := Lib.hid hB3
          replace hM3 := Lib.hid hM3
          replace k3 := Lib.hid k3
          replace g3 := Lib.hid g3
          clear hG3 c0 c1 c2 cb
          refine hK _ _ hKp ?_
          clear hK hKp
          try simp only [Act.put, List.setIfInBounds_toArray, List.set_cons_zero, List.set_cons_succ]
          refine sched_l rfl (by decide) (fun _ hK => ?_)
          refine step_mput rfl (.tmp 82) (.tmp 83) (.tmp 89) rfl keyA mapA mm M2 rfl hM3.out (f, g, h) rfl (numF N2 (v, low, high)).2 rfl ?_
          intro ob hM4
          refine hK _ _ ?_
          clear hK
          try simp only [Act.put]
          have k4 : (setObj w3 mm ob).heap[w.heap.size]? = some (.cells #[.int .i64 f, .int .i64 g, .int .i64 h] 143 (0, 0)) := by
            rw [heap_setObj_other (fun e => by rw [← e] at hM3; exact map_ne_cells hM3.out k3.out rfl)]; exact k3.out
          have c0 := cell_at k4 0
          have c1 := cell_at k4 1
          have c2 := cell_at k4 2
          have cb := lt_of_heap k4
          have hl4 : (Instr.lookup 135 (.map (some mm)) (.agg #[.int .i64 f, .int .i64 g, .int .i64 h]) false).run Try.prog (setObj w3 mm ob) = .ok (.int .i64 (numF N2 (v, low, high)).2) (setObj w3 mm ob) :=
            lookup_hit keyA mapA hM4 (k := (f, g, h)) (mget_put_same _ _ _) false
          refine sched_nil (NoPanic.normal ?_)
          clear k4
          replace hM4 := Lib.hid hM4
          go_wp2_with fail
          go_ret
          have hm3 := hB3.out.other_map hM3.out hne.out
          refine ⟨rfl, a3, cap3, hB3.out.fr (S := fun k => k = mm) ((Fr.refl _ _).setObj mm ob (fun _ => rfl)) (fun h => hm3 (.inr (.inl h.symm))) (fun h => hm3 (.inr (.inr h.symm))) (fun k hk h => hm3 (.inl (h ▸ hk))), hM4.out, g3.out.1.setObj mm ob (fun _ => .inr (.inr rfl)), g3.out.2⟩
end Go.Proofs.Ytmmjijmmocabhaa
namespace Go.Proofs.Ytmmjijmmocabhaa
open Go.RowKit
set_option linter.unusedVariables false
set_option linter.unusedSimpArgs false

/-- The loop of Check over its nodes, ahead of node k. -/
structure CheckRel (w : World) (n r : Int) (aL : Option Addr) (capL : Nat) (L : List Nd) (box mb : Nat) (k : Nat) (wr : World) : Prop where
  le : k ≤ L.length
  err : firstErr n L L.length 0 = firstErr n L (L.length - k) k
  map : ∃ M : List (Nd × Bool), MapAt ndv Value.bool wr mb M ∧ (∀ y u, mget M y = some u → u = true) ∧ ∀ y, (mget M y).isSome = decide (y ∈ L.take k)
  bx : wr.heap[box]? = some (.cells #[.int .i64 n, .slice aL L.length capL, .int .i64 r] 45 (0, 0))
  same : Same w wr
  mbw : w.heap.size ≤ mb

theorem CheckRel.next {w : World} {n r : Int} {aL : Option Addr} {capL : Nat} {L : List Nd} {box mb k : Nat} {wr W : World} {ob : Obj} {M : List (Nd × Bool)} (h : CheckRel w n r aL capL L box mb k wr) (hk : k < L.length) (hs : Same wr W)
    (hM : MapAt ndv Value.bool W mb M) (h1 : ∀ y u, mget M y = some u → u = true) (h2 : ∀ y, (mget M y).isSome = decide (y ∈ L.take k)) (h0 : checkNodeF n L k L[k] (decide (L[k] ∈ L.take k)) = 0)
    (hM' : MapAt ndv Value.bool (setObj W mb ob) mb (mput M L[k] true)) : CheckRel w n r aL capL L box mb (k + 1) (setObj W mb ob) := by
  have hbx := hs.at h.bx id
  refine ⟨hk, ?_, ⟨_, hM', fun y u hy => ?_, fun y => ?_⟩, ?_, ?_, h.mbw⟩
  · rw [h.err]
    have : L.length - k = (L.length - (k + 1)) + 1 := by omega
    rw [this]
    conv => lhs; unfold firstErr
    rw [if_neg]
    simp only [List.getD, List.getElem?_eq_getElem hk, Option.getD_some]
    simpa using h0
  · rw [mget_put] at hy
    split at hy
    · exact (Option.some.inj hy).symm
    · exact h1 y u hy
  · rw [mget_put, List.take_succ_eq_append_getElem hk]
    split
    · rename_i hy; subst hy; simp only [Option.isSome_some, List.mem_append, List.mem_singleton, or_true, decide_true]
    · rename_i hy
      rw [h2 y]
      simp only [List.mem_append, List.mem_singleton, hy, or_false]
  · rw [heap_setObj_other]
    · exact hbx
    · intro e
      rw [e] at hbx
      exact map_ne_cells hM hbx rfl
  · exact (h.same.same hs).setObj mb ob (fun hlt => by have := h.mbw; omega)

theorem CheckRel.hit {w : World} {n r : Int} {aL : Option Addr} {capL : Nat} {L : List Nd} {box mb k : Nat} {wr : World} (h : CheckRel w n r aL capL L box mb k wr) (hk : k < L.length) (h0 : checkNodeF n L k L[k] (decide (L[k] ∈ L.take k)) ≠ 0) :
    firstErr n L L.length 0 = checkNodeF n L k L[k] (decide (L[k] ∈ L.take k)) := by
  rw [h.err]
  have : L.length - k = (L.length - (k + 1)) + 1 := by omega
  rw [this]
  unfold firstErr
  simp only [List.getD, List.getElem?_eq_getElem hk, Option.getD_some]
  rw [if_pos h0]

theorem CheckRel.done {w : World} {n r : Int} {aL : Option Addr} {capL : Nat} {L : List Nd} {box mb k : Nat} {wr : World} (h : CheckRel w n r aL capL L box mb k wr) (hk : ¬ k < L.length) : firstErr n L L.length 0 = 0 := by
  rw [h.err]
  have : L.length - k = 0 := by omega
  rw [this]
  rfl

theorem node_cells {w : World} {a : Option Addr} {cap : Nat} {L : List Nd} (hL : SliceAt w 94 3 (.slice a L.length cap) L.length (ndCells L)) {k : Nat} (hk : k < L.length) :
    ∃ b off, a = some ⟨b, off, none⟩ ∧ b < w.heap.size ∧ w.cell? ⟨b, off + k * 3, none⟩ = some (.int .i64 L[k].1) ∧ w.cell? ⟨b, off + k * 3 + 1, none⟩ = some (.int .i64 L[k].2.1) ∧ w.cell? ⟨b, off + k * 3 + 2, none⟩ = some (.int .i64 L[k].2.2) := hL.node hk

/-- A call on a builder from base B keeps all below B. -/
theorem Grew.same_base {w0 w w' : World} {B p m : Nat} {a : Option Addr} {cap : Nat} {N : List Nd} {v' : Value} (hB : BuilderAt w B p m a cap N) (hg : Grew (fun i => BB p m i ∨ False) w w' (.slice a N.length cap) v') (h0 : Same w0 w) (hw : w0.heap.size ≤ B) : Same w0 w' := by
  have hg' : Grew (BB p m) w w' (.slice a N.length cap) v' := ⟨hg.1.mono (fun i _ h => h.imp id (fun h => h.resolve_right id)), hg.2⟩
  exact ⟨hg.1.os.trans h0.os, hg.1.tape.trans h0.tape, hg.1.output.trans h0.output, Nat.le_trans h0.size hg.1.size, fun k hk _ => (hg'.below hB (by omega)).trans (h0.block k hk id)⟩

theorem lit_own_below {w : World} {T : TypeId} {sz n : Nat} {a : Option Addr} {cap : Nat} {cells : List Value} (h : SliceAt w T sz (.slice a n cap) n cells) (hn : 0 < n) : ∀ k, (Value.slice a n cap).ownBlock = some k → k < w.heap.size := by
  obtain ⟨b, off, rfl, hb, _⟩ := h.cell hn
  intro k hk
  simp [Value.ownBlock] at hk
  omega

theorem stored3 {w : World} {b : Nat} {x y z a c d : Value} {T : TypeId} (h : w.heap[b]? = some (.cells #[x, y, z] T (0, 0))) :
    (((w.setCell ⟨b, 0, none⟩ a).setCell ⟨b, 1, none⟩ c).setCell ⟨b, 2, none⟩ d).heap[b]? = some (.cells #[a, c, d] T (0, 0)) := by
  simpa using heap_setCell_same (heap_setCell_same (heap_setCell_same h 0 a) 1 c) 2 d

theorem stored3_fr {w : World} {b : Nat} {a c d : Value} : Fr (fun k => k = b) w (((w.setCell ⟨b, 0, none⟩ a).setCell ⟨b, 1, none⟩ c).setCell ⟨b, 2, none⟩ d) :=
  (((Fr.refl (fun k => k = b) w).setCell ⟨b, 0, none⟩ a (fun _ => rfl)).setCell ⟨b, 1, none⟩ c (fun _ => rfl)).setCell ⟨b, 2, none⟩ d (fun _ => rfl)

set_option maxRecDepth 100000 in
set_option maxHeartbeats 2000000 in
theorem check_nds (n r : Int) (aL : Option Addr) (capL : Nat) (L : List Nd) (w : World) (hL : NodesAt w aL L capL) (hlen : L.length ≤ 100000) (O : List Nd) (q : Int)
    (hvis : n ≤ 40 → L.length ≤ 16384 → firstErr n L L.length 0 = 0 → 0 ≤ r → r < L.length + 2 → ∃ fuel s', visitF (addF L ([], [0, 1])).1 fuel start ((addF L ([], [0, 1])).2.getD r.toNat 0) = some (s', q) ∧ s'.1 = O ∧ O.length ≤ 16384) :
    Calls Try.prog 45 #[.agg #[.int .i64 n, .slice aL L.length capL, .int .i64 r]] w fun e w' => e = .returned (.int .i64 (checkF n L r O q)) ∧ Same w w' := by
  have hmm := @run_makeMap Try.prog
  replace hL := Lib.hid hL
  replace hvis := Lib.hid hvis
  by_cases h1 : n < 0 ∨ 40 < n
  · have e1 : checkF n L r O q = 2 := by unfold checkF; rw [if_pos h1]
    rw [e1]
    clear e1 hmm
    rcases h1 with h1 | h1
    · go_enter Try.func45, Try.ntmps45
      go_wp2_with fail
      go_ret
      exact ⟨rfl, (by repeat (first | exact Fr.refl _ _ | apply Fr.alloc | apply Fr.drewN | apply Fr.drew))⟩
    · have h2 : ¬ n < 0 := by omega
      go_enter Try.func45, Try.ntmps45
      go_wp2_with fail
      go_ret
      exact ⟨rfl, (by repeat (first | exact Fr.refl _ _ | apply Fr.alloc | apply Fr.drewN | apply Fr.drew))⟩
  have n0 : ¬ n < 0 := by omega
  have n1 : ¬ 40 < n := by omega
  by_cases h2 : 16384 < L.length
  · have e1 : checkF n L r O q = 3 := by unfold checkF; rw [if_neg h1, if_pos h2]
    rw [e1]
    have h2' : (16384 : Int) < L.length := by omega
    clear e1 hmm h1
    go_enter Try.func45, Try.ntmps45
    go_wp2_with fail
    go_ret
    exact ⟨rfl, (by repeat (first | exact Fr.refl _ _ | apply Fr.alloc | apply Fr.drewN | apply Fr.drew))⟩
  have eF : checkF n L r O q = if firstErr n L L.length 0 ≠ 0 then firstErr n L L.length 0 else if r < 0 ∨ (L.length : Int) + 1 < r then 2 else if r = q ∧ L = O then 0 else 6 := by
    unfold checkF; rw [if_neg h1, if_neg h2]
  have h2' : ¬ (16384 : Int) < L.length := by omega
  have h2'' : L.length ≤ 16384 := by omega
  clear h1 h2
  replace h2'' := Lib.hid h2''
  obtain ⟨R, hR⟩ : ∃ R, R = checkF n L r O q := ⟨_, rfl⟩
  rw [← hR] at eF ⊢
  clear hR
  replace eF := Lib.hid eF
  go_enter Try.func45, Try.ntmps45
  go_wp2_with fail
  go_loopw [27] (fun i wr => ∃ k : Nat, i = .int .i64 k ∧ CheckRel w n r aL capL L w.heap.size (w.heap.size + 1) k wr) (fun i _ => L.length - (intOf i).toNat)
  case atStart =>
    refine ⟨0, rfl, Nat.zero_le _, rfl, ⟨[], mapAt_made_at (by simp), fun y u h => by simp [mget] at h, fun y => by simp [mget]⟩, heap_old (heap_new _ _) _, (by repeat (first | exact Fr.refl _ _ | apply Fr.alloc | apply Fr.drewN | apply Fr.drew)), by omega⟩
  case round =>
    obtain ⟨k, rfl, hrel⟩ := hrel
    have hkl := hrel.le
    have c0 := cell_at hrel.bx 0
    have c1 := cell_at hrel.bx 1
    have c2 := cell_at hrel.bx 2
    have cb := lt_of_heap hrel.bx
    replace hrel := Lib.hid hrel
    by_cases hlt : k < L.length
    · obtain ⟨M, hM, hM1, hM2⟩ := hrel.out.map
      replace hM := Lib.hid hM
      replace hM1 := Lib.hid hM1
      replace hM2 := Lib.hid hM2
      go_wp2_with fail
      refine (checkNode_nds n r aL capL L _ (hL.out.same (hrel.out.same)) hlen k hlt _ M hM.out hM1.out).mono ?_
      rintro e w1 ⟨rfl, hs1⟩
      rw [hM2.out L[k]]
      obtain ⟨E, hE⟩ : ∃ E, E = checkNodeF n L k L[k] (decide (L[k] ∈ L.take k)) := ⟨_, rfl⟩
      rw [← hE]
      replace hE := Lib.hid hE
      replace hs1 := Lib.hid hs1
      by_cases h0 : E = 0
      · subst h0
        have k1 := hs1.out.at hrel.out.bx id
        have c0 := cell_at k1 0
        have c1 := cell_at k1 1
        have c2 := cell_at k1 2
        have cb := lt_of_heap k1
        obtain ⟨b, off, ha, hb, x0, x1, x2⟩ := (hL.out.same (hrel.out.same.same hs1.out)).node hlt
        have hM' := hM.out.of_block (hs1.out.block _ hM.out.lt id)
        replace hM' := Lib.hid hM'
        clear k1
        subst ha
        go_upto_region 12 with fail
        refine wp_region_lit ?_
        refine wpList_step (fun K hK => ?_); go_simp; refine hK _ _ ?_; clear hK
        refine wpList_step (fun K hK => ?_); go_simp; refine hK _ _ ?_; clear hK
        refine wpList_step (fun K hK => ?_); go_simp; refine hK _ _ ?_; clear hK
        refine wpList_step (fun K hK => ?_); go_simp; refine hK _ _ ?_; clear hK
        refine wpList_step (fun K hK => ?_); go_simp; refine hK _ _ ?_; clear hK
        refine wpList_step (fun K hK => ?_); go_simp; refine hK _ _ ?_; clear hK
        refine wpList_mput rfl (.tmp 37) (.tmp 42) (.const (.bool true)) rfl keyB mapBb (w.heap.size + 1) M rfl hM'.out L[k] rfl true rfl ?_
        intro ob hob
        have hnext := hrel.out.next hlt hs1.out hM'.out hM1.out hM2.out hE.out.symm hob
        replace hnext := Lib.hid hnext
        clear hob
        simp only [Act.put]
        go_wp2_with fail
        go_roundw
        case rel => exact ⟨k + 1, by go_num, hnext.out⟩
        case measure => simp [intOf]; omega
      · have hb : (E != 0) = true := by simpa using h0
        have hx := hrel.out.hit hlt (by rw [← hE.out]; exact h0)
        rw [← hE.out] at hx
        replace h0 := Lib.hid h0
        replace hx := Lib.hid hx
        go_wp2_with fail
        go_ret
        refine ⟨?_, hrel.out.same.same hs1.out⟩
        rw [eF.out, hx.out, if_pos h0.out]
        rfl
    · have hx := hrel.out.done hlt
      have eG := eF.out
      rw [hx, if_neg (fun h => h rfl)] at eG
      replace hx := Lib.hid hx
      by_cases hr : r < 0 ∨ (L.length : Int) + 1 < r
      · rw [if_pos hr] at eG
        subst eG
        rcases hr with hr | hr
        · go_wp2_with fail
          go_ret
          exact ⟨rfl, hrel.out.same⟩
        · have hr' : ¬ r < 0 := by omega
          go_wp2_with fail
          go_ret
          exact ⟨rfl, hrel.out.same⟩
      · rw [if_neg hr] at eG
        replace eG := Lib.hid eG
        have r0 : 0 ≤ r := by omega
        have r1 : r < L.length + 2 := by omega
        have r2 : ¬ (L.length : Int) + 1 < r := by omega
        have r3 : ¬ r < 0 := by omega
        obtain ⟨fuel, s', hv1, hv2, hv3⟩ := hvis.out (by omega) h2''.out hx.out r0 r1
        replace hv1 := Lib.hid hv1
        replace hv2 := Lib.hid hv2
        replace hv3 := Lib.hid hv3
        replace r0 := Lib.hid r0
        replace r1 := Lib.hid r1
        have hVL := firstErr_valid (by omega) hx.out
        replace hVL := Lib.hid hVL
        clear hr
        obtain ⟨kk, hkk⟩ : ∃ kk, kk = (addF L ([], [0, 1])).2.getD r.toNat 0 := ⟨_, rfl⟩
        rw [← hkk] at hv1
        have hN2 : VNd (addF L ([], [0, 1])).1 := (added_valid hVL.out).1
        have hN2l : (addF L ([], [0, 1])).1.length ≤ 100000 := by have := addF_length1 L ([], [0, 1]); simp at this; have := h2''.out; omega
        obtain ⟨hr0, hr1⟩ := added_root hVL.out r0.out r1.out
        rw [← hkk] at hr0 hr1
        have FIN : ∀ B p m a2 cap2 W, BuilderAt W B p m a2 cap2 (addF L ([], [0, 1])).1 → Calls Try.prog 60 #[.pointer (some ⟨p, 0, none⟩), .int .i64 n, .int .i64 kk] W (DRet W n O q) := by
          intro B p m a2 cap2 W hB
          refine (finish_any B p m a2 cap2 _ n kk fuel s' q W hB hN2.laid hN2l hr0 hr1 hv1.out (by rw [hv2.out]; have := hv3.out; omega)).mono ?_
          intro e w3 hD
          unfold finishF at hD
          rw [if_pos (by rw [hv2.out]; exact hv3.out), hv2.out] at hD
          exact hD
        replace FIN := Lib.hid FIN
        replace hN2 := Lib.hid hN2
        replace hkk := Lib.hid hkk
        go_wp2_with fail
        refine (begin_any wr).mono ?_
        rintro e wb ⟨p, m, rfl, hBb, hsb⟩
        have kb := hsb.at hrel.out.bx id
        have c0 := cell_at kb 0
        have c1 := cell_at kb 1
        have c2 := cell_at kb 2
        have cb := lt_of_heap kb
        replace hBb := Lib.hid hBb
        replace hsb := Lib.hid hsb
        clear kb
        go_wp2_with fail
        refine wp_region_plan (Lk w.heap.size) [0, 0, 1, 0, 1, 2, 3, 0, 0, 0, 2, 3, 0] (.fork [0, 1, 3, 2, 4] 5 (.fork [] 6 (.run [7, 8, 9, 10, 11, 12]) 10 (.run [6, 7, 8, 9, 11, 12])) 10 (.run [5, 6, 7, 8, 9, 11, 12])) (by kernel_rfl) (by kernel_rfl) ?_
        refine plan_fork ?_
        repeat (first | (refine sched_w rfl rfl (fun _ hK => ?_); go_simp; refine hK _ ?_; clear hK) | (refine sched_s rfl rfl (fun _ hK => ?_); go_simp; first | (refine hK _ ?_; clear hK) | (refine ⟨_, fun _ => rfl, hK _ ?_⟩; clear hK)))
        refine sched_nil ⟨?_, ?_⟩
        · refine fork_g rfl rfl (fun _ hK => ?_)
          go_simp
          refine (add_nds wr.heap.size p m none 0 [] n r aL capL L _ (hBb.out.same (by repeat (first | exact Fr.refl _ _ | apply Fr.alloc | apply Fr.drewN | apply Fr.drew))) ((hL.out.same (hrel.out.same.same hsb.out)).same (by repeat (first | exact Fr.refl _ _ | apply Fr.alloc | apply Fr.drewN | apply Fr.drew))) (fun h0 k hk => NodesAt.below (hL.out.same hrel.out.same) h0 k hk) hVL.out.laid r0.out r1.out (by simp; omega)).mono ?_
          rintro e w2 ⟨rfl, a2, cap2, hB2, hG2⟩
          rw [← hkk.out]
          have s2 : Same wr w2 := hG2.same_base (hBb.out.same (by repeat (first | exact Fr.refl _ _ | apply Fr.alloc | apply Fr.drewN | apply Fr.drew))) (hsb.out.same (by repeat (first | exact Fr.refl _ _ | apply Fr.alloc | apply Fr.drewN | apply Fr.drew))) (Nat.le_refl _)
          have k2 : w2.heap[w.heap.size]? = some (.cells #[.int .i64 n, .slice aL L.length capL, .int .i64 r] 45 (0, 0)) := s2.at hrel.out.bx id
          have hKp : Kp (Lk w.heap.size) wb.drew w2 := ⟨hG2.1.size, fun k hk _ => by rw [show k = w.heap.size from hk, k2]; exact (hsb.out.at hrel.out.bx id).symm⟩
          refine hK _ _ hKp ?_
          clear hK hKp hG2
          try simp only [Act.put, List.setIfInBounds_toArray, List.set_cons_zero, List.set_cons_succ]
          replace hB2 := Lib.hid hB2
          replace s2 := Lib.hid s2
          replace k2 := Lib.hid k2
          clear c0 c1 c2
          refine plan_fork ?_
          refine sched_nil ⟨?_, ?_⟩
          · refine fork_l rfl (by decide) (fun _ hK => ?_)
            go_simp
            refine (FIN.out _ p m a2 cap2 w2 hB2.out).mono ?_
            rintro e w3 ⟨ao, co, rfl, hO, hs3⟩
            replace hO := Lib.hid hO
            replace hs3 := Lib.hid hs3
            refine hK _ _ ?_; clear hK; try simp only [Act.put, List.setIfInBounds_toArray, List.set_cons_zero, List.set_cons_succ]
            refine plan_run ?_
            repeat (first | (refine sched_w rfl rfl (fun _ hK => ?_); go_simp; refine hK _ ?_; clear hK) | (refine sched_s rfl rfl (fun _ hK => ?_); go_simp; first | (refine hK _ ?_; clear hK) | (refine ⟨_, fun _ => rfl, hK _ ?_⟩; clear hK)))
            refine sched_g rfl rfl (fun _ hK => ?_); go_simp; refine hK _ _ (Kp.of_same (by repeat (first | exact Fr.refl _ _ | apply Fr.alloc | apply Fr.drewN | apply Fr.drew))) ?_; clear hK
            refine sched_l rfl (by decide) (fun _ hK => ?_); go_simp
            refine hK _ _ ?_
            clear hK
            try simp only [Act.put, List.setIfInBounds_toArray, List.set_cons_zero, List.set_cons_succ]
            repeat (first | (refine sched_w rfl rfl (fun _ hK => ?_); go_simp; refine hK _ ?_; clear hK) | (refine sched_s rfl rfl (fun _ hK => ?_); go_simp; first | (refine hK _ ?_; clear hK) | (refine ⟨_, fun _ => rfl, hK _ ?_⟩; clear hK)))
            refine sched_nil (NoPanic.normal ?_)
            have k3 := hs3.out.at k2.out id
            have c0 := cell_at k3 0
            have c1 := cell_at k3 1
            have c2 := cell_at k3 2
            have cb := lt_of_heap k3
            clear k3
            have hF : Same w _ := (hrel.out.same.same s2.out).same (hs3.out.alloc (.cells #[.int .i64 n, .slice ao O.length co, .int .i64 q] 45))
            have hOF := hO.out.same ((Fr.refl _ w3).alloc (.cells #[.int .i64 n, .slice ao O.length co, .int .i64 q] 45))
            replace hOF := Lib.hid hOF
            replace hF := Lib.hid hF
            go_wp2_with fail
            refine (equal_nds n n r q aL ao capL co L O _ (hL.out.same hF.out) (SliceAt.nds hOF.out) (by omega) (by have := hv3.out; omega)).mono ?_
            rintro e w4 ⟨rfl, hs4⟩
            replace hs4 := Lib.hid hs4
            by_cases he : r = q ∧ L = O
            · have hb : decide (n = n ∧ r = q ∧ L = O) = true := by simp [he.1, he.2]
              have eR := eG.out
              rw [if_pos he] at eR
              rw [hb]
              clear he hb
              go_wp2_with fail
              go_ret
              exact ⟨by rw [eR]; rfl, hF.out.same hs4.out⟩
            · have hb : decide (n = n ∧ r = q ∧ L = O) = false := by simp only [true_and]; exact decide_eq_false he
              have eR := eG.out
              rw [if_neg he] at eR
              rw [hb]
              clear he hb
              go_wp2_with fail
              go_ret
              exact ⟨by rw [eR]; rfl, hF.out.same hs4.out⟩
          · refine fork_g rfl rfl (fun _ hK => ?_)
            go_simp
            refine hK _ _ (Kp.of_same (by repeat (first | exact Fr.refl _ _ | apply Fr.alloc | apply Fr.drewN | apply Fr.drew))) ?_
            clear hK
            try simp only [Act.put, List.setIfInBounds_toArray, List.set_cons_zero, List.set_cons_succ]
            refine plan_run ?_
            refine sched_l rfl (by decide) (fun _ hK => ?_)
            go_simp
            refine (FIN.out _ p m a2 cap2 _ (hB2.out.same (by repeat (first | exact Fr.refl _ _ | apply Fr.alloc | apply Fr.drewN | apply Fr.drew)))).mono ?_
            rintro e w3 ⟨ao, co, rfl, hO, hs3⟩
            have kt := hs3.at (heap_new w2 _) id
            replace hO := Lib.hid hO
            have s3 : Same w w3 := (hrel.out.same.same s2.out).same ((Fr.alloc (Fr.refl _ w2) _).same hs3)
            have hlt2 : w.heap.size < w2.heap.size := lt_of_heap k2.out
            have k2' := heap_old k2.out (.cells #[.int .i64 0, .slice none 0 0, .int .i64 0] 45)
            replace hs3 := Lib.hid hs3
            replace s3 := Lib.hid s3
            replace k2' := Lib.hid k2'
            have t0 := cell_at kt 0
            have t1 := cell_at kt 1
            have t2 := cell_at kt 2
            have f0 := free_at kt 0
            have f1 := free_at kt 1
            have f2 := free_at kt 2
            have tb := lt_of_heap kt
            replace kt := Lib.hid kt
            refine hK _ _ ?_; clear hK; try simp only [Act.put, List.setIfInBounds_toArray, List.set_cons_zero, List.set_cons_succ]
            repeat (first | (refine sched_w rfl rfl (fun _ hK => ?_); go_simp; refine hK _ ?_; clear hK) | (refine sched_s rfl rfl (fun _ hK => ?_); go_simp; first | (refine hK _ ?_; clear hK) | (refine ⟨_, fun _ => rfl, hK _ ?_⟩; clear hK)))
            refine sched_l rfl (by decide) (fun _ hK => ?_); go_simp
            refine hK _ _ ?_
            clear hK t0 t1 t2 f0 f1 f2 tb
            try simp only [Act.put, List.setIfInBounds_toArray, List.set_cons_zero, List.set_cons_succ]
            repeat (first | (refine sched_w rfl rfl (fun _ hK => ?_); go_simp; refine hK _ ?_; clear hK) | (refine sched_s rfl rfl (fun _ hK => ?_); go_simp; first | (refine hK _ ?_; clear hK) | (refine ⟨_, fun _ => rfl, hK _ ?_⟩; clear hK)))
            refine sched_nil (NoPanic.normal ?_)
            have kF := stored3 (a := .int .i64 n) (c := .slice ao O.length co) (d := .int .i64 q) kt.out
            have k3 := stored3_fr (w := w3) (b := w2.heap.size) (a := .int .i64 n) (c := .slice ao O.length co) (d := .int .i64 q) |>.at (hs3.out.at k2'.out id) (by omega)
            have c0 := cell_at k3 0
            have c1 := cell_at k3 1
            have c2 := cell_at k3 2
            have cb := lt_of_heap k3
            have d0 := cell_at kF 0
            have d1 := cell_at kF 1
            have d2 := cell_at kF 2
            have db := lt_of_heap kF
            have hF := s3.out.trans (stored3_fr (w := w3) (b := w2.heap.size) (a := .int .i64 n) (c := .slice ao O.length co) (d := .int .i64 q)) (fun i hi h => by omega)
            have hOF := hO.out.fr (stored3_fr (w := w3) (b := w2.heap.size) (a := .int .i64 n) (c := .slice ao O.length co) (d := .int .i64 q)) (fun k cur hk h => by rw [h, kt.out] at hk; simp at hk)
            replace hOF := Lib.hid hOF
            clear kF k3
            replace hF := Lib.hid hF
            go_wp2_with fail
            refine (equal_nds n n r q aL ao capL co L O _ (hL.out.same hF.out) (SliceAt.nds hOF.out) (by omega) (by have := hv3.out; omega)).mono ?_
            rintro e w4 ⟨rfl, hs4⟩
            replace hs4 := Lib.hid hs4
            by_cases he : r = q ∧ L = O
            · have hb : decide (n = n ∧ r = q ∧ L = O) = true := by simp [he.1, he.2]
              have eR := eG.out
              rw [if_pos he] at eR
              rw [hb]
              clear he hb
              go_wp2_with fail
              go_ret
              exact ⟨by rw [eR]; rfl, hF.out.same hs4.out⟩
            · have hb : decide (n = n ∧ r = q ∧ L = O) = false := by simp only [true_and]; exact decide_eq_false he
              have eR := eG.out
              rw [if_neg he] at eR
              rw [hb]
              clear he hb
              go_wp2_with fail
              go_ret
              exact ⟨by rw [eR]; rfl, hF.out.same hs4.out⟩
        · refine fork_g rfl rfl (fun _ hK => ?_)
          go_simp
          refine hK _ _ (Kp.of_same ((Fr.refl _ wb.drew).alloc _)) ?_
          clear hK
          try simp only [Act.put, List.setIfInBounds_toArray, List.set_cons_zero, List.set_cons_succ]
          refine plan_run ?_
          refine sched_g rfl rfl (fun _ hK => ?_)
          go_simp
          refine (add_nds wr.heap.size p m none 0 [] n r aL capL L _ (hBb.out.same (by repeat (first | exact Fr.refl _ _ | apply Fr.alloc | apply Fr.drewN | apply Fr.drew))) ((hL.out.same (hrel.out.same.same hsb.out)).same (by repeat (first | exact Fr.refl _ _ | apply Fr.alloc | apply Fr.drewN | apply Fr.drew))) (fun h0 k hk => NodesAt.below (hL.out.same hrel.out.same) h0 k hk) hVL.out.laid r0.out r1.out (by simp; omega)).mono ?_
          rintro e w2 ⟨rfl, a2, cap2, hB2, hG2⟩
          rw [← hkk.out]
          have s2 : Same wr w2 := hG2.same_base (hBb.out.same (by repeat (first | exact Fr.refl _ _ | apply Fr.alloc | apply Fr.drewN | apply Fr.drew))) (hsb.out.same (by repeat (first | exact Fr.refl _ _ | apply Fr.alloc | apply Fr.drewN | apply Fr.drew))) (Nat.le_refl _)
          have k2' : w2.heap[w.heap.size]? = some (.cells #[.int .i64 n, .slice aL L.length capL, .int .i64 r] 45 (0, 0)) := s2.at hrel.out.bx id
          have ktt := number_keeps (hBb.out.same (by repeat (first | exact Fr.refl _ _ | apply Fr.alloc | apply Fr.drewN | apply Fr.drew))) hG2 (heap_new wb (.cells #[.int .i64 0, .slice none 0 0, .int .i64 0] 45)) (by decide) (by decide)
          have hKp : Kp (Lk w.heap.size) (wb.alloc (.cells #[.int .i64 0, .slice none 0 0, .int .i64 0] 45)).drew w2 := ⟨hG2.1.size, fun k hk _ => by rw [show k = w.heap.size from hk, k2']; exact (heap_old (hsb.out.at hrel.out.bx id) _).symm⟩
          refine hK _ _ hKp ?_
          clear hK hKp hG2
          try simp only [Act.put, List.setIfInBounds_toArray, List.set_cons_zero, List.set_cons_succ]
          replace hB2 := Lib.hid hB2
          replace s2 := Lib.hid s2
          replace k2' := Lib.hid k2'
          replace ktt := Lib.hid ktt
          clear c0 c1 c2
          refine sched_l rfl (by decide) (fun _ hK => ?_)
          go_simp
          refine (FIN.out _ p m a2 cap2 _ hB2.out).mono ?_
          rintro e w3 ⟨ao, co, rfl, hO, hs3⟩
          have kt := hs3.at ktt.out id
          replace hO := Lib.hid hO
          have s3 : Same w w3 := (hrel.out.same.same s2.out).same hs3
          have hlt2 : w.heap.size < wb.heap.size := lt_of_heap (hsb.out.at hrel.out.bx id)
          replace hs3 := Lib.hid hs3
          replace s3 := Lib.hid s3
          have t0 := cell_at kt 0
          have t1 := cell_at kt 1
          have t2 := cell_at kt 2
          have f0 := free_at kt 0
          have f1 := free_at kt 1
          have f2 := free_at kt 2
          have tb := lt_of_heap kt
          replace kt := Lib.hid kt
          refine hK _ _ ?_; clear hK; try simp only [Act.put, List.setIfInBounds_toArray, List.set_cons_zero, List.set_cons_succ]
          repeat (first | (refine sched_w rfl rfl (fun _ hK => ?_); go_simp; refine hK _ ?_; clear hK) | (refine sched_s rfl rfl (fun _ hK => ?_); go_simp; first | (refine hK _ ?_; clear hK) | (refine ⟨_, fun _ => rfl, hK _ ?_⟩; clear hK)))
          refine sched_l rfl (by decide) (fun _ hK => ?_); go_simp
          refine hK _ _ ?_
          clear hK t0 t1 t2 f0 f1 f2 tb
          try simp only [Act.put, List.setIfInBounds_toArray, List.set_cons_zero, List.set_cons_succ]
          repeat (first | (refine sched_w rfl rfl (fun _ hK => ?_); go_simp; refine hK _ ?_; clear hK) | (refine sched_s rfl rfl (fun _ hK => ?_); go_simp; first | (refine hK _ ?_; clear hK) | (refine ⟨_, fun _ => rfl, hK _ ?_⟩; clear hK)))
          refine sched_nil (NoPanic.normal ?_)
          have kF := stored3 (a := .int .i64 n) (c := .slice ao O.length co) (d := .int .i64 q) kt.out
          have k3 := stored3_fr (w := w3) (b := wb.heap.size) (a := .int .i64 n) (c := .slice ao O.length co) (d := .int .i64 q) |>.at (hs3.out.at k2'.out id) (by omega)
          have c0 := cell_at k3 0
          have c1 := cell_at k3 1
          have c2 := cell_at k3 2
          have cb := lt_of_heap k3
          have d0 := cell_at kF 0
          have d1 := cell_at kF 1
          have d2 := cell_at kF 2
          have db := lt_of_heap kF
          have hF := s3.out.trans (stored3_fr (w := w3) (b := wb.heap.size) (a := .int .i64 n) (c := .slice ao O.length co) (d := .int .i64 q)) (fun i hi h => by omega)
          have hOF := hO.out.fr (stored3_fr (w := w3) (b := wb.heap.size) (a := .int .i64 n) (c := .slice ao O.length co) (d := .int .i64 q)) (fun k cur hk h => by rw [h, kt.out] at hk; simp at hk)
          replace hOF := Lib.hid hOF
          clear kF k3
          replace hF := Lib.hid hF
          go_wp2_with fail
          refine (equal_nds n n r q aL ao capL co L O _ (hL.out.same hF.out) (SliceAt.nds hOF.out) (by omega) (by have := hv3.out; omega)).mono ?_
          rintro e w4 ⟨rfl, hs4⟩
          replace hs4 := Lib.hid hs4
          by_cases he : r = q ∧ L = O
          · have hb : decide (n = n ∧ r = q ∧ L = O) = true := by simp [he.1, he.2]
            have eR := eG.out
            rw [if_pos he] at eR
            rw [hb]
            clear he hb
            go_wp2_with fail
            go_ret
            exact ⟨by rw [eR]; rfl, hF.out.same hs4.out⟩
          · have hb : decide (n = n ∧ r = q ∧ L = O) = false := by simp only [true_and]; exact decide_eq_false he
            have eR := eG.out
            rw [if_neg he] at eR
            rw [hb]
            clear he hb
            go_wp2_with fail
            go_ret
            exact ⟨by rw [eR]; rfl, hF.out.same hs4.out⟩


theorem check_any (n r : Int) (aL : Option Addr) (capL : Nat) (L : List Nd) (w : World) (hL : SliceAt w 94 3 (.slice aL L.length capL) L.length (ndCells L)) (hlen : L.length ≤ 100000) (O : List Nd) (q : Int)
    (hvis : n ≤ 40 → L.length ≤ 16384 → firstErr n L L.length 0 = 0 → 0 ≤ r → r < L.length + 2 → ∃ fuel s', visitF (addF L ([], [0, 1])).1 fuel start ((addF L ([], [0, 1])).2.getD r.toNat 0) = some (s', q) ∧ s'.1 = O ∧ O.length ≤ 16384) :
    Calls Try.prog 45 #[.agg #[.int .i64 n, .slice aL L.length capL, .int .i64 r]] w fun e w' => e = .returned (.int .i64 (checkF n L r O q)) ∧ Same w w' :=
  check_nds n r aL capL L w hL.nds hlen O q hvis

/-- A diagram as a value of the program. -/
structure Dg where
  n : Int
  a : Option Addr
  cap : Nat
  L : List Nd
  r : Int

def Dg.v (d : Dg) : Value := .agg #[.int .i64 d.n, .slice d.a d.L.length d.cap, .int .i64 d.r]
def Dg.at (w : World) (d : Dg) : Prop := SliceAt w 94 3 (.slice d.a d.L.length d.cap) d.L.length (ndCells d.L)
def dgCells : List Dg → List Value
  | [] => []
  | d :: l => .int .i64 d.n :: .slice d.a d.L.length d.cap :: .int .i64 d.r :: dgCells l

theorem dgCells_length (l : List Dg) : (dgCells l).length = l.length * 3 := by
  induction l with
  | nil => rfl
  | cons x l ih => simp [dgCells, ih]; omega

theorem dgCells_get (l : List Dg) (i : Nat) (h : i < l.length) :
    (dgCells l)[i * 3]? = some (.int .i64 l[i].n) ∧ (dgCells l)[i * 3 + 1]? = some (.slice l[i].a l[i].L.length l[i].cap) ∧ (dgCells l)[i * 3 + 2]? = some (.int .i64 l[i].r) := by
  induction l generalizing i with
  | nil => simp at h
  | cons x l ih =>
    cases i with
    | zero => simp [dgCells]
    | succ i =>
      have := ih i (by simpa using h)
      have e : (i + 1) * 3 = i * 3 + 1 + 1 + 1 := by omega
      rw [e]
      simpa [dgCells] using this

/-- Diagrams in a slice. -/
def DgsAt (w : World) (a : Option Addr) (cap : Nat) (l : List Dg) : Prop := SliceAt w 45 3 (.slice a l.length cap) l.length (dgCells l)

theorem DgsAt.cells {w : World} {a : Option Addr} {cap : Nat} {l : List Dg} (h : DgsAt w a cap l) {k : Nat} (hk : k < l.length) :
    ∃ b off, a = some ⟨b, off, none⟩ ∧ b < w.heap.size ∧ w.cell? ⟨b, off + k * 3, none⟩ = some (.int .i64 l[k].n) ∧ w.cell? ⟨b, off + k * 3 + 1, none⟩ = some (.slice l[k].a l[k].L.length l[k].cap) ∧ w.cell? ⟨b, off + k * 3 + 2, none⟩ = some (.int .i64 l[k].r) := by
  obtain ⟨b, off, ha, hbl, hc⟩ := SliceAt.cell h (by omega)
  have c3 := dgCells_get l k hk
  exact ⟨b, off, ha, hbl, hc _ _ c3.1, hc _ _ c3.2.1, hc _ _ c3.2.2⟩

/-- The first error of some diagrams; c: what Check answers for each. -/
def firstC (c : Dg → Int) : List Dg → Int
  | [] => 0
  | d :: l => if c d ≠ 0 then c d else firstC c l

theorem firstC_drop (c : Dg → Int) (l : List Dg) (k : Nat) (hk : k < l.length) : firstC c (l.drop k) = if c l[k] ≠ 0 then c l[k] else firstC c (l.drop (k + 1)) := by
  rw [List.drop_eq_getElem_cons hk, firstC]

def checksF (c : Dg → Int) (l : List Dg) : Int := if firstC c l ≠ 0 then firstC c l else if ∃ d ∈ l, d.n ≠ (l.head?.map Dg.n).getD 0 then 4 else 0

set_option maxRecDepth 100000 in
set_option maxHeartbeats 1000000 in
theorem checks_any (a : Option Addr) (cap : Nat) (l : List Dg) (c : Dg → Int) (w : World) (h : DgsAt w a cap l) (hl : l.length ≤ 1000)
    (hc : ∀ d ∈ l, ∀ W, Same w W → Calls Try.prog 45 #[d.v] W fun e w' => e = .returned (.int .i64 (c d)) ∧ Same W w') :
    Calls Try.prog 94 #[.slice a l.length cap] w fun e w' => e = .returned (.int .i64 (checksF c l)) ∧ Same w w' := by
  replace h := Lib.hid h
  replace hc := Lib.hid hc
  obtain ⟨R, hR⟩ : ∃ R, R = checksF c l := ⟨_, rfl⟩
  rw [← hR]
  replace hR := Lib.hid hR
  go_enter Try.func94, Try.ntmps94
  go_wp2_with fail
  go_loopw [10] (fun i wr => ∃ k : Nat, k ≤ l.length ∧ i = .int .i64 k ∧ firstC c l = firstC c (l.drop k) ∧ Same w wr) (fun i _ => l.length - (intOf i).toNat)
  case atStart => exact ⟨0, by omega, rfl, rfl, Fr.refl _ _⟩
  case round =>
    obtain ⟨k, hk, rfl, hf, hs⟩ := hrel
    replace hf := Lib.hid hf
    by_cases hlt : k < l.length
    · obtain ⟨b, off, ha, hb, x0, x1, x2⟩ := DgsAt.cells (SliceAt.same h.out hs) hlt
      replace hs := Lib.hid hs
      subst ha
      go_wp2_with fail
      refine (hc.out l[k] (List.getElem_mem hlt) _ (hs.out.alloc _)).mono ?_
      rintro e w1 ⟨rfl, hs1⟩
      replace hs1 := Lib.hid hs1
      obtain ⟨E, hE⟩ : ∃ E, E = c l[k] := ⟨_, rfl⟩
      rw [← hE]
      replace hE := Lib.hid hE
      by_cases h0 : E = 0
      · subst h0
        go_wp2_with fail
        go_roundw
        case rel => exact ⟨k + 1, by omega, by go_num, by rw [hf.out, firstC_drop c l k hlt, if_neg (by rw [← hE.out]; simp)], (hs.out.alloc _).same hs1.out⟩
        case measure => simp [intOf]; omega
      · have hb : (E != 0) = true := by simpa using h0
        replace h0 := Lib.hid h0
        go_wp2_with fail
        go_ret
        refine ⟨?_, (hs.out.alloc _).same hs1.out⟩
        have : firstC c l = E := by rw [hf.out, firstC_drop c l k hlt, if_pos (by rw [← hE.out]; exact h0.out), ← hE.out]
        rw [hR.out, checksF, this, if_pos h0.out]
        rfl
    · have hz : firstC c l = 0 := by rw [hf.out, List.drop_eq_nil_of_le (by omega)]; rfl
      replace hz := Lib.hid hz
      replace hs := Lib.hid hs
      go_wp2_with fail
      go_loopw [22] (fun i wr => ∃ k : Nat, k ≤ l.length ∧ i = .int .i64 k ∧ (∀ (j : Nat) (hj : j < l.length), j < k → l[j].n = (l.head?.map Dg.n).getD 0) ∧ Same w wr) (fun i _ => l.length - (intOf i).toNat)
      case atStart => exact ⟨0, by omega, rfl, fun _ _ h => by omega, hs.out⟩
      case round =>
        clear hs hk hlt
        obtain ⟨k, hk, rfl, hf, hs⟩ := hrel
        replace hf := Lib.hid hf
        by_cases hlt : k < l.length
        · obtain ⟨b, off, ha, hb, x0, x1, x2⟩ := DgsAt.cells (SliceAt.same h.out hs) hlt
          obtain ⟨b', off', ha', _, y0, y1, y2⟩ := DgsAt.cells (SliceAt.same h.out hs) (k := 0) (by omega)
          rw [ha] at ha'
          simp only [Option.some.injEq, Addr.mk.injEq, and_true] at ha'
          obtain ⟨rfl, rfl⟩ := ha'
          simp only [Nat.zero_mul, Nat.add_zero] at y0
          have h0l : (l.head?.map Dg.n).getD 0 = l[0].n := by
            cases l with
            | nil => exact absurd hlt (by simp)
            | cons d l => rfl
          replace h0l := Lib.hid h0l
          replace hs := Lib.hid hs
          have hb1 : b < wr.heap.size + 1 := by omega
          clear y1 y2
          subst ha
          by_cases he : l[k].n = l[0].n
          · have hb2 : (l[k].n != l[0].n) = false := by simpa using he
            replace he := Lib.hid he
            go_wp2_with fail
            go_quiet (fail)
            go_wp2_with fail
            go_roundw
            case rel =>
              refine ⟨k + 1, by omega, by go_num, fun j hj hjk => ?_, hs.out.same (show Same wr _ from (by repeat (first | exact Fr.refl _ _ | apply Fr.alloc | apply Fr.drewN | apply Fr.drew)))⟩
              by_cases hj' : j < k
              · exact hf.out j hj hj'
              · have : j = k := by omega
                subst this
                rw [he.out, h0l.out]
            case measure => simp [intOf]; omega
          · have hb2 : (l[k].n != l[0].n) = true := by simpa using he
            replace he := Lib.hid he
            go_wp2_with fail
            go_quiet (fail)
            go_wp2_with fail
            go_ret
            refine ⟨?_, hs.out.same (show Same wr _ from (by repeat (first | exact Fr.refl _ _ | apply Fr.alloc | apply Fr.drewN | apply Fr.drew)))⟩
            rw [hR.out, checksF, hz.out, if_neg (by simp), if_pos ⟨l[k], List.getElem_mem hlt, by rw [h0l.out]; exact he.out⟩]
            rfl
        · replace hs := Lib.hid hs
          go_wp2_with fail
          go_ret
          refine ⟨?_, hs.out⟩
          rw [hR.out, checksF, hz.out, if_neg (by simp), if_neg]
          · rfl
          · rintro ⟨d, hd, hne⟩
            obtain ⟨j, hj, rfl⟩ := List.mem_iff_getElem.1 hd
            exact hne (hf.out j hj (by omega))
end Go.Proofs.Ytmmjijmmocabhaa
