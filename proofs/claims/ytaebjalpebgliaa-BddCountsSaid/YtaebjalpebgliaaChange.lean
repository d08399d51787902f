/- The builder: change. -/
import Derived.Test.YtaebjalpebgliaaIte
import Derived.Test.YtaebjalpebgliaaChgP
namespace Go.Proofs.Ytaebjalpebgliaa
open Go.RowKit
set_option linter.unusedVariables false
set_option linter.unusedSimpArgs false

/-- What do makes of valid numbers is valid. -/
def DoVal (dof : Is → Int → Int → Option (Is × Int)) : Prop :=
  ∀ (s : Is) (l h : Int) (s' : Is) (r : Int), dof s l h = some (s', r) → VNd s.1 → VM s.1 s.2 → VNum s.1 l → VNum s.1 h → VNd s'.1 ∧ VM s'.1 s'.2 ∧ VNum s'.1 r ∧ s.1.length ≤ s'.1.length

theorem changeF_eq {wn : Int → Bool} {dof : Is → Int → Int → Option (Is × Int)} {f : Nat} {s : Cs} {k : Int} (h2 : ¬ k < 2) (hm : mget s.2 k = none) {q : Cs × Int} (hr : changeF wn dof (f + 1) s k = some q) :
    ∃ s1 low s2 high, changeF wn dof f s (nodeF s.1.1 k).2.1 = some (s1, low) ∧ changeF wn dof f s1 (nodeF s.1.1 k).2.2 = some (s2, high) ∧
      ((wn (nodeF s.1.1 k).1 = true ∧ ∃ s3 r, dof s2.1 low high = some (s3, r) ∧ q = ((s3, mput s2.2 k r), r)) ∨
       (wn (nodeF s.1.1 k).1 = false ∧ q = ((((numF s2.1.1 ((nodeF s.1.1 k).1, low, high)).1, s2.1.2), mput s2.2 k (numF s2.1.1 ((nodeF s.1.1 k).1, low, high)).2), (numF s2.1.1 ((nodeF s.1.1 k).1, low, high)).2))) := by
  rw [changeF, if_neg h2] at hr
  simp only [hm] at hr
  split at hr
  · cases hr
  rename_i s1 low e1
  split at hr
  · cases hr
  rename_i s2 high e2
  refine ⟨s1, low, s2, high, e1, e2, ?_⟩
  split at hr
  · rename_i hw
    split at hr
    · cases hr
    rename_i s3 r e3
    simp only [Option.some.injEq] at hr
    exact .inl ⟨hw, s3, r, e3, hr.symm⟩
  · rename_i hw
    simp only [Option.some.injEq] at hr
    exact .inr ⟨by simpa using hw, hr.symm⟩

theorem VM.put {N N' : List Nd} {C : List (Int × Int)} {k r : Int} (h : VM N C) (hl : N.length ≤ N'.length) (hr : VNum N' r) : VM N' (mput C k r) := by
  intro j u hj
  rw [mget_put] at hj
  split at hj
  · cases hj; exact hr
  · exact (h j u hj).mono hl

theorem changeF_valid {wn : Int → Bool} {dof : Is → Int → Int → Option (Is × Int)} (hd : DoVal dof) : ∀ (f : Nat) (s s' : Cs) (k r : Int), changeF wn dof f s k = some (s', r) → VNd s.1.1 → VM s.1.1 s.1.2 → VM s.1.1 s.2 → VNum s.1.1 k →
    VNd s'.1.1 ∧ VM s'.1.1 s'.1.2 ∧ VM s'.1.1 s'.2 ∧ VNum s'.1.1 r ∧ s.1.1.length ≤ s'.1.1.length := by
  intro f
  induction f with
  | zero => intro s s' k r h; simp [changeF] at h
  | succ f ih =>
    intro s s' k r h hN hM hC hk
    by_cases h2 : k < 2
    · rw [changeF, if_pos h2] at h
      simp only [Option.some.injEq, Prod.mk.injEq] at h
      obtain ⟨rfl, rfl⟩ := h
      exact ⟨hN, hM, hC, hk, Nat.le_refl _⟩
    · cases hm : mget s.2 k with
      | some u =>
        rw [changeF, if_neg h2] at h
        simp only [hm, Option.some.injEq, Prod.mk.injEq] at h
        obtain ⟨rfl, rfl⟩ := h
        exact ⟨hN, hM, hC, hC k _ hm, Nat.le_refl _⟩
      | none =>
        have hn := nodeF_valid hN (by omega) hk.2
        obtain ⟨s1, low, s2, high, e1, e2, he⟩ := changeF_eq h2 hm h
        obtain ⟨a1, a2, a3, a4, a5⟩ := ih _ _ _ _ e1 hN hM hC hn.2.2.1
        obtain ⟨b1, b2, b3, b4, b5⟩ := ih _ _ _ _ e2 a1 a2 a3 (hn.2.2.2.1.mono a5)
        rcases he with ⟨_, s3, r', e3, hq⟩ | ⟨_, hq⟩
        · obtain ⟨c1, c2, c3, c4⟩ := hd _ _ _ _ _ e3 b1 b2 (a4.mono b5) b4
          simp only [Prod.mk.injEq] at hq
          obtain ⟨rfl, rfl⟩ := hq
          exact ⟨c1, c2, b3.put c4 c3, c3, by simp only; omega⟩
        · simp only [Prod.mk.injEq] at hq
          obtain ⟨rfl, rfl⟩ := hq
          have hg := numF_grows s2.1.1 ((nodeF s.1.1 k).1, low, high)
          obtain ⟨c1, c2⟩ := numF_valid b1 ⟨hn.1, hn.2.1⟩ (a4.mono b5) b4
          exact ⟨c1, b2.mono hg.1, b3.put hg.1 c2, c2, by simp only; omega⟩

/-- What change works with: the builder, its memory mc, and two closures over Pre. -/
structure ChgE (wn : Int → Bool) (dof : Is → Int → Int → Option (Is × Int)) (B p m mc : Nat) (S : Nat → Prop) (Pre : World → List (Nd × Int) → Prop) (Fw Fd : FuncId) (cw cd : Array Value) : Prop where
  ew : ∀ (args : Array Value) (W : World), (callFunc Fw args).run Try.prog W = .ok (.enter Fw args) W
  ed : ∀ (args : Array Value) (W : World), (callFunc Fd args).run Try.prog W = .ok (.enter Fd args) W
  hw : ∀ (v : Int) (W : World) (M : List (Nd × Int)), Pre W M → Calls Try.prog Fw (#[.int .i64 v] ++ cw) W fun e W' => e = .returned (.bool (wn v)) ∧ Same W W'
  hd : ∀ (a : Option Addr) (cap : Nat) (s : Is) (l h : Int) (s' : Is) (r : Int) (W : World), BuilderAt W B p m a cap s.1 → Pre W s.2 → VNd s.1 → VM s.1 s.2 → VNum s.1 l → VNum s.1 h → dof s l h = some (s', r) → s'.1.length ≤ 100000 →
    Calls Try.prog Fd (#[.int .i64 l, .int .i64 h] ++ cd) W fun e W' => e = .returned (.int .i64 r) ∧ ∃ a' cap', BuilderAt W' B p m a' cap' s'.1 ∧ Pre W' s'.2 ∧ Grew (fun i => BB p m i ∨ S i) W W' (.slice a s.1.length cap) (.slice a' s'.1.length cap')
  pre : ∀ (W W' : World) (M : List (Nd × Int)) (a : Option Addr) (cap : Nat) (N : List Nd), Pre W M → BuilderAt W B p m a cap N → Fr (fun i => (Value.slice a N.length cap).ownBlock = some i ∨ BB p m i ∨ i = mc) W W' → Pre W' M
  val : DoVal dof
  sl : ∀ i, S i → i < mc
  ne : m < mc ∧ p < mc

def CRet (w : World) (B p m mc : Nat) (S : Nat → Prop) (Pre : World → List (Nd × Int) → Prop) (a : Option Addr) (cap : Nat) (N : List Nd) (s' : Cs) (k : Int) (e : Ending) (w' : World) : Prop :=
  e = .returned (.int .i64 k) ∧ ∃ a' cap', BuilderAt w' B p m a' cap' s'.1.1 ∧ Pre w' s'.1.2 ∧ mI w' mc s'.2 ∧ Grew (fun i => BB p m i ∨ S i ∨ i = mc) w w' (.slice a N.length cap) (.slice a' s'.1.1.length cap')

section
variable {wn : Int → Bool} {dof : Is → Int → Int → Option (Is × Int)} {B p m mc : Nat} {S : Nat → Prop} {Pre : World → List (Nd × Int) → Prop} {Fw Fd : FuncId} {cw cd : Array Value}

theorem ChgE.same (E : ChgE wn dof B p m mc S Pre Fw Fd cw cd) {W W' : World} {M : List (Nd × Int)} {a : Option Addr} {cap : Nat} {N : List Nd} (h : Pre W M) (hB : BuilderAt W B p m a cap N) (hs : Same W W') : Pre W' M :=
  E.pre W W' M a cap N h hB (hs.mono (fun _ _ f => f.elim))

/-- A block that is newer than what change works on is kept. -/
theorem chg_fresh (E : ChgE wn dof B p m mc S Pre Fw Fd cw cd) {w W w' : World} {a : Option Addr} {cap : Nat} {N : List Nd} {v' : Value} (hB : BuilderAt w B p m a cap N) (hmc : mc < w.heap.size)
    (hG : Grew (fun i => BB p m i ∨ S i ∨ i = mc) W w' (.slice a N.length cap) v') {k : Nat} {o : Obj} (hk : W.heap[k]? = some o) (hge : w.heap.size ≤ k) : w'.heap[k]? = some o := by
  refine hG.1.at hk ?_
  rintro (h | h | h | h)
  · obtain ⟨c, hc⟩ := own_block hB.own h
    have := lt_of_heap hc; omega
  · rcases h with h | h
    · have := E.ne.2; omega
    · have := E.ne.1; omega
  · have := E.sl _ h; omega
  · omega

theorem chg_map (E : ChgE wn dof B p m mc S Pre Fw Fd cw cd) {w w' : World} {a : Option Addr} {cap : Nat} {N : List Nd} {v' : Value} {T : Nat → Prop} {C : List (Int × Int)} (hB : BuilderAt w B p m a cap N) (hC : mI w mc C)
    (hG : Grew (fun i => BB p m i ∨ T i) w w' (.slice a N.length cap) v') (hT : ∀ i, T i → i < mc) : mI w' mc C := by
  refine hC.of_block (hG.1.block _ hC.lt ?_)
  rintro (h | h | h)
  · obtain ⟨c, hc⟩ := own_block hB.own h
    exact map_ne_cells hC hc rfl
  · rcases h with h | h
    · have := E.ne.2; omega
    · have := E.ne.1; omega
  · have := hT _ h; omega

/-- change puts a number into its memory. -/
theorem chg_put (E : ChgE wn dof B p m mc S Pre Fw Fd cw cd) {w : World} {a : Option Addr} {cap : Nat} {N : List Nd} {C C' : List (Int × Int)} {M : List (Nd × Int)} {ob : Obj} (hB : BuilderAt w B p m a cap N) (hP : Pre w M) (hC : mI w mc C) :
    BuilderAt (setObj w mc ob) B p m a cap N ∧ Pre (setObj w mc ob) M ∧ Grew (fun i => BB p m i ∨ S i ∨ i = mc) w (setObj w mc ob) (.slice a N.length cap) (.slice a N.length cap) := by
  have hf : Fr (fun i => i = mc) w (setObj w mc ob) := (Fr.refl _ _).setObj mc ob (fun _ => rfl)
  refine ⟨hB.fr hf (by have := E.ne.2; omega) (by have := E.ne.1; omega) (fun k hk hh => ?_), E.pre _ _ M a cap N hP hB (hf.mono (fun i _ h => .inr (.inr h))), ⟨hf.mono (fun i _ h => .inr (.inr (.inr h))), fun _ h => .inl h⟩⟩
  obtain ⟨c, hc⟩ := own_block hB.own hk
  exact map_ne_cells hC hc hh.symm

set_option maxRecDepth 100000 in
set_option maxHeartbeats 4000000 in
theorem change_any (E : ChgE wn dof B p m mc S Pre Fw Fd cw cd) (fuel : Nat) : ∀ (a : Option Addr) (cap : Nat) (s : Cs) (k : Int) (s' : Cs) (r : Int) (w : World), BuilderAt w B p m a cap s.1.1 → Pre w s.1.2 → mI w mc s.2 →
    VNd s.1.1 → VM s.1.1 s.1.2 → VM s.1.1 s.2 → VNum s.1.1 k → changeF wn dof fuel s k = some (s', r) → s'.1.1.length ≤ 100000 →
    Calls Try.prog 64 #[.pointer (some ⟨p, 0, none⟩), .int .i64 k, .func (.func Fw) #[] cw, .func (.func Fd) #[] cd, .map (some mc)] w (CRet w B p m mc S Pre a cap s.1.1 s' r) := by
  induction fuel with
  | zero => intro a cap s k s' r w _ _ _ _ _ _ _ he; simp [changeF] at he
  | succ fuel ih =>
    intro a cap s k s' r w hB hP hC hN hVM hVC hk he hlen
    have ew := E.ew
    have ed := E.ed
    obtain ⟨⟨N, M⟩, C⟩ := s
    simp only at hB hP hC hN hVM hVC hk ⊢
    by_cases h2 : k < 2
    · rw [changeF, if_pos h2] at he
      simp only [Option.some.injEq, Prod.mk.injEq] at he
      obtain ⟨rfl, rfl⟩ := he
      replace hB := Lib.hid hB
      replace hP := Lib.hid hP
      replace hC := Lib.hid hC
      clear ih hN hVM hVC hk
      go_enter Try.func64, Try.ntmps64
      go_wp2_with fail
      go_ret
      exact ⟨rfl, a, cap, hB.out, hP.out, hC.out, Grew.refl _ _ _⟩
    · have h2' : 2 ≤ k := by omega
      cases hm : mget C k with
      | some u =>
        rw [changeF, if_neg h2] at he
        simp only [hm, Option.some.injEq, Prod.mk.injEq] at he
        obtain ⟨rfl, rfl⟩ := he
        have hl := lookup_hit keyI mapI hC hm true
        simp only [if_true] at hl
        replace hB := Lib.hid hB
        replace hP := Lib.hid hP
        replace hC := Lib.hid hC
        clear ih hN hVM hVC hk hm
        go_enter Try.func64, Try.ntmps64
        go_wp2_with fail
        go_ret
        exact ⟨rfl, a, cap, hB.out, hP.out, hC.out, Grew.refl _ _ _⟩
      | none =>
        have hn := nodeF_valid hN h2' hk.2
        obtain ⟨s1, low, s2, high, e1, e2, hq⟩ := changeF_eq h2 hm he
        simp only at e1 e2 hq
        obtain ⟨a1, a2, a3, a4, a5⟩ := changeF_valid E.val _ _ _ _ _ e1 hN hVM hVC hn.2.2.1
        obtain ⟨b1, b2, b3, b4, b5⟩ := changeF_valid E.val _ _ _ _ _ e2 a1 a2 a3 (hn.2.2.2.1.mono a5)
        simp only at a5
        have hlen2 : s2.1.1.length ≤ s'.1.1.length := by
          rcases hq with ⟨_, s3, r', e3, hq⟩ | ⟨_, hq⟩
          · simp only [Prod.mk.injEq] at hq
            obtain ⟨rfl, rfl⟩ := hq
            exact (E.val _ _ _ _ _ e3 b1 b2 (a4.mono b5) b4).2.2.2
          · simp only [Prod.mk.injEq] at hq
            obtain ⟨rfl, rfl⟩ := hq
            exact (numF_grows _ _).1
        have hmc := hC.lt
        have hpp := lt_of_heap hB.blk
        have hl := lookup_miss keyI mapI hC hm (zeroI w) true
        simp only [if_true] at hl
        have v2 : w.cell? ⟨p, 0, none⟩ = some (.slice a N.length cap) := cell_at hB.blk 0
        obtain ⟨b, off, ha, hbl, n0, n1, n2⟩ := hB.node h2' hk.2
        subst ha
        have F1 : ∀ W, Same w W → _ := fun W hW => ih _ cap ((N, M), C) (nodeF N k).2.1 s1 low W (hB.same hW) (E.same hP hB hW) (hC.of_block (hW.block _ hC.lt id)) hN hVM hVC hn.2.2.1 e1 (by omega)
        have F2 := fun a' cap' W h1 h2 h3 => ih a' cap' s1 (nodeF N k).2.2 s2 high W h1 h2 h3 a1 a2 a3 (hn.2.2.2.1.mono a5) e2 (by omega)
        obtain ⟨⟨nv, nl, nh⟩, hnd⟩ : ∃ x, nodeF N k = x := ⟨_, rfl⟩
        rw [hnd] at n0 n1 n2 F1 F2 hn hq
        simp only at n0 n1 n2 F1 F2 hn hq
        have HW := fun W M hP' => E.hw nv W M hP'
        have HD := fun a' cap' W r' s3 h1 h2 e3 hl => E.hd a' cap' s2.1 low high s3 r' W h1 h2 b1 b2 (a4.mono b5) b4 e3 hl
        have hltl := hn.2.2.1.2
        have q1 := hk.1
        have q2 := hk.2
        replace F1 := Lib.hid F1
        replace F2 := Lib.hid F2
        replace hB := Lib.hid hB
        replace hP := Lib.hid hP
        replace hC := Lib.hid hC
        replace HW := Lib.hid HW
        replace HD := Lib.hid HD
        clear ih hm hN hVM hVC hk he hnd a1 a2 a3 b1 b2 b3 e1 e2
        go_enter Try.func64, Try.ntmps64
        go_wp2_with fail
        refine (F1.out _ (by repeat (first | exact Fr.refl _ _ | apply Fr.alloc | apply Fr.drewN | apply Fr.drew))).mono ?_
        rintro e w1 ⟨rfl, a1, cap1, hB1, hP1, hC1, hG1⟩
        have k1 := chg_fresh E hB.out hmc hG1 (heap_new_at (k := w.heap.size) (by simp) _) (Nat.le_refl _)
        have o1 : ∀ i, (Value.slice a1 s1.1.1.length cap1).ownBlock = some i → i ≠ w.heap.size := by
          intro i hi
          rcases hG1.2 i hi with h | h
          · obtain ⟨c, hc⟩ := own_block hB.out.own h
            have := lt_of_heap hc; omega
          · simp at h; omega
        have g1 : Grew (fun i => BB p m i ∨ S i ∨ i = mc) w w1 (.slice (some ⟨b, off, none⟩) N.length cap) (.slice a1 s1.1.1.length cap1) := (Grew.of_same _ (by repeat (first | exact Fr.refl _ _ | apply Fr.alloc | apply Fr.drewN | apply Fr.drew))).trans hG1
        have x0 := cell_at k1 0; have x1 := cell_at k1 1; have x2 := cell_at k1 2
        have xb := lt_of_heap k1
        replace hB1 := Lib.hid hB1; replace hP1 := Lib.hid hP1; replace hC1 := Lib.hid hC1; replace k1 := Lib.hid k1; replace o1 := Lib.hid o1; replace g1 := Lib.hid g1
        clear hG1 F1 hl
        go_wp2_with fail
        refine (F2.out a1 cap1 _ hB1.out hP1.out hC1.out).mono ?_
        rintro e w2 ⟨rfl, a2, cap2, hB2, hP2, hC2, hG2⟩
        have k2 : w2.heap[w.heap.size]? = some (.cells #[.int .i64 nv, .int .i64 nl, .int .i64 nh] 80 (0, 0)) := by
          refine hG2.1.at k1.out ?_
          rintro (h | h | h | h)
          · exact o1.out _ h rfl
          · rcases h with h | h
            · have := E.ne.2; omega
            · have := E.ne.1; omega
          · have := E.sl _ h; omega
          · omega
        have g2 := g1.out.trans hG2
        clear x0 x1 x2 xb
        have x0 := cell_at k2 0; have x1 := cell_at k2 1; have x2 := cell_at k2 2
        have xb := lt_of_heap k2
        replace hB2 := Lib.hid hB2; replace hP2 := Lib.hid hP2; replace hC2 := Lib.hid hC2; replace k2 := Lib.hid k2; replace g2 := Lib.hid g2
        clear hG2 F2
        go_wp2_with fail
        refine (HW.out _ _ hP2.out).mono ?_
        rintro e w3 ⟨rfl, hs3⟩
        have k3 := hs3.at k2.out id
        have hB3 := hB2.out.same hs3
        have hP3 := E.same hP2.out hB2.out hs3
        have hC3 := hC2.out.of_block (hs3.block _ hC2.out.lt id)
        have g3 := g2.out.trans (Grew.of_same _ hs3)
        clear x0 x1 x2 xb
        have x0 := cell_at k3 0; have x1 := cell_at k3 1; have x2 := cell_at k3 2
        have xb := lt_of_heap k3
        replace hs3 := Lib.hid hs3; replace k3 := Lib.hid k3; replace hB3 := Lib.hid hB3; replace hP3 := Lib.hid hP3; replace hC3 := Lib.hid hC3; replace g3 := Lib.hid g3
        clear hB2 hP2 hC2 k2 g2 HW
        rcases hq with ⟨hwn, s3, r', e3, hq⟩ | ⟨hwn, hq⟩
        · simp only [Prod.mk.injEq] at hq
          obtain ⟨rfl, rfl⟩ := hq
          have HD' := HD.out a2 cap2 w3 r s3 hB3.out hP3.out e3 (by simpa using hlen)
          replace HD' := Lib.hid HD'; replace e3 := Lib.hid e3; replace hlen := Lib.hid hlen; replace hlen2 := Lib.hid hlen2
          clear HD
          go_wp2_with fail
          refine HD'.out.mono ?_
          rintro e w4 ⟨rfl, a4, cap4, hB4, hP4, hG4⟩
          have hC4 := chg_map E hB3.out hC3.out hG4 E.sl
          have g4 := g3.out.trans ((show Grew (fun i => BB p m i ∨ S i ∨ i = mc) w3 w4 _ _ from ⟨hG4.1.mono (fun i _ h => h.imp id (fun h => h.imp id .inl)), hG4.2⟩))
          replace hB4 := Lib.hid hB4; replace hP4 := Lib.hid hP4; replace hC4 := Lib.hid hC4; replace g4 := Lib.hid g4
          clear hG4 HD' x0 x1 x2 xb
          go_wp2_with (at_mapUpdate; refine wpList_mput rfl (.tmp 53) (.tmp 54) (.tmp 58) rfl keyI mapI mc s2.2 rfl hC4.out k rfl r rfl ?_; intro ob hob; have hl := lookup_hit keyI mapI hob (mget_put_same s2.2 k r) false; have hp := chg_put E (C' := []) (ob := ob) hB4.out hP4.out hC4.out; replace hp := Lib.hid hp; replace hob := Lib.hid hob)
          go_ret
          exact ⟨rfl, a4, cap4, hp.out.1, hp.out.2.1, hob.out, g4.out.trans hp.out.2.2⟩
        · simp only [Prod.mk.injEq] at hq
          obtain ⟨rfl, rfl⟩ := hq
          have hlen3 : s2.1.1.length ≤ 100000 := Nat.le_trans hlen2 hlen
          replace hlen := Lib.hid hlen; replace hlen2 := Lib.hid hlen2
          clear HD
          go_wp2_with fail
          refine (number_any (fun _ => False) B p m a2 cap2 s2.1.1 nv low high _ hB3.out hlen3).mono ?_
          rintro e w4 ⟨rfl, a4, cap4, hB4, hG4⟩
          have hC4 := chg_map E hB3.out hC3.out hG4 (fun _ h => h.elim)
          have hP4 := E.pre w3 w4 s2.1.2 a2 cap2 s2.1.1 hP3.out hB3.out (hG4.1.mono (fun i _ h => h.imp id (fun h => .inl (h.resolve_right id))))
          have g4 := g3.out.trans ((show Grew (fun i => BB p m i ∨ S i ∨ i = mc) w3 w4 _ _ from ⟨hG4.1.mono (fun i _ h => h.imp id (fun h => h.imp id (fun h => h.elim))), hG4.2⟩))
          replace hB4 := Lib.hid hB4; replace hP4 := Lib.hid hP4; replace hC4 := Lib.hid hC4; replace g4 := Lib.hid g4
          clear hG4 x0 x1 x2 xb
          obtain ⟨r, hr⟩ : ∃ r, r = (numF s2.1.1 (nv, low, high)).2 := ⟨_, rfl⟩
          rw [← hr]
          replace hr := Lib.hid hr
          go_wp2_with (at_mapUpdate; refine wpList_mput rfl (.tmp 59) (.tmp 60) (.tmp 67) rfl keyI mapI mc s2.2 rfl hC4.out k rfl r rfl ?_; intro ob hob; have hl := lookup_hit keyI mapI hob (mget_put_same s2.2 k r) false; have hp := chg_put E (C' := []) (ob := ob) hB4.out hP4.out hC4.out; replace hp := Lib.hid hp; replace hob := Lib.hid hob)
          go_ret
          obtain rfl := hr.out
          exact ⟨rfl, a4, cap4, hp.out.1, hp.out.2.1, hob.out, g4.out.trans hp.out.2.2⟩
end
end Go.Proofs.Ytaebjalpebgliaa
