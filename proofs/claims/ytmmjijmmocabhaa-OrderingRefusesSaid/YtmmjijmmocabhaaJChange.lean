/- The builder: change. -/
import Derived.Test.YtmmjijmmocabhaaJCheck
import Derived.Test.YtmmjijmmocabhaaJChgP
namespace Go.Proofs.Ytmmjijmmocabhaa
open Go.RowKit
set_option linter.unusedVariables false
set_option linter.unusedSimpArgs false

/-- What do makes of valid numbers is valid. -/
def DoVal (dof : Is → Int → Int → Option (Is × Int)) : Prop :=
  ∀ (s : Is) (l h : Int) (s' : Is) (r : Int), dof s l h = some (s', r) → VNd s.1 → VM s.1 s.2 → VNum s.1 l → VNum s.1 h → VNd s'.1 ∧ VM s'.1 s'.2 ∧ VNum s'.1 r ∧ s.1.length ≤ s'.1.length

theorem changeF_eq {wn : Int → Bool} {dof : Is → Int → Int → Option (Is × Int)} {f : Nat} {s : Cs} {k : Int} (h2 : ¬ k < 2) (hm : mget s.2 k = none) {q : Cs × Int} (hr : changeF wn dof (f + 1) s k = some q) :
    ∃ s1 low s2 high, changeF wn dof f s (nodeF s.1.1 k).2.1 = some (s1, low) ∧ changeF wn dof f s1 (nodeF s.1.1 k).2.2 = some (s2, high) ∧
      ((wn (nodeF s.1.1 k).1 = true ∧ ∃ s3 r, dof s2.1 low high = some (s3, r) ∧ q = ((s3, mput s2.2 k r), r)) ∨
       (wn (nodeF s.1.1 k).1 = false ∧ q = ((((numF s2.1.1 ((nodeF s.1.1 k).1, low, high)).1, s2.1.2), mput s2.2 k (numF s2.1.1 ((nodeF s.1.1 k).1, low, high)).2), (numF s2.1.1 ((nodeF s.1.1 k).1, low, high)).2))) := by
  rw [changeF, if_neg h2] at hr
  simp only [hm] at hr
  split at hr
  · cases hr
  rename_i s1 low e1
  split at hr
  · cases hr
  rename_i s2 high e2
  refine ⟨s1, low, s2, high, e1, e2, ?_⟩
  split at hr
  · rename_i hw
    split at hr
    · cases hr
    rename_i s3 r e3
    simp only [Option.some.injEq] at hr
    exact .inl ⟨hw, s3, r, e3, hr.symm⟩
  · rename_i hw
    simp only [Option.some.injEq] at hr
    exact .inr ⟨by simpa using hw, hr.symm⟩

theorem VM.put {N N' : List Nd} {C : List (Int × Int)} {k r : Int} (h : VM N C) (hl : N.length ≤ N'.length) (hr : VNum N' r) : VM N' (mput C k r) := by
  intro j u hj
  rw [mget_put] at hj
  split at hj
  · cases hj; exact hr
  · exact (h j u hj).mono hl

theorem changeF_valid {wn : Int → Bool} {dof : Is → Int → Int → Option (Is × Int)} (hd : DoVal dof) : ∀ (f : Nat) (s s' : Cs) (k r : Int), changeF wn dof f s k = some (s', r) → VNd s.1.1 → VM s.1.1 s.1.2 → VM s.1.1 s.2 → VNum s.1.1 k →
    VNd s'.1.1 ∧ VM s'.1.1 s'.1.2 ∧ VM s'.1.1 s'.2 ∧ VNum s'.1.1 r ∧ s.1.1.length ≤ s'.1.1.length := by
  intro f
  induction f with
  | zero => intro s s' k r h; simp [changeF] at h
  | succ f ih =>
    intro s s' k r h hN hM hC hk
    by_cases h2 : k < 2
    · rw [changeF, if_pos h2] at h
      simp only [Option.some.injEq, Prod.mk.injEq] at h
      obtain ⟨rfl, rfl⟩ := h
      exact ⟨hN, hM, hC, hk, Nat.le_refl _⟩
    · cases hm : mget s.2 k with
      | some u =>
        rw [changeF, if_neg h2] at h
        simp only [hm, Option.some.injEq, Prod.mk.injEq] at h
        obtain ⟨rfl, rfl⟩ := h
        exact ⟨hN, hM, hC, hC k _ hm, Nat.le_refl _⟩
      | none =>
        have hn := nodeF_valid hN (by omega) hk.2
        obtain ⟨s1, low, s2, high, e1, e2, he⟩ := changeF_eq h2 hm h
        obtain ⟨a1, a2, a3, a4, a5⟩ := ih _ _ _ _ e1 hN hM hC hn.2.2.1
        obtain ⟨b1, b2, b3, b4, b5⟩ := ih _ _ _ _ e2 a1 a2 a3 (hn.2.2.2.1.mono a5)
        rcases he with ⟨_, s3, r', e3, hq⟩ | ⟨_, hq⟩
        · obtain ⟨c1, c2, c3, c4⟩ := hd _ _ _ _ _ e3 b1 b2 (a4.mono b5) b4
          simp only [Prod.mk.injEq] at hq
          obtain ⟨rfl, rfl⟩ := hq
          exact ⟨c1, c2, b3.put c4 c3, c3, by simp only; omega⟩
        · simp only [Prod.mk.injEq] at hq
          obtain ⟨rfl, rfl⟩ := hq
          have hg := numF_grows s2.1.1 ((nodeF s.1.1 k).1, low, high)
          obtain ⟨c1, c2⟩ := numF_valid b1 ⟨hn.1, hn.2.1⟩ (a4.mono b5) b4
          exact ⟨c1, b2.mono hg.1, b3.put hg.1 c2, c2, by simp only; omega⟩

/-- What change works with: the builder, its memory mc, and two closures over Pre. -/
structure ChgE (wn : Int → Bool) (dof : Is → Int → Int → Option (Is × Int)) (B p m mc : Nat) (S : Nat → Prop) (Pre : World → List (Nd × Int) → Prop) (Fw Fd : FuncId) (cw cd : Array Value) : Prop where
  ew : ∀ (args : Array Value) (W : World), (callFunc Fw args).run Try.prog W = .ok (.enter Fw args) W
  ed : ∀ (args : Array Value) (W : World), (callFunc Fd args).run Try.prog W = .ok (.enter Fd args) W
  hw : ∀ (v : Int) (W : World) (M : List (Nd × Int)), Pre W M → Calls Try.prog Fw (#[.int .i64 v] ++ cw) W fun e W' => e = .returned (.bool (wn v)) ∧ Same W W'
  hd : ∀ (a : Option Addr) (cap : Nat) (s : Is) (l h : Int) (s' : Is) (r : Int) (W : World), BuilderAt W B p m a cap s.1 → Pre W s.2 → VNd s.1 → VM s.1 s.2 → VNum s.1 l → VNum s.1 h → dof s l h = some (s', r) → s'.1.length ≤ 100000 →
    Calls Try.prog Fd (#[.int .i64 l, .int .i64 h] ++ cd) W fun e W' => e = .returned (.int .i64 r) ∧ ∃ a' cap', BuilderAt W' B p m a' cap' s'.1 ∧ Pre W' s'.2 ∧ Grew (fun i => BB p m i ∨ S i) W W' (.slice a s.1.length cap) (.slice a' s'.1.length cap')
  pre : ∀ (W W' : World) (M : List (Nd × Int)) (a : Option Addr) (cap : Nat) (N : List Nd), Pre W M → BuilderAt W B p m a cap N → Fr (fun i => (Value.slice a N.length cap).ownBlock = some i ∨ BB p m i ∨ i = mc) W W' → Pre W' M
  val : DoVal dof
  sl : ∀ i, S i → i < mc
  ne : m < mc ∧ p < mc

def CRet (w : World) (B p m mc : Nat) (S : Nat → Prop) (Pre : World → List (Nd × Int) → Prop) (a : Option Addr) (cap : Nat) (N : List Nd) (s' : Cs) (k : Int) (e : Ending) (w' : World) : Prop :=
  e = .returned (.int .i64 k) ∧ ∃ a' cap', BuilderAt w' B p m a' cap' s'.1.1 ∧ Pre w' s'.1.2 ∧ mI w' mc s'.2 ∧ Grew (fun i => BB p m i ∨ S i ∨ i = mc) w w' (.slice a N.length cap) (.slice a' s'.1.1.length cap')

section
variable {wn : Int → Bool} {dof : Is → Int → Int → Option (Is × Int)} {B p m mc : Nat} {S : Nat → Prop} {Pre : World → List (Nd × Int) → Prop} {Fw Fd : FuncId} {cw cd : Array Value}

theorem ChgE.same (E : ChgE wn dof B p m mc S Pre Fw Fd cw cd) {W W' : World} {M : List (Nd × Int)} {a : Option Addr} {cap : Nat} {N : List Nd} (h : Pre W M) (hB : BuilderAt W B p m a cap N) (hs : Same W W') : Pre W' M :=
  E.pre W W' M a cap N h hB (hs.mono (fun _ _ f => f.elim))

/-- A block that is newer than what change works on is kept. -/
theorem chg_fresh (E : ChgE wn dof B p m mc S Pre Fw Fd cw cd) {w W w' : World} {a : Option Addr} {cap : Nat} {N : List Nd} {v' : Value} (hB : BuilderAt w B p m a cap N) (hmc : mc < w.heap.size)
    (hG : Grew (fun i => BB p m i ∨ S i ∨ i = mc) W w' (.slice a N.length cap) v') {k : Nat} {o : Obj} (hk : W.heap[k]? = some o) (hge : w.heap.size ≤ k) : w'.heap[k]? = some o := by
  refine hG.1.at hk ?_
  rintro (h | h | h | h)
  · obtain ⟨c, hc⟩ := own_block hB.own h
    have := lt_of_heap hc; omega
  · rcases h with h | h
    · have := E.ne.2; omega
    · have := E.ne.1; omega
  · have := E.sl _ h; omega
  · omega

theorem chg_map (E : ChgE wn dof B p m mc S Pre Fw Fd cw cd) {w w' : World} {a : Option Addr} {cap : Nat} {N : List Nd} {v' : Value} {T : Nat → Prop} {C : List (Int × Int)} (hB : BuilderAt w B p m a cap N) (hC : mI w mc C)
    (hG : Grew (fun i => BB p m i ∨ T i) w w' (.slice a N.length cap) v') (hT : ∀ i, T i → i < mc) : mI w' mc C := by
  refine hC.of_block (hG.1.block _ hC.lt ?_)
  rintro (h | h | h)
  · obtain ⟨c, hc⟩ := own_block hB.own h
    exact map_ne_cells hC hc rfl
  · rcases h with h | h
    · have := E.ne.2; omega
    · have := E.ne.1; omega
  · have := hT _ h; omega

/-- change puts a number into its memory. -/
theorem chg_put (E : ChgE wn dof B p m mc S Pre Fw Fd cw cd) {w : World} {a : Option Addr} {cap : Nat} {N : List Nd} {C C' : List (Int × Int)} {M : List (Nd × Int)} {ob : Obj} (hB : BuilderAt w B p m a cap N) (hP : Pre w M) (hC : mI w mc C) :
    BuilderAt (setObj w mc ob) B p m a cap N ∧ Pre (setObj w mc ob) M ∧ Grew (fun i => BB p m i ∨ S i ∨ i = mc) w (setObj w mc ob) (.slice a N.length cap) (.slice a N.length cap) := by
  have hf : Fr (fun i => i = mc) w (setObj w mc ob) := (Fr.refl _ _).setObj mc ob (fun _ => rfl)
  refine ⟨hB.fr hf (by have := E.ne.2; omega) (by have := E.ne.1; omega) (fun k hk hh => ?_), E.pre _ _ M a cap N hP hB (hf.mono (fun i _ h => .inr (.inr h))), ⟨hf.mono (fun i _ h => .inr (.inr (.inr h))), fun _ h => .inl h⟩⟩
  obtain ⟨c, hc⟩ := own_block hB.own hk
  exact map_ne_cells hC hc hh.symm

end
end Go.Proofs.Ytmmjijmmocabhaa
