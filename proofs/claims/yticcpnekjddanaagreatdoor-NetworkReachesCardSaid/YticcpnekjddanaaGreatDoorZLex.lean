/-  -/
import Derived.WalkKit
import Derived.Orders
import Derived.Deep.RegionHeld3
import Derived.Test.YticcpnekjddanaaGreatDoorZRowAt

namespace Go.Proofs.YticcpnekjddanaaGreatDoor
open Go.RowKit
section
variable {P : Program} {ops : Array Oper} {Q : Exit → Act → World → Prop} {md : Region.Mode} {L : Nat → Prop}
def Kp (L : Nat → Prop) (w w' : World) : Prop := w.heap.size ≤ w'.heap.size ∧ ∀ k, L k → k < w.heap.size → w'.heap[k]? = w.heap[k]?
theorem Kp.refl (L : Nat → Prop) (w : World) : Kp L w w := ⟨Nat.le_refl _, fun _ _ _ => rfl⟩
theorem Kp.trans {a b c : World} (h : Kp L a b) (k : Kp L b c) : Kp L a c := ⟨Nat.le_trans h.1 k.1, fun i hi hl => (k.2 i hi (Nat.lt_of_lt_of_le hl h.1)).trans (h.2 i hi hl)⟩
theorem Kp.of_fr {S : Nat → Prop} {w w' : World} (h : Fr S w w') (hS : ∀ k, L k → k < w.heap.size → ¬ S k) : Kp L w w' := ⟨h.size, fun k hk hl => h.block k hl (hS k hk hl)⟩
theorem Kp.of_same {w w' : World} (h : qad w w') : Kp L w w' := .of_fr h (fun _ _ _ => id)
def qbY (P : Program) (ops : Array Oper) (o : Oper) (a : Act) (w : World) (v : Value) : Prop :=
 (Region.wanted o (yielded ops a.tmps) = true ∧ ((execOp a.eval o).run P w = .ok (.value v) w ∨ ((execOp a.eval o).run P w = .ok .skip w ∧ v = undef))) ∨
 (Region.wanted o (yielded ops a.tmps) = false ∧ v = undef)
theorem qbY.of_same {o : Oper} {v : Value} {a a' : Act} {w : World} (hy : qbY P ops o a w v) (he : execOp a'.eval o = execOp a.eval o)
 (hw : Region.wanted o (yielded ops a'.tmps) = Region.wanted o (yielded ops a.tmps)) : qbY P ops o a' w v := by
 unfold qbY at *
 rw [he, hw]
 exact hy
def KStep (L : Nat → Prop) (P : Program) (ops : Array Oper) (Q : Exit → Act → World → Prop) (kd : Nat) (o : Oper) (K : Act → World → Prop) (a : Act) (w : World) : Prop :=
 if kd = 0 then ∃ v, (∀ w', qbY P ops o a w' v) ∧ K (a.put o.dst v) w
 else if kd = 1 then ∃ v, (∀ w', Kp L w w' → qbY P ops o a w' v) ∧ K (a.put o.dst v) w
 else if kd = 2 then (if Region.wanted o (yielded ops a.tmps) then o.wp P a w (fun a' w' => Kp L w w' ∧ K a' w') Q ∨ (o.asks P a w ∧ LetsOut Q) else K (a.put o.dst undef) w)
 else (if Region.wanted o (yielded ops a.tmps) then o.wp P a w K Q ∨ (o.asks P a w ∧ LetsOut Q) else K (a.put o.dst undef) w)
def KOp (L : Nat → Prop) (P : Program) (ops : Array Oper) (Q : Exit → Act → World → Prop) (kds : List Nat) (i : Nat) (K : Act → World → Prop) (a : Act) (w : World) : Prop :=
 match ops[i]? with
 | none => K a w
 | some o => KStep L P ops Q (kds.getD i 3) o K a w
theorem KStep.mono {kd : Nat} {o : Oper} {K K' : Act → World → Prop} {a : Act} {w : World} (h : ∀ a w, K a w → K' a w) (hh : KStep L P ops Q kd o K a w) : KStep L P ops Q kd o K' a w := by
 unfold KStep at *
 split
 · rename_i h0; rw [if_pos h0] at hh; obtain ⟨v, h1, h2⟩ := hh; exact ⟨v, h1, h _ _ h2⟩
 · rename_i h0
   rw [if_neg h0] at hh
   split
   · rename_i h1; rw [if_pos h1] at hh; obtain ⟨v, h2, h3⟩ := hh; exact ⟨v, h2, h _ _ h3⟩
   · rename_i h1
     rw [if_neg h1] at hh
     split
     · rename_i h2
       rw [if_pos h2] at hh
       split
       · rename_i hw; rw [if_pos hw] at hh; exact hh.imp (Oper.wp_mono (fun a w hk => ⟨hk.1, h _ _ hk.2⟩)) id
       · rename_i hw; rw [if_neg hw] at hh; exact h _ _ hh
     · rename_i h2
       rw [if_neg h2] at hh
       split
       · rename_i hw; rw [if_pos hw] at hh; exact hh.imp (Oper.wp_mono h) id
       · rename_i hw; rw [if_neg hw] at hh; exact h _ _ hh
theorem KOp.mono {kds : List Nat} {i : Nat} {K K' : Act → World → Prop} {a : Act} {w : World} (h : ∀ a w, K a w → K' a w) (hh : KOp L P ops Q kds i K a w) : KOp L P ops Q kds i K' a w := by
 unfold KOp at *
 split
 · rename_i ho; simp only [ho] at hh; exact h _ _ hh
 · rename_i o ho; simp only [ho] at hh; exact hh.mono h
theorem qbY.wpOp {o : Oper} {v : Value} {a : Act} {w : World} (hy : qbY P ops o a w v) {K : Act → World → Prop} (h : K (a.put o.dst v) w) :
 if Region.wanted o (yielded ops a.tmps) then o.wp P a w K Q ∨ (o.asks P a w ∧ LetsOut Q) else K (a.put o.dst undef) w := by
 rcases hy with ⟨hw, hv | ⟨hv, rfl⟩⟩ | ⟨hw, rfl⟩
 · rw [if_pos hw]; left; unfold Oper.wp; rw [hv]; exact h
 · rw [if_pos hw]; left; unfold Oper.wp; rw [hv]; exact h
 · rw [if_neg (by simp [hw])]; exact h
theorem KOp.wpOp {kds : List Nat} {i : Nat} {K : Act → World → Prop} {a : Act} {w : World} (hh : KOp L P ops Q kds i K a w) : wpOp P ops Q i K a w := by
 unfold KOp at hh
 unfold Go.wpOp
 split
 · rename_i ho; simp only [ho] at hh; exact hh
 · rename_i o ho
   simp only [ho] at hh
   unfold KStep at hh
   split at hh
   · obtain ⟨v, h1, h2⟩ := hh; exact (h1 w).wpOp h2
   · split at hh
     · obtain ⟨v, h1, h2⟩ := hh; exact (h1 w (Kp.refl _ _)).wpOp h2
     · split at hh
       · split
         · rename_i hw; rw [if_pos hw] at hh; exact hh.imp (Oper.wp_mono (fun a w hk => hk.2)) id
         · rename_i hw; rw [if_neg hw] at hh; exact hh
       · exact hh
def qeV (L : Nat → Prop) (P : Program) (md : Region.Mode) (ops : Array Oper) (Q : Exit → Act → World → Prop) (kds : List Nat) : Nat → Array Bool → Act → World → Prop
 | 0, listed, a, w => Region.ready md ops listed = [] ∧ Q .normal a w
 | fuel + 1, listed, a, w =>
  (Region.ready md ops listed = [] → Q .normal a w) ∧
  ∀ i ∈ Region.ready md ops listed, KOp L P ops Q kds i (qeV L P md ops Q kds fuel (listed.setIfInBounds i true)) a w
theorem qgD {kds : List Nat} : ∀ (fuel : Nat) (listed : Array Bool) (a : Act) (w : World), qeV L P md ops Q kds fuel listed a w → wpAny P md ops Q fuel listed a w
 | 0, _, _, _, h => h
 | fuel + 1, _, _, _, h => ⟨h.1, fun i hi => wpOp_mono (fun a w => qgD fuel _ a w) (h.2 i hi).wpOp⟩
def qe8 (L : Nat → Prop) (P : Program) (ops : Array Oper) (kd : Nat) (o : Oper) (v : Value) (a : Act) (w : World) : Prop :=
 if kd = 0 then ∀ w', qbY P ops o a w' v else ∀ w', Kp L w w' → qbY P ops o a w' v
theorem qe8.of_same {kd : Nat} {o : Oper} {v : Value} {a a' : Act} {w : World} (hy : qe8 L P ops kd o v a w) (he : execOp a'.eval o = execOp a.eval o)
 (hw : Region.wanted o (yielded ops a'.tmps) = Region.wanted o (yielded ops a.tmps)) : qe8 L P ops kd o v a' w := by
 unfold qe8 at *
 split
 · rename_i h; rw [if_pos h] at hy; exact fun w' => (hy w').of_same he hw
 · rename_i h; rw [if_neg h] at hy; exact fun w' hs => (hy w' hs).of_same he hw
theorem qe8.same {kd : Nat} {o : Oper} {v : Value} {a : Act} {w w' : World} (hy : qe8 L P ops kd o v a w) (hs : kd = 0 ∨ Kp L w w') : qe8 L P ops kd o v a w' := by
 unfold qe8 at *
 split
 · rename_i h; rw [if_pos h] at hy; exact hy
 · rename_i h; rw [if_neg h] at hy; exact fun w'' hs' => hy w'' ((hs.resolve_left h).trans hs')
theorem qe8.KStep {kd : Nat} (hk : kd < 2) {o : Oper} {v : Value} {a : Act} {w : World} (hy : qe8 L P ops kd o v a w) {K : Act → World → Prop} (h : K (a.put o.dst v) w) : KStep L P ops Q kd o K a w := by
 unfold qe8 at hy
 unfold Proofs.YticcpnekjddanaaGreatDoor.KStep
 split
 · rename_i h0; rw [if_pos h0] at hy; exact ⟨v, hy, h⟩
 · rename_i h0; rw [if_neg h0] at hy; rw [if_pos (by omega)]; exact ⟨v, hy, h⟩
theorem qkd {oi oj : Oper} {v : Value} {kd : Nat} (hap : oi.apart ops oj = true) (hsi : ∀ cs b, oi.op ≠ .select cs b) (hsj : ∀ cs b, oj.op ≠ .select cs b)
 (hQ : ∀ c a w, Q (.panic c) (a.put oi.dst v) w → Q (.panic c) a w) {K : Act → World → Prop} {G : World → Prop} {a : Act} {w : World}
 (hG : ∀ w', G w' → kd = 0 ∨ Kp L w w') (hy : qe8 L P ops kd oi v a w)
 (h : if Region.wanted oj (yielded ops (a.put oi.dst v).tmps) then oj.wp P (a.put oi.dst v) w (fun a' w' => G w' ∧ K a' w') Q ∨ (oj.asks P (a.put oi.dst v) w ∧ LetsOut Q) else K ((a.put oi.dst v).put oj.dst undef) w) :
 if Region.wanted oj (yielded ops a.tmps) then oj.wp P a w (fun a' w' => G w' ∧ qe8 L P ops kd oi v a' w' ∧ K (a'.put oi.dst v) w') Q ∨ (oj.asks P a w ∧ LetsOut Q) else qe8 L P ops kd oi v (a.put oj.dst undef) w ∧ K ((a.put oj.dst undef).put oi.dst v) w := by
 obtain ⟨h1, h2, h3⟩ := Oper.apart_spec hap
 have keep : ∀ (a : Act) (w : World), qe8 L P ops kd oi v a w → ∀ u, qe8 L P ops kd oi v (a.put oj.dst u) w := fun a w hy u =>
  hy.of_same (execOp_put oi hsi a oj.dst u h3) (wanted_put oi a oj.dst u h3)
 have keepD : ∀ d w', (kd = 0 ∨ Kp L w w') → qe8 L P ops kd oi v { a with defers := d :: a.defers } w' := fun d w' hs => (hy.same hs).of_same rfl rfl
 rw [wanted_put oj a oi.dst v h1] at h
 split
 · rename_i hw
   rw [if_pos hw] at h
   rcases h with h | ⟨hasks, hlets⟩
   case inr => exact .inr ⟨by unfold Oper.asks at *; rw [execOp_put oj hsj a oi.dst v h1] at hasks; exact hasks, hlets⟩
   refine .inl ?_
   unfold Oper.wp at *
   rw [execOp_put oj hsj a oi.dst v h1] at h
   generalize (execOp a.eval oj).run P w = r at *
   cases r with
   | ok n w' =>
    cases n <;> simp only [Oper.upon] at h ⊢
    case value u => exact ⟨h.1, keep a _ (hy.same (hG _ h.1)) u, by rw [← Act.put_comm a v u h2]; exact h.2⟩
    case skip => exact ⟨h.1, keep a _ (hy.same (hG _ h.1)) _, by rw [← Act.put_comm a v undef h2]; exact h.2⟩
    case defer d =>
     refine ⟨h.1, keep _ _ (keepD d _ (hG _ h.1)) _, ?_⟩
     rw [← Act.put_comm _ v undef h2, ← Act.put_defers]
     exact h.2
    case enter f args =>
     refine Calls.mono h fun e w'' he => ?_
     cases e with
     | returned u => exact ⟨he.1, keep a _ (hy.same (hG _ he.1)) u, by rw [← Act.put_comm a v u h2]; exact he.2⟩
     | panicked c => exact hQ _ _ _ he
     | outgrown => exact he
    case row row args => exact Rows.mono h fun u w'' he => ⟨he.1, keep a _ (hy.same (hG _ he.1)) u, by rw [← Act.put_comm a v u h2]; exact he.2⟩
   | halt x w' =>
    cases x <;> simp only [Oper.upon] at h ⊢
    case panic u => exact hQ _ _ _ h
 · rename_i hw
   rw [if_neg hw] at h
   exact ⟨keep a _ hy _, by rw [← Act.put_comm a v undef h2]; exact h⟩
theorem KOp_put {kds : List Nat} {i j : Nat} {oi oj : Oper} {v : Value} (hj : ops[j]? = some oj) (hap : oi.apart ops oj = true)
 (hsi : ∀ cs b, oi.op ≠ .select cs b) (hsj : ∀ cs b, oj.op ≠ .select cs b)
 (hQ : ∀ c a w, Q (.panic c) (a.put oi.dst v) w → Q (.panic c) a w) (hk : kds.getD i 3 = 0 ∨ kds.getD j 3 ≤ 2) {K : Act → World → Prop} {a : Act} {w : World}
 (hy : qe8 L P ops (kds.getD i 3) oi v a w) (h : KOp L P ops Q kds j K (a.put oi.dst v) w) :
 KOp L P ops Q kds j (fun a' w' => qe8 L P ops (kds.getD i 3) oi v a' w' ∧ K (a'.put oi.dst v) w') a w := by
 obtain ⟨h1, h2, h3⟩ := Oper.apart_spec hap
 have keep : ∀ (a : Act) (w : World), qe8 L P ops (kds.getD i 3) oi v a w → ∀ u, qe8 L P ops (kds.getD i 3) oi v (a.put oj.dst u) w := fun a w hy u =>
  hy.of_same (execOp_put oi hsi a oj.dst u h3) (wanted_put oi a oj.dst u h3)
 have same_put : ∀ w' u, qbY P ops oj (a.put oi.dst v) w' u → qbY P ops oj a w' u := fun w' u hu =>
  hu.of_same (execOp_put oj hsj a oi.dst v h1).symm (wanted_put oj a oi.dst v h1).symm
 unfold KOp at *
 simp only [hj] at *
 unfold KStep at *
 split
 · rename_i h0
   rw [if_pos h0] at h
   obtain ⟨u, hu, hK⟩ := h
   exact ⟨u, fun w' => same_put w' u (hu w'), keep a w hy u, by rw [← Act.put_comm a v u h2]; exact hK⟩
 · rename_i h0
   rw [if_neg h0] at h
   split
   · rename_i h4
     rw [if_pos h4] at h
     obtain ⟨u, hu, hK⟩ := h
     exact ⟨u, fun w' hs => same_put w' u (hu w' hs), keep a w hy u, by rw [← Act.put_comm a v u h2]; exact hK⟩
   · rename_i h4
     rw [if_neg h4] at h
     split
     · rename_i h5
       rw [if_pos h5] at h
       exact qkd hap hsi hsj hQ (G := fun w' => Kp L w w') (fun w' hs => .inr hs) hy h
     · rename_i h5
       rw [if_neg h5] at h
       have hk0 : kds.getD i 3 = 0 := by
        rcases hk with hk | hk
        · exact hk
        · omega
       have := qkd hap hsi hsj hQ (G := fun _ => True) (K := K) (fun w' _ => .inl hk0) hy (by
        split
        · rename_i hw; rw [if_pos hw] at h; exact h.imp (Oper.wp_mono (fun a w hk => ⟨trivial, hk⟩)) id
        · rename_i hw; rw [if_neg hw] at h; exact h)
       split
       · rename_i hw; rw [if_pos hw] at this; exact this.imp (Oper.wp_mono (fun a w hk => hk.2)) id
       · rename_i hw; rw [if_neg hw] at this; exact this
def Sub (x y : Array Bool) : Prop := x.size = y.size ∧ ∀ j, x.getD j false = true → y.getD j false = true
theorem qeD (x : Array Bool) (j : Nat) : (x.getD j true = false) ∨ (x.getD j false = true) ∨ x.size ≤ j := by
 rcases Nat.lt_or_ge j x.size with h | h
 · cases hx : x[j]
   · left; simp [h, hx]
   · right; left; simp [h, hx]
 · exact .inr (.inr h)
theorem qmb {x y : Array Bool} (h : Sub x y) {j : Nat} (hj : j ∈ Region.ready md ops x) (hy : y.getD j true = false) : j ∈ Region.ready md ops y := by
 rw [mem_ready] at *
 obtain ⟨_, o, ho, hall⟩ := hj
 exact ⟨hy, o, ho, fun e he hb => h.2 _ (hall e he hb)⟩
theorem qeW {kds : List Nat} {i : Nat} {oi : Oper} {v : Value} (hi : ops[i]? = some oi) (hk : kds.getD i 3 < 2) (hsel : ∀ (j : Nat) (o : Oper) cs b, ops[j]? = some o → o.op ≠ .select cs b)
 (hQ : ∀ c a w, Q (.panic c) (a.put oi.dst v) w → Q (.panic c) a w) (l0 Ls : Array Bool) (hcl : (kds.getD i 3 = 0 ∧ ∀ j, j < Ls.size → Ls.getD j false = true) ∨ ((∀ j ∈ Region.ready md ops Ls, j = i) ∧ ∀ j, Ls.getD j false = true → l0.getD j true = false → kds.getD j 3 ≤ 2)) :
 ∀ (fuel : Nat) (listed : Array Bool) (a : Act) (w : World), Sub l0 listed → Sub listed Ls →
  (∀ j oj, ops[j]? = some oj → j ≠ i → listed.getD j true = false → (∀ e ∈ oj.after, Region.binds md e = true → e.on ≠ i) → oi.apart ops oj = true) →
  i ∈ Region.ready md ops listed → qe8 L P ops (kds.getD i 3) oi v a w →
  qeV L P md ops Q kds fuel (listed.setIfInBounds i true) (a.put oi.dst v) w → qeV L P md ops Q kds (fuel + 1) listed a w := by
 intro fuel
 have hit : ∀ {K : Act → World → Prop} {a : Act} {w : World}, qe8 L P ops (kds.getD i 3) oi v a w → K (a.put oi.dst v) w → KOp L P ops Q kds i K a w := by
  intro K a w hy h
  unfold KOp
  simp only [hi]
  exact hy.KStep hk h
 induction fuel with
 | zero =>
  intro listed a w _ _ _ hr hy H
  refine ⟨fun h => (by rw [h] at hr; cases hr), fun j hj => ?_⟩
  by_cases hji : j = i
  · subst hji; exact hit hy H
  · have := ready_mono hj hji
    rw [H.1] at this
    cases this
 | succ fuel ih =>
  intro listed a w hs0 hsL hfree hr hy H
  refine ⟨fun h => (by rw [h] at hr; cases hr), fun j hj => ?_⟩
  by_cases hji : j = i
  · subst hji; exact hit hy H
  · have h1 := H.2 j (ready_mono hj hji)
    obtain ⟨hjun, oj, hoj, hall⟩ := mem_ready.1 hj
    have hnot : ∀ e ∈ oj.after, Region.binds md e = true → e.on ≠ i := fun e he hb heq => by
     have h1 := hall e he hb
     have h0 := (mem_ready.1 hr).1
     rw [heq] at h1
     rcases Nat.lt_or_ge i listed.size with h' | h'
     · simp [h'] at h0 h1; rw [h0] at h1; cases h1
     · simp [Array.getElem?_eq_none h'] at h1
    have hjlt : j < listed.size := by
     rcases qeD listed j with h | h | h
     · rcases Nat.lt_or_ge j listed.size with h' | h'
       · exact h'
       · simp [Array.getElem?_eq_none h'] at hjun
     · rcases Nat.lt_or_ge j listed.size with h' | h'
       · exact h'
       · simp [Array.getElem?_eq_none h'] at hjun
     · simp [Array.getElem?_eq_none h] at hjun
    have hkk : Ls.getD j false = true ∧ (kds.getD i 3 = 0 ∨ kds.getD j 3 ≤ 2) := by
     rcases hcl with ⟨h0, h0'⟩ | ⟨hc1, hc2⟩
     · exact ⟨h0' j (by have := hsL.1; omega), .inl h0⟩
     · have hL : Ls.getD j false = true := by
         rcases qeD Ls j with h | h | h
         · exact absurd (hc1 j (qmb hsL hj h)) hji
         · exact h
         · have := hsL.1; omega
       refine ⟨hL, .inr (hc2 j hL ?_)⟩
       rcases qeD l0 j with h | h | h
       · exact h
       · have := hs0.2 j h
         rcases Nat.lt_or_ge j listed.size with h' | h'
         · simp [h'] at this hjun; rw [this] at hjun; cases hjun
         · omega
       · have := hs0.1; omega
    have h2 := KOp_put hoj (hfree j oj hoj hji hjun hnot) (fun cs b => hsel i oi cs b hi) (fun cs b => hsel j oj cs b hoj) hQ hkk.2 hy h1
    have hfree' : ∀ k ok, ops[k]? = some ok → k ≠ i → (listed.setIfInBounds j true).getD k true = false →
     (∀ e ∈ ok.after, Region.binds md e = true → e.on ≠ i) → oi.apart ops ok = true := fun k ok hk hki hun hno => by
     refine hfree k ok hk hki ?_ hno
     by_cases hjk : j = k
     · subst hjk; exact hjun
     · rw [getD_set_ne true hjk] at hun; exact hun
    refine KOp.mono (fun a' w' h3 => ih (listed.setIfInBounds j true) a' w' ⟨by simpa using hs0.1, fun k hk' => getD_set_true (hs0.2 k hk')⟩ ⟨by simpa using hsL.1, fun k hk' => ?_⟩ hfree' (ready_mono hr (Ne.symm hji)) h3.1 ?_) h2
    · by_cases hjk : j = k
      · subst hjk; exact hkk.1
      · rw [getD_set_ne false hjk] at hk'; exact hsL.2 k hk'
    · rw [Array.setIfInBounds_comm _ _ hji]
      exact h3.2
def qfA (md : Region.Mode) (ops : Array Oper) (i : Nat) : Nat → Array Bool → Array Bool
 | 0, listed => listed
 | n + 1, listed => qfA md ops i n (((Region.ready md ops listed).filter (· != i)).foldl (fun x j => x.setIfInBounds j true) listed)
theorem qoC (l : List Nat) : ∀ (x : Array Bool), Sub x (l.foldl (fun x j => x.setIfInBounds j true) x) := by
 induction l with
 | nil => exact fun x => ⟨rfl, fun _ h => h⟩
 | cons k l ih =>
  intro x
  have := ih (x.setIfInBounds k true)
  exact ⟨by simpa using this.1, fun j hj => this.2 j (getD_set_true hj)⟩
theorem qgE (i : Nat) : ∀ (n : Nat) (x : Array Bool), Sub x (qfA md ops i n x)
 | 0, x => ⟨rfl, fun _ h => h⟩
 | n + 1, x => by
  have h1 := qoC ((Region.ready md ops x).filter (· != i)) x
  have h2 := qgE i n (((Region.ready md ops x).filter (· != i)).foldl (fun x j => x.setIfInBounds j true) x)
  exact ⟨h1.1.trans h2.1, fun j hj => h2.2 j (h1.2 j hj)⟩
def qmc (md : Region.Mode) (ops : Array Oper) (kds : List Nat) (listed : Array Bool) (i : Nat) : Bool :=
 kds.getD i 3 == 0 ||
 ((Region.ready md ops (qfA md ops i ops.size listed)).all (· == i) &&
  (List.range ops.size).all fun j => !(qfA md ops i ops.size listed).getD j false || listed.getD j true || decide (kds.getD j 3 ≤ 2))
theorem sub_all (x : Array Bool) : Sub x (Array.replicate x.size true) := by
 refine ⟨by simp, fun j hj => ?_⟩
 rcases Nat.lt_or_ge j x.size with h1 | h1
 · simp [h1]
 · simp [Array.getElem?_eq_none h1] at hj
def qhS (md : Region.Mode) (ops : Array Oper) (kds : List Nat) : List Nat → Array Bool → Bool
 | [], _ => true
 | i :: rest, listed =>
  (Region.ready md ops listed).contains i &&
  (if kds.getD i 3 < 2 then Region.free md ops listed i && qmc md ops kds listed i else Region.ready md ops listed == [i]) &&
  qhS md ops kds rest (listed.setIfInBounds i true)
def qhT (l : List Nat) (x : Array Bool) : Array Bool := l.foldl (fun x i => x.setIfInBounds i true) x
inductive Plan where
 | run (l : List Nat)
 | fork (l : List Nat) (i : Nat) (a : Plan) (j : Nat) (b : Plan)
def qi7 (md : Region.Mode) (ops : Array Oper) (kds : List Nat) : Plan → Nat → Array Bool → Bool
 | .run l, n, x => l.length == n && qhS md ops kds l x && (Region.ready md ops (qhT l x)).isEmpty
 | .fork l i a j b, n, x => decide (l.length < n) && qhS md ops kds l x && (Region.ready md ops (qhT l x) == [i, j]) &&
  qi7 md ops kds a (n - l.length - 1) ((qhT l x).setIfInBounds i true) && qi7 md ops kds b (n - l.length - 1) ((qhT l x).setIfInBounds j true)
def qeE (L : Nat → Prop) (P : Program) (ops : Array Oper) (Q : Exit → Act → World → Prop) (kds : List Nat) (F : Act → World → Prop) : List Nat → Act → World → Prop
 | [], a, w => F a w
 | i :: rest, a, w => KOp L P ops Q kds i (qeE L P ops Q kds F rest) a w
def qd1 (L : Nat → Prop) (P : Program) (ops : Array Oper) (Q : Exit → Act → World → Prop) (kds : List Nat) : Plan → Act → World → Prop
 | .run l, a, w => qeE L P ops Q kds (Q .normal) l a w
 | .fork l i x j y, a, w => qeE L P ops Q kds (fun a' w' => KOp L P ops Q kds i (qd1 L P ops Q kds x) a' w' ∧ KOp L P ops Q kds j (qd1 L P ops Q kds y) a' w') l a w
theorem qfB {kds : List Nat} (hs : Region.noSelect ops = true) (hQ : ∀ d v c a w, Q (.panic c) (Act.put a d v) w → Q (.panic c) a w) (F : Act → World → Prop) (n : Nat) : ∀ (l : List Nat) (listed : Array Bool) (a : Act) (w : World), listed.size = ops.size →
 qhS md ops kds l listed = true → (∀ a w, F a w → qeV L P md ops Q kds n (qhT l listed) a w) → qeE L P ops Q kds F l a w → qeV L P md ops Q kds (l.length + n) listed a w
 | [], listed, a, w, _, hB, hF, h => by simpa [qhT] using hF a w h
 | i :: rest, listed, a, w, hz, hB, hF, h => by
  simp only [qhS, Bool.and_eq_true] at hB
  obtain ⟨⟨hr, hk⟩, hB'⟩ := hB
  have hr' : i ∈ Region.ready md ops listed := by simpa using hr
  have next : ∀ a w, qeE L P ops Q kds F rest a w → qeV L P md ops Q kds (rest.length + n) (listed.setIfInBounds i true) a w := fun a w => qfB hs hQ F n rest _ a w (by simpa using hz) hB' hF
  simp only [qeE] at h
  have el : (i :: rest).length + n = (rest.length + n) + 1 := by simp; omega
  rw [el]
  obtain ⟨_, oi, hoi, _⟩ := mem_ready.1 hr'
  by_cases hlt : kds.getD i 3 < 2
  · rw [if_pos hlt] at hk
    simp only [Bool.and_eq_true] at hk
    obtain ⟨hf, hc⟩ := hk
    unfold KOp at h
    simp only [hoi] at h
    have hfact : ∃ v, qe8 L P ops (kds.getD i 3) oi v a w ∧ qeE L P ops Q kds F rest (a.put oi.dst v) w := by
     unfold KStep at h
     unfold qe8
     by_cases h0 : kds.getD i 3 = 0
     · rw [if_pos h0] at h
       obtain ⟨v, h1, h2⟩ := h
       exact ⟨v, by rw [if_pos h0]; exact h1, h2⟩
     · rw [if_neg h0, if_pos (by omega)] at h
       obtain ⟨v, h1, h2⟩ := h
       exact ⟨v, by rw [if_neg h0]; exact h1, h2⟩
    obtain ⟨v, hy, hK⟩ := hfact
    have hself : Sub listed listed := ⟨rfl, fun _ h => h⟩
    unfold qmc at hc
    simp only [Bool.or_eq_true, beq_iff_eq] at hc
    rcases hc with h0 | hc
    · exact qeW hoi hlt (Region.noSelect_spec hs) (hQ _ v) listed (Array.replicate listed.size true) (.inl ⟨h0, fun j hj => by simp at hj; simp [hj]⟩) (rest.length + n) listed a w hself
        (sub_all listed) (Region.free_spec hoi hf) hr' hy (next _ _ hK)
    · simp only [Bool.and_eq_true] at hc
      refine qeW hoi hlt (Region.noSelect_spec hs) (hQ _ v) listed (qfA md ops i ops.size listed) (.inr ⟨fun j hj => ?_, fun j h1 h2 => ?_⟩) (rest.length + n) listed a w hself (qgE _ _ _) (Region.free_spec hoi hf) hr' hy (next _ _ hK)
      · have := List.all_eq_true.1 hc.1 j hj
        simpa using this
      · have hjl : j < ops.size := by
          rcases Nat.lt_or_ge j listed.size with h3 | h3
          · omega
          · simp [Array.getElem?_eq_none h3] at h2
        have := List.all_eq_true.1 hc.2 j (List.mem_range.2 hjl)
        rw [h1, h2] at this
        simpa using this
  · rw [if_neg hlt] at hk
    have hone : Region.ready md ops listed = [i] := by simpa using hk
    refine ⟨fun h0 => absurd (hone.symm.trans h0) (by simp), fun j hj => ?_⟩
    rw [hone] at hj
    have : j = i := by simpa using hj
    subst this
    exact h.mono next
theorem qlc (l : List Nat) : ∀ x : Array Bool, (qhT l x).size = x.size := by
 induction l with
 | nil => exact fun _ => rfl
 | cons i l ih => intro x; exact (ih _).trans (by simp)
theorem qdL {kds : List Nat} (hs : Region.noSelect ops = true) (hQ : ∀ d v c a w, Q (.panic c) (Act.put a d v) w → Q (.panic c) a w) : ∀ (p : Plan) (n : Nat) (listed : Array Bool) (a : Act) (w : World), listed.size = ops.size →
 qi7 md ops kds p n listed = true → qd1 L P ops Q kds p a w → qeV L P md ops Q kds n listed a w
 | .run l, n, listed, a, w, hz, hB, h => by
  simp only [qi7, Bool.and_eq_true, beq_iff_eq] at hB
  obtain ⟨⟨h1, h2⟩, h3⟩ := hB
  subst h1
  exact qfB hs hQ _ 0 l listed a w hz h2 (fun a w hF => ⟨by simpa using h3, hF⟩) h
 | .fork l i x j y, n, listed, a, w, hz, hB, h => by
  simp only [qi7, Bool.and_eq_true, beq_iff_eq, decide_eq_true_eq] at hB
  obtain ⟨⟨⟨⟨h1, h2⟩, h3⟩, h4⟩, h5⟩ := hB
  have en : n = l.length + ((n - l.length - 1) + 1) := by omega
  rw [en]
  have hz' : (qhT l listed).size = ops.size := by rw [qlc, hz]
  refine qfB hs hQ _ _ l listed a w hz h2 (fun a w hF => ⟨fun h0 => absurd (h3.symm.trans h0) (by simp), fun k hk => ?_⟩) h
  rw [h3] at hk
  have hk' : k = i ∨ k = j := by simpa using hk
  rcases hk' with rfl | rfl
  · exact hF.1.mono (fun a w hh => qdL hs hQ x _ _ a w (by simpa using hz') h4 hh)
  · exact hF.2.mono (fun a w hh => qdL hs hQ y _ _ a w (by simpa using hz') h5 hh)
theorem qb5 {id : Nat} {a : Act} {w : World} {l : List Oper} (L : Nat → Prop) (kds : List Nat) (plan : Plan) (hm : P.follows .mixedOrders = true)
 (hB : (Region.noSelect l.toArray && qi7 .any l.toArray kds plan l.length (Array.replicate l.length false)) = true)
 (h : qd1 L P l.toArray (NoPanic Q) kds plan a w.drew) : (Code.region id l.toArray true).wp P Q a w := by
 simp only [Bool.and_eq_true] at hB
 refine wp_region_noPanic (wp_region_any hm (qgD (L := L) (kds := kds) _ _ _ _ ?_))
 have := qdL (L := L) (P := P) (Q := NoPanic Q) hB.1 (fun d v c a w h => (h : False).elim) plan l.length (Array.replicate l.length false) a w.drew (by simp) hB.2 h
 simpa using this
theorem qac {id : Nat} {a : Act} {w : World} {l : List Oper} (L : Nat → Prop) (kds sched : List Nat) (hm : P.follows .mixedOrders = true)
 (hB : (Region.noSelect l.toArray && qi7 .any l.toArray kds (.run sched) l.length (Array.replicate l.length false)) = true)
 (h : qeE L P l.toArray (NoPanic Q) kds ((NoPanic Q) .normal) sched a w.drew) : (Code.region id l.toArray true).wp P Q a w :=
 qb5 L kds (.run sched) hm hB h
theorem qcv {kds : List Nat} {l : List Nat} {a : Act} {w : World} (h : qeE L P ops Q kds (Q .normal) l a w) : qd1 L P ops Q kds (.run l) a w := h
theorem qc4 {kds : List Nat} {l : List Nat} {i j : Nat} {x y : Plan} {a : Act} {w : World} (h : qeE L P ops Q kds (fun a' w' => KOp L P ops Q kds i (qd1 L P ops Q kds x) a' w' ∧ KOp L P ops Q kds j (qd1 L P ops Q kds y) a' w') l a w) :
 qd1 L P ops Q kds (.fork l i x j y) a w := h
theorem gO {kds : List Nat} {F : Act → World → Prop} {a : Act} {w : World} (h : F a w) : qeE L P ops Q kds F [] a w := h
structure Kin (L : Nat → Prop) (w : World) where
 at' : World
 kp : Kp L w at'
@[go_sem] def qfc (w : World) (v : Value) : Result Next → Prop
 | .ok (.value u) w' => w' = w ∧ u = v
 | .ok .skip w' => w' = w ∧ v = undef
 | _ => False
@[go_sem] def qqc (P : Program) (o : Oper) (a : Act) (C : World → Prop) (next : Act → Prop) : Prop := ∃ v, (∀ w, C w → qfc w v ((execOp a.eval o).run P w)) ∧ next (a.put o.dst v)
theorem qc5 {o : Oper} {a : Act} {w : World} {v : Value} (hw : Region.wanted o (yielded ops a.tmps) = true) (h : qfc w v ((execOp a.eval o).run P w)) : qbY P ops o a w v := by
 generalize hr : (execOp a.eval o).run P w = r at h
 cases r with
 | ok n w' =>
  cases n <;> simp only [qfc] at h
  case value u => obtain ⟨rfl, rfl⟩ := h; exact .inl ⟨hw, .inl hr⟩
  case skip => obtain ⟨rfl, rfl⟩ := h; exact .inl ⟨hw, .inr ⟨hr, rfl⟩⟩
 | halt x w' => simp only [qfc] at h
theorem gB {kds : List Nat} {F : Act → World → Prop} {i : Nat} {rest : List Nat} {o : Oper} {a : Act} {w : World} (ho : ops[i]? = some o) (hk : kds.getD i 3 = 0)
 (h : ∀ K : Act → Prop, (∀ a', qeE L P ops Q kds F rest a' w → K a') → if Region.wanted o (yielded ops a.tmps) then qqc P o a (fun _ => True) K else K (a.put o.dst undef)) : qeE L P ops Q kds F (i :: rest) a w := by
 have h := h _ (fun _ h => h)
 simp only [qeE, KOp, ho]
 unfold KStep
 rw [if_pos hk]
 split at h
 · rename_i hw
   obtain ⟨v, h1, h2⟩ := h
   exact ⟨v, fun w' => qc5 hw (h1 w' trivial), h2⟩
 · rename_i hw
   exact ⟨undef, fun w' => .inr ⟨by simpa using hw, rfl⟩, h⟩
theorem gC {kds : List Nat} {F : Act → World → Prop} {i : Nat} {rest : List Nat} {o : Oper} {a : Act} {w : World} (ho : ops[i]? = some o) (hk : kds.getD i 3 = 1)
 (h : ∀ K : Act → Prop, (∀ a', qeE L P ops Q kds F rest a' w → K a') → if Region.wanted o (yielded ops a.tmps) then qqc P o a (fun w' => ∃ g : Kin L w, w' = g.1) K else K (a.put o.dst undef)) : qeE L P ops Q kds F (i :: rest) a w := by
 have h := h _ (fun _ h => h)
 simp only [qeE, KOp, ho]
 unfold KStep
 rw [if_neg (by omega), if_pos hk]
 split at h
 · rename_i hw
   obtain ⟨v, h1, h2⟩ := h
   exact ⟨v, fun w' hs => qc5 hw (h1 w' ⟨⟨w', hs⟩, rfl⟩), h2⟩
 · rename_i hw
   exact ⟨undef, fun w' _ => .inr ⟨by simpa using hw, rfl⟩, h⟩
@[go_sem] theorem Kin.cell {w : World} (g : Kin L w) (b o : Nat) (h : b < w.heap.size ∧ L b) : g.1.cell? ⟨b, o, none⟩ = w.cell? ⟨b, o, none⟩ :=
 World.cell?_of_block (a := ⟨b, o, none⟩) (g.2.2 b h.2 h.1)
def Lk (b : Nat) : Nat → Prop := fun k => k = b
@[go_sem, simp] theorem Lk_self (b : Nat) : Lk b b = True := by simp [Lk]
theorem Kin.heap {w : World} (g : Kin L w) (b : Nat) (h : b < w.heap.size) (hL : L b) : g.1.heap[b]? = w.heap[b]? := g.2.2 b hL h
theorem gF {kds : List Nat} {F : Act → World → Prop} {i : Nat} {rest : List Nat} {o : Oper} {a : Act} {w : World} (ho : ops[i]? = some o) (hk : kds.getD i 3 = 2)
 (h : ∀ K : Act → World → Prop, (∀ a' w', Kp L w w' → qeE L P ops Q kds F rest a' w' → K a' w') → if Region.wanted o (yielded ops a.tmps) then o.wp P a w K Q else K (a.put o.dst undef) w) : qeE L P ops Q kds F (i :: rest) a w := by
 have h := h (fun a' w' => Kp L w w' ∧ qeE L P ops Q kds F rest a' w') (fun _ _ h1 h2 => ⟨h1, h2⟩)
 simp only [qeE, KOp, ho]
 unfold KStep
 rw [if_neg (by omega), if_neg (by omega), if_pos hk]
 split at h
 · rename_i hw; rw [if_pos hw]; exact .inl h
 · rename_i hw; rw [if_neg hw]; exact h.2
theorem gD {kds : List Nat} {F : Act → World → Prop} {i : Nat} {rest : List Nat} {o : Oper} {a : Act} {w : World} (ho : ops[i]? = some o) (hk : 3 ≤ kds.getD i 3)
 (h : ∀ K : Act → World → Prop, (∀ a' w', qeE L P ops Q kds F rest a' w' → K a' w') → if Region.wanted o (yielded ops a.tmps) then o.wp P a w K Q else K (a.put o.dst undef) w) : qeE L P ops Q kds F (i :: rest) a w := by
 have h := h _ (fun _ _ h => h)
 simp only [qeE, KOp, ho]
 unfold KStep
 rw [if_neg (by omega), if_neg (by omega), if_neg (by omega)]
 split at h
 · rename_i hw; rw [if_pos hw]; exact .inl h
 · rename_i hw; rw [if_neg hw]; exact h
theorem qd2 {kds : List Nat} {i : Nat} {o : Oper} {a : Act} {w : World} {K0 : Act → World → Prop} (ho : ops[i]? = some o) (hk : kds.getD i 3 = 2)
 (h : ∀ K : Act → World → Prop, (∀ a' w', Kp L w w' → K0 a' w' → K a' w') → if Region.wanted o (yielded ops a.tmps) then o.wp P a w K Q else K (a.put o.dst undef) w) : KOp L P ops Q kds i K0 a w := by
 have h := h (fun a' w' => Kp L w w' ∧ K0 a' w') (fun _ _ h1 h2 => ⟨h1, h2⟩)
 simp only [KOp, ho]
 unfold KStep
 rw [if_neg (by omega), if_neg (by omega), if_pos hk]
 split at h
 · rename_i hw; rw [if_pos hw]; exact .inl h
 · rename_i hw; rw [if_neg hw]; exact h.2
theorem fork_l {kds : List Nat} {i : Nat} {o : Oper} {a : Act} {w : World} {K0 : Act → World → Prop} (ho : ops[i]? = some o) (hk : 3 ≤ kds.getD i 3)
 (h : ∀ K : Act → World → Prop, (∀ a' w', K0 a' w' → K a' w') → if Region.wanted o (yielded ops a.tmps) then o.wp P a w K Q else K (a.put o.dst undef) w) : KOp L P ops Q kds i K0 a w := by
 have h := h _ (fun _ _ h => h)
 simp only [KOp, ho]
 unfold KStep
 rw [if_neg (by omega), if_neg (by omega), if_neg (by omega)]
 split at h
 · rename_i hw; rw [if_pos hw]; exact .inl h
 · rename_i hw; rw [if_neg hw]; exact h
end
attribute [irreducible] qeE qd1
end Go.Proofs.YticcpnekjddanaaGreatDoor
