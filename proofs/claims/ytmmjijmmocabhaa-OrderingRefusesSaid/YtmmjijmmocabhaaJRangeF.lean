/- A range over a function, whose rounds all go on: the law of the statement at the wide fence, with whatever is said of the world left to the caller. No numbers of this program here. -/
import Derived.RangeFuncWrites
import Derived.RangeFuncBound
import Derived.Test.YtmmjijmmocabhaaJRowAt
namespace Go.Proofs.Ytmmjijmmocabhaa
open Go.RowKit
set_option linter.unusedVariables false

theorem Fr.putObj {S : Nat → Prop} {a w : World} (h : Fr S a w) (m : Nat) (o : Obj) (hp : m < a.heap.size → S m) : Fr S a (w.putObj m o) :=
  h.trans (T := fun k => k = m) ⟨rfl, rfl, rfl, by simp, fun k _ hne => World.putObj_heap_other hne⟩ (fun i hi e => by subst e; exact hp hi)

/-- The loop's record, busy and ready. -/
def busyL (r : Loop) : Loop := { r with state := .busy }
def doneL (r : Loop) : Loop := { r with state := .exhausted }

/-- A round of the loop: its assignments, then its body, walked from W with the record busy; R speaks of the world behind it. -/
theorem round_yield {P : Program} {r : Loop} {l : Nat} {args : Array Value} {W : World} {R : World → Prop} (hl : W.heap[l]? = some (.loop r)) (hr : r.state = .ready) (hp : r.pending = none) (hs : args.size = r.params.size) (a₁ : Act)
    (ha : r.assign.wpIn (Fence.wide.inRound l) 1 P (fun ex a w => ex = .normal ∧ a = a₁ ∧ w = W) { tmps := (r.params.zip args).foldl (fun t (p, v) => t.setIfInBounds p v) r.tmps, defers := [] } W)
    (hb : r.body.wpIn (Fence.wide.inRound l) 1 P (fun ex _ w₃ => ex = .normal ∧ w₃.heap[l]? = some (.loop (busyL r)) ∧ R (w₃.putObj l (.loop r))) a₁ (W.putObj l (.loop (busyL r)))) :
    YieldAt Fence.wide 1 P l args W fun e W' => e = .returned (.bool true) ∧ R W' := by
  refine ⟨r.fn, _, r.assign, r.body, run_yield hl hs, roundIn_of_wpIn trivial (wpIn_mono ha ?_)⟩
  rintro e a w ⟨rfl, rfl, rfl⟩
  refine ⟨_, run_beginRound hl hr, wpIn_mono hb ?_⟩
  rintro e a₃ w₃ ⟨rfl, hl3, hR⟩
  refine ⟨_, _, run_endRound none hl3, rfl, ?_⟩
  have : ({ busyL r with state := if (none : Option Code).isNone then .ready else .done, pending := none } : Loop) = r := by
    cases r; simp only at hr hp; subst hr hp; rfl
  rw [this]
  exact hR

theorem wp_rangeFunc_free {P : Program} {g : Operand} {ps : Array Tmp} {assign body : Code} {Q : Exit → Act → World → Prop} {a : Act} {w : World} {gf : Nat} {lb : Array Value}
    (hg : a.eval g = .func (.func gf) #[] lb) (eg : ∀ args w, (callFunc gf args).run P w = .ok (.enter gf args) w)
    (h : ∀ r : Loop, r.state = .ready → r.pending = none → r.tmps = a.tmps → r.params = ps → r.assign = assign → r.body = body →
      Calls P gf (#[.func (.yield (w.heap.size + 1)) #[] #[]] ++ lb) ((w.alloc (.deferred (some []))).alloc (.loop r)) fun e W' =>
        (∃ v, e = .returned v) ∧ W'.heap[w.heap.size + 1]? = some (.loop r) ∧ Q .normal { a with defers := { target := .collected w.heap.size, args := #[] } :: a.defers } (W'.putObj (w.heap.size + 1) (.loop (doneL r)))) :
    (Code.rangeFunc g ps assign body).wp P Q a w := by
  refine (wpIn_wide (n := 3)).1 (wpIn_rangeFunc ?_)
  intro fn _
  obtain ⟨r, hr⟩ : ∃ r : Loop, r = { state := .ready, pending := none, fn, tmps := a.tmps, params := ps, assign, body, defers := w.heap.size } := ⟨_, rfl⟩
  refine ⟨w.heap.size + 1, [{ target := .collected w.heap.size, args := #[] }], (w.alloc (.deferred (some []))).alloc (.loop r), { target := .fn (.func gf) lb, args := #[.func (.yield (w.heap.size + 1)) #[] #[]] }, (w.alloc (.deferred (some []))).alloc (.loop r), gf,
    #[.func (.yield (w.heap.size + 1)) #[] #[]] ++ lb, (w.alloc (.deferred (some []))).alloc (.loop r), ?_, ?_, fun _ _ => trivial, ?_, fun _ => by omega, ?_⟩
  · rw [hr]; exact run_enterLoop_outer _ _ _ _ _
  · simp only [resolve, hg]
    simp [go_sem]
  · simp [invoke, go_sem, eg]
  · refine (callsIn_wide.2 (h r (by rw [hr]) (by rw [hr]) (by rw [hr]) (by rw [hr]) (by rw [hr]) (by rw [hr]))).mono ?_
    rintro e W' ⟨⟨v, rfl⟩, hl, hQ⟩
    refine ⟨none, _, ?_, hQ⟩
    have := run_endLoop (P := P) hl (by rw [hr]; simp)
    exact this.trans (congrArg (fun x => Result.ok x (W'.putObj (w.heap.size + 1) (.loop (doneL r)))) (show r.pending = none by rw [hr]))
end Go.Proofs.Ytmmjijmmocabhaa
