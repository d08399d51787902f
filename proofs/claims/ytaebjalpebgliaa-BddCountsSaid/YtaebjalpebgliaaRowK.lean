/- What the rows of the laws share: a Function by value, opened and shut; the end of a call that leaves all old blocks alone. -/
import Derived.Test.YtaebjalpebgliaaRows
import Derived.Test.YtaebjalpebgliaaBase
import Derived.WalkKit
import Derived.ProofKit
import Derived.OpenShut
import Derived.Lib.SmallJoins
import Derived.Below
import Derived.ChangeSame
namespace Go.Proofs.Ytaebjalpebgliaa
open Go.ChangeShapes Go.WideShapes Go.ChangeAt Go.RowKit Go.Joins
set_option linter.unusedVariables false

theorem u8_wf {a : Int} (h : (Lit.int .u8 a).wf = true) : 0 ≤ a ∧ a ≤ 255 := by
  simp [Lit.wf, IntKind.min, IntKind.max, IntKind.bits, IntKind.signed] at h
  exact h
theorem u32_wf {a : Int} (h : (Lit.int .u32 a).wf = true) : 0 ≤ a ∧ a ≤ 4294967295 := by
  simp [Lit.wf, IntKind.min, IntKind.max, IntKind.bits, IntKind.signed] at h
  exact h
theorem i64_wf {a : Int} (h : (Lit.int .i64 a).wf = true) : -9223372036854775808 ≤ a ∧ a ≤ 9223372036854775807 := by
  simp [Lit.wf, IntKind.min, IntKind.max, IntKind.bits, IntKind.signed] at h
  exact h

theorem cellsF : Try.prog.cellsOf 24 = 2 := by kernel_rfl

set_option maxRecDepth 100000 in
theorem open_fun {H : Type} {enc : TypeId × Value → H} {W : World} {base b0 : Nat} {spare : Nat → Bool} {held : Bool} {v : Value} {d : DataW H} {p : List MemPlace}
    (hv : Value.okWide Try.prog W .any b0 24 v) (h : DataW.Trod enc Try.prog W base spare held 24 v d p) :
    ∃ a b : Int, v = .agg #[.int .u8 a, .int .u32 b] ∧ d = .agg [.lit (.int .u8 a), .lit (.int .u32 b)] ∧ p = [] ∧ (Lit.int .u8 a).wf = true ∧ (Lit.int .u32 b).wf = true := by
  obtain ⟨c0, c1, y0, y1, m, rfl, rfl, rfl, hy0, hy1⟩ := open_agg2 Try.underlying24 (by kernel_rfl) cellsF hv h
  obtain ⟨a, e0, rfl, wa⟩ := DataW.trod_int Try.underlying5 hy0
  obtain ⟨b, e1, rfl, wb⟩ := DataW.trod_int Try.underlying22 hy1
  simp at e0 e1
  subst e0 e1
  exact ⟨a, b, rfl, rfl, rfl, wa, wb⟩

set_option maxRecDepth 100000 in
theorem shut_fun {H : Type} {enc : TypeId × Value → H} {W : World} {base : Nat} {spare : Nat → Bool} {held : Bool} {a b : Int} (wa : (Lit.int .u8 a).wf = true) (wb : (Lit.int .u32 b).wf = true) :
    DataW.Trod enc Try.prog W base spare held 24 (.agg #[.int .u8 a, .int .u32 b]) (.agg [.lit (.int .u8 a), .lit (.int .u32 b)]) [] :=
  shut_agg2 (y0 := (.lit (.int .u8 a), [])) (y1 := (.lit (.int .u32 b), [])) Try.underlying24 (by kernel_rfl) cellsF ⟨1, by simp [DataW.trod, Try.underlying5, wa]⟩ ⟨1, by simp [DataW.trod, Try.underlying22, wb]⟩

/-- A call that leaves all old blocks as they were: what it returns, and what its arguments read, is all that is asked. -/
theorem post_fr {H : Type} {enc : TypeId × Value → H} {P : Program} {f : Func} {s : ChangeSpec} {apart fresh handsOn again : Bool} {W W' : World} {args : Array Value} {v : Value} {ds gs : List (DataW H)} {before pa pv : List MemPlace}
    (hW : DataW.Whole enc P f.params.toList s.vars apart W args.toList ds gs before)
    (hres : ∀ (b : Nat) (sp : Nat → Bool) (hd : Bool), DataW.TrodAll enc P W' b sp hd f.resultTypes.toList (v.resultList f.resultTypes.size) (s.fn H (ds ++ gs)).results [])
    (hargs : ∀ sp : Nat → Bool, (∀ p ∈ before, sp p.block = true) → DataW.TrodAll enc P W' 0 sp true f.params.toList args.toList (s.fn H (ds ++ gs)).args pa)
    (hvars : ∀ sp : Nat → Bool, (∀ p ∈ before, sp p.block = true) → DataW.TrodVars enc P W' sp s.vars (s.fn H (ds ++ gs)).vars pv)
    (hp : before = pa ++ pv) (hs : Same W W')
    (hok : ∀ (j : Nat) (t : TypeId) (r : Value), f.resultTypes[j]? = some t → (v.resultList f.resultTypes.size)[j]? = some r → Value.okWide P W' .any 0 t r) :
    s.post enc P f apart fresh handsOn again W args v W' := by
  subst hp
  have hB := Fr.below hs
  have old : ∀ q ∈ pa ++ pv, (decide (q.block < W.heap.size)) = true := fun q hq => decide_eq_true (hW.lt q hq)
  have keptB : W.keptBut W' (fun q => q ∈ pa ++ pv) := hB.frame (· ∈ pa ++ pv)
  refine ⟨ds, gs, _, [], pa, pv, hW, hres _ _ _, hargs _ old, hvars _ old, World.keptBut_mono (fun q hq => ⟨hq, .inr (List.mem_append.1 hq)⟩) keptB, fun _ => ⟨hok, _, _, _, ⟨[] ++ pa, pv, trodAll_append (hargs _ (fun _ _ => rfl)) (hres _ _ _), hvars _ (fun _ _ => rfl), rfl, fun b o hq => ?_, fun ha => ?_⟩, fun q hq _ => ?_⟩⟩
  · have hin : MemPlace.cell b o ∈ pa ++ pv := by simpa using hq
    have hlt := hW.lt _ hin
    obtain ⟨_, _, _, _, _, hz, _⟩ := hW
    rw [hB.frozen (p := ⟨b, o, none⟩) hlt]
    exact hz b o hin
  · obtain ⟨_, _, _, _, _, _, hn⟩ := hW
    simpa using hn ha
  · simpa using hq
end Go.Proofs.Ytaebjalpebgliaa
