/-  -/
import Derived.Test.YticcpnekjddanaaGreatDoorRows
import Derived.Test.YticcpnekjddanaaGreatDoorZRowAt
import Derived.WalkKit
import Derived.ProofKit
import Derived.OpenShut
import Derived.Lib.SmallJoins
import Derived.Below
import Derived.ChangeSame
set_option linter.unusedVariables false
namespace Go.Proofs.YticcpnekjddanaaGreatDoor
open Go.ChangeShapes Go.WideShapes Go.ChangeAt Go.RowKit Go.Joins
theorem qly {a : Int} (h : (Lit.int .u8 a).wf = true) : 0 ≤ a ∧ a ≤ 255 := by
 simp [Lit.wf, IntKind.min, IntKind.max, IntKind.bits, IntKind.signed] at h
 exact h
theorem post_fr {H : Type} {enc : TypeId × Value → H} {P : Program} {f : Func} {s : ChangeSpec} {apart fresh handsOn again : Bool} {W W' : World} {args : Array Value} {v : Value} {ds gs : List (DataW H)} {before pa pv : List MemPlace}
 (hW : DataW.Whole enc P f.params.toList s.vars apart W args.toList ds gs before)
 (hres : ∀ (b : Nat) (sp : Nat → Bool) (hd : Bool), DataW.TrodAll enc P W' b sp hd f.resultTypes.toList (v.resultList f.resultTypes.size) (s.fn H (ds ++ gs)).results [])
 (hargs : ∀ sp : Nat → Bool, (∀ p ∈ before, sp p.block = true) → DataW.TrodAll enc P W' 0 sp true f.params.toList args.toList (s.fn H (ds ++ gs)).args pa)
 (hvars : ∀ sp : Nat → Bool, (∀ p ∈ before, sp p.block = true) → DataW.TrodVars enc P W' sp s.vars (s.fn H (ds ++ gs)).vars pv)
 (hp : before = pa ++ pv) (hs : qad W W')
 (hok : ∀ (j : Nat) (t : TypeId) (r : Value), f.resultTypes[j]? = some t → (v.resultList f.resultTypes.size)[j]? = some r → Value.okWide P W' .any 0 t r) :
 s.post enc P f apart fresh handsOn again W args v W' := by
 subst hp
 have hB := Fr.below hs
 have old : ∀ q ∈ pa ++ pv, (decide (q.block < W.heap.size)) = true := fun q hq => decide_eq_true (hW.lt q hq)
 have keptB : W.keptBut W' (fun q => q ∈ pa ++ pv) := hB.frame (· ∈ pa ++ pv)
 refine ⟨ds, gs, _, [], pa, pv, hW, hres _ _ _, hargs _ old, hvars _ old, World.keptBut_mono (fun q hq => ⟨hq, .inr (List.mem_append.1 hq)⟩) keptB, fun _ => ⟨hok, _, _, _, ⟨[] ++ pa, pv, trodAll_append (hargs _ (fun _ _ => rfl)) (hres _ _ _), hvars _ (fun _ _ => rfl), rfl, fun b o hq => ?_, fun ha => ?_⟩, fun q hq _ => ?_⟩⟩
 · have hin : MemPlace.cell b o ∈ pa ++ pv := by simpa using hq
   have hlt := hW.lt _ hin
   obtain ⟨_, _, _, _, _, hz, _⟩ := hW
   rw [hB.frozen (p := ⟨b, o, none⟩) hlt]
   exact hz b o hin
 · obtain ⟨_, _, _, _, _, _, hn⟩ := hW
   simpa using hn ha
 · simpa using hq
end Go.Proofs.YticcpnekjddanaaGreatDoor
