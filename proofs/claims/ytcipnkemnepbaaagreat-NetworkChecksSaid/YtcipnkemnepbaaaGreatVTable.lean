/- The builder: table. -/
import Derived.Test.YtcipnkemnepbaaaGreatVOrdO
import Derived.Test.YtcipnkemnepbaaaGreatVRowAt
namespace Go.Proofs.YtcipnkemnepbaaaGreat
open Go.RowKit
set_option linter.unusedVariables false
set_option linter.unusedSimpArgs false

def boolCells (l : List Bool) : List Value := l.map Value.bool

theorem boolCells_get (l : List Bool) (i : Nat) (h : i < l.length) : (boolCells l)[i]? = some (.bool l[i]) := by
  simp [boolCells, h]

theorem BRet.of {w w' : World} {B p m : Nat} {a : Option Addr} {cap : Nat} {N N' : List Nd} {k : Int} {e : Ending} (h : BRet (fun _ => False) w B p m a cap N N' k e w') :
    e = .returned (.int .i64 k) ∧ ∃ a' cap', BuilderAt w' B p m a' cap' N' ∧ Grew (BB p m) w w' (.slice a N.length cap) (.slice a' N'.length cap') := by
  obtain ⟨he, a', cap', h1, h2⟩ := h
  exact ⟨he, a', cap', h1, h2.1.mono (fun i _ h' => h'.imp id (fun h'' => h''.resolve_right id)), h2.2⟩

theorem BRet.to {w w' : World} {B p m : Nat} {a a' : Option Addr} {cap cap' : Nat} {N N' : List Nd} {k : Int} {e : Ending} (he : e = .returned (.int .i64 k)) (h1 : BuilderAt w' B p m a' cap' N') (h2 : Grew (BB p m) w w' (.slice a N.length cap) (.slice a' N'.length cap')) :
    BRet (fun _ => False) w B p m a cap N N' k e w' :=
  ⟨he, a', cap', h1, h2.1.mono (fun i _ h' => h'.imp id .inl), h2.2⟩

theorem tableF_length (d : Nat) : ∀ (N : List Nd) (v : Int) (t : List Bool), (tableF d N v t).1.length + 1 ≤ N.length + 2 ^ d := by
  induction d with
  | zero => intro N v t; simp [tableF]
  | succ d ih =>
    intro N v t
    simp only [tableF]
    have h1 := ih N (v + 1) (t.take (t.length / 2))
    have h2 := ih (tableF d N (v + 1) (t.take (t.length / 2))).1 (v + 1) (t.drop (t.length / 2))
    have h3 := numF_length (tableF d (tableF d N (v + 1) (t.take (t.length / 2))).1 (v + 1) (t.drop (t.length / 2))).1 (v, (tableF d N (v + 1) (t.take (t.length / 2))).2, (tableF d (tableF d N (v + 1) (t.take (t.length / 2))).1 (v + 1) (t.drop (t.length / 2))).2)
    rw [Nat.pow_succ]
    omega

/-- A slice below a builder is kept by what the builder does. -/
theorem RowAt.grew {w w' : World} {B p m : Nat} {a : Option Addr} {cap : Nat} {N : List Nd} {v' : Value} {n : Nat} {aS : Option Addr} {cS : Nat} {cells : List Value} (h : RowAt w (.slice aS n cS) n cells) (hB : BuilderAt w B p m a cap N)
    (hg : Grew (BB p m) w w' (.slice a N.length cap) v') (hS : ∀ k, (Value.slice aS n cS).ownBlock = some k → k < B) : RowAt w' (.slice aS n cS) n cells :=
  h.keep hg.1.size (fun k hk _ => hg.below hB (hS k hk))

end Go.Proofs.YtcipnkemnepbaaaGreat
