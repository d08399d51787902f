/-  -/
import Derived.Test.YticcpnekjddanaaGreatDoorZLNetG
import Derived.Test.YticcpnekjddanaaGreatDoorZLNetI
import Derived.Test.YticcpnekjddanaaGreatDoorZMkM
import Derived.Test.YticcpnekjddanaaGreatDoorZLNetE
import Derived.Test.YticcpnekjddanaaGreatDoorZMchW
import Derived.Test.YticcpnekjddanaaGreatDoorZLIs
import Derived.Test.YticcpnekjddanaaGreatDoorZLNetC
import Derived.Test.YticcpnekjddanaaGreatDoorZIdxG
set_option maxRecDepth 100000
set_option maxHeartbeats 8000000
set_option linter.unusedVariables false
set_option linter.unusedSimpArgs false
namespace Go.Proofs.YticcpnekjddanaaGreatDoor
open Go.RowKit
theorem qaa.away {S : Nat → Prop} {w w' : World} {T : TypeId} {sz : Nat} {v : Value} {n : Nat} {cells : List Value} (h : qaa w T sz v n cells) (hf : Fr S w w') (hS : 0 < n → ∀ k, v.ownBlock = some k → ¬ S k) : qaa w' T sz v n cells := by
 obtain ⟨hl, a, cap, rfl, h1, h2, h3, hb⟩ := h
 refine ⟨hl, a, cap, rfl, h1, h2, h3, fun hn => ?_⟩
 obtain ⟨b, off, cur, rfl, hh, hc⟩ := hb hn
 exact ⟨b, off, cur, rfl, hf.at hh (hS hn b rfl), hc⟩
theorem qaa.lt {w : World} {T : TypeId} {sz : Nat} {v : Value} {n : Nat} {cells : List Value} (h : qaa w T sz v n cells) (hn : 0 < n) {k : Nat} (hk : v.ownBlock = some k) : k < w.heap.size := by
 obtain ⟨hl, a, cap, rfl, h1, h2, h3, hb⟩ := h
 obtain ⟨b, off, cur, rfl, hh, hc⟩ := hb hn
 have e : b = k := by simpa [Value.ownBlock] using hk
 subst e
 exact gu hh
structure Au.off (A : Au) (k : Nat) : Prop where
 al : 0 < A.al.length → (Value.slice A.aA A.al.length A.cA).ownBlock ≠ some k
 ma : 0 < A.ma.length → (Value.slice A.aM A.ma.length A.cM).ownBlock ≠ some k
structure NtB (bn : Nat) (W0 : World) (As : List Au) (aA : Option Addr) (cA : Nat) (o : List Int) (aO : Option Addr) (cO : Nat) (w : World) : Prop where
 sz : W0.heap.size ≤ bn
 box : w.heap[bn]? = some (.cells #[.slice aA As.length cA, .slice aO o.length cO] 35 (0, 0))
 au : w.ownsRow (bn + 1) 39 4 (.slice aA As.length cA) As.length (qa4 As)
 od : w.ownsRow (bn + 1) 3 1 (.slice aO o.length cO) o.length (gw o)
 el : ∀ A ∈ As, A.ty w
 aw : ∀ A ∈ As, ∀ k, (Value.slice aO o.length cO).ownBlock = some k → A.off k
 fr : qad W0 w
theorem NtB.same {bn : Nat} {W0 : World} {As : List Au} {aA : Option Addr} {cA : Nat} {o : List Int} {aO : Option Addr} {cO : Nat} {w w' : World} (h : NtB bn W0 As aA cA o aO cO w) (hs : qad w w') : NtB bn W0 As aA cA o aO cO w' :=
 ⟨h.sz, hs.at h.box id, qag h.au hs, qag h.od hs, fun A hA => (h.el A hA).same hs, h.aw, h.fr.same hs⟩
theorem NtB.nil {bn : Nat} {W0 w : World} (hz : W0.heap.size ≤ bn) (h : w.heap[bn]? = some (.cells #[.slice none 0 0, .slice none 0 0] 35 (0, 0))) (hs : qad W0 w) : NtB bn W0 [] none 0 [] none 0 w :=
 ⟨hz, h, World.ownsRow_nil _ _ _ _, World.ownsRow_nil _ _ _ _, fun A hA => by simp at hA, fun A hA => by simp at hA, hs⟩
theorem NtB.pushA {bn : Nat} {W0 : World} {As : List Au} {aA : Option Addr} {cA : Nat} {o : List Int} {aO : Option Addr} {cO : Nat} {w W w' : World} {C : Au} {a' : Option Addr} {c' : Nat} (h : NtB bn W0 As aA cA o aO cO w) (hs : qad w W) (hC : C.ty W) (hn : C.newer w.heap.size)
 (ho : w'.ownsRow (bn + 1) 39 4 (.slice a' (As.length + 1) c') (As.length + 1) (qa4 As ++ [.slice C.aA C.al.length C.cA, .int .i64 C.n, .slice C.aM C.ma.length C.cM, .slice C.aE C.es.length C.cE]))
 (hG : qaK (fun _ => False) W w' (.slice aA As.length cA) (.slice a' (As.length + 1) c')) :
 w'.heap[bn]? = some (.cells #[.slice aA As.length cA, .slice aO o.length cO] 35 (0, 0)) ∧
 NtB bn W0 (As ++ [C]) a' c' o aO cO (w'.setCell ⟨bn, 0, none⟩ (.slice a' (As.length + 1) c')) := by
 have h2 := h.same hs
 have hown : ∀ k, (Value.slice aA As.length cA).ownBlock = some k ∨ False → ∃ cur, W.heap[k]? = some (.cells cur 39 (0, 0)) := fun k hk => by
  rcases hk with hk | hk
  · exact qaj h2.au hk
  · exact hk.elim
 have hbx : w'.heap[bn]? = some (.cells #[.slice aA As.length cA, .slice aO o.length cO] 35 (0, 0)) := hG.1.at h2.box (fun e => by
  obtain ⟨cur, e1⟩ := hown _ e
  rw [h2.box] at e1
  simp at e1)
 have hF : Fr (fun k => k = bn) w' (w'.setCell ⟨bn, 0, none⟩ (.slice a' (As.length + 1) c')) := (Fr.refl _ _).setCell _ _ (fun _ => rfl)
 have hrow : ∀ {T : TypeId} {sz n : Nat} {v : Value} {cs : List Value}, T ≠ 39 → T ≠ 35 → qaa W T sz v n cs → qaa (w'.setCell ⟨bn, 0, none⟩ (.slice a' (As.length + 1) c')) T sz v n cs := fun hT1 hT2 hx => by
  refine (hx.fr hG.1 (fun k cur hk e => ?_)).fr hF (fun k cur hk e => ?_)
  · obtain ⟨cur', e1⟩ := hown _ e
    rw [hk] at e1
    simp only [Option.some.injEq, Obj.cells.injEq] at e1
    exact hT1 e1.2.1
  · rw [show k = bn from e, hbx] at hk
    simp only [Option.some.injEq, Obj.cells.injEq] at hk
    exact hT2 hk.2.1.symm
 have hty : ∀ A : Au, A.ty W → A.ty (w'.setCell ⟨bn, 0, none⟩ (.slice a' (As.length + 1) c')) := fun A hA => ⟨hrow (by decide) (by decide) hA.al, hrow (by decide) (by decide) hA.ma, hrow (by decide) (by decide) hA.es⟩
 refine ⟨hbx, h.sz, ?_, ?_, ?_, fun A hA => ?_, fun A hA k hk => ?_, ?_⟩
 · have := qaf hbx 0 (.slice a' (As.length + 1) c')
   rw [this]; simp
 · have e : qa4 (As ++ [C]) = qa4 As ++ [.slice C.aA C.al.length C.cA, .int .i64 C.n, .slice C.aM C.ma.length C.cM, .slice C.aE C.es.length C.cE] := by rw [qdH]; rfl
   rw [e, show (As ++ [C]).length = As.length + 1 by simp]
   exact qaN ho hF (fun k hk e => by
    obtain ⟨cur, e1⟩ := qaj ho hk
    rw [show k = bn from e, hbx] at e1
    simp at e1)
 · refine qaN (qaN h2.od hG.1 (fun k hk e => ?_)) hF (fun k hk e => ?_)
   · obtain ⟨cur, e1⟩ := qaj h2.od hk
     obtain ⟨cur2, e2⟩ := hown _ e
     rw [e1] at e2
     simp at e2
   · obtain ⟨cur, e1⟩ := qaj h2.od hk
     rw [show k = bn from e, h2.box] at e1
     simp at e1
 · rcases List.mem_append.1 hA with hA | hA
   · exact hty A (h2.el A hA)
   · obtain rfl : A = C := by simpa using hA
     exact hty A hC
 · rcases List.mem_append.1 hA with hA | hA
   · exact h.aw A hA k hk
   · obtain rfl : A = C := by simpa using hA
     obtain ⟨cur, e1⟩ := qaj h.od hk
     have hlt := gu e1
     refine ⟨fun _ e => ?_, fun _ e => ?_⟩
     · have := hn.al k e; omega
     · have := hn.ma k e; omega
 · refine (h2.fr.trans hG.1 (fun i hi e => ?_)).trans hF (fun i hi e => ?_)
   · rcases e with e | e
     · have h5 := (h2.au.lt i e).1
       have h6 := h.sz
       omega
     · exact e.elim
   · have h5 : i = bn := e
     have h6 := h.sz
     omega
theorem NtB.pushO {bn : Nat} {W0 : World} {As : List Au} {aA : Option Addr} {cA : Nat} {o o' : List Int} {aO : Option Addr} {cO : Nat} {w W w' : World} {a' : Option Addr} {c' : Nat} (h : NtB bn W0 As aA cA o aO cO w) (hs : qad w W) (hl : o'.length = o.length + 1)
 (ho : w'.ownsRow (bn + 1) 3 1 (.slice a' (o.length + 1) c') (o.length + 1) (gw o'))
 (hG : Fr (fun k => (Value.slice aO o.length cO).ownBlock = some k) W w') (hnew : ∀ k, (Value.slice a' (o.length + 1) c').ownBlock = some k → (Value.slice aO o.length cO).ownBlock = some k ∨ W.heap.size ≤ k) :
 w'.heap[bn]? = some (.cells #[.slice aA As.length cA, .slice aO o.length cO] 35 (0, 0)) ∧
 NtB bn W0 As aA cA o' a' c' (w'.setCell ⟨bn, 1, none⟩ (.slice a' (o.length + 1) c')) := by
 have h2 := h.same hs
 have hbx : w'.heap[bn]? = some (.cells #[.slice aA As.length cA, .slice aO o.length cO] 35 (0, 0)) := hG.at h2.box (fun e => by
  obtain ⟨cur, e1⟩ := qaj h2.od e
  rw [h2.box] at e1
  simp at e1)
 have hF : Fr (fun k => k = bn) w' (w'.setCell ⟨bn, 1, none⟩ (.slice a' (o.length + 1) c')) := (Fr.refl _ _).setCell _ _ (fun _ => rfl)
 have hbn : ∀ {T : TypeId} {sz n : Nat} {v : Value} {cs : List Value}, T ≠ 35 → qaa w' T sz v n cs → qaa (w'.setCell ⟨bn, 1, none⟩ (.slice a' (o.length + 1) c')) T sz v n cs := fun hT hx =>
  hx.fr hF (fun k cur hk e => by
   rw [show k = bn from e, hbx] at hk
   simp only [Option.some.injEq, Obj.cells.injEq] at hk
   exact hT hk.2.1.symm)
 refine ⟨hbx, h.sz, ?_, ?_, ?_, fun A hA => ?_, fun A hA k hk => ?_, ?_⟩
 · have := qaf hbx 1 (.slice a' (o.length + 1) c')
   rw [this, hl]; simp
 · refine qaN (qaN h2.au hG (fun k hk e => ?_)) hF (fun k hk e => ?_)
   · obtain ⟨cur, e1⟩ := qaj h2.au hk
     obtain ⟨cur2, e2⟩ := qaj h2.od e
     rw [e1] at e2
     simp at e2
   · obtain ⟨cur, e1⟩ := qaj h2.au hk
     rw [show k = bn from e, h2.box] at e1
     simp at e1
 · rw [hl]
   exact qaN ho hF (fun k hk e => by
    obtain ⟨cur, e1⟩ := qaj ho hk
    rw [show k = bn from e, hbx] at e1
    simp at e1)
 · have hA2 := h2.el A hA
   refine ⟨hbn (by decide) (hA2.al.away hG (fun hn k hk e => (h.aw A hA k e).al hn hk)), hbn (by decide) (hA2.ma.away hG (fun hn k hk e => (h.aw A hA k e).ma hn hk)), hbn (by decide) (hA2.es.fr hG (fun k cur hk e => ?_))⟩
   obtain ⟨cur2, e2⟩ := qaj h2.od e
   rw [hk] at e2
   simp at e2
 · rw [hl] at hk
   have hA2 := h2.el A hA
   rcases hnew k hk with e | e
   · exact h.aw A hA k e
   · refine ⟨fun hn e2 => ?_, fun hn e2 => ?_⟩
     · have := hA2.al.lt hn e2; omega
     · have := hA2.ma.lt hn e2; omega
 · refine (h2.fr.trans hG (fun i hi e => ?_)).trans hF (fun i hi e => ?_)
   · have h5 := (h2.od.lt i e).1
     have h6 := h.sz
     omega
   · have h5 : i = bn := e
     have h6 := h.sz
     omega
theorem NtB.pushA' {bn : Nat} {W0 : World} {As : List Au} {aA : Option Addr} {cA : Nat} {o : List Int} {aO : Option Addr} {cO : Nat} {w W w' : World} {C : Au} {a' : Option Addr} {c' j qo : Nat} (hj : As.length = j) (hq : o.length = qo) (h : NtB bn W0 As aA cA o aO cO w) (hs : qad w W) (hC : C.ty W) (hn : C.newer w.heap.size)
 (ho : w'.ownsRow (bn + 1) 39 4 (.slice a' (j + 1) c') (j + 1) (qa4 As ++ [.slice C.aA C.al.length C.cA, .int .i64 C.n, .slice C.aM C.ma.length C.cM, .slice C.aE C.es.length C.cE]))
 (hG : qaK (fun _ => False) W w' (.slice aA j cA) (.slice a' (j + 1) c')) :
 w'.heap[bn]? = some (.cells #[.slice aA j cA, .slice aO qo cO] 35 (0, 0)) ∧
 NtB bn W0 (As ++ [C]) a' c' o aO cO (w'.setCell ⟨bn, 0, none⟩ (.slice a' (j + 1) c')) := by
 subst hj hq; exact NtB.pushA h hs hC hn ho hG
theorem NtB.pushO' {bn : Nat} {W0 : World} {As : List Au} {aA : Option Addr} {cA : Nat} {o o' : List Int} {aO : Option Addr} {cO : Nat} {w W w' : World} {a' : Option Addr} {c' j qo : Nat} (hj : As.length = j) (hq : o.length = qo) (h : NtB bn W0 As aA cA o aO cO w) (hs : qad w W) (hl : o'.length = qo + 1)
 (ho : w'.ownsRow (bn + 1) 3 1 (.slice a' (qo + 1) c') (qo + 1) (gw o'))
 (hG : Fr (fun k => (Value.slice aO qo cO).ownBlock = some k) W w') (hnew : ∀ k, (Value.slice a' (qo + 1) c').ownBlock = some k → (Value.slice aO qo cO).ownBlock = some k ∨ W.heap.size ≤ k) :
 w'.heap[bn]? = some (.cells #[.slice aA j cA, .slice aO qo cO] 35 (0, 0)) ∧
 NtB bn W0 As aA cA o' a' c' (w'.setCell ⟨bn, 1, none⟩ (.slice a' (qo + 1) c')) := by
 subst hj hq; exact NtB.pushO h hs hl ho hG hnew
theorem qpK : (Tryz.prog.info? 27).map (·.size) = some 27 := by kernel_rfl
theorem qpL : (Tryz.prog.info? 39).map (fun i => (i.zero, i.size, i.bytes)) = some (some (.agg #[.slice none 0 0, .int .i64 0, .slice none 0 0, .slice none 0 0]), 4, 80) := by kernel_rfl
theorem aus_of {w : World} {T : TypeId} {a : Option Addr} {cap n : Nat} {l : List Au} (hn : l.length = n) (h : qaa w T 4 (.slice a n cap) n (qa4 l)) (he : ∀ A ∈ l, A.at w) : qdm w a cap l := by
 subst hn
 obtain ⟨hl, a', cap', he', h1, h2, h3, hb⟩ := id h
 cases he'
 exact ⟨h1, h2, h3, fun hn => h.cell hn, he⟩
theorem qaa.nb {w w' : World} {T : TypeId} {sz n b : Nat} {v : Value} {xs : List Value} {cs : Array Value} {fr : Nat × Nat} (h : qaa w T sz v n xs) (hb : w.heap[b]? = some (.cells cs 35 fr)) (hT : T ≠ 35) (hf : Fr (fun k => k = b) w w') : qaa w' T sz v n xs :=
 h.fr hf (fun k cur hk e => by
  rw [show k = b from e, hb] at hk
  simp only [Option.some.injEq, Obj.cells.injEq] at hk
  exact hT hk.2.1.symm)
theorem Au.ty.nb {A : Au} {Wb w : World} {b : Nat} {cs : Array Value} {fr : Nat × Nat} (h : A.ty Wb) (hb : Wb.heap[b]? = some (.cells cs 35 fr)) (hf : Fr (fun k => k = b) Wb w) : A.ty w :=
 ⟨h.al.nb hb (by decide) hf, h.ma.nb hb (by decide) hf, h.es.nb hb (by decide) hf⟩
theorem qoe (X mo u : Nat) (hX : X < 256) (hn : mo ≤ 3) (hu : u = X % (mo + 1)) :
 ((X : Nat) : Int).tmod ((mo : Int) + 1) = (u : Int) ∧ wrap64 (X : Int) = (X : Int) ∧ IntKind.i64.wrap ((mo : Int) + 1) = (mo : Int) + 1 ∧ wrap64 ((mo : Int) + 1) = (mo : Int) + 1 ∧ ((mo : Int) + 1 == 0) = false ∧ ((mo : Int) + 1 = 0) = False := by
 have h1 : ((X : Nat) : Int).tmod ((mo : Int) + 1) = (u : Int) := by
  rw [Int.tmod_eq_emod_of_nonneg (by omega), hu, Int.natCast_emod]
  simp
 clear hu
 refine ⟨h1, by unfold wrap64; omega, IntWalk.i64_in _ (by omega), by unfold wrap64; omega, ?_, ?_⟩
 · simp; omega
 · simp; omega
theorem qpM (X j u : Nat) (hX : X < 256) (hj : j < 3) (hu : u = X / 2 ^ (2 * j) % (j + 1)) :
 wrap64 ((X : Int) / 2 ^ (2 * j)) = ((X / 2 ^ (2 * j) : Nat) : Int) ∧ ((X / 2 ^ (2 * j) : Nat) : Int).tmod ((j : Int) + 1) = (u : Int) ∧ u ≤ j := by
 have hd : X / 2 ^ (2 * j) ≤ X := Nat.div_le_self _ _
 have e : ((X : Int) / 2 ^ (2 * j)) = ((X / 2 ^ (2 * j) : Nat) : Int) := by simp
 rw [e]
 generalize X / 2 ^ (2 * j) = D at *
 clear e
 refine ⟨?_, ?_, ?_⟩
 · unfold wrap64; omega
 · rw [Int.tmod_eq_emod_of_nonneg (Int.natCast_nonneg _), hu, Int.natCast_emod]
   simp
 · have := Nat.mod_lt D (show j + 1 > 0 by omega)
   omega
def mdS (B : List Nat) (j : Nat) : List Int := evL ((B.getD j 0 : Nat) : Int)
def mdG (B : List Nat) (j : Nat) : List Nat := (B.drop (3 + 27 * j)).take 27
structure qpN (B : List Nat) (mo : Nat) (N : Nw) : Prop where
 len : N.As.length = B.getD 84 0 % (mo + 1)
 ord' : N.o = qgs (B.getD 85 0) N.As.length
 each : ∀ j (hj : j < N.As.length), qlS (mdS B j) (mdG B j) N.As[j]
theorem qpN.grp {B : List Nat} {mo : Nat} {N : Nw} (h : qpN B mo N) (hm : mo ≤ 3) : qlU N := by
 have h3 : N.As.length ≤ 3 := by
  have := h.len
  have := Nat.mod_lt (B.getD 84 0) (show mo + 1 > 0 by omega)
  omega
 refine ⟨h3, fun A hA => ?_, ?_⟩
 · obtain ⟨j, hj, rfl⟩ := List.mem_iff_getElem.1 hA
   exact ⟨_, _, h.each j hj⟩
 · rw [h.ord']; exact qpI _ _ (by omega)
structure Nw.ty (N : Nw) (w : World) : Prop where
 au : qaa w 39 4 (.slice N.aA N.As.length N.cA) N.As.length (qa4 N.As)
 o : qaa w 3 1 (.slice N.aO N.o.length N.cO) N.o.length (gw N.o)
 el : ∀ A ∈ N.As, A.ty w
theorem Nw.ty.at {N : Nw} {w : World} (h : N.ty w) : N.at w := ⟨aus_of rfl h.au (fun A hA => (h.el A hA).at), h.o.row⟩
theorem Nw.ty.same {N : Nw} {w w' : World} (h : N.ty w) (hs : qad w w') : N.ty w' := ⟨h.au.same hs, h.o.same hs, fun A hA => (h.el A hA).same hs⟩
theorem Nw.ty.fr {N : Nw} {w w' : World} {S : Nat → Prop} (h : N.ty w) (hf : Fr S w w') (hS : ∀ T, T = 39 ∨ T = 3 ∨ T = 57 → ∀ k cur, w.heap[k]? = some (.cells cur T (0, 0)) → ¬ S k) : N.ty w' :=
 ⟨h.au.fr hf (hS _ (.inl rfl)), h.o.fr hf (hS _ (.inr (.inl rfl))), fun A hA => ⟨(h.el A hA).al.fr hf (hS _ (.inr (.inl rfl))), (h.el A hA).ma.fr hf (hS _ (.inr (.inl rfl))), (h.el A hA).es.fr hf (hS _ (.inr (.inr rfl)))⟩⟩
theorem qof (B : List Nat) (h86 : B.length = 86) (hB : ∀ y ∈ B, y < 256) (mo : Nat) (hmo : mo ≤ 3) (w : World) :
 Calls Tryz.prog 5 #[.agg (qdS B).toArray, .int .i64 mo] w fun e w' => ∃ N : Nw, e = .returned N.v ∧ N.ty w' ∧ qpN B mo N ∧ qad w w' := by
 obtain ⟨v3, hv3, hv3z, hv3s, hv3b⟩ := info_parts qpL
 obtain ⟨cs, hcs⟩ : ∃ cs, cs = (qdS B).toArray := ⟨_, rfl⟩
 have hbd : ∀ j, B.getD j 0 < 256 := fun j => by
  rcases Nat.lt_or_ge j B.length with h | h
  · have e : B.getD j 0 = B[j] := by simp [List.getD, h]
    rw [e]; exact hB _ (List.getElem_mem h)
  · have e : B.getD j 0 = 0 := by simp [List.getD, h]
    omega
 have hc : ∀ j, j < 86 → cs[j]? = some (.int .u8 (B.getD j 0 : Nat)) := fun j h => by rw [hcs]; simp [qdS, List.getD, h86, h]
 have hsz : cs.size = 86 := by rw [hcs]; simp [qdS, h86]
 rw [← hcs]
 obtain ⟨ct, hct⟩ : ∃ ct, ct = B.getD 84 0 := ⟨_, rfl⟩
 have hct6 : ct < 256 := by rw [hct]; exact hbd 84
 obtain ⟨k, hk⟩ : ∃ k, k = ct % (mo + 1) := ⟨_, rfl⟩
 have hk3 : k ≤ 3 := by have := Nat.mod_lt ct (show mo + 1 > 0 by omega); omega
 obtain ⟨e1, e3, e4⟩ := qoe ct mo k hct6 hmo hk
 have e2 : wrap64 (k : Int) = (k : Int) := (qhr (by omega) (by omega)).1
 have hB8 := hB
 clear hB
 replace hc := gi hc; replace hcs := gi hcs; replace hbd := gi hbd; replace hk := gi hk; replace e1 := gi e1; replace e2 := gi e2; replace e3 := gi e3; replace e4 := gi e4; replace hct := gi hct; replace h86 := gi h86; replace hsz := gi hsz; replace hB8 := gi hB8
 go_enter Tryz.func5, Tryz.ntmps5
 go_upto_region 1 with fail
 have kg := qab (gv w (.cells cs 30)) (.cells #[.slice none 0 0, .slice none 0 0] 35)
 have kr := gv (w.alloc (.cells cs 30)) (.cells #[.slice none 0 0, .slice none 0 0] 35)
 rw [← al1] at kr
 have hs : qad w ((w.alloc (.cells cs 30)).alloc (.cells #[.slice none 0 0, .slice none 0 0] 35)) := fs2
 generalize (w.alloc (.cells cs 30)).alloc (.cells #[.slice none 0 0, .slice none 0 0] 35) = W0 at *
 replace kg := gi kg; replace kr := gi kr; replace hs := gi hs
 have x0 : W0.cell? ⟨w.heap.size, 84, none⟩ = some (.int .u8 (ct : Nat)) := by rw [gn kg.out 84, hct.out]; exact hc.out 84 (by omega)
 have xl := gu kg.out
 have f1 := e1.out
 have f2 := e2.out
 have f3 := e3.out
 have f4 := e4.out.1
 have f5 := e4.out.2.1
 have f6 := e4.out.2.2.1
 have f7 := e4.out.2.2.2
 go_upto_region 2 with fail
 clear x0 xl f1 f2 f3 f4 f5 f6 f7
 go_upto_region 3 with fail
 have kn := gv W0 (.cells #[.slice none 0 0, .slice none 0 0] 35)
 have s1 : qad W0 (W0.alloc (.cells #[.slice none 0 0, .slice none 0 0] 35)) := fs2
 generalize hW1 : W0.alloc (.cells #[.slice none 0 0, .slice none 0 0] 35) = W1 at *
 obtain ⟨bn, hbn⟩ : ∃ b, b = W0.heap.size := ⟨_, rfl⟩
 rw [← hbn] at kn ⊢
 clear hW1
 obtain ⟨bg, hbg⟩ : ∃ b, b = w.heap.size := ⟨_, rfl⟩
 rw [← hbg] at kg kr ⊢
 obtain ⟨oB, hoB⟩ : ∃ o, o = B.getD 85 0 := ⟨_, rfl⟩
 have EV := fun (s : Int) W => qlP s W
 have hgl : ∀ j, j < 3 → (mdG B j).length = 27 := fun j hj => by simp [mdG]; have := h86.out; omega
 have hgb : ∀ j, ∀ y ∈ mdG B j, y < 256 := fun j y hy => hB8.out y (List.mem_of_mem_drop (List.mem_of_mem_take hy))
 have MK := fun j (hj : j < 3) a c W (h : qan W (.slice a (mdS B j).length c) (mdS B j).length (gw (mdS B j))) => qpH (mdS B j) a (mdS B j).length c (mdG B j) W rfl h (qod _) (hgl j hj) (hgb j)
 replace kn := gi kn; replace s1 := gi s1; replace EV := gi EV; replace MK := gi MK; replace hgl := gi hgl; replace hgb := gi hgb; replace hbn := gi hbn; replace hbg := gi hbg; replace hoB := gi hoB; replace hk3 := gi hk3
 go_wp2_with fail
 go_loopw [7, 8, 16] (fun _ _ i wr => ∃ (j : Nat) (As : List Au) (aA aO : Option Addr) (cA cO : Nat), i = .int .i64 j ∧ j ≤ k ∧ As.length = j ∧ (∀ q (hq : q < As.length), qlS (mdS B q) (mdG B q) As[q]) ∧ NtB bn W0 As aA cA (qgs oB j) aO cO wr) (fun _ _ i _ => k - (intOf i).toNat)
 case atStart =>
  exact ⟨0, [], none, none, 0, 0, rfl, by omega, rfl, fun q hq => by simp at hq, NtB.nil (by rw [hbn.out]; exact Nat.le_refl _) kn.out s1.out⟩
 case round =>
  obtain ⟨j, As, aA, aO, cA, cO, rfl, hj, hAl, hmk, hN⟩ := hrel
  have hol := qfp oB j
  have hs1 := hN.fr
  have hbx := hN.box
  rw [hAl, hol] at hbx
  by_cases hjk : j < k
  · have hj3 : j < 3 := by have := hk3.out; omega
    have kg2 := (hs1.block _ (gu kg.out) id).trans kg.out
    have z0 : wr.cell? ⟨bg, j, none⟩ = some (.int .u8 (B.getD j 0 : Nat)) := by rw [gn kg2 j]; exact hc.out j (by omega)
    obtain ⟨sj, hsj⟩ : ∃ s, s = B.getD j 0 := ⟨_, rfl⟩
    rw [← hsj] at z0
    have hbx2 := hbx
    have hgr : ((cs.toList.drop (3 + j * 27)).take 27) = qdS (mdG B j) := by rw [hcs.out, Nat.mul_comm j 27]; simp [qdS, mdG, List.map_drop, List.map_take]
    have MK1 := MK.out j hj3
    have EV1 := EV.out ((sj : Nat) : Int)
    have hmd : mdS B j = evL ((sj : Nat) : Int) := by rw [hsj]; rfl
    rw [hmd] at MK1
    replace hmk := gi hmk; replace hN := gi hN; replace hs1 := gi hs1; replace hAl := gi hAl; replace kg2 := gi kg2; replace hbx := gi hbx; replace hbx2 := gi hbx2; replace hsj := gi hsj; replace hol := gi hol; replace hgr := gi hgr; replace MK1 := gi MK1; replace EV1 := gi EV1; replace hmd := gi hmd
    obtain ⟨x0, x1, xl⟩ := g2l hbx2.out
    have yl := gu kg2.out
    have c3 : ((j : Int) < 3) = True := by simp; omega
    go_upto_region 6 with fail
    refine qac (fun k => k = bn ∨ k = bg) [0, 1, 0, 0, 0, 1, 2, 0, 0, 0, 1, 2, 2, 3, 0, 3] [0, 2, 3, 4, 7, 8, 9, 1, 5, 10, 6, 11, 12, 13, 14, 15] (by kernel_rfl) (by kernel_rfl) ?_
    repeat ((first | refine gB rfl rfl fun _ k => ?_ | refine gC rfl rfl fun _ k => ?_); go_simp; (first | refine k _ ?_ | refine ⟨_, fun _ => rfl, k _ ?_⟩); clear k)
    refine qlK rfl rfl rfl 27 (.tmp 28) rfl bg _ rfl ((cs.toList.drop _).take 27) _ yl (.inr rfl) (qiJ kg2.out _ 27) Tryz.underlying27 rfl ?_ ?_
    · rw [qpK]
      simp [hsz.out]
      omega
    (try simp only [Act.put, gj])
    rw [hgr.out]
    refine gF rfl rfl (fun _ hK => ?_)
    go_simp
    refine (EV1.out _).mono ?_
    rintro e w4 ⟨aE, cE, rfl, hoE, sE⟩
    have hE4 := (qaa.of_owns hoE).row
    refine hK _ _ (Kp.of_same sE) ?_
    clear hK hoE
    (try simp only [Act.put, gj])
    have s4 : qad wr w4 := (show qad wr _ from fs3).same sE
    refine gF rfl rfl (fun _ hK => ?_)
    go_simp
    refine (MK1.out aE cE _ hE4).mono ?_
    rintro e w5 ⟨C, rfl, hC, hMk, s5, hNw⟩
    refine hK _ _ (Kp.of_same s5) ?_
    clear hK
    unfold Au.v
    (try simp only [Act.put, gj])
    have hw5 := s4.same s5
    have hNw5 : C.newer wr.heap.size := ⟨fun k hk => Nat.le_trans s4.size (hNw.al k hk), fun k hk => Nat.le_trans s4.size (hNw.ma k hk)⟩
    have hmk2 : ∀ q (hq : q < (As ++ [C]).length), qlS (mdS B q) (mdG B q) (As ++ [C])[q] := fun q hq => by
     by_cases hqj : q < As.length
     · rw [List.getElem_append_left hqj]; exact hmk.out q hqj
     · have e : q = As.length := by simp at hq; omega
       subst e
       rw [List.getElem_concat_length rfl, hAl.out, hmd.out]
       exact hMk
    have hz5 : bn + 1 ≤ w5.heap.size := by have := hw5.size; omega
    have hoA5 := hN.out.au
    rw [hAl.out] at hoA5
    clear hNw s5 sE hE4 hMk
    replace hC := gi hC; replace hNw5 := gi hNw5; replace hw5 := gi hw5; replace hmk2 := gi hmk2; replace hoA5 := gi hoA5
    refine gF rfl rfl (fun _ hK => ?_); go_simp; refine hK _ _ (Kp.of_same fs3) ?_; clear hK
    (try simp only [Act.put, gj])
    refine gD rfl (by decide) (fun _ hK => ?_)
    refine qbe rfl (.tmp 20) (.tmp 31) 32 rfl (bn + 1) 39 v3 (.agg #[.slice none 0 0, .int .i64 0, .slice none 0 0, .slice none 0 0]) 4 80 Tryz.underlying32 hv3 hv3z hv3s hv3b rfl (by decide) (by decide) aA j cA (qa4 As) (by go_simp) (qag (qag hoA5.out hw5.out) fs3) (by omega) w5.heap.size [.slice C.aA C.al.length C.cA, .int .i64 C.n, .slice C.aM C.ma.length C.cM, .slice C.aE C.es.length C.cE] (by go_simp) rfl (qae (by simp) _) (by simp [Value.oneCell']) (by simp; omega) ?_
    intro a7 c7 w7 ho7 hG7
    have P := NtB.pushA' hAl.out hol.out hN.out (hw5.out.same fs2) (hC.out.same fs2) hNw5.out ho7 hG7
    have q0 := gn P.1 0
    have p0 := qak P.1 0
    have ql := gu P.1
    have P2 := P.2
    clear ho7 hG7 P
    replace P2 := gi P2
    refine hK _ _ ?_; clear hK; try simp only [Act.put, gj]
    repeat ((first | refine gB rfl rfl fun _ k => ?_ | refine gC rfl rfl fun _ k => ?_); go_simp; (first | refine k _ ?_ | refine ⟨_, fun _ => rfl, k _ ?_⟩); clear k)
    refine gD rfl (by decide) (fun _ hK => ?_); go_simp
    refine hK _ _ ?_; clear hK; try simp only [Act.put, gj]
    refine gO (NoPanic.normal ?_)
    clear q0 p0 ql x0 x1 xl yl z0
    generalize w7.setCell ⟨bn, 0, none⟩ (.slice a7 (j + 1) c7) = W7 at *
    have hAl7 : (As ++ [C]).length = j + 1 := by simp [hAl.out]
    generalize As ++ [C] = As7 at *
    have hs7 := P2.out.fr
    have kg7 := (hs7.block _ (gu kg.out) id).trans kg.out
    have hbx7 := P2.out.box
    rw [hAl7, hol.out] at hbx7
    clear hN hmk hs1 hC hNw5 hw5 hoA5 kg2 hbx hbx2
    have z0 : W7.cell? ⟨bg, 85, none⟩ = some (.int .u8 (oB : Nat)) := by rw [gn kg7 85, hoB.out]; exact hc.out 85 (by omega)
    have zl := gu kg7
    have hoB6 : oB < 256 := by rw [hoB.out]; exact hbd.out 85
    obtain ⟨p, hp⟩ : ∃ p, p = oB / 2 ^ (2 * j) % (j + 1) := ⟨_, rfl⟩
    obtain ⟨f1, f2, hpj⟩ := qpM oB j p hoB6 hj3 hp
    generalize oB / 2 ^ (2 * j) = D at f1 f2
    have hins : qgs oB (j + 1) = (qgs oB j).take p ++ (j : Int) :: (qgs oB j).drop p := by rw [hp]; rfl
    replace hAl7 := gi hAl7; replace hs7 := gi hs7; replace kg7 := gi kg7; replace hbx7 := gi hbx7; replace hp := gi hp; replace hins := gi hins; replace hoB6 := gi hoB6
    go_upto_region 8 with fail
    clear f1 f2 z0 zl
    obtain ⟨x0, x1, xl⟩ := g2l hbx7.out
    have hod := P2.out.od
    rw [hol.out] at hod
    have IN := fun W (hW : qad W7 W) vb (hv : W.heap[vb]? = some (.cells #[.int .i64 j] 3 (0, 0))) (hvb : W7.heap.size ≤ vb) => qlV (qgs oB j) (j : Int) p j aO cO (bn + 1) vb W hol.out (qag hod hW) (by have := hW.size; omega) hv (fun k hk e => by
     obtain ⟨cur, e1⟩ := qaj hod hk
     have := gu e1
     omega) hpj (by omega)
    replace hod := gi hod; replace IN := gi IN
    go_wp2_with fail
    refine (IN.out _ fs2 _ (gv _ _) (Nat.le_refl _)).mono ?_
    rintro e w8 ⟨a8, c8, rfl, ho8, hF8, hn8⟩
    have P := NtB.pushO' hAl7.out hol.out P2.out fs2 (by rw [← hins.out]; exact qfp oB (j + 1)) ho8 hF8 hn8
    rw [← hins.out] at P
    have q0 := gn P.1 1
    have p0 := qak P.1 1
    have ql := gu P.1
    have P3 := P.2
    clear ho8 hF8 hn8 P x0 x1 xl IN
    replace P3 := gi P3
    go_wp2_with fail
    clear q0 p0 ql
    generalize w8.setCell ⟨bn, 1, none⟩ (.slice a8 (j + 1) c8) = W8 at *
    go_roundw
    case rel => exact ⟨j + 1, As7, a7, a8, c7, c8, by go_num, by omega, hAl7.out, hmk2.out, P3.out⟩
    case measure => simp [intOf]; omega
  · obtain rfl : j = k := by omega
    have kr2 := (hs1.block _ (gu kr.out) id).trans kr.out
    have hbx2 := hbx
    have hww := hs.out.same hs1
    have hoA := hN.au
    have hoO := hN.od
    rw [hAl] at hoA
    rw [hol] at hoO
    replace hmk := gi hmk; replace hN := gi hN; replace hbx2 := gi hbx2; replace hoA := gi hoA; replace hoO := gi hoO; replace hs1 := gi hs1; replace hAl := gi hAl; replace kr2 := gi kr2; replace hww := gi hww; replace hbx := gi hbx; replace hol := gi hol
    obtain ⟨x0, x1, xl⟩ := g2l hbx2.out
    have yl := gu kr2.out
    obtain ⟨y0, y1⟩ := g2 kr2.out
    have z0 := qak kr2.out 0
    have z1 := qak kr2.out 1
    go_wp2_with fail
    have F1 : Fr (fun k => k = bg + 1) wr ((wr.setCell ⟨bg + 1, 0, none⟩ (.slice aA j cA)).setCell ⟨bg + 1, 1, none⟩ (.slice aO j cO)) := ((Fr.refl (fun k => k = bg + 1) wr).setCell ⟨bg + 1, 0, none⟩ _ (fun _ => rfl)).setCell ⟨bg + 1, 1, none⟩ _ (fun _ => rfl)
    have h1 := qaf kr2.out 0 (.slice aA j cA)
    have h2 := qaf h1 1 (.slice aO j cO)
    obtain ⟨q0, q1⟩ := g2 h2
    clear x0 x1 xl yl y0 y1 z0 z1
    have hA9 := (qaa.of_owns hoA.out).nb kr2.out (by decide) F1
    have hO9 := (qaa.of_owns hoO.out).nb kr2.out (by decide) F1
    have hE9 : ∀ A ∈ As, A.ty ((wr.setCell ⟨bg + 1, 0, none⟩ (.slice aA j cA)).setCell ⟨bg + 1, 1, none⟩ (.slice aO j cO)) := fun A hA => (hN.out.el A hA).nb kr2.out F1
    have hS9 := qkq hww.out F1 (by rw [← hbg.out]; omega)
    generalize (wr.setCell ⟨bg + 1, 0, none⟩ (.slice aA j cA)).setCell ⟨bg + 1, 1, none⟩ (.slice aO j cO) = WF at *
    refine bodyPost_ret (v := .agg #[.slice aA j cA, .slice aO j cO]) (by simp [results, Tryz.results5, go_sem, q0, q1]) rfl ?_
    have hl := hAl.out
    subst hl
    have hol := hol.out
    refine ⟨⟨As, qgs oB As.length, aA, cA, aO, cO⟩, ?_, ⟨hA9, ?_, hE9⟩, ⟨by rw [← hct.out]; exact hk.out, by rw [← hoB.out], hmk.out⟩, hS9⟩
    · show _ = Ending.returned (.agg #[.slice aA As.length cA, .slice aO (qgs oB As.length).length cO])
      rw [hol]
    · show qaa WF 3 1 (.slice aO (qgs oB As.length).length cO) (qgs oB As.length).length (gw (qgs oB As.length))
      rw [hol]
      exact hO9
theorem qlW (B : List Nat) (h86 : B.length = 86) (hB : ∀ y ∈ B, y < 256) (mo : Nat) (hmo : mo ≤ 3) (w : World) :
 Calls Tryz.prog 5 #[.agg (qdS B).toArray, .int .i64 mo] w fun e w' => ∃ N : Nw, e = .returned N.v ∧ N.at w' ∧ qpN B mo N ∧ qad w w' := by
 refine (qof B h86 hB mo hmo w).mono ?_
 rintro e w' ⟨N, h1, h2, h3, h4⟩
 exact ⟨N, h1, h2.at, h3, h4⟩
theorem qgh {P : Program} {w : World} {ops : Array Oper} {rest : List Oper} {o : Oper} {a : Act} {Q : Exit → Act → World → Prop} (hgd : o.guard = none) (ty : TypeId) (x : Operand) (ho : o.op = .load ty x) (b off : Nat) (hx : a.eval x = .pointer (some ⟨b, off, none⟩)) (cs : List Value) (d : TypeDesc)
 (hc : World.rangeAt w b off cs) (hu : P.underlying ty = some d) (hd : TypeDesc.isRow d = true) (hi : (P.info? ty).map (·.size) = some cs.length) (h : wpList P ops Q rest (a.put o.dst (.agg cs.toArray)) w) : wpList P ops Q (o :: rest) a w :=
 wpList_plain hgd fun K hK => by
  unfold Oper.wp execOp
  simp only [ho, hx, Instr.loadAt, Instr.sureAddr, Sem.run_bind, Sem.run_pure, Result.andThen_ok, run_loadVar_mid w b off ty cs d hc hu hd hi]
  exact hK _ _ h
theorem qpO : (Tryz.prog.info? 30).map (·.size) = some 86 := by kernel_rfl
theorem qc3.set {w : World} {base g cap : Nat} {l : List Int} (h : qc3 w base g cap l) {k : Nat} (hk : k < l.length) (v : Int) : qc3 (w.setCell ⟨g, k, none⟩ (.int .i64 v)) base g cap (l.set k v) := by
 obtain ⟨h1, cur, h2, h3, h4, h5, h6⟩ := h
 refine ⟨h1, cur.setIfInBounds k (.int .i64 v), qaf h2 k _, by simpa using h3, h4, by simpa using h5, ?_⟩
 have e : (cur.setIfInBounds k (.int .i64 v)).toList = cur.toList.set k (.int .i64 v) := by simp
 rw [e, List.length_set, List.take_set, h6]
 simp [gw, List.map_set]
theorem qcD {N : Nw} {x : List Nat} (hx : x ∈ qaA N.ns) : x.length = N.As.length ∧ ∀ i (hi : i < N.As.length), x.getD i 0 < N.As[i].n.toNat := by
 obtain ⟨h1, h2⟩ := qbH.1 hx
 refine ⟨by rw [h1, N.ns_len], fun i hi => ?_⟩
 have := qcr.1 h2 i (by rw [N.ns_len]; exact hi)
 rw [N.ns_get hi] at this
 exact this
theorem qlU.tl {N : Nw} (h : qlU N) : ∀ i, i ≤ N.As.length → (qaA (N.ns.take i)).length ≤ 100000 := fun i _ => by
 have h1 := qhu (N.ns.take i) 5 (fun n hn => by
  have hm := List.mem_of_mem_take hn
  obtain ⟨j, hj, rfl⟩ := List.mem_iff_getElem.1 hm
  have := h.grp.ns j
  simpa [List.getD, hj] using this)
 have h2 : (N.ns.take i).length ≤ 3 := by rw [List.length_take, N.ns_len]; have := h.m3; omega
 have h3 : 5 ^ (N.ns.take i).length ≤ 5 ^ 3 := Nat.pow_le_pow_right (by omega) h2
 have : (5 : Nat) ^ 3 = 125 := by decide
 omega
theorem qlU.t1000 {N : Nw} (h : qlU N) : ∀ A ∈ N.As, A.n ≤ 1000 := fun A hA => by have := h.grp.n5 A hA; omega
end Go.Proofs.YticcpnekjddanaaGreatDoor
namespace Go.Proofs.YticcpnekjddanaaGreatDoor
open Go.RowKit Go.Sort
theorem qoo {a b : List Nat} (h : qaz a = qaz b) : a = b := by
 have := congrArg (List.map Int.toNat) h
 simpa [qaz, List.map_map, Function.comp_def] using this
theorem qk8 (L : List (List Nat)) (y : List Nat) : (L.map qaz).any (fun z => decide (z = qaz y)) = decide (y ∈ L) := by
 refine Bool.eq_iff_iff.2 ⟨fun h => ?_, fun h => ?_⟩
 · obtain ⟨z, hz, h2⟩ := List.any_eq_true.1 h
   obtain ⟨x, hx, rfl⟩ := List.mem_map.1 hz
   have := qoo (of_decide_eq_true h2)
   subst this
   exact decide_eq_true hx
 · exact List.any_eq_true.2 ⟨qaz y, List.mem_map.2 ⟨y, of_decide_eq_true h, rfl⟩, by simp⟩
end Go.Proofs.YticcpnekjddanaaGreatDoor
