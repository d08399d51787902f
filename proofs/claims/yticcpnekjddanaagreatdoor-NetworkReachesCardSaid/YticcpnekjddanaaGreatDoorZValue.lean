/-  -/
import Derived.Test.YticcpnekjddanaaGreatDoorZTable
import Derived.Test.YticcpnekjddanaaGreatDoorRows
import Derived.WalkKit
import Derived.WalkSpells
import Derived.WalkLawsBesides
import Derived.Deep.QuietTactic
import Derived.BigQuiet
import Derived.Test.YticcpnekjddanaaGreatDoorZKey2
import Derived.Lib.Hide
import Derived.OwnWalk
import Derived.Laws.OwnMore
import Derived.Test.YticcpnekjddanaaGreatDoorZCheck
import Derived.Test.YticcpnekjddanaaGreatDoorZFrom
import Derived.Test.YticcpnekjddanaaGreatDoorZOpsR
import Derived.Test.YticcpnekjddanaaGreatDoorZChgP
import Derived.Test.YticcpnekjddanaaGreatDoorZRowAt
set_option maxRecDepth 100000
set_option maxHeartbeats 1000000
set_option linter.unusedVariables false
set_option linter.unusedSimpArgs false
namespace Go.Proofs.YticcpnekjddanaaGreatDoor
open Go.RowKit
theorem Fr.undrew {S : Nat → Prop} {a w : World} (h : Fr S a w) : Fr S a.drew w := ⟨h.os, h.tape, h.output, h.size, h.block⟩
theorem Fr.undrewN {S : Nat → Prop} {a w : World} {n : Nat} (h : Fr S a w) : Fr S (a.drewN n) w := ⟨h.os, h.tape, h.output, h.size, h.block⟩
theorem qmF : (Tryz.prog.info? 4).map (fun i => (i.zero, i.size, i.bytes)) = some (some (.bool false), 1, 1) := by kernel_rfl
def qa9 (w : World) (b : Nat) (cs : List Bool) : Prop := w.heap[b]? = some (.cells (gz cs).toArray 4 (0, 0))
theorem qbS (l : List Bool) : (gz l).length = l.length := by simp [gz]
theorem qa9.cell {w : World} {b : Nat} {cs : List Bool} (h : qa9 w b cs) {k : Nat} (hk : k < cs.length) : w.cell? ⟨b, k, none⟩ = some (.bool cs[k]) := by
 have := gn h k
 simpa [gz, hk] using this
theorem qa9.free {w : World} {b : Nat} {cs : List Bool} (h : qa9 w b cs) (k : Nat) : w.frozen? ⟨b, k, none⟩ = false := qak h k
theorem qa9.lt {w : World} {b : Nat} {cs : List Bool} (h : qa9 w b cs) : b < w.heap.size := gu h
theorem qa9.set {w : World} {b : Nat} {cs : List Bool} (h : qa9 w b cs) (k : Nat) (x : Bool) : qa9 (w.setCell ⟨b, k, none⟩ (.bool x)) b (cs.set k x) := by
 have := qaf h k (.bool x)
 unfold qa9
 rw [this]
 congr 2
 simp [gz, List.map_set]
theorem qa9.slice {w : World} {b : Nat} {cs : List Bool} (h : qa9 w b cs) (hm : cs.length ≤ 1000000000) : qaa w 4 1 (.slice (some ⟨b, 0, none⟩) cs.length cs.length) cs.length (gz cs) :=
 qaa.of_owns (qaL (base := 0) h (Nat.zero_le _) (by simp [gz]) rfl (by unfold maxLen; omega))
theorem qa9.fr {S : Nat → Prop} {w w' : World} {b : Nat} {cs : List Bool} (h : qa9 w b cs) (hf : Fr S w w') (hS : ¬ S b) : qa9 w' b cs := hf.at h hS
theorem qeK {P : Program} (w : World) {ops : Array Oper} {rest : List Oper} {o : Oper} {a : Act} {Q : Exit → Act → World → Prop}
 (hg : o.guard = none) (l c : Operand) (t : TypeId) (hop : o.op = Op.makeSlice t l c)
 (e : TypeId) (i : TypeInfo) (h1 : P.underlying t = some (.slice e)) (h2 : P.info? e = some i) (h3 : i.zero = some (.bool false)) (h4 : i.size = 1) (h5 : i.bytes = 1)
 (n : Nat) (hl : a.eval l = .int .i64 n) (hc : a.eval c = .int .i64 n) (b3 : n ≤ 1000000000)
 (hK : wpList P ops Q rest (a.put o.dst (.slice (some ⟨w.heap.size, 0, none⟩) n n)) (w.alloc (.cells (gz (List.replicate n false)).toArray e))) :
 wpList P ops Q (o :: rest) a w := by
 refine wpList_plain hg fun K hK' => ?_
 have hrun := run_make (P := P) w t e i (.bool false) h1 h2 h3 .i64 .i64 n n (by omega) (by omega) (by rw [h5]; omega) (by omega)
 have hm : madeCells (Value.bool false).cells ((n : Int).toNat * i.size) = (gz (List.replicate n false)).toArray := by
  rw [h4, ← Array.toList_inj]
  have := toList_madeCells_one (Value.bool false) n
  simp only [Int.toNat_natCast, Nat.mul_one]
  rw [show (Value.bool false).cells = #[Value.bool false] from rfl, this]
  simp [gz]
 rw [hm] at hrun
 unfold Oper.wp
 simp [execOp, hop, hl, hc, hrun, Result.andThen]
 exact hK' _ _ (by simpa using hK)
theorem fs3 {S : Nat → Prop} {a w : World} (h : Fr S a w := by repeat (first | exact Fr.refl _ _ | apply Fr.undrew | apply Fr.undrewN | apply Fr.drew | apply Fr.drewN | apply Fr.alloc)) : Fr S a w := h
theorem fs2 {S : Nat → Prop} {a w : World} (h : Fr S a w := by repeat (first | exact Fr.refl _ _ | apply Fr.alloc | apply Fr.drewN | apply Fr.drew | apply Fr.undrew | apply Fr.undrewN)) : Fr S a w := h
def L2 (b c : Nat) : Nat → Prop := fun k => k = b ∨ k = c
@[go_sem, simp] theorem L2_left (b c : Nat) : L2 b c b = True := by simp [L2]
@[go_sem, simp] theorem L2_right (b c : Nat) : L2 b c c = True := by simp [L2]
structure qgM (w : World) (n r : Int) (L : List Nd) (b : Nat) (k : Nat) (wr : World) (a : Option Addr) (cap : Nat) : Prop where
 le : k ≤ L.length
 blk : wr.heap[b]? = some (.cells #[.int .i64 n, .slice a k cap, .int .i64 r] 46 (0, 0))
 own : wr.ownsRow w.heap.size 132 3 (.slice a k cap) k (qap (L.take k))
 res : wr.heap[w.heap.size]? = some (.cells #[.int .i64 0, .slice none 0 0, .int .i64 0] 46 (0, 0))
 same : qad w wr
theorem qgM.grew {w wr W w4 : World} {n r : Int} {L : List Nd} {b k : Nat} {a an : Option Addr} {cap cn : Nat} (h : qgM w n r L b k wr a cap) (hb : w.heap.size ≤ b) (hs : qad wr W)
 (hG : qaK (fun _ => False) W w4 (.slice a k cap) (.slice an (k + 1) cn)) {i : Nat} {o : Obj} (hi : wr.heap[i]? = some o) (ho : ∀ cur, o ≠ .cells cur 132 (0, 0)) : w4.heap[i]? = some o := by
 refine hG.1.at (hs.at hi id) ?_
 rintro (h' | h')
 · obtain ⟨cur, hc⟩ := qaj h.own h'
   rw [hi] at hc
   exact ho cur (Option.some.inj hc)
 · exact h'
theorem qgM.next {w wr W w4 : World} {n r : Int} {L : List Nd} {b k : Nat} {a an : Option Addr} {cap cn : Nat} (h : qgM w n r L b k wr a cap) (hk : k < L.length) (hb : w.heap.size < b) (hs : qad wr W)
 (hO : w4.ownsRow w.heap.size 132 3 (.slice an (k + 1) cn) (k + 1) (qap (L.take k) ++ [.int .i64 L[k].1, .int .i64 L[k].2.1, .int .i64 L[k].2.2]))
 (hG : qaK (fun _ => False) W w4 (.slice a k cap) (.slice an (k + 1) cn)) :
 w4.heap[b]? = some (.cells #[.int .i64 n, .slice a k cap, .int .i64 r] 46 (0, 0)) ∧ qgM w n r L b (k + 1) (w4.setCell ⟨b, 1, none⟩ (.slice an (k + 1) cn)) an cn := by
 have hb4 := h.grew (Nat.le_of_lt hb) hs hG h.blk (by simp)
 have hr4 := h.grew (Nat.le_of_lt hb) hs hG h.res (by simp)
 have s4 : qad w w4 := (h.same.same hs).trans hG.1 (fun i hi hh => by
  rcases hh with hh | hh
  · have := h.own.lt i hh
    omega
  · exact hh)
 refine ⟨hb4, hk, by rw [qaf hb4]; rfl, ?_, ?_, s4.setCell _ _ (fun hh => by simp only at hh; omega)⟩
 · rw [List.take_succ_eq_append_getElem hk, qbu]
   refine qaN (S := fun i => i = b) (by simpa [qap] using hO) ((Fr.refl _ _).setCell _ _ (fun _ => rfl)) (fun i hi hh => ?_)
   obtain ⟨cur, hc⟩ := qaj hO hi
   rw [hh, hb4] at hc
   simp at hc
 · rw [qaS (by simp only; omega)]; exact hr4
theorem qmG (n : Nat) (r : Int) (a : Option Addr) (cap : Nat) (L : List Nd) (k : Int) (b : Nat) (w : World) (hb : w.heap[b]? = some (.cells #[.int .i64 n, .slice a L.length cap, .int .i64 r] 46 (0, 0)))
 (hL : qaa w 132 3 (.slice a L.length cap) L.length (qap L)) (hk : qaH L k) (hl : L.length ≤ 100000) :
 Calls Tryz.prog 109 #[.int .i64 k, .pointer (some ⟨b, 0, none⟩)] w fun e w' => e = .returned (.int .i64 (lev L n k)) ∧ qad w w' := by
 obtain ⟨c0, c1, hbl⟩ := g2l hb
 obtain ⟨k0, k1⟩ := hk
 obtain ⟨R, hR⟩ : ∃ R, R = lev L n k := ⟨_, rfl⟩
 rw [← hR]
 replace hR := gi hR
 clear hb
 by_cases h2 : k < 2
 · clear hL
   go_enter Tryz.func109, Tryz.ntmps109
   go_wp2_with fail
   go_ret
   refine ⟨?_, fs1⟩
   rw [hR.out, lev, if_pos h2]
   rfl
 · have h2' : 1 < k := by omega
   obtain ⟨b', off, ha, hb', x0⟩ := hL.nds.nodeN h2' (by omega)
   subst ha
   have hx : (k - 2).toNat < L.length := by omega
   have hw1 : IntKind.i64.wrap (k - 2) = k - 2 := IntWalk.i64_in _ (by omega)
   clear hL
   go_enter Tryz.func109, Tryz.ntmps109
   go_wp2_with fail
   go_ret
   refine ⟨?_, fs1⟩
   rw [hR.out, lev, if_neg (by omega)]
   rfl
structure qkj (w : World) (n : Nat) (r : Int) (aL : Option Addr) (capL : Nat) (L : List Nd) (k : Nat) (v : Value) (wr : World) : Prop where
 le : k ≤ L.length
 own : ∃ a cap, v = .slice a (k + 2) cap ∧ wr.ownsRow (w.heap.size + 1) 3 1 (.slice a (k + 2) cap) (k + 2) (gw (qcn L n k))
 box : wr.heap[w.heap.size]? = some (.cells #[.int .i64 n, .slice aL L.length capL, .int .i64 r] 46 (0, 0))
 same : qad w wr
theorem qmH {N : List Nd} {n : Nat} {k : Nat} (hk : k < N.length) : qao N ((k : Int) + 2) = N[k] := by
 have e : ((k : Int) + 2 - 2).toNat = k := by omega
 unfold qao
 rw [e, List.getD_eq_getElem?_getD, List.getElem?_eq_getElem hk]; rfl
theorem qkj.next {w wr W w4 : World} {n : Nat} {r : Int} {aL : Option Addr} {capL : Nat} {L : List Nd} {k : Nat} {a an : Option Addr} {cap cn : Nat} {x : Int} (h : qkj w n r aL capL L k (.slice a (k + 2) cap) wr) (hs : qad wr W) (hk : k < L.length)
 (hx : x = ((cnt L n ((k : Int) + 2) : Nat) : Int))
 (hO : w4.ownsRow (w.heap.size + 1) 3 1 (.slice an (k + 2 + 1) cn) (k + 2 + 1) (gw (qcn L n k) ++ [.int .i64 x])) (hG : qaK (fun _ => False) W w4 (.slice a (k + 2) cap) (.slice an (k + 2 + 1) cn)) :
 qkj w n r aL capL L (k + 1) (.slice an (k + 2 + 1) cn) w4 := by
 obtain ⟨a', cap', he, hown⟩ := h.own
 cases he
 refine ⟨hk, ⟨an, cn, rfl, ?_⟩, ?_, ?_⟩
 · rw [qje, ← hx]
   simpa [gw] using hO
 · refine hG.1.at (hs.at h.box id) ?_
   rintro (h' | h')
   · have := hown.lt _ h'
     omega
   · exact h'
 · refine (h.same.same hs).trans hG.1 (fun i hi hh => ?_)
   rcases hh with hh | hh
   · have := hown.lt _ hh
     omega
   · exact hh
theorem qkk {A m : Nat} {s t : Int} {e : Nat} (he : e = (s - t - 1).toNat) (hA : A * 2 ^ (s - t - 1).toNat ≤ 2 ^ m) (hm : m ≤ 40) :
 ∃ A2 : Nat, IntKind.i64.wrap ((A : Int) * 2 ^ e) = (A2 : Int) ∧ A2 = A * 2 ^ (s - t - 1).toNat ∧ A2 ≤ 2 ^ 40 := by
 subst he
 refine ⟨_, ?_, rfl, Nat.le_trans hA (Nat.pow_le_pow_right (by omega) hm)⟩
 have h1 : A * 2 ^ (s - t - 1).toNat ≤ 2 ^ 40 := Nat.le_trans hA (Nat.pow_le_pow_right (by omega) hm)
 have e : ((A : Int) * 2 ^ (s - t - 1).toNat) = ((A * 2 ^ (s - t - 1).toNat : Nat) : Int) := by simp
 rw [e]
 generalize A * 2 ^ (s - t - 1).toNat = X at *
 exact IntWalk.i64_in _ (by omega)
theorem qlm (n : Nat) (r : Int) (aL : Option Addr) (capL : Nat) (L : List Nd) (w : World) (hL : qaa w 132 3 (.slice aL L.length capL) L.length (qap L)) (hl : L.length ≤ 100000) (ho : Ord L n) (hr : qaH L r) :
 Calls Tryz.prog 80 #[.agg #[.int .i64 n, .slice aL L.length capL, .int .i64 r]] w fun e w' => e = .returned (.int .i64 ((tab L n 0 r).count true : Nat)) ∧ qad w w' := by
 obtain ⟨i3, hi3, hi3z, hi3s, hi3b⟩ := info_parts qc0
 have LV := fun k W (hb : W.heap[w.heap.size]? = some (.cells #[.int .i64 n, .slice aL L.length capL, .int .i64 r] 46 (0, 0))) (hs : qad w W) (hk : qaH L k) => qmG n r aL capL L k w.heap.size W hb (hL.same hs) hk hl
 replace LV := gi LV
 replace hL := gi hL
 replace ho := gi ho
 go_enter Tryz.func80, Tryz.ntmps80
 go_wp2_with fail
 go_loopw [4, 13] (fun v i wr => ∃ (k : Nat), i = .int .i64 k ∧ qkj w n r aL capL L k v wr) (fun _ i _ => L.length - (intOf i).toNat)
 case atStart =>
  refine ⟨0, rfl, Nat.zero_le _, ⟨_, _, rfl, ?_⟩, qab (gv _ _) _, fs1⟩
  rw [qjf]
  exact qaL (xs := [.int .i64 0, .int .i64 1]) (qae (by simp) _) (Nat.le_refl _) rfl rfl (by unfold maxLen; omega)
 case round =>
  obtain ⟨k, rfl, hrel⟩ := hrel
  obtain ⟨⟨a, cap, rfl, -⟩, hbox⟩ := And.intro hrel.own hrel.box
  obtain ⟨x0, x1, x2, xb⟩ := g3l hbox
  by_cases hlt : k < L.length
  · obtain ⟨b, off, ha, hb, y0, y1, y2⟩ := (hL.out.same hrel.same).node hlt
    subst ha
    replace hrel := gi hrel
    have hbx := hbox
    replace hbx := gi hbx
    clear hbox
    go_wp2_with fail
    refine (LV.out _ _ (qab hbx.out _) (hrel.out.same.alloc _) ⟨by omega, by omega⟩).mono ?_
    rintro e w1 ⟨rfl, hs1⟩
    have kn := hs1.at (gv _ _) id
    obtain ⟨z0, z1, z2, zb⟩ := g3l kn
    have kx := hs1.at (qab hbx.out _) id
    have hw1 : qad wr w1 := (show qad wr _ from fs1).same hs1
    have e0 : lev L n ((k : Int) + 2) = L[k].1 := by rw [lev, if_neg (by omega), qmH (n := n) hlt]
    rw [e0]
    replace e0 := gi e0
    obtain ⟨a', cap', he, hown⟩ := hrel.out.own
    cases he
    have hown1 := qag hown hw1
    replace hown1 := gi hown1
    replace kn := gi kn
    replace kx := gi kx
    replace hs1 := gi hs1
    replace hw1 := gi hw1
    clear y0 y1 y2 hown
    obtain ⟨g1, g2, g3⟩ := qoG ho.out (k := (k : Int) + 2) (by omega) ⟨by omega, by omega⟩
    rw [qmH (n := n) hlt] at g1 g2 g3
    rw [e0.out] at g1 g2 g3
    have hval := ho.out.val k L[k] (List.getElem?_eq_getElem hlt)
    have hlen := qd6 L n k
    have hsl := qaa.of_owns hown1.out
    rw [← hlen] at hsl
    obtain ⟨b4, off4, cur4, ha4, hb4, hc4⟩ := qgL hsl (by omega)
    subst ha4
    have lo0 := hval.2.2.1
    have lo1 := hval.2.2.2.1
    have hi0 := hval.2.2.2.2.1
    have hi1 := hval.2.2.2.2.2
    have v0 := hval.1
    have vn := ho.out.var _ (List.getElem_mem hlt)
    have n40 := ho.out.n40
    have hlo : qaH L L[k].2.1 := ⟨lo0, by omega⟩
    have hhi : qaH L L[k].2.2 := ⟨hi0, by omega⟩
    have rlo := qcJ ho.out hlo
    have rhi := qcJ ho.out hhi
    have clo := hc4 L[k].2.1.toNat (by omega)
    have chi := hc4 L[k].2.2.toNat (by omega)
    have flo : (qcn L n k)[L[k].2.1.toNat]'(by omega) = ((cnt L n L[k].2.1 : Nat) : Int) := by
     have := qeH L n k (i := L[k].2.1.toNat) (by omega)
     rw [List.getElem?_eq_getElem (by omega)] at this
     rw [Option.some.inj this, show ((L[k].2.1.toNat : Nat) : Int) = L[k].2.1 by omega]
    have fhi : (qcn L n k)[L[k].2.2.toNat]'(by omega) = ((cnt L n L[k].2.2 : Nat) : Int) := by
     have := qeH L n k (i := L[k].2.2.toNat) (by omega)
     rw [List.getElem?_eq_getElem (by omega)] at this
     rw [Option.some.inj this, show ((L[k].2.2.toNat : Nat) : Int) = L[k].2.2 by omega]
    rw [flo] at clo
    rw [fhi] at chi
    have blo := qh3 ho.out hlo (L[k].1 + 1) (by omega) (by omega)
    have bhi := qh3 ho.out hhi (L[k].1 + 1) (by omega) (by omega)
    have hb4l := gu hb4
    replace hb4 := gi hb4
    clear flo fhi hc4 hsl hval
    have hvlo := gi hlo
    have hvhi := gi hhi
    clear hlo hhi
    obtain ⟨p, hp⟩ : ∃ p, p = lev L n L[k].2.1 := ⟨_, rfl⟩
    obtain ⟨q, hq⟩ : ∃ q, q = lev L n L[k].2.2 := ⟨_, rfl⟩
    obtain ⟨A, hA⟩ : ∃ A, A = cnt L n L[k].2.1 := ⟨_, rfl⟩
    obtain ⟨B, hB⟩ : ∃ B, B = cnt L n L[k].2.2 := ⟨_, rfl⟩
    rw [← hp, ← hq, ← hA, ← hB] at g1
    rw [← hp] at g2 rlo blo
    rw [← hq] at g3 rhi bhi
    rw [← hA] at clo blo
    rw [← hB] at chi bhi
    replace hp := gi hp
    replace hq := gi hq
    replace hA := gi hA
    replace hB := gi hB
    replace g1 := gi g1
    obtain ⟨rlo1, rlo2, -⟩ := rlo
    obtain ⟨rhi1, rhi2, -⟩ := rhi
    clear hlen x0 x1 x2
    go_wp2_with fail
    have hw1' : IntKind.i64.wrap (p - L[k].1) = p - L[k].1 := IntWalk.i64_in _ (by omega)
    have hw2 : IntKind.i64.wrap (p - L[k].1 - 1) = p - L[k].1 - 1 := IntWalk.i64_in _ (by omega)
    have hw3 : IntKind.i64.wrap (q - L[k].1) = q - L[k].1 := IntWalk.i64_in _ (by omega)
    have hw4 : IntKind.i64.wrap (q - L[k].1 - 1) = q - L[k].1 - 1 := IntWalk.i64_in _ (by omega)
    have hA2 : ∃ A2 : Nat, IntKind.i64.wrap ((A : Int) * 2 ^ ((p - L[k].1).toNat - 1)) = (A2 : Int) ∧ A2 = A * 2 ^ (p - L[k].1 - 1).toNat ∧ A2 ≤ 2 ^ 40 := qkk (by omega) (by rw [show p - (L[k].1 + 1) = p - L[k].1 - 1 by omega] at blo; exact blo) (by omega)
    have hB2 : ∃ A2 : Nat, IntKind.i64.wrap ((B : Int) * 2 ^ ((q - L[k].1).toNat - 1)) = (A2 : Int) ∧ A2 = B * 2 ^ (q - L[k].1 - 1).toNat ∧ A2 ≤ 2 ^ 40 := qkk (by omega) (by rw [show q - (L[k].1 + 1) = q - L[k].1 - 1 by omega] at bhi; exact bhi) (by omega)
    obtain ⟨A2, sA, eA, bA⟩ := hA2
    obtain ⟨B2, sB, eB, bB⟩ := hB2
    have sAB : IntKind.i64.wrap ((A2 : Int) + (B2 : Int)) = (A2 : Int) + (B2 : Int) := IntWalk.i64_in _ (by omega)
    replace eA := gi eA
    replace eB := gi eB
    clear blo bhi
    refine qac (L2 b4 wr.heap.size) [0, 0, 0, 1, 0, 1, 0, 0, 1, 2, 0, 0, 0, 0, 0, 0, 1, 0, 1, 0, 0, 1, 2, 0, 0, 0, 0, 0, 2, 3, 0] [0, 1, 2, 6, 7, 10, 14, 15, 19, 20, 23, 3, 4, 5, 8, 16, 17, 18, 21, 9, 11, 12, 13, 22, 24, 25, 26, 27, 28, 29, 30] (by kernel_rfl) (by kernel_rfl) ?_
    repeat ((first | refine gB rfl rfl fun _ k => ?_ | refine gC rfl rfl fun _ k => ?_); go_simp; (first | refine k _ ?_ | refine ⟨_, fun _ => rfl, k _ ?_⟩); clear k)
    refine gF rfl rfl (fun _ hK => ?_)
    go_simp
    refine (LV.out L[k].2.1 _ ((show qad w1 _ from fs2).at kx.out id) ((hrel.out.same.same hw1.out).same fs2) hvlo.out).mono ?_
    rintro e w2 ⟨rfl, hs2⟩
    rw [← hp.out]
    refine hK _ _ (Kp.of_same hs2) ?_
    clear hK
    try simp only [Act.put, gj]
    have hw2 : qad w1 w2 := (show qad w1 _ from fs2).same hs2
    replace hs2 := gi hs2
    replace hw2 := gi hw2
    repeat ((first | refine gB rfl rfl fun _ k => ?_ | refine gC rfl rfl fun _ k => ?_); go_simp; (first | refine k _ ?_ | refine ⟨_, fun _ => rfl, k _ ?_⟩); clear k)
    refine gF rfl rfl (fun _ hK => ?_)
    go_simp
    refine (LV.out L[k].2.2 _ ((hw2.out.same fs2).at kx.out id) ((hrel.out.same.same hw1.out).same (hw2.out.same fs2)) hvhi.out).mono ?_
    rintro e w3 ⟨rfl, hs3⟩
    rw [← hq.out]
    refine hK _ _ (Kp.of_same hs3) ?_
    clear hK
    try simp only [Act.put, gj]
    have hw3 : qad w1 w3 := (hw2.out.same fs2).same hs3
    have hsz3 := hw3.size
    have hsz1 := hw1.out.size
    replace hs3 := gi hs3
    replace hw3 := gi hw3
    repeat ((first | refine gB rfl rfl fun _ k => ?_ | refine gC rfl rfl fun _ k => ?_); go_simp; (first | refine k _ ?_ | refine ⟨_, fun _ => rfl, k _ ?_⟩); clear k)
    refine gF rfl rfl (fun _ hK => ?_); go_simp; refine hK _ _ (Kp.of_same fs2) ?_; clear hK
    refine gD rfl (by decide) (fun _ hK => ?_)
    refine qbe rfl (.tmp 22) (.tmp 50) 33 rfl (w.heap.size + 1) 3 i3 (.int .i64 0) 1 8 Tryz.underlying33 hi3 hi3z hi3s hi3b rfl (by decide) (by decide) _ (k + 2) cap (gw (qcn L n k)) rfl (qag hown1.out (hw3.out.same fs2)) (by omega) w3.heap.size [.int .i64 ((A2 : Int) + (B2 : Int))] rfl rfl (qae (by simp) _) (by simp [Value.oneCell']) (by simp; omega) ?_
    intro an cn w4 hO4 hG4
    refine hK _ _ ?_; clear hK; try simp only [Act.put, gj]
    repeat ((first | refine gB rfl rfl fun _ k => ?_ | refine gC rfl rfl fun _ k => ?_); go_simp; (first | refine k _ ?_ | refine ⟨_, fun _ => rfl, k _ ?_⟩); clear k)
    refine gO (NoPanic.normal ?_)
    have hF := hrel.out.next (hw1.out.same (hw3.out.same fs2)) hlt (x := (A2 : Int) + (B2 : Int)) (by rw [g1.out, hA.out, hB.out, eA.out, eB.out, hA.out, hB.out]; simp) hO4 hG4
    replace hF := gi hF
    clear hO4 hG4
    go_wp2_with fail
    go_roundw
    case rel => exact ⟨k + 1, by go_num, hF.out⟩
    case measure => simp [intOf]; omega
  · have hk : k = L.length := by have := hrel.le; omega
    subst hk
    obtain ⟨a', cap', he, hown⟩ := hrel.own
    cases he
    have hlen := qd6 L n L.length
    have hsl := qaa.of_owns hown
    rw [← hlen] at hsl
    obtain ⟨b4, off4, cur4, ha4, hb4, hc4⟩ := qgL hsl (by omega)
    subst ha4
    have r0 := hr.1
    have r1 := hr.2
    have cr := hc4 r.toNat (by omega)
    have fr : (qcn L n L.length)[r.toNat]'(by omega) = ((cnt L n r : Nat) : Int) := by
     have := qeH L n L.length (i := r.toNat) (by omega)
     rw [List.getElem?_eq_getElem (by omega)] at this
     rw [Option.some.inj this, show ((r.toNat : Nat) : Int) = r by omega]
    rw [fr] at cr
    have hroot := qoH ho.out hr
    have rr := qcJ ho.out hr
    have hb40 : cnt L n r * 2 ^ (lev L n r).toNat ≤ 2 ^ n := by
     rw [hroot]
     have := List.count_le_length (a := true) (l := tab L n 0 r)
     rwa [qax] at this
    have n40 := ho.out.n40
    have hb4l := gu hb4
    have hvr := gi hr
    replace hb4 := gi hb4
    clear fr hc4 hsl hlen hr
    obtain ⟨p, hp⟩ : ∃ p, p = lev L n r := ⟨_, rfl⟩
    obtain ⟨A, hA⟩ : ∃ A, A = cnt L n r := ⟨_, rfl⟩
    rw [← hp, ← hA] at hroot hb40
    rw [← hA] at cr
    rw [← hp] at rr
    obtain ⟨rr1, rr2, -⟩ := rr
    replace hp := gi hp
    replace hA := gi hA
    obtain ⟨C, sC, eC⟩ : ∃ C : Nat, IntKind.i64.wrap ((A : Int) * 2 ^ p.toNat) = (C : Int) ∧ C = (tab L n 0 r).count true := by
     refine ⟨_, ?_, rfl⟩
     rw [← hroot]
     have h1 : A * 2 ^ p.toNat ≤ 2 ^ 40 := Nat.le_trans hb40 (Nat.pow_le_pow_right (by omega) (by omega))
     have e : ((A : Int) * 2 ^ p.toNat) = ((A * 2 ^ p.toNat : Nat) : Int) := by simp
     rw [e]
     generalize A * 2 ^ p.toNat = X at *
     exact IntWalk.i64_in _ (by omega)
    replace eC := gi eC
    replace hrel := gi hrel
    have hbx := hbox
    replace hbx := gi hbx
    clear hroot hb40 hbox
    go_wp2_with fail
    refine qac (L2 b4 w.heap.size) [0, 0, 1, 0, 1, 0, 0, 1, 2, 0, 0] [0, 1, 5, 6, 2, 3, 4, 7, 8, 9, 10] (by kernel_rfl) (by kernel_rfl) ?_
    repeat ((first | refine gB rfl rfl fun _ k => ?_ | refine gC rfl rfl fun _ k => ?_); go_simp; (first | refine k _ ?_ | refine ⟨_, fun _ => rfl, k _ ?_⟩); clear k)
    refine gF rfl rfl (fun _ hK => ?_)
    go_simp
    refine (LV.out r _ ((show qad wr _ from fs2).at hbx.out id) (hrel.out.same.same fs2) hvr.out).mono ?_
    rintro e w3 ⟨rfl, hs3⟩
    rw [← hp.out]
    refine hK _ _ (Kp.of_same hs3) ?_
    clear hK
    try simp only [Act.put, gj]
    have hw3 : qad w w3 := (hrel.out.same.same fs2).same hs3
    replace hs3 := gi hs3
    replace hw3 := gi hw3
    repeat ((first | refine gB rfl rfl fun _ k => ?_ | refine gC rfl rfl fun _ k => ?_); go_simp; (first | refine k _ ?_ | refine ⟨_, fun _ => rfl, k _ ?_⟩); clear k)
    refine gO (NoPanic.normal ?_)
    go_wp2_with fail
    go_ret
    refine ⟨?_, hw3.out⟩
    rw [← eC.out]
    rfl
theorem qmI (d : Dg) (n : Nat) (t : List Bool) (w : World) (hat : d.at w) (T : d.tab n t) :
 Calls Tryz.prog 46 #[d.v] w fun e w' => e = .returned (.tuple #[.int .i64 (t.count true : Nat), .int .i64 0]) ∧ qad w w' := by
 have C := fun W (hW : qad w W) => qbR d n t W (qaa.same hat hW) T
 obtain ⟨ho, hv, ht⟩ := T.2.ord
 have D := fun W (hW : qad w W) => qlm n d.r d.a d.cap d.L W (qaa.same hat hW) (by have := T.2.short; omega) ho hv
 rw [ht] at D
 have e := T.1
 rw [Dg.v, e] at C ⊢
 replace C := gi C
 replace D := gi D
 clear hat T ho hv ht e
 go_enter Tryz.func46, Tryz.ntmps46
 go_wp2_with fail
 refine (C.out _ fs2).mono ?_
 rintro e w1 ⟨rfl, hs1⟩
 have kb := hs1.at (gv _ _) id
 obtain ⟨r0, r1, r2⟩ := g3 kb
 have hw1 := (show qad w _ from fs2).same hs1
 replace kb := gi kb
 replace hs1 := gi hs1
 replace hw1 := gi hw1
 go_wp2_with fail
 refine (D.out _ hw1.out).mono ?_
 rintro e w2 ⟨rfl, hs2⟩
 replace hs2 := gi hs2
 go_wp2_with fail
 go_ret2
 exact ⟨rfl, hw1.out.same hs2.out⟩
theorem qaa.node3 {w : World} {a : Option Addr} {cap : Nat} {L : List Nd} (hL : qaa w 132 3 (.slice a L.length cap) L.length (qap L)) {k : Int} (h2 : 1 < k) (hk : k < L.length + 2) :
 ∃ b off, a = some ⟨b, off, none⟩ ∧ b < w.heap.size ∧ w.cell? ⟨b, off + (k - 2).toNat * 3, none⟩ = some (.int .i64 (qao L k).1) ∧ w.cell? ⟨b, off + (k - 2).toNat * 3 + 1, none⟩ = some (.int .i64 (qao L k).2.1) ∧ w.cell? ⟨b, off + (k - 2).toNat * 3 + 2, none⟩ = some (.int .i64 (qao L k).2.2) := by
 have hlt : (k - 2).toNat < L.length := by omega
 have := hL.node hlt
 have e : qao L k = L[(k - 2).toNat] := by simp [qao, hlt]
 rw [e]
 exact this
theorem Kp.setCell {L : Nat → Prop} {w : World} {p : Addr} (h : ¬ L p.block) (u : Value) : Kp L w (w.setCell p u) :=
 Kp.of_fr (S := fun i => i = p.block) ((Fr.refl _ w).setCell _ _ (fun _ => rfl)) (fun k hk _ e => h (e ▸ hk))
theorem Kp.new {w W : World} {o : Obj} (h : W.heap.size = w.heap.size) : Kp (Lk w.heap.size) (w.alloc o).drew (W.alloc o).drew :=
 ⟨by show (w.alloc o).heap.size ≤ (W.alloc o).heap.size; simp [h], fun k hk hl => by
  have e1 : (w.alloc o).heap[w.heap.size]? = some o := gv w o
  have e2 : (W.alloc o).heap[w.heap.size]? = some o := qae h.symm o
  unfold Lk at hk
  subst hk
  show (W.alloc o).heap[w.heap.size]? = (w.alloc o).heap[w.heap.size]?
  rw [e1, e2]⟩
theorem qmJ (n : Nat) (r : Int) (a ab : Option Addr) (cap cb : Nat) (L : List Nd) (bits : List Bool) (w : World) (hL : qaa w 132 3 (.slice a L.length cap) L.length (qap L)) (hl : L.length ≤ 100000) (ho : Ord L n) (hr : qaH L r)
 (hb : bits.length = n) (hB : qan w (.slice ab n cb) n (gz bits)) :
 Calls Tryz.prog 75 #[.agg #[.int .i64 n, .slice a L.length cap, .int .i64 r], .slice ab n cb] w fun e w' => e = .returned (.bool (ev L r (fun u => bits.getD u false))) ∧ qad w w' := by
 have n40 := ho.n40
 obtain ⟨R, hR⟩ : ∃ R, R = ev L r (fun u => bits.getD u false) := ⟨_, rfl⟩
 rw [← hR]
 replace hL := gi hL; replace ho := gi ho; replace hB := gi hB; replace hR := gi hR; replace hb := gi hb
 go_enter Tryz.func75, Tryz.ntmps75
 go_wp2_with fail
 go_loopw [5] (fun i wr => ∃ (k : Int), i = .int .i64 k ∧ qaH L k ∧ ev L k (fun u => bits.getD u false) = R ∧ wr.heap[w.heap.size]? = some (.cells #[.int .i64 n, .slice a L.length cap, .int .i64 r] 46 (0, 0)) ∧ qad w wr) (fun i _ => (intOf i).toNat)
 case atStart => exact ⟨r, rfl, hr, hR.out.symm, gv _ _, fs2⟩
 case round =>
  obtain ⟨k, rfl, hk, hev, hbx, hs⟩ := hrel
  have k0 := hk.1
  have k1 := hk.2
  obtain ⟨y0, y1, y2, yb⟩ := g3l hbx
  by_cases hlt : 1 < k
  · obtain ⟨b, off, ha, hbl, z0, z1, z2⟩ := (hL.out.same hs).node3 hlt k1
    subst ha
    have hnv := qa7 ho.out.val (by omega) k1
    have hvn := ho.out.var _ (qd4 (by omega) k1)
    have hst := qg4 ho.out.val hk (by omega) (fun u => bits.getD u false)
    rw [hev] at hst
    obtain ⟨v, lo, hi, hnd⟩ : ∃ v lo hi, qao L k = (v, lo, hi) := ⟨_, _, _, rfl⟩
    rw [hnd] at hnv hvn hst z0 z1 z2
    simp only at hnv hvn hst z0 z1 z2
    obtain ⟨q1, q2, q3, q4, q5, q6⟩ := hnv
    have hw2 : IntKind.i64.wrap (k - 2) = k - 2 := IntWalk.i64_in _ (by omega)
    have hkn : (k - 2).toNat < L.length := by omega
    have hvb : v.toNat < bits.length := by have := hb.out; omega
    have hBr := hB.out.same hs
    obtain ⟨b', off', hab, hbl', hcb⟩ := hBr.cell (by omega)
    subst hab
    have bc := hcb v.toNat _ (qcM bits v.toNat hvb)
    have hv3 : v.toNat < n := by have := hb.out; omega
    have hgd : bits.getD v.toNat false = bits[v.toNat] := by simp [List.getD, hvb]
    rw [hgd] at hst
    clear hcb hBr hgd
    replace hbx := gi hbx; replace hs := gi hs; replace hev := gi hev; replace hst := gi hst; replace hk := gi hk; replace hnd := gi hnd; replace q3 := gi q3; replace q4 := gi q4
    cases hbit : bits[v.toNat]
    · rw [hbit] at bc hst
      replace hbit := gi hbit
      go_wp2_with fail
      go_roundw
      case rel => exact ⟨lo, rfl, q3.out, by have := hst.out; simpa using this.symm, qab hbx.out _, hs.out.alloc _⟩
      case measure => simp [intOf]; omega
    · rw [hbit] at bc hst
      replace hbit := gi hbit
      go_wp2_with fail
      go_roundw
      case rel => exact ⟨hi, rfl, q4.out, by have := hst.out; simpa using this.symm, qab hbx.out _, hs.out.alloc _⟩
      case measure => simp [intOf]; omega
  · have h2 : k < 2 := by omega
    have hk01 : k = 0 ∨ k = 1 := by omega
    have hRe : R = decide (k = 1) := by rw [← hev, qdw h2]
    replace hRe := gi hRe; replace hev := gi hev; replace hbx := gi hbx; replace hs := gi hs; replace hk := gi hk
    rcases hk01 with rfl | rfl
    · go_wp2_with fail
      go_ret
      exact ⟨by rw [hRe.out]; rfl, hs.out⟩
    · go_wp2_with fail
      go_ret
      exact ⟨by rw [hRe.out]; rfl, hs.out⟩
theorem qmK (d : Dg) (n : Nat) (t : List Bool) (ab : Option Addr) (cb : Nat) (bits : List Bool) (w : World) (hat : d.at w) (T : d.tab n t) (hb : bits.length = n) (hB : qan w (.slice ab n cb) n (gz bits)) :
 Calls Tryz.prog 42 #[d.v, .slice ab n cb] w fun e w' => e = .returned (.tuple #[.bool (ev d.L d.r (fun u => bits.getD u false)), .int .i64 0]) ∧ qad w w' := by
 have C := fun W (hW : qad w W) => qbR d n t W (qaa.same hat hW) T
 obtain ⟨ho, hv, ht⟩ := T.2.ord
 have D := fun W (hW : qad w W) => qmJ n d.r d.a ab d.cap cb d.L bits W (qaa.same hat hW) (by have := T.2.short; omega) ho hv hb (hB.same hW)
 have e := T.1
 rw [Dg.v, e] at C ⊢
 obtain ⟨R, hR⟩ : ∃ R, R = ev d.L d.r (fun u => bits.getD u false) := ⟨_, rfl⟩
 rw [← hR] at D ⊢
 replace C := gi C; replace D := gi D; replace ho := gi ho; replace hv := gi hv; replace ht := gi ht; replace T := gi T; replace hat := gi hat; replace e := gi e; replace hb := gi hb; replace hB := gi hB; replace hR := gi hR
 go_enter Tryz.func42, Tryz.ntmps42
 go_wp2_with fail
 refine (C.out _ fs2).mono ?_
 rintro e w1 ⟨rfl, hs1⟩
 have kb := hs1.at (gv w _) id
 obtain ⟨x0, x1, x2, xb⟩ := g3l kb
 have hw1 : qad w w1 := (show qad w _ from fs2).same hs1
 replace kb := gi kb; replace hs1 := gi hs1; replace hw1 := gi hw1
 go_wp2_with fail
 refine (D.out _ hw1.out).mono ?_
 rintro e w2 ⟨rfl, hs2⟩
 have hw2 := hw1.out.same hs2
 replace hs2 := gi hs2; replace hw2 := gi hw2
 go_wp2_with fail
 go_ret2
 exact ⟨rfl, hw2.out⟩
end Go.Proofs.YticcpnekjddanaaGreatDoor
