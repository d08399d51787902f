/-  -/
import Derived.Test.YticcpnekjddanaaGreatDoorZTable
import Derived.Test.YticcpnekjddanaaGreatDoorZRowAt
import Derived.Test.YticcpnekjddanaaGreatDoorZValue
import Derived.Laws.Rows
import Derived.Test.YticcpnekjddanaaGreatDoorZRelP
import Derived.Test.YticcpnekjddanaaGreatDoorZFrom
set_option maxRecDepth 100000
set_option maxHeartbeats 2000000
set_option linter.unusedVariables false
set_option linter.unusedSimpArgs false
namespace Go.Proofs.YticcpnekjddanaaGreatDoor
open Go.RowKit
def qcg (w : World) (b : Nat) (T : TypeId) (cs : List Value) : Prop := w.heap[b]? = some (.cells cs.toArray T (0, 0))
theorem qcg.cell {w : World} {b : Nat} {T : TypeId} {cs : List Value} (h : qcg w b T cs) {k : Nat} {v : Value} (hk : cs[k]? = some v) : w.cell? ⟨b, k, none⟩ = some v := by
 rw [gn h k]; simpa using hk
theorem qcg.free {w : World} {b : Nat} {T : TypeId} {cs : List Value} (h : qcg w b T cs) (k : Nat) : w.frozen? ⟨b, k, none⟩ = false := qak h k
theorem qcg.lt {w : World} {b : Nat} {T : TypeId} {cs : List Value} (h : qcg w b T cs) : b < w.heap.size := gu h
theorem qcg.set {w : World} {b : Nat} {T : TypeId} {cs : List Value} (h : qcg w b T cs) (k : Nat) (v : Value) : qcg (w.setCell ⟨b, k, none⟩ v) b T (cs.set k v) := by
 have := qaf h k v
 unfold qcg
 rw [this]
 simp
theorem qcg.fr {S : Nat → Prop} {w w' : World} {b : Nat} {T : TypeId} {cs : List Value} (h : qcg w b T cs) (hf : Fr S w w') (hS : ¬ S b) : qcg w' b T cs := hf.at h hS
theorem qcg.same {w w' : World} {b : Nat} {T : TypeId} {cs : List Value} (h : qcg w b T cs) (hf : qad w w') : qcg w' b T cs := hf.at h id
theorem qcg.new {w : World} {b : Nat} {T : TypeId} {cs : List Value} (hb : b = w.heap.size) : qcg (w.alloc (.cells cs.toArray T)) b T cs := qae hb _
theorem qmU (l : List Bool) (k : Nat) (b : Bool) : (gz l).set k (.bool b) = gz (l.set k b) := by simp [gz, List.map_set]
theorem qoV (l : List Bool) (k : Nat) (b : Bool) (h : l[k]? = some b) : (gz l)[k]? = some (.bool b) := by simp [gz, h]
theorem ints_at (l : List Int) (k : Nat) (b : Int) (h : l[k]? = some b) : (gw l)[k]? = some (.int .i64 b) := by simp [gw, h]
theorem qoW {w : World} {a : Option Addr} {cap n : Nat} {l : List Int} (h : qan w (.slice a n cap) n (gw l)) {k : Nat} (hk : k < l.length) (hn : l.length = n) :
 ∃ b off, a = some ⟨b, off, none⟩ ∧ b < w.heap.size ∧ w.cell? ⟨b, off + k, none⟩ = some (.int .i64 l[k]) := by
 obtain ⟨b, off, ha, hb, hc⟩ := h.cell (by omega)
 exact ⟨b, off, ha, hb, hc k _ (ints_at l k _ (List.getElem?_eq_getElem hk))⟩
theorem qcg.row {w : World} {b : Nat} {T : TypeId} {cs ds : List Value} (h : qcg w b T cs) : qcg (w.setRow b ds.toArray) b T ds := by
 unfold qcg at h ⊢
 simp only [World.setRow, Array.getElem?_modify, if_pos, h, Option.map_some]
theorem Fr.setRow {S : Nat → Prop} {a w : World} (h : Fr S a w) (b : Nat) (ds : Array Value) (hp : b < a.heap.size → S b) : Fr S a (w.setRow b ds) :=
 h.trans (T := fun k => k = b) ⟨rfl, rfl, rfl, by simp [World.setRow], fun k _ hne => by simp [World.setRow, Array.getElem?_modify, Ne.symm hne]⟩ (fun i hi e => by subst e; exact hp hi)
theorem qlo (o : List Int) (n : Int) (a : Option Addr) (cap q : Nat) (w : World) (hq : o.length = q) (hO : qan w (.slice a q cap) q (gw o)) (hl : q ≤ 1000000) :
 Calls Tryz.prog 76 #[.slice a q cap, .int .i64 n] w fun e w' => e = .returned (.int .i64 (qcY n o)) ∧ qad w w' := by
 obtain ⟨R, hR⟩ : ∃ R, R = qcY n o := ⟨_, rfl⟩
 rw [← hR]
 unfold qcY at hR
 by_cases h1 : n < 0 ∨ 40 < n
 · rw [if_pos h1] at hR
   subst hR
   replace hO := gi hO; replace hq := gi hq
   rcases h1 with h1 | h1
   · go_enter Tryz.func76, Tryz.ntmps76
     go_wp2_with fail
     go_ret
     exact ⟨rfl, fs2⟩
   · have h2 : ¬ n < 0 := by omega
     go_enter Tryz.func76, Tryz.ntmps76
     go_wp2_with fail
     go_ret
     exact ⟨rfl, fs2⟩
 · rw [if_neg h1] at hR
   have n0 : ¬ n < 0 := by omega
   have n1 : ¬ 40 < n := by omega
   clear h1
   by_cases h2 : (o.length : Int) ≠ n
   · rw [if_pos h2] at hR
     subst hR
     have hb : ((q : Int) != n) = true := by rw [← hq]; simpa using h2
     replace hO := gi hO; replace hq := gi hq; replace h2 := gi h2
     go_enter Tryz.func76, Tryz.ntmps76
     go_wp2_with fail
     go_ret
     exact ⟨rfl, fs2⟩
   · rw [if_neg h2] at hR
     obtain rfl : n = (q : Int) := by omega
     clear h2 n0
     have hb : ((q : Int) != (q : Int)) = false := by simp
     have hq40 : q ≤ 40 := by omega
     replace hO := gi hO; replace hq := gi hq; replace hR := gi hR
     go_enter Tryz.func76, Tryz.ntmps76
     go_wp2_with fail
     go_loopw [20] (fun i wr => ∃ k : Nat, i = .int .i64 k ∧ k ≤ q ∧ R = qow q (o.drop k) (o.take k) ∧ qcg wr w.heap.size 163 (gz (qfD o k)) ∧ qad w wr) (fun i _ => q - (intOf i).toNat)
     case atStart => exact ⟨0, rfl, by omega, hR.out, by rw [qld]; exact qcg.new rfl, fs2⟩
     case round =>
      obtain ⟨k, rfl, hk, hRk, hA, hs⟩ := hrel
      by_cases hlt : k < q
      · obtain ⟨b, off, rfl, hb', c0⟩ := qoW (hO.out.same hs) (k := k) (by rw [hq.out]; exact hlt) hq.out
        rw [qmf (by rw [hq.out]; exact hlt)] at hRk
        generalize hv : o[k]'(by rw [hq.out]; exact hlt) = v at c0 hRk
        by_cases hr : v < 0 ∨ (q : Int) ≤ v
        · rw [if_pos hr] at hRk
          replace hRk := gi hRk; replace hA := gi hA; replace hs := gi hs; replace hv := gi hv
          rcases hr with hr | hr
          · go_wp2_with fail
            go_ret
            exact ⟨by rw [hRk.out]; rfl, hs.out⟩
          · have hr2 : ¬ v < 0 := by omega
            go_wp2_with fail
            go_ret
            exact ⟨by rw [hRk.out]; rfl, hs.out⟩
        · rw [if_neg hr] at hRk
          obtain ⟨x, rfl⟩ : ∃ x : Nat, v = x := ⟨v.toNat, by omega⟩
          have hx : x < q := by omega
          have ax := hA.cell (qoV _ _ _ (qfE o k x (by omega)))
          have af := hA.free x
          have ab := hA.lt
          clear hr
          by_cases hm : (x : Int) ∈ o.take k
          · rw [if_pos hm] at hRk
            rw [decide_eq_true hm] at ax
            replace hRk := gi hRk; replace hA := gi hA; replace hs := gi hs; replace hv := gi hv; replace hm := gi hm
            go_wp2_with fail
            go_ret
            exact ⟨by rw [hRk.out]; rfl, hs.out⟩
          · rw [if_neg hm] at hRk
            rw [decide_eq_false hm] at ax
            have hA2 := hA.set x (.bool true)
            rw [qmU, qle (by rw [hq.out]; exact hlt) hv] at hA2
            have hs2 := hs.setCell ⟨w.heap.size, x, none⟩ (.bool true) (by simp)
            replace hRk := gi hRk; replace hA := gi hA; replace hs := gi hs; replace hv := gi hv; replace hm := gi hm; replace hA2 := gi hA2; replace hs2 := gi hs2
            go_wp2_with fail
            go_roundw
            case rel => exact ⟨k + 1, by go_num, by omega, hRk.out, hA2.out, hs2.out⟩
            case measure => simp [intOf]; omega
      · have hkq : k = o.length := by have := hq.out; omega
        rw [hkq, List.drop_length, qow] at hRk
        replace hRk := gi hRk; replace hA := gi hA; replace hs := gi hs; replace hkq := gi hkq
        go_wp2_with fail
        go_ret
        exact ⟨by rw [hRk.out]; rfl, hs.out⟩
theorem qjt (z : Nat) (h : z ≤ 1000000) : IntKind.i64.wrap ((z : Nat) : Int) = z := by
 simp [IntKind.wrap, IntKind.bits, IntKind.signed]
 have : ((z : Int) % 18446744073709551616) = z := by omega
 rw [this]
 split <;> omega
theorem and1g (x : Nat) : bits .and .i64 (x : Int) 1 = ((x % 2 : Nat) : Int) := by
 show IntKind.i64.wrap (((BitVec.ofInt 64 (x : Int) &&& BitVec.ofInt 64 1).toNat : Nat) : Int) = _
 have h1 : (BitVec.ofInt 64 (x : Int) &&& BitVec.ofInt 64 1).toNat = x % 2 := by
  rw [BitVec.toNat_and, BitVec.ofInt_natCast]
  have : (BitVec.ofInt 64 1).toNat = 1 := by decide
  rw [this, Nat.and_one_is_mod, BitVec.toNat_ofNat]
  omega
 rw [h1]
 exact qjt _ (by omega)
theorem qoX (x k : Nat) : (bits .and .i64 ((x : Int) / 2 ^ k) 1 == 1) = decide (x / 2 ^ k % 2 = 1) := by
 have e : ((x : Int) / 2 ^ k) = ((x / 2 ^ k : Nat) : Int) := by simp
 rw [e, and1g]
 by_cases h : x / 2 ^ k % 2 = 1
 · simp [h]
 · have : x / 2 ^ k % 2 = 0 := by omega
   simp [this]
theorem qgy (n : Int) (w : World) : Calls Tryz.prog 105 #[.int .i64 n] w fun e w' => e = .returned (.int .i64 (if n < 0 ∨ 4096 < n then 2 else 0)) ∧ w' = w := by
 by_cases h0 : n < 0
 · rw [if_pos (.inl h0)]
   go_enter Tryz.func105, Tryz.ntmps105
   go_wp2_with fail
   go_ret
   exact ⟨rfl, rfl⟩
 · by_cases h1 : 4096 < n
   · rw [if_pos (.inr h1)]
     go_enter Tryz.func105, Tryz.ntmps105
     go_wp2_with fail
     go_ret
     exact ⟨rfl, rfl⟩
   · rw [if_neg (by omega)]
     go_enter Tryz.func105, Tryz.ntmps105
     go_wp2_with fail
     go_ret
     exact ⟨rfl, rfl⟩
theorem qfe (n : Nat) (w : World) (hn : n ≤ 4096) : Calls Tryz.prog 106 #[.int .i64 n] w fun e w' => e = .returned (.int .i64 (qa1 n)) ∧ qad w w' := by
 obtain ⟨b, hb⟩ : ∃ b, b = qa1 n := ⟨_, rfl⟩
 have hB := qcz hn
 have h12 := qcQ hn
 rw [← hb] at hB h12 ⊢
 replace hb := gi hb; replace hB := gi hB
 go_enter Tryz.func106, Tryz.ntmps106
 go_wp2_with fail
 go_loopw [3] (fun v wr => ∃ j : Nat, v = .int .i64 j ∧ j ≤ b ∧ qad w wr) (fun j _ => b - (intOf j).toNat)
 case atStart => exact ⟨0, rfl, by omega, Fr.refl _ _⟩
 case round =>
  obtain ⟨j, rfl, hj, hs⟩ := hrel
  have hw := qg9 j (by omega)
  have hw2 : IntKind.i64.wrap ((2 : Int) ^ j) = ((2 ^ j : Nat) : Int) := by
   have e : ((2 : Int) ^ j) = ((2 ^ j : Nat) : Int) := by simp
   have hj2 : 2 ^ j ≤ 2 ^ 12 := Nat.pow_le_pow_right (by omega) (by omega)
   rw [e]
   exact qjt _ (Nat.le_trans hj2 (by decide))
  by_cases hlt : j < b
  · have h2 := hB.out.least j hlt
    generalize hp : 2 ^ j = p at *
    have h2i : (p : Int) < n := by omega
    replace hs := gi hs; replace hp := gi hp
    go_wp2_with fail
    go_roundw
    case rel => exact ⟨j + 1, by go_num, by omega, hs.out⟩
    case measure => simp [intOf]; omega
  · obtain rfl : j = b := by omega
    have h2 := hB.out.le
    generalize hp : 2 ^ j = p at *
    have h2i : ¬ (p : Int) < n := by omega
    replace hs := gi hs; replace hp := gi hp
    go_wp2_with fail
    go_ret
    exact ⟨rfl, hs.out⟩
theorem qoY {n : Nat} (hn : n ≤ 4096) (w : World) : Calls Tryz.prog 105 #[.int .i64 n] w fun e w' => e = .returned (.int .i64 0) ∧ w' = w := by
 have := qgy n w
 rw [if_neg (by omega)] at this
 exact this
theorem Bits_ok {n : Nat} (hn : n ≤ 4096) (w : World) : Calls Tryz.prog 77 #[.int .i64 n] w fun e w' => e = .returned (.tuple #[.int .i64 (qa1 n), .int .i64 0]) ∧ qad w w' := by
 have CC := fun W => qoY hn W
 have BI := fun W => qfe n W hn
 replace CC := gi CC; replace BI := gi BI
 go_enter Tryz.func77, Tryz.ntmps77
 go_wp2_with fail
 refine (CC.out _).mono ?_
 rintro e w1 ⟨rfl, rfl⟩
 go_wp2_with fail
 refine (BI.out _).mono ?_
 rintro e w2 ⟨rfl, hs⟩
 replace hs := gi hs
 go_wp2_with fail
 go_ret2
 exact ⟨rfl, hs.out⟩
def qhh (b s : Nat) : List Bool := qck (qaY b s) b
theorem qbM (b s : Nat) : (qhh b s).length = b := qbq _ _
theorem qmV {n s : Nat} (hn : n ≤ 4096) (hs : s < n) (w : World) : Calls Tryz.prog 78 #[.int .i64 n, .int .i64 s] w fun e w' =>
 ∃ a c, e = .returned (.tuple #[.slice a (qa1 n) c, .int .i64 0]) ∧ w'.ownsRow w.heap.size 4 1 (.slice a (qa1 n) c) (qa1 n) (gz (qhh (qa1 n) s)) ∧ qad w w' := by
 have CC := fun W => qoY hn W
 have BI := fun W => qfe n W hn
 have h12 := qcQ hn
 generalize qa1 n = b at *
 obtain ⟨i3, hi3, hi3z, hi3s, hi3b⟩ := info_parts qmF
 have h1 : ¬ (s : Int) < 0 := by omega
 have h2 : ¬ (n : Int) ≤ s := by omega
 replace CC := gi CC; replace BI := gi BI
 go_enter Tryz.func78, Tryz.ntmps78
 go_wp2_with fail
 refine (CC.out _).mono ?_
 rintro e w1 ⟨rfl, rfl⟩
 go_wp2_with fail
 refine (BI.out _).mono ?_
 rintro e w2 ⟨rfl, hs2⟩
 have hwr : IntKind.i64.wrap ((b : Int) - 1) = (b : Int) - 1 := IntWalk.i64_in _ (by omega)
 replace hs2 := gi hs2
 go_wp2_with fail
 go_loopw [7, 8] (fun x i wr => ∃ (j c : Nat) (a : Option Addr), i = .int .i64 ((b : Int) - 1 - j) ∧ j ≤ b ∧ x = .slice a j c ∧ wr.ownsRow w1.heap.size 4 1 (.slice a j c) j (gz (qck (qaY b s) j)) ∧ qad w1 wr) (fun _ i _ => (intOf i + 1).toNat)
 case atStart => exact ⟨0, 0, none, by simp, by omega, rfl, World.ownsRow_nil _ _ _ _, hs2.out⟩
 case round =>
  obtain ⟨j, c, a, rfl, hj, rfl, ho, hs⟩ := hrel
  have hws := hs.size
  have hcs := qcp (qaY b s) j
  by_cases hlt : j < b
  · obtain ⟨m, hm⟩ : ∃ m, m = b - 1 - j := ⟨_, rfl⟩
    have hmi : (b : Int) - 1 - j = m := by omega
    rw [hmi]
    have hm0 : (0 : Int) ≤ m := by omega
    have hwr2 : IntKind.i64.wrap ((m : Int) - 1) = (m : Int) - 1 := IntWalk.i64_in _ (by omega)
    have hbit := qoX s m
    have hmin : min m 64 = m := by omega
    have hbe : decide (s / 2 ^ m % 2 = 1) = qaY b s j := by unfold qaY; rw [hm]
    rw [hbe] at hbit
    replace ho := gi ho; replace hs := gi hs; replace hcs := gi hcs; replace hm := gi hm; replace hmi := gi hmi; replace hwr := gi hwr; replace hbe := gi hbe
    go_wp2_with (at_builtin; refine qai rfl (.tmp 28) (.tmp 34) 55 rfl w1.heap.size 4 i3 (.bool false) 1 1 Tryz.underlying55 hi3 hi3z hi3s hi3b rfl (by decide) (by decide) a j c (gz (qck (qaY b s) j)) rfl (qag ho.out fs2) (by omega) wr.heap.size [.bool (qaY b s j)] rfl rfl (gv _ _) (by simp [Value.oneCell']) (by simp; omega) ?_; intro a5 c5 w5 ho5 hG5)
    have hs5 : qad w1 w5 := qas (hs.out.same fs2) hG5 (fun k hk => (ho.out.lt k hk).1)
    have ho5' : w5.ownsRow w1.heap.size 4 1 (.slice a5 (j + 1) c5) (j + 1) (gz (qck (qaY b s) (j + 1))) := by
     rw [hcs.out]; have := ho5; simpa [gz] using this
    clear ho5 hG5
    go_roundw
    case rel => exact ⟨j + 1, c5, a5, by have := hmi.out; congr 1; omega, by omega, rfl, ho5', hs5⟩
    case measure => simp [intOf] <;> omega
  · obtain rfl : j = b := by omega
    have hneg : ¬ (0 : Int) ≤ (j : Int) - 1 - j := by omega
    replace ho := gi ho; replace hs := gi hs; replace hcs := gi hcs
    go_wp2_with fail
    go_ret2
    exact ⟨a, c, rfl, ho.out, hs.out⟩
def qe3 (l : List Bool) : Nat := l.foldl (fun s b => 2 * s + if b then 1 else 0) 0
theorem qef (l : List Bool) (b : Bool) : qe3 (l ++ [b]) = 2 * qe3 l + if b then 1 else 0 := by simp [qe3]
theorem qju (l : List Bool) : ∀ k, k ≤ l.length → qe3 (l.take k) < 2 ^ k
 | 0, _ => by simp [qe3]
 | k + 1, hk => by
  have := qju l k (by omega)
  rw [List.take_succ_eq_append_getElem (by omega), qef, Nat.pow_succ]
  split <;> omega
theorem qko (b s : Nat) (hs : s < 2 ^ b) : qe3 (qhh b s) = s := by
 have key : ∀ k, k ≤ b → qe3 (qck (qaY b s) k) = s / 2 ^ (b - k) := by
  intro k
  induction k with
  | zero => intro _; simp [qck, qe3, Nat.div_eq_of_lt hs]
  | succ k ih =>
   intro hk
   rw [qcp, qef, ih (by omega)]
   obtain ⟨m, hm⟩ : ∃ m, m = b - (k + 1) := ⟨_, rfl⟩
   have e1 : b - k = m + 1 := by omega
   have e2 : b - 1 - k = m := by omega
   unfold qaY
   rw [e1, ← hm, e2, Nat.pow_succ, ← Nat.div_div_eq_div_mul]
   by_cases h : s / 2 ^ m % 2 = 1
   · simp [h]; omega
   · simp [h]; omega
 have := key b (Nat.le_refl _)
 simpa [qhh] using this
end Go.Proofs.YticcpnekjddanaaGreatDoor
