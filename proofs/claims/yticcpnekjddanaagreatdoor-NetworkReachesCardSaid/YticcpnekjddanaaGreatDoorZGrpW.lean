/-  -/
import Derived.Test.YticcpnekjddanaaGreatDoorZRelB
import Derived.Test.YticcpnekjddanaaGreatDoorZShelf
import Derived.Sort.OwnSortedInts
import Derived.Test.YticcpnekjddanaaGreatDoorZGrpP
import Derived.Test.YticcpnekjddanaaGreatDoorZRestr
set_option linter.unusedVariables false
set_option linter.unusedSimpArgs false
namespace Go.Proofs.YticcpnekjddanaaGreatDoor
open Go.RowKit Go.Sort
def qc3 (w : World) (base g cap : Nat) (l : List Int) : Prop :=
 base ≤ g ∧ ∃ cur : Array Value, w.heap[g]? = some (.cells cur 3 (0, 0)) ∧ l.length ≤ cap ∧ cap ≤ maxLen ∧ cur.size = cap ∧ cur.toList.take l.length = gw l
theorem qc3.owns {w : World} {base g cap n : Nat} {l : List Int} (h : qc3 w base g cap l) (hn : l.length = n) : w.ownsRow base 3 1 (.slice (some ⟨g, 0, none⟩) n cap) n (gw l) := by
 subst hn
 obtain ⟨h1, cur, h2, h3, h4, h5, h6⟩ := h
 exact ⟨by simp [gw], .inr ⟨g, cap, cur, rfl, h1, h2, h3, h4, by omega, by simpa using h6⟩⟩
theorem qfR {w : World} {base n : Nat} {v : Value} {l : List Int} (h : w.ownsRow base 3 1 v n (gw l)) (hv : v ≠ .slice none 0 0) : ∃ g cap, v = .slice (some ⟨g, 0, none⟩) n cap ∧ l.length = n ∧ qc3 w base g cap l := by
 obtain ⟨hl, h | ⟨g, cap, cur, rfl, h1, h2, h3, h4, h5, h6⟩⟩ := h
 · exact absurd h.1 hv
 · have : l.length = n := by simpa [gw] using hl
   subst this
   exact ⟨g, cap, rfl, rfl, h1, cur, h2, h3, h4, by omega, by simpa using h6⟩
theorem qc3.fr {S : Nat → Prop} {w w' : World} {base g cap : Nat} {l : List Int} (h : qc3 w base g cap l) (hf : Fr S w w') (hS : ¬ S g) : qc3 w' base g cap l := by
 obtain ⟨h1, cur, h2, h3⟩ := h
 exact ⟨h1, cur, hf.at h2 hS, h3⟩
theorem qc3.same {w w' : World} {base g cap : Nat} {l : List Int} (h : qc3 w base g cap l) (hf : qad w w') : qc3 w' base g cap l := h.fr hf id
theorem qc3.lt {w : World} {base g cap : Nat} {l : List Int} (h : qc3 w base g cap l) : g < w.heap.size := by
 obtain ⟨h1, cur, h2, _⟩ := h; exact gu h2
theorem qc3.base {w : World} {base base' g cap : Nat} {l : List Int} (h : qc3 w base g cap l) (hb : base' ≤ base) : qc3 w base' g cap l := ⟨Nat.le_trans hb h.1, h.2⟩
theorem qc3.slice {w : World} {base g cap n : Nat} {l : List Int} (h : qc3 w base g cap l) (hn : l.length = n) : qaa w 3 1 (.slice (some ⟨g, 0, none⟩) n cap) n (gw l) := qaa.of_owns (h.owns hn)
theorem qc3.row {w : World} {base g cap n : Nat} {l : List Int} (h : qc3 w base g cap l) (hn : l.length = n) : qan w (.slice (some ⟨g, 0, none⟩) n cap) n (gw l) := (h.slice hn).row
theorem qej {w : World} {base base' : Nat} {T : TypeId} {sz n : Nat} {v : Value} {xs : List Value} (h : w.ownsRow base T sz v n xs) (hb : base' ≤ base) : w.ownsRow base' T sz v n xs := by
 obtain ⟨hl, hn | ⟨g, cap, cur, rfl, h1, h2⟩⟩ := h
 · exact ⟨hl, .inl hn⟩
 · exact ⟨hl, .inr ⟨g, cap, cur, rfl, Nat.le_trans hb h1, h2⟩⟩
def qm3 (o : List Int) (q : Nat) (w : World) (e : Ending) (w' : World) : Prop :=
 ∃ a c, e = .returned (.slice a q c) ∧ w'.ownsRow w.heap.size 3 1 (.slice a q c) q (gw o) ∧ qad w w'
theorem qeL (o : List Int) (a : Option Addr) (cap q : Nat) (w : World) (hq : o.length = q) (hO : qan w (.slice a q cap) q (gw o)) (hl : q ≤ 1000000) :
 Calls Tryz.prog 58 #[.slice a q cap] w (qm3 o q w) := by
 subst hq
 cases a with
 | none =>
  obtain ⟨_, a', cap', he, h1, h2, h3, _⟩ := hO
  cases he
  have hc := h3 rfl
  have hz : o = [] := List.length_eq_zero_iff.1 (by omega)
  subst hz
  refine (Tryz.slices_Clone_int_nil 0 cap w).mono ?_
  rintro e w' ⟨rfl, rfl⟩
  exact ⟨none, 0, rfl, World.ownsRow_nil _ _ _ _, Fr.refl _ _⟩
 | some ad =>
  by_cases h0 : o.length = 0
  · have hz : o = [] := List.length_eq_zero_iff.1 h0
    subst hz
    refine (Tryz.slices_Clone_int_zero ad cap w).mono ?_
    rintro e w' ⟨v', rfl, hown, hv, hb⟩
    obtain ⟨g, c, rfl, _, hI⟩ := qfR (l := []) hown hv
    exact ⟨_, c, rfl, hI.owns rfl, Fr.of_below hb⟩
  · obtain ⟨b, off, ha, hb, hc⟩ := hO.cell (by omega)
    cases ha
    refine (Tryz.slices_Clone_int b off o.length cap o w (Nat.le_refl _) (by omega) (fun j hj => hc j _ (qbf o j hj))).mono ?_
    rintro e w' ⟨v', rfl, hown, hv, hb⟩
    rw [List.take_length] at hown
    obtain ⟨g, c, rfl, _, hI⟩ := qfR (l := o) hown hv
    exact ⟨_, c, rfl, hI.owns rfl, Fr.of_below hb⟩
theorem qbv (b : Nat) : ∀ (vs : List Value) (o : Nat) (w : World) (cur : Array Value) (T : TypeId) (fr : Nat × Nat), w.heap[b]? = some (.cells cur T fr) → ∃ cur', (w.setCells b o vs).heap[b]? = some (.cells cur' T fr) ∧ cur'.size = cur.size
 | [], o, w, cur, T, fr, h => ⟨cur, h, rfl⟩
 | v :: vs, o, w, cur, T, fr, h => by
  obtain ⟨cur', h1, h2⟩ := qbv b vs (o + 1) (w.setCell ⟨b, o, none⟩ v) _ T fr (qaf h o v)
  exact ⟨cur', h1, by rw [h2]; simp⟩
theorem qb0 (b : Nat) : ∀ (vs : List Value) (o : Nat) (w : World), Fr (fun k => k = b) w (w.setCells b o vs)
 | [], o, w => Fr.refl _ _
 | v :: vs, o, w => ((Fr.refl (fun k => k = b) w).setCell ⟨b, o, none⟩ v (fun _ => rfl)).trans (qb0 b vs (o + 1) (w.setCell ⟨b, o, none⟩ v)) (fun _ _ h => h)
theorem qih {w : World} {g : Nat} {cur : Array Value} {T : TypeId} {fr : Nat × Nat} (h : w.heap[g]? = some (.cells cur T fr)) : w.shape? g = some (T, cur.size) := by simp [World.shape?, h]
theorem qc3.of_cells {w : World} {base g cap : Nat} {cur : Array Value} {l : List Int} (h1 : base ≤ g) (h2 : w.heap[g]? = some (.cells cur 3 (0, 0))) (h3 : l.length ≤ cap) (h4 : cap ≤ maxLen) (h5 : cur.size = cap)
 (hc : ∀ j (hj : j < l.length), w.cell? ⟨g, j, none⟩ = some (.int .i64 l[j])) : qc3 w base g cap l := by
 refine ⟨h1, cur, h2, h3, h4, h5, ?_⟩
 apply List.ext_getElem?
 intro j
 by_cases hj : j < l.length
 · have := hc j hj
   rw [gn h2 j] at this
   rw [List.getElem?_take_of_lt hj, Array.getElem?_toList, this, qbf l j hj]
   simp [List.getD, hj]
 · rw [List.getElem?_eq_none (by simp; omega), List.getElem?_eq_none (by simp [gw]; omega)]
theorem qo3 (r : List Int) (v : Int) (i base g cap vb q : Nat) (w : World) (hq : r.length = q) (hO : qc3 w base g cap r) (hv : w.heap[vb]? = some (.cells #[.int .i64 v] 3 (0, 0))) (hne : vb ≠ g) (hi : i ≤ q) (hroom : q + 1 ≤ cap) :
 Calls Tryz.prog 23 #[.slice (some ⟨g, 0, none⟩) q cap, .int .i64 i, .slice (some ⟨vb, 0, none⟩) 1 1] w fun e w' =>
  e = .returned (.slice (some ⟨g, 0, none⟩) (q + 1) cap) ∧ qc3 w' base g cap (r.take i ++ v :: r.drop i) ∧ Fr (fun k => k = g) w w' := by
 subst hq
 obtain ⟨h1, cur, h2, h3, h4, h5, h6⟩ := hO
 have hcap : cap ≤ 9223372036854775807 := by unfold maxLen at h4; omega
 have hcell : ∀ j, j < r.length → w.cell? ⟨g, j, none⟩ = some (.int .i64 (r.getD j 0)) := by
  intro j hj
  rw [gn h2 j]
  have := congrArg (fun l => l[j]?) h6
  simp only [List.getElem?_take_of_lt hj, Array.getElem?_toList, qbf r j hj] at this
  exact this
 have hsp : ∀ j, j < cap → (w.cell? ⟨g, j, none⟩).isSome = true := by
  intro j hj
  rw [gn h2 j, Array.getElem?_eq_getElem (by omega)]
  rfl
 have hfz : ∀ j, w.frozen? ⟨g, j, none⟩ = false := fun j => qak h2 j
 have hvc := gn hv 0
 have hlen : (r.take i ++ v :: r.drop i).length = r.length + 1 := by simp; omega
 by_cases hil : i < r.length
 · refine (Tryz.slices_Insert_int_shift g 0 r.length cap i vb 0 1 1 (gw r) [.int .i64 v] w hil (by omega) hroom hcap hne (by simp [gw]) rfl
     (fun j u hu => ?_) (fun j hj => by rw [Nat.zero_add]; exact hsp j (by omega)) (fun j _ => hfz _) (fun j u hu => ?_) (fun u hu => ?_) (fun u hu => ?_) 3 3 1 cur.size (qih hv) (qih h2) (by omega) (qak hv 0) (qak hv 1)).mono ?_
   · have hj : j < r.length := by
       rcases Nat.lt_or_ge j r.length with h | h
       · exact h
       · rw [List.getElem?_eq_none (by simpa [gw] using h)] at hu; cases hu
     rw [qbf r j hj] at hu
     cases hu
     rw [Nat.zero_add]
     exact hcell j hj
   · match j, hu with
     | 0, hu => simp at hu; subst hu; exact hvc
   · simp [gw] at hu; obtain ⟨x, _, rfl⟩ := hu; rfl
   · simp at hu; subst hu; rfl
   · rintro e w' ⟨rfl, rfl⟩
     have F1 : Fr (fun k => k = g) w (((w.drew.setCells g (0 + (i + 1)) ((gw r).drop i)).setCells g (0 + i) [.int .i64 v])) :=
      (((Fr.refl _ _).drew).trans (qb0 g ((gw r).drop i) (0 + (i + 1)) w.drew) (fun _ _ h => h)).trans (qb0 g [.int .i64 v] (0 + i) _) (fun _ _ h => h)
     obtain ⟨c1, k1, s1⟩ := qbv g ((gw r).drop i) (0 + (i + 1)) w.drew cur _ _ h2
     obtain ⟨c2, k2, s2⟩ := qbv g [.int .i64 v] (0 + i) _ c1 _ _ k1
     refine ⟨rfl, qc3.of_cells h1 k2 (by omega) h4 (by omega) (fun j hj => ?_), F1⟩
     rw [hlen] at hj
     have hd : ((gw r).drop i).length = r.length - i := by simp [gw]
     have sp1 : ∀ j, j < ((gw r).drop i).length → (w.drew.cell? ⟨g, (0 + (i + 1)) + j, none⟩).isSome = true := fun j hj => hsp _ (by omega)
     have sp2 : ∀ j, j < [Value.int .i64 v].length → ((w.drew.setCells g (0 + (i + 1)) ((gw r).drop i)).cell? ⟨g, (0 + i) + j, none⟩).isSome = true := by
      intro j hj
      simp at hj
      subst hj
      rw [gn k1, Array.getElem?_eq_getElem (by omega)]
      rfl
     rcases Nat.lt_trichotomy j i with h | h | h
     · rw [World.cell?_setCells_out g _ _ _ _ (fun _ _ => .inl (by simp; omega)), World.cell?_setCells_out g _ _ _ _ (fun _ _ => .inl (by simp; omega))]
       show w.cell? _ = _
       rw [hcell j (by omega)]
       simp [List.getElem_append_left, List.getD, show j < r.length by omega, h, hil, show j < min i r.length by omega]
     · subst h
       have := World.cell?_setCells_in g [.int .i64 v] (0 + j) _ sp2 0 (by simp)
       simp only [Nat.add_zero, Nat.zero_add] at this ⊢
       rw [this]
       have hm : min j r.length = j := by omega
       simp [List.getElem_append_right, hm]
     · rw [World.cell?_setCells_out g _ _ _ _ (fun _ _ => .inr (by simp; omega))]
       have := World.cell?_setCells_in g ((gw r).drop i) (0 + (i + 1)) w.drew sp1 (j - (i + 1)) (by omega)
       rw [show 0 + (i + 1) + (j - (i + 1)) = j by omega] at this
       rw [this, List.getElem_drop]
       have hm : min i r.length = i := by omega
       obtain ⟨m, rfl⟩ : ∃ m, j = i + 1 + m := ⟨j - (i + 1), by omega⟩
       have : (r.take i ++ v :: r.drop i)[i + 1 + m]'(by omega) = r[i + m]'(by omega) := by
        rw [List.getElem_append_right (by simp; omega)]
        simp only [List.length_take, hm]
        have e : i + 1 + m - i = m + 1 := by omega
        simp only [e, List.getElem_cons_succ, List.getElem_drop]
       rw [this]
       simp [gw, show i + 1 + m - (i + 1) = m by omega]
 · obtain rfl : i = r.length := by omega
   refine (Tryz.slices_Insert_int_end_room g 0 r.length cap vb 0 1 1 [.int .i64 v] w (by omega) hroom hcap rfl (fun j hj => hsp _ (by omega)) (fun j _ => hfz _) (fun j u hu => ?_) (fun u hu => ?_)).mono ?_
   · match j, hu with
     | 0, hu => simp at hu; subst hu; exact hvc
   · simp at hu; subst hu; rfl
   · rintro e w' ⟨rfl, rfl⟩
     obtain ⟨c2, k2, s2⟩ := qbv g [.int .i64 v] (0 + r.length) w cur _ _ h2
     refine ⟨rfl, qc3.of_cells h1 k2 (by omega) h4 (by omega) (fun j hj => ?_), qb0 g [.int .i64 v] (0 + r.length) w⟩
     rw [hlen] at hj
     have sp2 : ∀ j, j < [Value.int .i64 v].length → (w.cell? ⟨g, (0 + r.length) + j, none⟩).isSome = true := fun j hj => hsp _ (by simp at hj; omega)
     by_cases h : j < r.length
     · rw [World.cell?_setCells_out g _ _ _ _ (fun _ _ => .inl (by simp; omega)), hcell j h]
       simp [List.getD, h]
     · obtain rfl : j = r.length := by omega
       have := World.cell?_setCells_in g [.int .i64 v] (0 + r.length) _ sp2 0 (by simp)
       simp only [Nat.add_zero, Nat.zero_add] at this ⊢
       rw [this]
       simp
theorem qkq {w w1 w2 : World} {g : Nat} (h1 : qad w w1) (h2 : Fr (fun k => k = g) w1 w2) (hg : w.heap.size ≤ g) : qad w w2 := h1.trans h2 (fun i hi e => by have : i = g := e; omega)
end Go.Proofs.YticcpnekjddanaaGreatDoor
namespace Go.Proofs.YticcpnekjddanaaGreatDoor
open Go.RowKit
structure Grp where
 a : Option Addr
 cap : Nat
 l : List Int
def Grp.v (g : Grp) : Value := .slice g.a g.l.length g.cap
def qiA (w : World) (v : Value) (k : Nat) (gs : List Grp) : Prop := qan w v k (gs.map Grp.v) ∧ ∀ g ∈ gs, qan w g.v g.l.length (gw g.l)
theorem qiA.same {w w' : World} {v : Value} {k : Nat} {gs : List Grp} (h : qiA w v k gs) (hs : qad w w') : qiA w' v k gs := ⟨h.1.same hs, fun g hg => (h.2 g hg).same hs⟩
theorem qiA.len {w : World} {v : Value} {k : Nat} {gs : List Grp} (h : qiA w v k gs) : gs.length = k := by have := h.1.1; simpa using this
theorem qiA.get {w : World} {a : Option Addr} {cap k i : Nat} {gs : List Grp} (h : qiA w (.slice a k cap) k gs) (hi : i < gs.length) :
 ∃ b off, a = some ⟨b, off, none⟩ ∧ b < w.heap.size ∧ w.cell? ⟨b, off + i, none⟩ = some (.slice gs[i].a gs[i].l.length gs[i].cap) ∧ qan w (.slice gs[i].a gs[i].l.length gs[i].cap) gs[i].l.length (gw gs[i].l) := by
 have hl := h.len
 obtain ⟨b, off, ha, hb, hc⟩ := h.1.cell (by omega)
 exact ⟨b, off, ha, hb, hc i _ (by simp [Grp.v, hi]), h.2 _ (List.getElem_mem hi)⟩
def lst (gs : List Grp) : List (List Int) := gs.map Grp.l
theorem qdq (gs : List Grp) : (lst gs).length = gs.length := by simp [lst]
theorem qf7 (gs : List Grp) {i : Nat} (h : i < gs.length) : (lst gs)[i]'(by rw [qdq]; exact h) = gs[i].l := by simp [lst]
end Go.Proofs.YticcpnekjddanaaGreatDoor
