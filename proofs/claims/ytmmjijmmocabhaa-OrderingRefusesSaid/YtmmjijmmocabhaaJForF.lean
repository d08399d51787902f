/- Force walked. SortStableFunc of few ints; round, Force walked. The library's stable sort of few ints by a closure over two arrays. -/
import Derived.Test.YtmmjijmmocabhaaJForP
import Derived.Test.YtmmjijmmocabhaaJGrpV
namespace Go.Proofs.Ytmmjijmmocabhaa
open Go.RowKit Go.Sort
set_option linter.unusedVariables false
set_option linter.unusedSimpArgs false

/-- An array of 40 ints by its law. -/
def arrF (F : Nat → Int) : List Int := (List.range 40).map F
theorem arrF_len (F : Nat → Int) : (arrF F).length = 40 := by simp [arrF]
theorem arrF_get (F : Nat → Int) {v : Nat} (h : v < 40) : (arrF F)[v]? = some (F v) := by simp [arrF, h]
theorem arrF_ext {F G : Nat → Int} (h : ∀ v, v < 40 → F v = G v) : arrF F = arrF G := by
  unfold arrF
  exact List.map_congr_left fun v hv => h v (List.mem_range.1 hv)
theorem arrF_set (F : Nat → Int) (v : Nat) (x : Int) (G : Nat → Int) (h : ∀ u, u < 40 → G u = if u = v then x else F u) : (arrF F).set v x = arrF G := by
  apply List.ext_getElem?
  intro j
  rw [List.getElem?_set]
  by_cases hj : j < 40
  · rw [arrF_get _ hj, arrF_get _ hj, arrF_len, h j hj]
    by_cases e : v = j
    · subst e; simp [hj]
    · rw [if_neg e, if_neg (Ne.symm e)]
  · rw [List.getElem?_eq_none (l := arrF G) (by rw [arrF_len]; omega), List.getElem?_eq_none (l := arrF F) (by rw [arrF_len]; omega), arrF_len]
    split
    · rename_i e; rw [if_neg (by omega)]
    · rfl
theorem arrF_zero : arrF (fun _ => 0) = List.replicate 40 0 := by unfold arrF; simp [List.map_const']

/-! ### the closure -/
def cf40 (S C : Nat → Int) (x y : Fin 40) : Int := S x * C y - S y * C x
set_option maxRecDepth 100000 in
set_option maxHeartbeats 1000000 in
theorem round1_any (S C : Nat → Int) (hS : ∀ v, v < 40 → 0 ≤ S v ∧ S v ≤ 16773120) (hC : ∀ v, v < 40 → 0 ≤ C v ∧ C v ≤ 64) (b6 b7 : Nat) (x y : Fin 40) (W : World) (h6 : ArrAt W b6 98 (intCells (arrF S))) (h7 : ArrAt W b7 98 (intCells (arrF C))) :
    Calls Try.prog 73 #[.int .i64 (x.val : Nat), .int .i64 (y.val : Nat), .pointer (some ⟨b6, 0, none⟩), .pointer (some ⟨b7, 0, none⟩)] W fun e w' => e = .returned (.int .i64 (cf40 S C x y)) ∧ w' = W.drew := by
  obtain ⟨x, hx⟩ := x
  obtain ⟨y, hy⟩ := y
  unfold cf40
  simp only
  have s0 := h6.cell (ints_at _ _ _ (arrF_get S hx))
  have s1 := h6.cell (ints_at _ _ _ (arrF_get S hy))
  have c0 := h7.cell (ints_at _ _ _ (arrF_get C hx))
  have c1 := h7.cell (ints_at _ _ _ (arrF_get C hy))
  have l6 := h6.lt
  have l7 := h7.lt
  have hx' : (x : Int) < 40 := by omega
  have hy' : (y : Int) < 40 := by omega
  have bs := hS x hx
  have bt := hS y hy
  have bc := hC x hx
  have bd := hC y hy
  generalize S x = sx at *
  generalize S y = sy at *
  generalize C x = cx at *
  generalize C y = cy at *
  have m1 : 0 ≤ sx * cy ∧ sx * cy ≤ 1073479680 := ⟨Int.mul_nonneg bs.1 bd.1, by have := Int.mul_le_mul bs.2 bd.2 bd.1 (by omega); omega⟩
  have m2 : 0 ≤ sy * cx ∧ sy * cx ≤ 1073479680 := ⟨Int.mul_nonneg bt.1 bc.1, by have := Int.mul_le_mul bt.2 bc.2 bc.1 (by omega); omega⟩
  have w1 : IntKind.i64.wrap (sx * cy) = sx * cy := IntWalk.i64_in _ (by omega)
  have w2 : IntKind.i64.wrap (sy * cx) = sy * cx := IntWalk.i64_in _ (by omega)
  have w3 : IntKind.i64.wrap (sx * cy - sy * cx) = sx * cy - sy * cx := IntWalk.i64_in _ (by omega)
  clear m1 m2 bs bt bc bd
  replace h6 := Lib.hid h6; replace h7 := Lib.hid h7; replace hS := Lib.hid hS; replace hC := Lib.hid hC
  go_enter Try.func73, Try.ntmps73
  go_upto_region 1 with fail
  refine wp_region_sched (L2 b6 b7) [0, 0, 1, 0, 0, 1, 0, 0, 0, 1, 0, 0, 1, 0, 0, 0] [0, 1, 3, 4, 7, 8, 10, 11, 2, 5, 6, 9, 12, 13, 14, 15] (by kernel_rfl) (by kernel_rfl) ?_
  repeat (first | (refine sched_w rfl rfl (fun _ hK => ?_); go_simp; refine hK _ ?_; clear hK) | (refine sched_s rfl rfl (fun _ hK => ?_); go_simp; first | (refine hK _ ?_; clear hK) | (refine ⟨_, fun _ => rfl, hK _ ?_⟩; clear hK)))
  refine sched_nil (NoPanic.normal ?_)
  go_wp2_with fail
  go_ret
  exact ⟨rfl, rfl⟩
theorem enter_round1 (args : Array Value) (W : World) : (callFunc 73 args).run Try.prog W = .ok (.enter 73 args) W := by kernel_rfl

def encF (x : Fin 40) : Value := .int .i64 (x.val : Nat)
theorem putRow_fin (w : World) (blk off : Nat) (d : Array (Fin 40)) : putRow encF w blk off d = putRow (Value.int .i64) w blk off (d.map fun x => ((x.val : Nat) : Int)) := by
  unfold putRow
  congr 1
  funext c
  unfold putCells
  congr 1
  funext k x
  simp only [Array.size_map]
  split
  · rename_i h
    have : k - off < d.size := by omega
    simp [encF, this]
  · rfl

def finL (o : List Int) : List (Fin 40) := o.map fun x => if h : x.toNat < 40 then ⟨x.toNat, h⟩ else 0
theorem finL_back {n : Nat} {o : List Int} (h : IsOrd n o) : (finL o).map (fun x => ((x.val : Nat) : Int)) = o := by
  unfold finL
  rw [List.map_map]
  refine (List.map_congr_left fun x hx => ?_).trans (List.map_id o)
  have := h.range x hx
  have := h.n40
  have h40 : x.toNat < 40 := by omega
  show (((if h : x.toNat < 40 then (⟨x.toNat, h⟩ : Fin 40) else 0).val : Nat) : Int) = x
  rw [dif_pos h40]
  simp only
  omega

/-- Few ints, sorted in place. -/
def StabR (o : List Int) (n base g c : Nat) (lt : Int → Int → Bool) (w : World) (e : Ending) (w' : World) : Prop := (∃ v, e = .returned v) ∧ OwnI w' base g c (sortR lt o) ∧ Fr (fun k => k = g) w w'
set_option maxRecDepth 100000 in
set_option maxHeartbeats 2000000 in
theorem stable_some {n : Nat} {o : List Int} (ho : IsOrd n o) (hn : n < 20) (S C : Nat → Int) (hS : ∀ v, v < 40 → 0 ≤ S v ∧ S v ≤ 16773120) (hC : ∀ v, v < 40 → 0 ≤ C v ∧ C v ≤ 64) (b6 b7 base g c : Nat) (w : World)
    (hO : OwnI w base g c o) (h6 : ArrAt w b6 98 (intCells (arrF S))) (h7 : ArrAt w b7 98 (intCells (arrF C))) (d6 : b6 ≠ g) (d7 : b7 ≠ g) :
    Calls Try.prog 92 #[.slice (some ⟨g, 0, none⟩) n c, .int .i64 0, .int .i64 n, .func (.func 73) #[] #[.pointer (some ⟨b6, 0, none⟩), .pointer (some ⟨b7, 0, none⟩)]] w
      (StabR o n base g c (fun x y => decide (S x.toNat * C y.toNat - S y.toNat * C x.toNat < 0)) w) := by
  have hlo := ho.len
  have hfl : (finL o).length = n := by simp [finL, hlo]
  obtain ⟨h1, cur, h2, h3, h4, h5, h5'⟩ := id hO
  have hH0 : Holds (Value.int .i64) w g 0 o.toArray := holds_of_blockI h2 (by simpa [intCells] using h5')
  have hH : Holds encF w g 0 (finL o).toArray := by
    intro j hj
    have hj' : j < o.length := by simp at hj; omega
    obtain ⟨e1, e2⟩ := hH0 j (by simpa using hj')
    refine ⟨?_, e2⟩
    rw [e1]
    have hb := congrArg (fun l => l[j]?) (finL_back ho)
    simp only [List.getElem?_map] at hb
    have hjf : j < (finL o).length := by omega
    rw [List.getElem?_eq_getElem hjf, List.getElem?_eq_getElem hj'] at hb
    simp at hb
    simp [encF, hjf, hj', hb]
  have hcmp : CmpReads Try.prog 73 #[.pointer (some ⟨b6, 0, none⟩), .pointer (some ⟨b7, 0, none⟩)] encF (cf40 S C) g 0 (finL o).toArray.size w := by
    intro m os dk hdk x y
    have hg := grownBy_sortedI (w := w) (g := g) (n := m) (os := os) (dk.map fun x => ((x.val : Nat) : Int))
    rw [← putRow_fin] at hg
    have hs : w.grownBy (sortWorld encF w g 0 m dk os) (some g) := hg
    have f : Fr (fun k => k = g) w (sortWorld encF w g 0 m dk os) := ⟨hs.os, hs.tape, hs.output, hs.size, fun k hk hkg => hs.block k hk (by simp; omega)⟩
    refine (round1_any S C hS hC b6 b7 x y _ (h6.fr f d6) (h7.fr f d7)).mono ?_
    rintro e w' ⟨rfl, rfl⟩
    exact ⟨rfl, 1, rfl⟩
  have hsz : (finL o).toArray.size = n := by simp [hfl]
  have IS := Try.insertionSortCmpFunc_one encF (fun x => rfl) (cf40 S C) 73 #[.pointer (some ⟨b6, 0, none⟩), .pointer (some ⟨b7, 0, none⟩)] g 0 c 0 n (finL o).toArray w enter_round1 hcmp hH (by omega) (by rw [hsz]; exact Nat.le_refl _) (by rw [hsz]; omega)
  rw [hsz] at IS
  refine IS.mono ?_
  rintro e w' ⟨rfl, m, rfl⟩
  have hil := insertion_list (Go.Proofs.ltOf (cf40 S C)) (finL o)
  rw [hfl] at hil
  have hsort : (sortR (Go.Proofs.ltOf (cf40 S C)) (finL o)).map (fun x => ((x.val : Nat) : Int)) = sortR (fun x y => decide (S x.toNat * C y.toNat - S y.toNat * C x.toNat < 0)) o := by
    rw [sortR_map (fun x : Fin 40 => ((x.val : Nat) : Int)) (Go.Proofs.ltOf (cf40 S C)) (fun x y => decide (S x.toNat * C y.toNat - S y.toNat * C x.toNat < 0)) (finL o) (fun x _ y _ => by unfold Go.Proofs.ltOf cf40; simp only [Int.toNat_natCast]), finL_back ho]
  obtain ⟨r, hr⟩ : ∃ r, r = sortR (fun x y => decide (S x.toNat * C y.toNat - S y.toNat * C x.toNat < 0)) o := ⟨_, rfl⟩
  have hrl : r.length = n := by rw [hr, (sortR_perm _ o).length_eq, hlo]
  rw [hil, putRow_fin]
  have he : ((sortR (Go.Proofs.ltOf (cf40 S C)) (finL o)).toArray.map fun x => ((x.val : Nat) : Int)) = r.toArray := by rw [hr, ← hsort]; simp
  rw [he]
  have hh := heap_sortedI (n := m) (os := #[]) r.toArray h2
  have hg := grownBy_sortedI (w := w) (g := g) (n := m) (os := #[]) r.toArray
  simp only [grow_empty] at hh hg
  have ht := take_putCellsI cur r (by omega)
  refine ⟨⟨_, rfl⟩, ?_, ⟨hg.os, hg.tape, hg.output, hg.size, fun k hk hkg => hg.block k hk (by simp; omega)⟩⟩
  rw [← hr]
  exact ⟨h1, _, hh, by omega, h4, by simpa [putCells] using h5, by rw [ht]; rfl⟩
end Go.Proofs.Ytmmjijmmocabhaa
namespace Go.Proofs.Ytmmjijmmocabhaa
open Go.RowKit Go.Sort
set_option linter.unusedVariables false
set_option linter.unusedSimpArgs false

set_option maxRecDepth 100000 in
set_option maxHeartbeats 1000000 in
theorem ins_zero (v fv : Value) (w : World) : Calls Try.prog 92 #[v, .int .i64 0, .int .i64 0, fv] w fun e w' => (∃ u, e = .returned u) ∧ w' = w := by
  go_enter Try.func92, Try.ntmps92
  go_wp2_with fail
  go_loopw [8] (fun i wr => i = .int .i64 1 ∧ wr = w) (fun _ _ => 0)
  case atStart => exact ⟨rfl, rfl⟩
  case round =>
    obtain ⟨rfl, rfl⟩ := hrel
    go_wp2_with fail
    go_end0
    exact ⟨⟨_, rfl⟩, rfl⟩

set_option maxRecDepth 100000 in
set_option maxHeartbeats 1000000 in
theorem stable_cmp (v fv : Value) (n : Nat) (hn : n < 20) (w : World) (R : World → Prop) (IC : Calls Try.prog 92 #[v, .int .i64 0, .int .i64 n, fv] w fun e w' => (∃ u, e = .returned u) ∧ R w') :
    Calls Try.prog 85 #[v, .int .i64 n, fv] w fun e w' => (∃ u, e = .returned u) ∧ R w' := by
  have h1 : ¬ (20 : Int) ≤ n := by omega
  have h2 : ¬ (20 : Int) < n := by omega
  replace IC := Lib.hid IC
  go_enter Try.func85, Try.ntmps85
  go_wp2_with fail
  go_loopw [7, 8] (fun a b wr => a = .int .i64 0 ∧ b = .int .i64 20 ∧ wr = w) (fun _ _ _ => 0)
  case atStart => exact ⟨rfl, rfl, rfl⟩
  case round =>
    obtain ⟨rfl, rfl, rfl⟩ := hrel
    go_wp2_with fail
    refine IC.out.mono ?_
    rintro e w1 ⟨⟨u, rfl⟩, hR⟩
    replace hR := Lib.hid hR
    go_wp2_with fail
    obtain ⟨wo, rfl⟩ : ∃ wo, wo = w1 := ⟨_, rfl⟩
    go_loopw [6] (fun a wr => a = .int .i64 20 ∧ wr = wo) (fun _ _ => 0)
    case atStart => exact ⟨rfl, rfl⟩
    case round =>
      obtain ⟨rfl, rfl⟩ := hrel
      go_wp2_with fail
      go_end0
      exact ⟨⟨_, rfl⟩, hR.out⟩
set_option maxRecDepth 100000 in
theorem stable_func (a : Option Addr) (c : Nat) (fv : Value) (n : Nat) (hn : n < 20) (w : World) (R : World → Prop) (IC : Calls Try.prog 92 #[.slice a n c, .int .i64 0, .int .i64 n, fv] w fun e w' => (∃ u, e = .returned u) ∧ R w') :
    Calls Try.prog 72 #[.slice a n c, fv] w fun e w' => (∃ u, e = .returned u) ∧ R w' := by
  have SC := stable_cmp _ fv n hn w R IC
  replace IC := Lib.hid IC; replace SC := Lib.hid SC
  go_enter Try.func72, Try.ntmps72
  go_wp2_with fail
  refine SC.out.mono ?_
  rintro e w1 ⟨⟨u, rfl⟩, hR⟩
  replace hR := Lib.hid hR
  go_wp2_with fail
  go_end0
  exact ⟨⟨_, rfl⟩, hR.out⟩

/-! ### round -/
def F6 (f : Int → Int) (gs : List (List Int)) (l : List Int) (c : Int) : Nat → Int := fun v => sumV f gs v + if (v : Int) ∈ l then c else 0
def F7 (gs : List (List Int)) (l : List Int) : Nat → Int := fun v => cntV gs v + if (v : Int) ∈ l then 1 else 0
def G6 (f : Int → Int) (gs : List (List Int)) (i : Nat) : Nat → Int := fun v => if v < i ∧ cntV gs v = 0 then 840 * f v else sumV f gs v
def G7 (gs : List (List Int)) (i : Nat) : Nat → Int := fun v => if v < i ∧ cntV gs v = 0 then 1 else cntV gs v
theorem up_notin {g : List Int} (h : g.Pairwise (· < ·)) {k : Nat} (hk : k < g.length) : g[k] ∉ g.take k := by
  intro hm
  obtain ⟨i, hi, e⟩ := List.mem_iff_getElem.1 hm
  simp only [List.length_take] at hi
  rw [List.getElem_take] at e
  have := List.pairwise_iff_getElem.1 h i k (by omega) hk (by omega)
  omega
theorem F6_set (f : Int → Int) (gs : List (List Int)) {g : List Int} (h : g.Pairwise (· < ·)) {k v : Nat} (hk : k < g.length) (hv : g[k] = (v : Int)) (c : Int) :
    F6 f gs (g.take k) c v = sumV f gs v ∧ (arrF (F6 f gs (g.take k) c)).set v (sumV f gs v + c) = arrF (F6 f gs (g.take (k + 1)) c) := by
  have hn := up_notin h hk
  rw [hv] at hn
  refine ⟨by unfold F6; rw [if_neg hn]; omega, arrF_set _ _ _ _ (fun u hu => ?_)⟩
  unfold F6
  rw [List.take_succ_eq_append_getElem hk, hv]
  by_cases e : u = v
  · subst e; rw [if_pos (by simp), if_pos rfl]
  · rw [if_neg e]
    congr 2
    have : ¬ (u : Int) = v := by omega
    simp [this]
theorem F7_set (gs : List (List Int)) {g : List Int} (h : g.Pairwise (· < ·)) {k v : Nat} (hk : k < g.length) (hv : g[k] = (v : Int)) :
    F7 gs (g.take k) v = cntV gs v ∧ (arrF (F7 gs (g.take k))).set v (cntV gs v + 1) = arrF (F7 gs (g.take (k + 1))) := by
  have hn := up_notin h hk
  rw [hv] at hn
  refine ⟨by unfold F7; rw [if_neg hn]; omega, arrF_set _ _ _ _ (fun u hu => ?_)⟩
  unfold F7
  rw [List.take_succ_eq_append_getElem hk, hv]
  by_cases e : u = v
  · subst e; rw [if_pos (by simp), if_pos rfl]
  · rw [if_neg e]
    congr 2
    have : ¬ (u : Int) = v := by omega
    simp [this]
theorem F6_end (f : Int → Int) {gs : List (List Int)} {j : Nat} (h : j < gs.length) {g : List Int} (hg : gs[j] = g) : arrF (F6 f (gs.take j) g (cenF f g)) = arrF (fun v => sumV f (gs.take (j + 1)) v) :=
  arrF_ext fun v _ => by rw [sumV_succ f h, hg]; rfl
theorem F7_end {gs : List (List Int)} {j : Nat} (h : j < gs.length) {g : List Int} (hg : gs[j] = g) : arrF (F7 (gs.take j) g) = arrF (fun v => cntV (gs.take (j + 1)) v) :=
  arrF_ext fun v _ => by rw [cntV_succ h, hg]; rfl
theorem G_next (f : Int → Int) (gs : List (List Int)) {i : Nat} (h : cntV gs i ≠ 0) : arrF (G6 f gs (i + 1)) = arrF (G6 f gs i) ∧ arrF (G7 gs (i + 1)) = arrF (G7 gs i) := by
  constructor <;> refine arrF_ext fun v _ => ?_
  · unfold G6
    by_cases e : v = i
    · subst e; rw [if_neg (fun hh => h hh.2), if_neg (fun hh => h hh.2)]
    · by_cases h2 : v < i ∧ cntV gs v = 0
      · rw [if_pos h2, if_pos ⟨by omega, h2.2⟩]
      · rw [if_neg h2, if_neg (fun hh => h2 ⟨by omega, hh.2⟩)]
  · unfold G7
    by_cases e : v = i
    · subst e; rw [if_neg (fun hh => h hh.2), if_neg (fun hh => h hh.2)]
    · by_cases h2 : v < i ∧ cntV gs v = 0
      · rw [if_pos h2, if_pos ⟨by omega, h2.2⟩]
      · rw [if_neg h2, if_neg (fun hh => h2 ⟨by omega, hh.2⟩)]
theorem G_set (f : Int → Int) (gs : List (List Int)) {i : Nat} (h : cntV gs i = 0) : (arrF (G6 f gs i)).set i (840 * f i) = arrF (G6 f gs (i + 1)) ∧ (arrF (G7 gs i)).set i 1 = arrF (G7 gs (i + 1)) := by
  constructor <;> refine arrF_set _ _ _ _ (fun v _ => ?_)
  · unfold G6
    by_cases e : v = i
    · subst e; rw [if_pos rfl, if_pos ⟨by omega, h⟩]
    · rw [if_neg e]
      by_cases h2 : v < i ∧ cntV gs v = 0
      · rw [if_pos h2, if_pos ⟨by omega, h2.2⟩]
      · rw [if_neg h2, if_neg (fun hh => h2 ⟨by omega, hh.2⟩)]
  · unfold G7
    by_cases e : v = i
    · subst e; rw [if_pos rfl, if_pos ⟨by omega, h⟩]
    · rw [if_neg e]
      by_cases h2 : v < i ∧ cntV gs v = 0
      · rw [if_pos h2, if_pos ⟨by omega, h2.2⟩]
      · rw [if_neg h2, if_neg (fun hh => h2 ⟨by omega, hh.2⟩)]


/-- What the sort of round returns. -/
def RndR (x : List Int) (n : Nat) (w : World) (e : Ending) (w' : World) : Prop :=
  ∃ a c, e = .returned (.slice a n c) ∧ w'.ownsRow w.heap.size 3 1 (.slice a n c) n (intCells x) ∧ Same w w'

theorem round_sort {n : Nat} {o : List Int} (ho : IsOrd n o) (hn : n < 20) (gs : List (List Int)) (hgs : ∀ g ∈ gs, IsGrp n g) (hk : gs.length ≤ 64) (b6 b7 base c : Nat) (a : Option Addr) (w : World)
    (hO : w.ownsRow base 3 1 (.slice a n c) n (intCells o)) (h6 : ArrAt w b6 98 (intCells (arrF (G6 (posA o) gs n)))) (h7 : ArrAt w b7 98 (intCells (arrF (G7 gs n)))) (d6 : b6 < base) (d7 : b7 < base) :
    Calls Try.prog 92 #[.slice a n c, .int .i64 0, .int .i64 n, .func (.func 73) #[] #[.pointer (some ⟨b6, 0, none⟩), .pointer (some ⟨b7, 0, none⟩)]] w fun e w' =>
      (∃ u, e = .returned u) ∧ w'.ownsRow base 3 1 (.slice a n c) n (intCells (roundF gs o)) ∧ Fr (fun k => base ≤ k) w w' := by
  have hlo := ho.len
  by_cases h0 : n = 0
  · subst h0
    obtain rfl : o = [] := List.length_eq_zero_iff.1 hlo
    refine (ins_zero _ _ w).mono ?_
    rintro e w' ⟨hu, rfl⟩
    exact ⟨hu, hO, Fr.refl _ _⟩
  · obtain ⟨g, cap, he, _, hI⟩ := owns_OwnI hO (by intro h; simp at h; omega)
    cases he
    have hg := hI.1
    have pf : ∀ v : Nat, v < n → 0 ≤ posA o v ∧ posA o v ≤ 39 := fun v hv => posA_bd ho ⟨by omega, by omega⟩
    have hS : ∀ v, v < 40 → 0 ≤ G6 (posA o) gs n v ∧ G6 (posA o) gs n v ≤ 16773120 := by
      intro v hv
      unfold G6
      split
      · rename_i h; have := pf v h.1; omega
      · exact sumV_bd (fun g hg => (hgs g hg).le) (fun g hg x hx => posA_bd ho ((hgs g hg).range x hx)) hk v
    have hC : ∀ v, v < 40 → 0 ≤ G7 gs n v ∧ G7 gs n v ≤ 64 := by
      intro v hv
      unfold G7
      split
      · omega
      · have := cntV_bd gs v; omega
    refine (stable_some ho hn _ _ hS hC b6 b7 base g c w hI h6 h7 (by omega) (by omega)).mono ?_
    rintro e w' ⟨hu, hI', hf⟩
    have hsame : sortR (fun x y => decide (G6 (posA o) gs n x.toNat * G7 gs n y.toNat - G6 (posA o) gs n y.toNat * G7 gs n x.toNat < 0)) o = roundF gs o := by
      refine sortR_congr _ _ o (fun x hx y hy => ?_)
      have key : ∀ z ∈ o, G6 (posA o) gs n z.toNat = keyS (posA o) gs z ∧ G7 gs n z.toNat = keyC gs z := by
        intro z hz
        have hr := ho.range z hz
        have e : ((z.toNat : Nat) : Int) = z := by omega
        unfold G6 G7 keyS keyC
        rw [e]
        by_cases hc : cntV gs z = 0
        · have hz : z.toNat < n ∧ cntV gs z = 0 := ⟨by omega, hc⟩
          exact ⟨by rw [if_pos hz, if_pos hc], by rw [if_pos hz, if_pos hc]⟩
        · have hz : ¬ (z.toNat < n ∧ cntV gs z = 0) := fun h => hc h.2
          exact ⟨by rw [if_neg hz, if_neg hc], by rw [if_neg hz, if_neg hc]⟩
      rw [(key x hx).1, (key x hx).2, (key y hy).1, (key y hy).2]
      rfl
    rw [hsame] at hI'
    exact ⟨hu, hI'.owns (by rw [roundF, (sortR_perm _ o).length_eq, hlo]), hf.mono (fun k _ e => by omega)⟩

set_option maxRecDepth 100000 in
set_option maxHeartbeats 8000000 in
theorem round_any {n : Nat} {o : List Int} (ho : IsOrd n o) (hn : n < 20) (gs : List Grp) (hgs : ∀ g ∈ lst gs, IsGrp n g) (a ao : Option Addr) (cap co k : Nat) (w : World) (hk : k ≤ 64) (hG : GsAt w (.slice a k cap) k gs) (hO : RowAt w (.slice ao n co) n (intCells o)) :
    Calls Try.prog 51 #[.slice a k cap, .slice ao n co] w (RndR (roundF (lst gs) o) n w) := by
  have IV := fun W (hW : Same w W) => inverse_any ho ao co W (hO.same hW)
  obtain ⟨I, hIe⟩ : ∃ I, I = invL o := ⟨_, rfl⟩
  have hIl : I.length = 40 := by rw [hIe]; exact invL_len o
  have hIg : ∀ v, v < n → I[v]? = some (posA o v) := fun v hv => by rw [hIe, invL_get ho hv]; unfold posA; simp
  rw [← hIe] at IV
  have hn40 := ho.n40
  have pf : ∀ v : Nat, v < n → 0 ≤ posA o v ∧ posA o v ≤ 39 := fun v hv => posA_bd ho ⟨by omega, by omega⟩
  replace IV := Lib.hid IV; replace hIe := Lib.hid hIe; replace hIl := Lib.hid hIl; replace hgs := Lib.hid hgs; replace hG := Lib.hid hG; replace hO := Lib.hid hO; replace ho := Lib.hid ho; replace hIg := Lib.hid hIg; replace pf := Lib.hid pf
  go_enter Try.func51, Try.ntmps51
  go_upto_region 1 with fail
  refine wp_region_lit ?_
  refine wpList_step (fun K hK => ?_); go_simp; refine hK _ _ ?_; clear hK
  (try simp only [Act.put, List.setIfInBounds_toArray, List.set_cons_zero, List.set_cons_succ])
  refine wpList_step (fun K hK => ?_); go_simp
  refine (IV.out _ (Fr.refl _ _)).mono ?_
  rintro e wi ⟨rfl, hsi⟩
  have hsj : Same w wi := (show Same w _ from (Fr.refl _ _)).same hsi
  have hs4 : Same w ((wi.alloc (.cells (intCells (List.replicate 40 0)).toArray 98)).setRow wi.heap.size (intCells I).toArray) := (hsj.alloc _).setRow _ _ (by intro h; have := hsj.size; omega)
  have hA : ArrAt ((wi.alloc (.cells (intCells (List.replicate 40 0)).toArray 98)).setRow wi.heap.size (intCells I).toArray) wi.heap.size 98 (intCells I) := (ArrAt.new (cs := intCells (List.replicate 40 0)) rfl).row
  have hwi := hsj.size
  refine hK _ _ ?_; clear hK
  (try simp only [Act.put, List.setIfInBounds_toArray, List.set_cons_zero, List.set_cons_succ])
  refine wpList_step (fun K hK => ?_); go_simp; refine hK _ _ ?_; clear hK
  (try simp only [Act.put, List.setIfInBounds_toArray, List.set_cons_zero, List.set_cons_succ])
  refine wpList_store_row rfl 98 (.tmp 5) (.tmp 19) rfl wi.heap.size (intCells I).toArray rfl rfl 98 (intCells (List.replicate 40 0)).toArray (heap_new _ _) (by rw [size40]; simp [intCells_length, hIl.out]) (by simp [hIl.out, intCells_length]) (intCells_one _) ?_
  simp only [Act.put]
  show wpList _ _ _ _ _ ((wi.alloc (.cells (intCells (List.replicate 40 0)).toArray 98)).setRow wi.heap.size (intCells I).toArray)
  generalize (wi.alloc (.cells (intCells (List.replicate 40 0)).toArray 98)).setRow wi.heap.size (intCells I).toArray = W at *
  generalize wi.heap.size = b6 at *
  clear hsi hsj
  replace hs4 := Lib.hid hs4; replace hA := Lib.hid hA
  go_wp2_with fail
  have hlA := hA.out.lt
  have hWs := hs4.out.size
  obtain ⟨c6, hc6⟩ : ∃ x, x = W.heap.size := ⟨_, rfl⟩
  have hneA : b6 < c6 := by omega
  go_loopw [22] (fun i wr => ∃ j : Nat, i = .int .i64 j ∧ j ≤ k ∧ ArrAt wr W.heap.size 98 (intCells (arrF fun v => sumV (posA o) ((lst gs).take j) v)) ∧ ArrAt wr (W.heap.size + 1) 98 (intCells (arrF fun v => cntV ((lst gs).take j) v)) ∧ ArrAt wr b6 98 (intCells I) ∧ Same w wr) (fun i _ => k - (intOf i).toNat)
  case atStart =>
    refine ⟨0, rfl, by omega, ?_, ?_, hA.out.same (by repeat (first | exact Fr.refl _ _ | apply Fr.alloc | apply Fr.drewN | apply Fr.drew | apply Fr.undrew | apply Fr.undrewN)), hs4.out.same (by repeat (first | exact Fr.refl _ _ | apply Fr.alloc | apply Fr.drewN | apply Fr.drew | apply Fr.undrew | apply Fr.undrewN))⟩
    · rw [show (arrF fun v => sumV (posA o) ((lst gs).take 0) v) = List.replicate 40 0 by rw [← arrF_zero]; exact arrF_ext (fun v _ => by simp [sumV])]
      exact heap_old (heap_new _ _) _
    · rw [show (arrF fun v => cntV ((lst gs).take 0) v) = List.replicate 40 0 by rw [← arrF_zero]; exact arrF_ext (fun v _ => by simp [cntV])]
      exact heap_new_at (by simp) _
  case round =>
    obtain ⟨j, rfl, hj, h6, h7, hA2, hsw⟩ := hrel
    by_cases hlt : j < k
    · have hjl : j < gs.length := by rw [hG.out.len]; exact hlt
      have hjl' : j < (lst gs).length := by rw [lst_len]; exact hjl
      obtain ⟨b, off, rfl, hbl, c0, hR⟩ := (hG.out.same hsw).get hjl
      have hgj := hgs.out _ (List.getElem_mem hjl')
      have hgl := lst_get gs hjl
      rw [hgl] at hgj
      have hlj : ((lst gs).take j).length ≤ 64 := by simp; omega
      have hRw := hG.out.2 _ (List.getElem_mem hjl)
      unfold Grp.v at hRw
      have hgt : ∀ g ∈ (lst gs).take j, IsGrp n g := fun g hg => hgs.out g (List.mem_of_mem_take hg)
      generalize gs[j] = g at *
      obtain ⟨ga, gc, gl⟩ := g
      simp only at c0 hR hgj hgl hRw
      obtain ⟨p, hp⟩ : ∃ p, gl.length = p := ⟨_, rfl⟩
      rw [hp] at c0 hR hRw
      have hp1 : 0 < p := by have := hgj.pos; omega
      have hp8 : p ≤ 8 := by have := hgj.le; omega
      have hcb := cenF_bd (f := posA o) hgj.le (fun x hx => posA_bd ho.out (hgj.range x hx))
      have hsb : ∀ q, q ≤ p → 0 ≤ ((gl.take q).map (posA o)).sum ∧ ((gl.take q).map (posA o)).sum ≤ 312 := fun q hq => by
        have := sum_bd (f := posA o) (B := 39) (gl.take q) (fun x hx => posA_bd ho.out (hgj.range x (List.mem_of_mem_take hx)))
        have hl : (gl.take q).length ≤ 8 := by simp; omega
        omega
      have hel : ∀ q (hq : q < gl.length), ∃ v : Nat, gl[q] = v ∧ v < n := fun q hq => by
        have hr := hgj.range _ (List.getElem_mem hq)
        exact ⟨gl[q].toNat, by omega, by omega⟩
      replace hsw := Lib.hid hsw; replace hA2 := Lib.hid hA2; replace h6 := Lib.hid h6; replace h7 := Lib.hid h7; replace hR := Lib.hid hR; replace hgj := Lib.hid hgj; replace hp := Lib.hid hp; replace hgl := Lib.hid hgl; replace hlj := Lib.hid hlj; replace hgt := Lib.hid hgt; replace hcb := Lib.hid hcb; replace hsb := Lib.hid hsb; replace hel := Lib.hid hel; replace hRw := Lib.hid hRw
      go_wp2_with fail
      obtain ⟨wo, rfl⟩ : ∃ wo, wo = wr := ⟨_, rfl⟩
      go_loopw [10, 28] (fun s i wr => ∃ q : Nat, i = .int .i64 q ∧ q ≤ p ∧ s = .int .i64 ((gl.take q).map (posA o)).sum ∧ wr = wo) (fun _ i _ => p - (intOf i).toNat)
      case atStart => exact ⟨0, rfl, by omega, by simp, rfl⟩
      case round =>
        obtain ⟨q, rfl, hq, rfl, rfl⟩ := hrel
        by_cases hqt : q < p
        · have hql : q < gl.length := by rw [hp.out]; exact hqt
          obtain ⟨bg, og, rfl, hbg, r0⟩ := int_cell hR.out (k := q) hql hp.out
          obtain ⟨v, hv, hvn⟩ := hel.out q hql
          rw [hv] at r0
          have a0 := hA2.out.cell (ints_at _ _ _ (hIg.out v hvn))
          have al := hA2.out.lt
          have hv40 : (v : Int) < 40 := by omega
          have hs0 := hsb.out q (by omega)
          have hsq : ((gl.take (q + 1)).map (posA o)).sum = ((gl.take q).map (posA o)).sum + posA o v := by
            rw [List.take_succ_eq_append_getElem hql, List.map_append, List.sum_append, hv]; simp
          have hp0 := pf.out v hvn
          obtain ⟨hp00, hp01⟩ := hp0
          obtain ⟨hs00, hs01⟩ := hs0
          generalize ((gl.take q).map (posA o)).sum = S at *
          generalize posA o v = P at *
          replace hv := Lib.hid hv; replace hsq := Lib.hid hsq
          go_wp2_with fail
          go_roundw
          case rel => exact ⟨q + 1, by go_num, by omega, by rw [hsq.out], trivial⟩
          case measure => simp [intOf]; omega
        · obtain rfl : q = p := by omega
          have htk : gl.take q = gl := by apply List.take_of_length_le; rw [hp.out]; exact Nat.le_refl _
          have hce : cenF (posA o) gl = ((gl.take q).map (posA o)).sum * (840 / (q : Int)) := by unfold cenF; rw [htk, hp.out]
          have hs0 := hsb.out q (by omega)
          obtain ⟨hs00, hs01⟩ := hs0
          obtain ⟨_, _, hc00', hc01'⟩ := hcb.out
          generalize ((gl.take q).map (posA o)).sum = S at *
          have hw1 : IntKind.i64.wrap (S * (840 / (q : Int))) = cenF (posA o) gl := by rw [hce]; exact IntWalk.i64_in (S * (840 / (q : Int))) (by rw [hce] at hc00' hc01'; omega)
          have hw2 : wrap64 (S * (840 / (q : Int))) = cenF (posA o) gl := by rw [← hw1, IntKind.wrap_i64]; unfold wrap64; rfl
          have hq0 : ¬ (q : Int) = 0 := by omega
          have hc00 := hc00'
          have hc01 := hc01'
          clear hc00' hc01'
          have hq6 := h6.out
          have hq7 := h7.out
          rw [show (arrF fun v => sumV (posA o) ((lst gs).take j) v) = arrF (F6 (posA o) ((lst gs).take j) (gl.take 0) (cenF (posA o) gl)) from arrF_ext (fun v _ => by simp [F6])] at hq6
          rw [show (arrF fun v => cntV ((lst gs).take j) v) = arrF (F7 ((lst gs).take j) (gl.take 0)) from arrF_ext (fun v _ => by simp [F7])] at hq7
          replace htk := Lib.hid htk; replace hce := Lib.hid hce; replace hq6 := Lib.hid hq6; replace hq7 := Lib.hid hq7
          go_wp2_with fail
          obtain ⟨cc, hcc⟩ : ∃ cc, cc = cenF (posA o) gl := ⟨_, rfl⟩
          have hq6' := hq6.out
          rw [← hcc] at hc00 hc01 hw1 hw2 hq6' ⊢
          clear hq6
          have hq6 := Lib.hid hq6'
          clear hq6'
          replace hcc := Lib.hid hcc
          obtain ⟨wo, rfl⟩ : ∃ wo, wo = wr := ⟨_, rfl⟩
          go_loopw [45] (fun i wr => ∃ u : Nat, i = .int .i64 u ∧ u ≤ q ∧ ArrAt wr W.heap.size 98 (intCells (arrF (F6 (posA o) ((lst gs).take j) (gl.take u) cc))) ∧ ArrAt wr (W.heap.size + 1) 98 (intCells (arrF (F7 ((lst gs).take j) (gl.take u)))) ∧ ArrAt wr b6 98 (intCells I) ∧ Same w wr) (fun i _ => q - (intOf i).toNat)
          case atStart => exact ⟨0, rfl, by omega, hq6.out, hq7.out, hA2.out, hsw.out⟩
          case round =>
            obtain ⟨u, rfl, hu, k6, k7, kA, ks⟩ := hrel
            by_cases hut : u < q
            · have hul : u < gl.length := by rw [hp.out]; exact hut
              obtain ⟨bg, og, rfl, hbg, r0⟩ := int_cell (hRw.out.same ks) (k := u) hul hp.out
              obtain ⟨v, hv, hvn⟩ := hel.out u hul
              rw [hv] at r0
              have hv40 : (v : Int) < 40 := by omega
              have hvn40 : v < 40 := by omega
              obtain ⟨e6, s6⟩ := F6_set (posA o) ((lst gs).take j) hgj.out.up hul hv cc
              obtain ⟨e7, s7⟩ := F7_set ((lst gs).take j) hgj.out.up hul hv
              have x0 := k6.cell (ints_at _ _ _ (arrF_get (F6 (posA o) ((lst gs).take j) (gl.take u) cc) hvn40))
              have y0 := k7.cell (ints_at _ _ _ (arrF_get (F7 ((lst gs).take j) (gl.take u)) hvn40))
              rw [e6] at x0
              rw [e7] at y0
              have xf := k6.free v
              have yf := k7.free v
              have xl := k6.lt
              have yl := k7.lt
              obtain ⟨sb0, sb1⟩ := sumV_bd (f := posA o) (gs := (lst gs).take j) (fun g hg => (hgt.out g hg).le) (fun g hg x hx => posA_bd ho.out ((hgt.out g hg).range x hx)) hlj.out v
              obtain ⟨cb0, cb1⟩ := cntV_bd ((lst gs).take j) v
              have cb2 : cntV ((lst gs).take j) v ≤ 64 := by have := hlj.out; omega
              generalize sumV (posA o) ((lst gs).take j) v = S6 at *
              generalize cntV ((lst gs).take j) v = S7 at *
              have f6 : Fr (fun k => k = W.heap.size) wr (wr.setCell ⟨W.heap.size, v, none⟩ (.int .i64 (S6 + cc))) := (Fr.refl _ _).setCell _ _ (fun _ => rfl)
              have f7 : Fr (fun k => k = W.heap.size + 1) (wr.setCell ⟨W.heap.size, v, none⟩ (.int .i64 (S6 + cc))) ((wr.setCell ⟨W.heap.size, v, none⟩ (.int .i64 (S6 + cc))).setCell ⟨W.heap.size + 1, v, none⟩ (.int .i64 (S7 + 1))) := (Fr.refl _ _).setCell _ _ (fun _ => rfl)
              have k6' := k6.set v (.int .i64 (S6 + cc))
              rw [ints_set, s6] at k6'
              have k6'' := k6'.fr f7 (by omega)
              have k7' := (k7.fr f6 (by omega)).set v (.int .i64 (S7 + 1))
              rw [ints_set, s7] at k7'
              have kA' := (kA.fr f6 (by omega)).fr f7 (by omega)
              have ks' : Same w ((wr.setCell ⟨W.heap.size, v, none⟩ (.int .i64 (S6 + cc))).setCell ⟨W.heap.size + 1, v, none⟩ (.int .i64 (S7 + 1))) := (ks.trans f6 (fun i hi e => by omega)).trans f7 (fun i hi e => by omega)
              clear cb1 hvn40 k6'
              replace hv := Lib.hid hv; replace e6 := Lib.hid e6; replace s6 := Lib.hid s6; replace e7 := Lib.hid e7; replace s7 := Lib.hid s7; replace k6 := Lib.hid k6; replace k7 := Lib.hid k7; replace kA := Lib.hid kA; replace ks := Lib.hid ks; replace f6 := Lib.hid f6; replace f7 := Lib.hid f7; replace k6'' := Lib.hid k6''; replace k7' := Lib.hid k7'; replace kA' := Lib.hid kA'; replace ks' := Lib.hid ks'
              go_wp2_with fail
              go_roundw
              case rel => exact ⟨u + 1, by go_num, by omega, k6''.out, k7'.out, kA'.out, ks'.out⟩
              case measure => simp [intOf]; omega
            · obtain rfl : u = q := by omega
              rw [htk.out, hcc.out, F6_end (posA o) hjl' hgl.out] at k6
              rw [htk.out, F7_end hjl' hgl.out] at k7
              replace k6 := Lib.hid k6; replace k7 := Lib.hid k7; replace kA := Lib.hid kA; replace ks := Lib.hid ks
              go_wp2_with fail
              go_roundw
              case rel => exact ⟨j + 1, by go_num, by omega, k6.out, k7.out, kA.out, ks.out⟩
              case measure => simp [intOf]; omega
    · obtain rfl : j = k := by omega
      have htk : (lst gs).take j = lst gs := by apply List.take_of_length_le; rw [lst_len, hG.out.len]; exact Nat.le_refl _
      rw [htk] at h6 h7
      rw [show (arrF fun v => sumV (posA o) (lst gs) v) = arrF (G6 (posA o) (lst gs) 0) from arrF_ext (fun v _ => by unfold G6; rw [if_neg (by omega)])] at h6
      rw [show (arrF fun v => cntV (lst gs) v) = arrF (G7 (lst gs) 0) from arrF_ext (fun v _ => by unfold G7; rw [if_neg (by omega)])] at h7
      have hn40' : (n : Int) ≤ 40 := by omega
      replace htk := Lib.hid htk; replace h6 := Lib.hid h6; replace h7 := Lib.hid h7; replace hA2 := Lib.hid hA2; replace hsw := Lib.hid hsw
      go_wp2_with fail
      obtain ⟨wo, rfl⟩ : ∃ wo, wo = wr := ⟨_, rfl⟩
      go_loopw [66] (fun i wr => ∃ u : Nat, i = .int .i64 u ∧ u ≤ n ∧ ArrAt wr W.heap.size 98 (intCells (arrF (G6 (posA o) (lst gs) u))) ∧ ArrAt wr (W.heap.size + 1) 98 (intCells (arrF (G7 (lst gs) u))) ∧ ArrAt wr b6 98 (intCells I) ∧ Same w wr) (fun i _ => n - (intOf i).toNat)
      case atStart => exact ⟨0, rfl, by omega, h6.out, h7.out, hA2.out, hsw.out⟩
      case round =>
        obtain ⟨u, rfl, hu, k6, k7, kA, ks⟩ := hrel
        by_cases hut : u < n
        · have hu40 : u < 40 := by omega
          have hu40' : (u : Int) < 40 := by omega
          have a0 := kA.cell (ints_at _ _ _ (hIg.out u hut))
          have al := kA.lt
          have x0 := k6.cell (ints_at _ _ _ (arrF_get (G6 (posA o) (lst gs) u) hu40))
          have y0 := k7.cell (ints_at _ _ _ (arrF_get (G7 (lst gs) u) hu40))
          have e7 : G7 (lst gs) u u = cntV (lst gs) u := by unfold G7; rw [if_neg (by omega)]
          rw [e7] at y0
          have xf := k6.free u
          have yf := k7.free u
          have xl := k6.lt
          have yl := k7.lt
          obtain ⟨p0, p1⟩ := pf.out u hut
          by_cases hc : cntV (lst gs) u = 0
          · obtain ⟨s6, s7⟩ := G_set (posA o) (lst gs) hc
            rw [hc] at y0
            generalize posA o u = P at *
            have f6 : Fr (fun k => k = W.heap.size) wr (wr.setCell ⟨W.heap.size, u, none⟩ (.int .i64 (840 * P))) := (Fr.refl _ _).setCell _ _ (fun _ => rfl)
            have f7 : Fr (fun k => k = W.heap.size + 1) (wr.setCell ⟨W.heap.size, u, none⟩ (.int .i64 (840 * P))) ((wr.setCell ⟨W.heap.size, u, none⟩ (.int .i64 (840 * P))).setCell ⟨W.heap.size + 1, u, none⟩ (.int .i64 1)) := (Fr.refl _ _).setCell _ _ (fun _ => rfl)
            have k6' := k6.set u (.int .i64 (840 * P))
            rw [ints_set, s6] at k6'
            have k6'' := k6'.fr f7 (by omega)
            have k7' := (k7.fr f6 (by omega)).set u (.int .i64 1)
            rw [ints_set, s7] at k7'
            have kA' := (kA.fr f6 (by omega)).fr f7 (by omega)
            have ks' : Same w ((wr.setCell ⟨W.heap.size, u, none⟩ (.int .i64 (840 * P))).setCell ⟨W.heap.size + 1, u, none⟩ (.int .i64 1)) := (ks.trans f6 (fun i hi e => by omega)).trans f7 (fun i hi e => by omega)
            clear k6'
            replace hc := Lib.hid hc; replace e7 := Lib.hid e7; replace s6 := Lib.hid s6; replace s7 := Lib.hid s7; replace k6 := Lib.hid k6; replace k7 := Lib.hid k7; replace kA := Lib.hid kA; replace ks := Lib.hid ks; replace f6 := Lib.hid f6; replace f7 := Lib.hid f7; replace k6'' := Lib.hid k6''; replace k7' := Lib.hid k7'; replace kA' := Lib.hid kA'; replace ks' := Lib.hid ks'
            go_wp2_with fail
            go_roundw
            case rel => exact ⟨u + 1, by go_num, by omega, k6''.out, k7'.out, kA'.out, ks'.out⟩
            case measure => simp [intOf]; omega
          · obtain ⟨s6, s7⟩ := G_next (posA o) (lst gs) hc
            rw [← s6] at k6
            rw [← s7] at k7
            have hb : (cntV (lst gs) u == 0) = false := by simpa using hc
            generalize cntV (lst gs) u = C at *
            clear x0
            replace hc := Lib.hid hc; replace e7 := Lib.hid e7; replace s6 := Lib.hid s6; replace s7 := Lib.hid s7; replace k6 := Lib.hid k6; replace k7 := Lib.hid k7; replace kA := Lib.hid kA; replace ks := Lib.hid ks
            go_wp2_with fail
            go_roundw
            case rel => exact ⟨u + 1, by go_num, by omega, k6.out, k7.out, kA.out, ks.out⟩
            case measure => simp [intOf]; omega
        · obtain rfl : u = n := by omega
          have hnm : u ≤ 1000000 := by omega
          replace k6 := Lib.hid k6; replace k7 := Lib.hid k7; replace kA := Lib.hid kA; replace ks := Lib.hid ks
          go_wp2_with fail
          refine (cloneI_any o ao co u _ ho.out.len (hO.out.same ks.out) hnm).mono ?_
          rintro e w5 ⟨a5, c5, rfl, ho5, hs5⟩
          have hl6 := k6.out.lt
          have hl7 := k7.out.lt
          have RS := round_sort ho.out hn (lst gs) hgs.out (by rw [lst_len, hG.out.len]; exact hk) W.heap.size (W.heap.size + 1) wr.heap.size c5 a5 w5 ho5 (k6.out.same hs5) (k7.out.same hs5) hl6 hl7
          have SF := stable_func a5 c5 (.func (.func 73) #[] #[.pointer (some ⟨W.heap.size, 0, none⟩), .pointer (some ⟨W.heap.size + 1, 0, none⟩)]) u hn w5 (fun w' => w'.ownsRow wr.heap.size 3 1 (.slice a5 u c5) u (intCells (roundF (lst gs) o)) ∧ Fr (fun k => wr.heap.size ≤ k) w5 w') RS
          have hs6 := ks.out.same hs5
          have hws := ks.out.size
          replace ho5 := Lib.hid ho5; replace hs5 := Lib.hid hs5; replace RS := Lib.hid RS; replace SF := Lib.hid SF; replace hs6 := Lib.hid hs6
          go_wp2_with fail
          refine SF.out.mono ?_
          rintro e w6 ⟨⟨v6, rfl⟩, ho6, hf6⟩
          have hs7 : Same w w6 := hs6.out.trans hf6 (fun i hi e => by omega)
          replace ho6 := Lib.hid ho6; replace hf6 := Lib.hid hf6; replace hs7 := Lib.hid hs7
          go_wp2_with fail
          go_ret
          exact ⟨a5, c5, rfl, own_base ho6.out hws, hs7.out⟩
end Go.Proofs.Ytmmjijmmocabhaa
namespace Go.Proofs.Ytmmjijmmocabhaa
open Go.RowKit
set_option linter.unusedVariables false
set_option linter.unusedSimpArgs false

theorem own_rowAt' {base n : Nat} {a : Option Addr} {c : Nat} {o : List Int} {w : World} (h : w.ownsRow base 3 1 (.slice a n c) n (intCells o)) : RowAt w (.slice a n c) n (intCells o) := (SliceAt.of_owns h).row

def forErr (gs : List (List Int)) (o : List Int) (r : Int) : Int := if groupsErr gs o ≠ 0 then groupsErr gs o else if r < 0 then 2 else 0
set_option maxRecDepth 100000 in
set_option maxHeartbeats 1000000 in
theorem Force_bad (E r : Int) (h0 : E ≠ 0) (a ao : Option Addr) (cap co k q : Nat) (w : World)
    (CG : ∀ W, Same w W → Calls Try.prog 48 #[.slice a k cap, .slice ao q co] W fun e w' => e = .returned (.int .i64 E) ∧ Same W w') :
    Calls Try.prog 14 #[.slice a k cap, .slice ao q co, .int .i64 r] w fun e w' => e = .returned (.tuple #[.slice none 0 0, .int .i64 E]) ∧ Same w w' := by
  have hb : (E != 0) = true := by simpa using h0
  replace CG := Lib.hid CG; replace h0 := Lib.hid h0
  go_enter Try.func14, Try.ntmps14
  go_wp2_with fail
  refine (CG.out _ (Fr.refl _ _)).mono ?_
  rintro e w1 ⟨rfl, hs1⟩
  replace hs1 := Lib.hid hs1
  go_wp2_with fail
  go_ret2
  exact ⟨rfl, hs1.out⟩
set_option maxRecDepth 100000 in
set_option maxHeartbeats 1000000 in
theorem Force_neg (r : Int) (h0 : r < 0) (a ao : Option Addr) (cap co k q : Nat) (w : World)
    (CG : ∀ W, Same w W → Calls Try.prog 48 #[.slice a k cap, .slice ao q co] W fun e w' => e = .returned (.int .i64 0) ∧ Same W w') :
    Calls Try.prog 14 #[.slice a k cap, .slice ao q co, .int .i64 r] w fun e w' => e = .returned (.tuple #[.slice none 0 0, .int .i64 2]) ∧ Same w w' := by
  replace CG := Lib.hid CG
  go_enter Try.func14, Try.ntmps14
  go_wp2_with fail
  refine (CG.out _ (Fr.refl _ _)).mono ?_
  rintro e w1 ⟨rfl, hs1⟩
  replace hs1 := Lib.hid hs1
  go_wp2_with fail
  go_ret2
  exact ⟨rfl, hs1.out⟩

def ForR (x : List Int) (n : Nat) (w : World) (e : Ending) (w' : World) : Prop :=
  ∃ a c, e = .returned (.tuple #[.slice a n c, .int .i64 0]) ∧ RowAt w' (.slice a n c) n (intCells x) ∧ Same w w'
set_option maxRecDepth 100000 in
set_option maxHeartbeats 4000000 in
theorem Force_ok {n : Nat} {o : List Int} (ho : IsOrd n o) (hn : n < 20) (gs : List Grp) (hgs : ∀ g ∈ lst gs, IsGrp n g) (a ao : Option Addr) (cap co k r : Nat) (hr : (r : Int) ≤ 9223372036854775807) (w : World) (hk : k ≤ 64) (hG : GsAt w (.slice a k cap) k gs) (hO : RowAt w (.slice ao n co) n (intCells o))
    (CG : ∀ W, Same w W → Calls Try.prog 48 #[.slice a k cap, .slice ao n co] W fun e w' => e = .returned (.int .i64 0) ∧ Same W w') :
    Calls Try.prog 14 #[.slice a k cap, .slice ao n co, .int .i64 r] w (ForR (forceF (lst gs) r o) n w) := by
  have SP := fun (x : List Int) (hx : IsOrd n x) ax cx W (hW : Same w W) hX => span_any hx gs hgs a ax cap cx k W hk (hG.same hW) hX
  have RD := fun (x : List Int) (hx : IsOrd n x) ax cx W (hW : Same w W) hX => round_any hx hn gs hgs a ax cap cx k W hk (hG.same hW) hX
  have hnm : n ≤ 1000000 := by omega
  obtain ⟨R, hR⟩ : ∃ R, R = forceF (lst gs) r o := ⟨_, rfl⟩
  rw [← hR]
  replace CG := Lib.hid CG; replace hG := Lib.hid hG; replace hO := Lib.hid hO; replace ho := Lib.hid ho; replace hgs := Lib.hid hgs; replace SP := Lib.hid SP; replace RD := Lib.hid RD; replace hR := Lib.hid hR; replace hr := Lib.hid hr
  go_enter Try.func14, Try.ntmps14
  go_wp2_with fail
  refine (CG.out _ (Fr.refl _ _)).mono ?_
  rintro e w1 ⟨rfl, hs1⟩
  replace hs1 := Lib.hid hs1
  go_wp2_with fail
  refine (cloneI_any o ao co n _ ho.out.len (hO.out.same hs1.out) hnm).mono ?_
  rintro e w2 ⟨a2, c2, rfl, ho2, hs2⟩
  have hs3 := hs1.out.same hs2
  have hX := own_rowAt' ho2
  replace hs2 := Lib.hid hs2; replace hs3 := Lib.hid hs3; replace ho2 := Lib.hid ho2; replace hX := Lib.hid hX
  go_wp2_with fail
  refine (SP.out o ho.out a2 c2 _ hs3.out hX.out).mono ?_
  rintro e w3 ⟨rfl, hs4⟩
  have hs5 := hs3.out.same hs4
  have hX3 := hX.out.same hs4
  obtain ⟨s0, hs0⟩ : ∃ s, s = spanF (posA o) (lst gs) := ⟨_, rfl⟩
  rw [← hs0]
  replace hs4 := Lib.hid hs4; replace hs5 := Lib.hid hs5; replace hX3 := Lib.hid hX3; replace hs0 := Lib.hid hs0
  go_wp2_with fail
  go_loopw [9, 10, 2] (fun v9 v10 v2 wr => ∃ (x : List Int) (s : Int) (u : Nat) (ax : Option Addr) (cx : Nat), v9 = .slice ax n cx ∧ v10 = .int .i64 s ∧ v2 = .int .i64 u ∧ u ≤ r ∧ s = spanF (posA x) (lst gs) ∧ R = forceF (lst gs) u x ∧ IsOrd n x ∧ RowAt wr (.slice ax n cx) n (intCells x) ∧ Same w wr) (fun _ _ v2 _ => (intOf v2).toNat)
  case atStart => exact ⟨o, s0, r, a2, c2, rfl, rfl, rfl, by omega, hs0.out, hR.out, ho.out, hX3.out, hs5.out⟩
  case round =>
    obtain ⟨x, s, u, ax, cx, rfl, rfl, rfl, hu, hsx, hRx, hx, hXx, hsw⟩ := hrel
    by_cases hu0 : 0 < u
    · have hu0' : (0 : Int) < u := by omega
      obtain ⟨u', hu'⟩ : ∃ u', u = u' + 1 := ⟨u - 1, by omega⟩
      rw [hu', forceF] at hRx
      have hw1 : IntKind.i64.wrap ((u : Int) - 1) = ((u' : Nat) : Int) := by rw [IntWalk.i64_in _ (by have := hr.out; omega)]; omega
      have hw2 : wrap64 ((u : Int) - 1) = ((u' : Nat) : Int) := by rw [← hw1, IntKind.wrap_i64]; unfold wrap64; rfl
      have hur : u' ≤ r := by omega
      have hmm : u' < u := by omega
      obtain ⟨y, hy⟩ : ∃ y, y = roundF (lst gs) x := ⟨_, rfl⟩
      have hyo : IsOrd n y := by rw [hy]; exact roundF_ord hx _
      have RX := RD.out x hx ax cx wr hsw hXx
      rw [← hy, ← hsx] at hRx
      rw [← hy] at RX
      obtain ⟨s', hs'⟩ : ∃ s', s' = spanF (posA y) (lst gs) := ⟨_, rfl⟩
      rw [← hs'] at hRx
      replace hsx := Lib.hid hsx; replace hRx := Lib.hid hRx; replace hx := Lib.hid hx; replace hXx := Lib.hid hXx; replace hsw := Lib.hid hsw; replace hy := Lib.hid hy; replace hyo := Lib.hid hyo; replace RX := Lib.hid RX; replace hs' := Lib.hid hs'; replace hu' := Lib.hid hu'
      go_wp2_with fail
      refine RX.out.mono ?_
      rintro e w5 ⟨a5, c5, rfl, ho5, hs6⟩
      have hs7 := hsw.out.same hs6
      have hX5 := own_rowAt' ho5
      replace ho5 := Lib.hid ho5; replace hs6 := Lib.hid hs6; replace hs7 := Lib.hid hs7; replace hX5 := Lib.hid hX5
      go_wp2_with fail
      refine (SP.out y hyo.out a5 c5 _ hs7.out hX5.out).mono ?_
      rintro e w6 ⟨rfl, hs8⟩
      have hs9 := hs7.out.same hs8
      have hX6 := hX5.out.same hs8
      have hXx6 := (hXx.out.same hs6.out).same hs8
      rw [← hs'.out]
      by_cases hge : s ≤ s'
      · have hRe := hRx.out
        rw [if_pos hge] at hRe
        replace hs8 := Lib.hid hs8; replace hs9 := Lib.hid hs9; replace hX6 := Lib.hid hX6; replace hXx6 := Lib.hid hXx6; replace hRe := Lib.hid hRe
        go_wp2_with fail
        go_ret2
        exact ⟨ax, cx, rfl, by rw [hRe.out]; exact hXx6.out, hs9.out⟩
      · have hRe := hRx.out
        rw [if_neg hge] at hRe
        have hlt : s' < s := by omega
        replace hs8 := Lib.hid hs8; replace hs9 := Lib.hid hs9; replace hX6 := Lib.hid hX6; replace hXx6 := Lib.hid hXx6; replace hRe := Lib.hid hRe
        go_wp2_with fail
        go_roundw
        case rel => exact ⟨y, s', u', a5, c5, rfl, rfl, rfl, hur, hs'.out, hRe.out, hyo.out, hX6.out, hs9.out⟩
        case measure => simp [intOf]; omega
    · obtain rfl : u = 0 := by omega
      rw [forceF] at hRx
      replace hsx := Lib.hid hsx; replace hRx := Lib.hid hRx; replace hx := Lib.hid hx; replace hXx := Lib.hid hXx; replace hsw := Lib.hid hsw
      go_wp2_with fail
      go_ret2
      exact ⟨ax, cx, rfl, by rw [hRx.out]; exact hXx.out, hsw.out⟩

/-- What Force returns. -/
def ForAny (gs : List (List Int)) (o : List Int) (r : Int) (w : World) (e : Ending) (w' : World) : Prop :=
  if forErr gs o r = 0 then ForR (forceF gs r.toNat o) o.length w e w' else e = .returned (.tuple #[.slice none 0 0, .int .i64 (forErr gs o r)]) ∧ Same w w'
theorem Force_any (gs : List Grp) (o : List Int) (a ao : Option Addr) (cap co k q : Nat) (r : Int) (hr : -9223372036854775808 ≤ r ∧ r ≤ 9223372036854775807) (w : World) (hG : GsAt w (.slice a k cap) k gs) (hq : o.length = q) (hO : RowAt w (.slice ao q co) q (intCells o)) (hl : q < 20) :
    Calls Try.prog 14 #[.slice a k cap, .slice ao q co, .int .i64 r] w (ForAny (lst gs) o r w) := by
  have CG := fun W (hW : Same w W) => checkGroups_any gs o a ao cap co k q W (hG.same hW) hq (hO.same hW) (by omega)
  unfold ForAny forErr
  by_cases h0 : groupsErr (lst gs) o = 0
  · simp only [h0, ne_eq, not_true_eq_false, if_false]
    rw [h0] at CG
    obtain ⟨ho, h64, hgs⟩ := groups_zero h0
    rw [lst_len, hG.len] at h64
    rw [hq] at ho hgs ⊢
    by_cases hr0 : r < 0
    · simp only [if_pos hr0]
      exact Force_neg r hr0 a ao cap co k q w CG
    · simp only [if_neg hr0, if_true]
      have e : ((r.toNat : Nat) : Int) = r := by omega
      have := Force_ok ho hl gs hgs a ao cap co k r.toNat (by omega) w h64 hG hO CG
      rw [e] at this
      exact this
  · simp only [if_pos h0, if_neg h0]
    exact Force_bad _ r h0 a ao cap co k q w CG
end Go.Proofs.Ytmmjijmmocabhaa
