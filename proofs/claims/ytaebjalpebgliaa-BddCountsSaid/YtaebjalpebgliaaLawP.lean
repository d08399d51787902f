/- BddLaws: the laws on tables; the operations' contracts by canonical tables; a box with a diagram. -/
import Derived.Test.YtaebjalpebgliaaQuanW
namespace Go.Proofs.Ytaebjalpebgliaa
open Go.RowKit
set_option linter.unusedVariables false
set_option linter.unusedSimpArgs false

theorem ext_getD {a b : List Bool} {m : Nat} (ha : a.length = m) (hb : b.length = m) (h : ∀ i, i < m → a.getD i false = b.getD i false) : a = b := by
  refine List.ext_getElem (by omega) (fun i h1 h2 => ?_)
  have := h i (by omega)
  simpa only [List.getD_eq_getElem?_getD, List.getElem?_eq_getElem h1, List.getElem?_eq_getElem h2, Option.getD_some] using this

theorem colF_get (f : Nat → Bool) (m i : Nat) (h : i < m) : (colF f m).getD i false = f i := by simp [colF, List.getD, h]

theorem ite3_get {x y z : List Bool} {m : Nat} (hx : x.length = m) (hy : y.length = m) (hz : z.length = m) {i : Nat} (hi : i < m) : (ite3 x y z).getD i false = if x.getD i false then y.getD i false else z.getD i false := by
  rw [ite3_col x y z (by omega) (by omega), colF_get _ _ _ (by omega)]

theorem ite3_len {x y z : List Bool} {m : Nat} (hx : x.length = m) (hy : y.length = m) (hz : z.length = m) : (ite3 x y z).length = m := by rw [ite3_length x y z (by omega) (by omega), hx]
theorem fls_len (n : Nat) : (fls n).length = 2 ^ n := by simp [fls]
theorem tru_len (n : Nat) : (tru n).length = 2 ^ n := by simp [tru]
theorem flsG (n i : Nat) : (fls n).getD i false = false := by
  simp only [fls, List.getD_eq_getElem?_getD, List.getElem?_replicate]; split <;> rfl
theorem truG {n i : Nat} (h : i < 2 ^ n) : (tru n).getD i false = true := by simp [tru, List.getD, h]
theorem one_get (o : Bool → Bool → Bool) (n u : Nat) (t : List Bool) {i : Nat} (h : i < 2 ^ n) : (oneT o n u t).getD i false = o (t.getD (withF n i u false) false) (t.getD (withF n i u true) false) := by simp [oneT, List.getD, h]
theorem var_get (n v : Nat) {i : Nat} (h : i < 2 ^ n) : (varT n v).getD i false = bitF n i v := by simp [varT, List.getD, h]

section
variable {n : Nat} {x y : List Bool} (hx : x.length = 2 ^ n) (hy : y.length = 2 ^ n)
include hx

theorem law_not : (ite3 x (fls n) (tru n)).length = 2 ^ n := ite3_len hx (fls_len n) (tru_len n)
theorem law_not_get {i : Nat} (h : i < 2 ^ n) : (ite3 x (fls n) (tru n)).getD i false = !x.getD i false := by
  rw [ite3_get hx (fls_len n) (tru_len n) h, flsG, truG h]
  cases x.getD i false <;> rfl
theorem law3 : ite3 (ite3 x (fls n) (tru n)) (fls n) (tru n) = x := by
  have h1 := law_not hx
  refine ext_getD (law_not h1) hx (fun i hi => ?_)
  rw [law_not_get h1 hi, law_not_get hx hi]
  simp

include hy
theorem law_and : (ite3 x y (fls n)).length = 2 ^ n := ite3_len hx hy (fls_len n)
theorem law1 : ite3 (ite3 x (fls n) (tru n)) (tru n) (ite3 y (fls n) (tru n)) = ite3 (ite3 x y (fls n)) (fls n) (tru n) := by
  have h1 := law_not hx
  have h2 := law_not hy
  have h3 := law_and hx hy
  refine ext_getD (ite3_len h1 (tru_len n) h2) (law_not h3) (fun i hi => ?_)
  rw [law_not_get h3 hi, ite3_get h1 (tru_len n) h2 hi, ite3_get hx hy (fls_len n) hi, law_not_get hx hi, law_not_get hy hi, truG hi, flsG]
  cases x.getD i false <;> cases y.getD i false <;> rfl
theorem law2 : ite3 x (tru n) (ite3 x y (fls n)) = x := by
  have h3 := law_and hx hy
  refine ext_getD (ite3_len hx (tru_len n) h3) hx (fun i hi => ?_)
  rw [ite3_get hx (tru_len n) h3 hi, ite3_get hx hy (fls_len n) hi, truG hi, flsG]
  cases x.getD i false <;> cases y.getD i false <;> rfl
end

theorem law4 {n v : Nat} {x : List Bool} (hx : x.length = 2 ^ n) : ite3 (varT n v) (oneT (pickB true) n v x) (oneT (pickB false) n v x) = x := by
  refine ext_getD (ite3_len (varT_length n v) (oneT_length _ _ _ _) (oneT_length _ _ _ _)) hx (fun i hi => ?_)
  rw [ite3_get (varT_length n v) (oneT_length _ _ _ _) (oneT_length _ _ _ _) hi, var_get n v hi, one_get _ _ _ _ hi, one_get _ _ _ _ hi]
  cases h : bitF n i v
  · simp only [pickB, Bool.false_eq_true, if_false]
    rw [withF, if_pos h]
  · simp only [pickB, if_true]
    rw [withF, if_pos h]

theorem law5 {n v : Nat} {x : List Bool} (hx : x.length = 2 ^ n) : ite3 (oneT (pickB false) n v x) (tru n) (oneT (pickB true) n v x) = oneT (qOp false) n v x := by
  refine ext_getD (ite3_len (oneT_length _ _ _ _) (tru_len n) (oneT_length _ _ _ _)) (oneT_length _ _ _ _) (fun i hi => ?_)
  rw [ite3_get (oneT_length _ _ _ _) (tru_len n) (oneT_length _ _ _ _) hi, one_get _ _ _ _ hi, one_get _ _ _ _ hi, one_get _ _ _ _ hi, truG hi]
  simp only [pickB, qOp]
  cases x.getD (withF n i v false) false <;> cases x.getD (withF n i v true) false <;> rfl

theorem law6 {n v : Nat} {x : List Bool} (hx : x.length = 2 ^ n) (hv : v < n) : ite3 (oneT (qOp true) n v (ite3 x (fls n) (tru n))) (fls n) (tru n) = oneT (qOp false) n v x := by
  refine ext_getD (law_not (oneT_length _ _ _ _)) (oneT_length _ _ _ _) (fun i hi => ?_)
  rw [law_not_get (oneT_length _ _ _ _) hi, one_get _ _ _ _ hi, one_get _ _ _ _ hi, law_not_get hx (with_lt n i v false hi hv), law_not_get hx (with_lt n i v true hi hv)]
  simp only [qOp]
  cases x.getD (withF n i v false) false <;> cases x.getD (withF n i v true) false <;> rfl

/-! ### the contracts by canonical tables -/
theorem not_is {n : Nat} (hn : n ≤ 10) {t t' : List Bool} {O O' : List Nd} {r r' : Int} (T : IsTab n t O r) (h : ite3 t (fls n) (tru n) = t') (T' : IsTab n t' O' r') {a : Option Addr} {c : Nat} {W : World} (hat : SliceAt W 80 3 (.slice a O.length c) O.length (ndCells O)) :
    Calls Try.prog 15 #[.agg #[.int .i64 n, .slice a O.length c, .int .i64 r]] W (DRet W n O' r') := by
  have := not_right n ⟨n, a, c, O, r⟩ t W hn hat ⟨rfl, T⟩
  rw [h, T'.eq] at this
  exact this

theorem and_is {n : Nat} (hn : n ≤ 10) {t u t' : List Bool} {O P O' : List Nd} {r s r' : Int} (T : IsTab n t O r) (U : IsTab n u P s) (h : ite3 t u (fls n) = t') (T' : IsTab n t' O' r') {a b : Option Addr} {c d : Nat} {W : World}
    (hat : SliceAt W 80 3 (.slice a O.length c) O.length (ndCells O)) (hbt : SliceAt W 80 3 (.slice b P.length d) P.length (ndCells P)) :
    Calls Try.prog 16 #[.agg #[.int .i64 n, .slice a O.length c, .int .i64 r], .agg #[.int .i64 n, .slice b P.length d, .int .i64 s]] W (DRet W n O' r') := by
  have := and_right n ⟨n, a, c, O, r⟩ ⟨n, b, d, P, s⟩ t u W hn hat hbt ⟨rfl, T⟩ ⟨rfl, U⟩
  rw [h, T'.eq] at this
  exact this

theorem or_is {n : Nat} (hn : n ≤ 10) {t u t' : List Bool} {O P O' : List Nd} {r s r' : Int} (T : IsTab n t O r) (U : IsTab n u P s) (h : ite3 t (tru n) u = t') (T' : IsTab n t' O' r') {a b : Option Addr} {c d : Nat} {W : World}
    (hat : SliceAt W 80 3 (.slice a O.length c) O.length (ndCells O)) (hbt : SliceAt W 80 3 (.slice b P.length d) P.length (ndCells P)) :
    Calls Try.prog 17 #[.agg #[.int .i64 n, .slice a O.length c, .int .i64 r], .agg #[.int .i64 n, .slice b P.length d, .int .i64 s]] W (DRet W n O' r') := by
  have := or_right n ⟨n, a, c, O, r⟩ ⟨n, b, d, P, s⟩ t u W hn hat hbt ⟨rfl, T⟩ ⟨rfl, U⟩
  rw [h, T'.eq] at this
  exact this

theorem ite_is {n : Nat} (hn : n ≤ 10) {t u z t' : List Bool} {O P Z O' : List Nd} {r s q r' : Int} (T : IsTab n t O r) (U : IsTab n u P s) (V : IsTab n z Z q) (h : ite3 t u z = t') (T' : IsTab n t' O' r') {a b g : Option Addr} {c d f : Nat} {W : World}
    (hat : SliceAt W 80 3 (.slice a O.length c) O.length (ndCells O)) (hbt : SliceAt W 80 3 (.slice b P.length d) P.length (ndCells P)) (hgt : SliceAt W 80 3 (.slice g Z.length f) Z.length (ndCells Z)) :
    Calls Try.prog 19 #[.agg #[.int .i64 n, .slice a O.length c, .int .i64 r], .agg #[.int .i64 n, .slice b P.length d, .int .i64 s], .agg #[.int .i64 n, .slice g Z.length f, .int .i64 q]] W (DRet W n O' r') := by
  have := ite_rt n ⟨n, a, c, O, r⟩ ⟨n, b, d, P, s⟩ ⟨n, g, f, Z, q⟩ t u z W hn hat hbt hgt ⟨rfl, T⟩ ⟨rfl, U⟩ ⟨rfl, V⟩
  rw [h, T'.eq] at this
  exact this

theorem from_is {n : Nat} (hn : n ≤ 10) {t : List Bool} {O : List Nd} {r : Int} (T : IsTab n t O r) {b : Nat} {W : World} (hb : BoolsAt W b t) (hl : t.length ≤ 1000) :
    Calls Try.prog 25 #[.int .i64 n, .slice (some ⟨b, 0, none⟩) t.length t.length] W (DRet W n O r) := by
  have := fromTable_row n t (some ⟨b, 0, none⟩) t.length W hn T.len (hb.slice (by omega)).row
  rw [T.eq] at this
  exact this

theorem restr_is {n : Nat} (hn : n ≤ 10) {t t' : List Bool} {O O' : List Nd} {r r' : Int} (T : IsTab n t O r) (u : Nat) (hu : u < n) (b : Bool) (h : oneT (pickB b) n u t = t') (T' : IsTab n t' O' r') {a : Option Addr} {c : Nat} {W : World} (hat : SliceAt W 80 3 (.slice a O.length c) O.length (ndCells O)) :
    Calls Try.prog 37 #[.agg #[.int .i64 n, .slice a O.length c, .int .i64 r], .int .i64 u, .bool b] W (DRet W n O' r') := by
  have := restrict_ok ⟨n, a, c, O, r⟩ n t u b W hn hat ⟨rfl, T⟩ hu
  rw [h, T'.eq] at this
  exact this

theorem var_is {n : Nat} (hn : n ≤ 10) (u : Nat) (hu : u < n) (W : World) : Calls Try.prog 29 #[.int .i64 n, .int .i64 u] W (DRet W n [((u : Int), 0, 1)] 2) := variable_ok n u W (by omega) (by omega)
theorem var_tab {n u : Nat} (hn : n ≤ 10) (hu : u < n) : IsTab n (varT n u) [((u : Int), 0, 1)] 2 := ⟨by omega, varT_length n u, table_var (by omega) hu, by simp⟩

theorem QAny.ret {m : Int} {O : List Nd × Int} {w w' : World} {e : Ending} (h : QAny 0 m O w e w') : DRet w m O.1 O.2 e w' := by
  obtain ⟨gm, ga, gL, gc, gr, rfl, h1, h2, _, h4⟩ := h
  obtain ⟨rfl, rfl, rfl⟩ := h4 rfl
  exact ⟨ga, gc, rfl, h1, h2⟩

theorem err_one {n u : Nat} (hu : u < n) : renErr n [(u : Int)] [(u : Int)].length 0 = 0 := by
  simp only [List.length_singleton, renErr]
  have : toF [(u : Int)] 0 = u := rfl
  rw [this, if_neg (by omega), if_neg (by omega)]

theorem ex_is {n : Nat} (hn : n ≤ 10) {t t' : List Bool} {O O' : List Nd} {r r' : Int} (T : IsTab n t O r) (u : Nat) (hu : u < n) (h : oneT (qOp false) n u t = t') (T' : IsTab n t' O' r') {a : Option Addr} {c : Nat} {W : World} {b : Nat} (hat : SliceAt W 80 3 (.slice a O.length c) O.length (ndCells O))
    (hb : W.heap[b]? = some (.cells #[.int .i64 u] 3 (0, 0))) :
    Calls Try.prog 39 #[.agg #[.int .i64 n, .slice a O.length c, .int .i64 r], .slice (some ⟨b, 0, none⟩) 1 1] W (DRet W n O' r') := by
  have R : RowAt W (.slice (some ⟨b, 0, none⟩) 1 1) 1 (intCells [(u : Int)]) := (SliceAt.of_owns (own_of_block (base := 0) (T := 3) (xs := intCells [(u : Int)]) hb (Nat.zero_le _) rfl rfl (by unfold maxLen; omega))).row
  have := exists_any ⟨n, a, c, O, r⟩ n t [(u : Int)] (some ⟨b, 0, none⟩) 1 W hn hat ⟨rfl, T⟩ (by simp) R
  rw [err_one hu] at this
  refine this.mono (fun e w' h' => ?_)
  have h2 := h'.ret
  have h3 : quantT (qOp false) n ([(u : Int)].map Int.toNat) t = t' := h
  rw [h3, T'.eq] at h2
  exact h2

theorem fa_is {n : Nat} (hn : n ≤ 10) {t t' : List Bool} {O O' : List Nd} {r r' : Int} (T : IsTab n t O r) (u : Nat) (hu : u < n) (h : oneT (qOp true) n u t = t') (T' : IsTab n t' O' r') {a : Option Addr} {c : Nat} {W : World} {b : Nat} (hat : SliceAt W 80 3 (.slice a O.length c) O.length (ndCells O))
    (hb : W.heap[b]? = some (.cells #[.int .i64 u] 3 (0, 0))) :
    Calls Try.prog 40 #[.agg #[.int .i64 n, .slice a O.length c, .int .i64 r], .slice (some ⟨b, 0, none⟩) 1 1] W (DRet W n O' r') := by
  have R : RowAt W (.slice (some ⟨b, 0, none⟩) 1 1) 1 (intCells [(u : Int)]) := (SliceAt.of_owns (own_of_block (base := 0) (T := 3) (xs := intCells [(u : Int)]) hb (Nat.zero_le _) rfl rfl (by unfold maxLen; omega))).row
  have := forall_any ⟨n, a, c, O, r⟩ n t [(u : Int)] (some ⟨b, 0, none⟩) 1 W hn hat ⟨rfl, T⟩ (by simp) R
  rw [err_one hu] at this
  refine this.mono (fun e w' h' => ?_)
  have h2 := h'.ret
  have h3 : quantT (qOp true) n ([(u : Int)].map Int.toNat) t = t' := h
  rw [h3, T'.eq] at h2
  exact h2

theorem eq_is {n r : Int} {O : List Nd} {a b : Option Addr} {c d : Nat} {W : World} (hl : O.length ≤ 1000000) (hat : SliceAt W 80 3 (.slice a O.length c) O.length (ndCells O)) (hbt : SliceAt W 80 3 (.slice b O.length d) O.length (ndCells O)) :
    Calls Try.prog 42 #[.agg #[.int .i64 n, .slice a O.length c, .int .i64 r], .agg #[.int .i64 n, .slice b O.length d, .int .i64 r]] W fun e w' => e = .returned (.bool true) ∧ Same W w' := by
  have := equal_any n n r r a b c d O O W hat hbt hl hl
  simpa using this

theorem chk_is {n : Nat} {t : List Bool} {O : List Nd} {r : Int} (T : IsTab n t O r) {a : Option Addr} {c : Nat} {W : World} (hat : SliceAt W 80 3 (.slice a O.length c) O.length (ndCells O)) :
    Calls Try.prog 23 #[.agg #[.int .i64 n, .slice a O.length c, .int .i64 r]] W fun e w' => e = .returned (.int .i64 0) ∧ Same W w' := check_tab ⟨n, a, c, O, r⟩ n t W hat ⟨rfl, T⟩

/-- A box with a diagram. -/
def BoxAt (W : World) (k : Nat) (n : Int) (a : Option Addr) (O : List Nd) (c : Nat) (r : Int) : Prop :=
  W.heap[k]? = some (.cells #[.int .i64 n, .slice a O.length c, .int .i64 r] 31 (0, 0)) ∧ SliceAt W 80 3 (.slice a O.length c) O.length (ndCells O)

theorem BoxAt.same {W W' : World} {k : Nat} {n : Int} {a : Option Addr} {O : List Nd} {c : Nat} {r : Int} (h : BoxAt W k n a O c r) (hs : Same W W') : BoxAt W' k n a O c r := ⟨hs.at h.1 id, h.2.same hs⟩
end Go.Proofs.Ytaebjalpebgliaa
