/- The reference's With and Quantify. -/
import Derived.Test.YtaebjalpebgliaaSearch
import Derived.Test.YtaebjalpebgliaaChgP
import Derived.Test.YtaebjalpebgliaaRows5
namespace Go.Proofs.Ytaebjalpebgliaa
open Go.RowKit
set_option linter.unusedVariables false
set_option linter.unusedSimpArgs false

set_option maxRecDepth 100000 in
set_option maxHeartbeats 400000 in
theorem with_any (n i v : Nat) (b : Bool) (w : World) (hv : v < n) (hn : n ≤ 40) (hi : i < 2 ^ n) :
    Calls Try.prog 38 #[.int .i64 n, .int .i64 i, .int .i64 v, .bool b] w fun e w' => e = .returned (.int .i64 (withF n i v b)) ∧ w = w' := by
  have P := fun W => power_nat (n - 1 - v) W (by omega)
  have B := fun W => bit_any n i v W hv hn hi
  obtain ⟨q, hq⟩ : ∃ q, q = 2 ^ (n - 1 - v) := ⟨_, rfl⟩
  rw [← hq] at P
  have hq2 : q ≤ 2 ^ 40 := by rw [hq]; exact Nat.pow_le_pow_right (by omega) (by omega)
  have hi2 : i ≤ 2 ^ 40 := Nat.le_trans (Nat.le_of_lt hi) (Nat.pow_le_pow_right (by omega) hn)
  obtain ⟨d, hd⟩ : ∃ d, d = n - 1 - v := ⟨_, rfl⟩
  have e1 : ((n : Int) - 1 - v) = (d : Int) := by omega
  rw [← hd] at P
  have hw : withF n i v b = if bitF n i v = b then i else if b then i + q else i - q := by rw [withF, hq]
  have hle : bitF n i v = true → q ≤ i := by
    intro h
    simp only [bitF, decide_eq_true_eq, ← hq] at h
    rcases Nat.lt_or_ge i q with hlt | hge
    · rw [Nat.div_eq_of_lt hlt] at h; simp at h
    · exact hge
  obtain ⟨c, hc⟩ : ∃ c, c = bitF n i v := ⟨_, rfl⟩
  rw [← hc] at B hw hle
  obtain ⟨R, hR⟩ : ∃ R, R = withF n i v b := ⟨_, rfl⟩
  rw [← hR] at hw ⊢
  replace P := Lib.hid P; replace B := Lib.hid B; replace hq := Lib.hid hq; replace hd := Lib.hid hd; replace hR := Lib.hid hR; replace hc := Lib.hid hc
  clear hi
  cases c <;> cases b
  · simp only [if_true] at hw
    replace hw := Lib.hid hw
    clear hle
    go_enter Try.func38, Try.ntmps38
    go_wp2_with fail
    refine (B.out _).mono ?_
    rintro e w' ⟨rfl, rfl⟩
    go_wp2_with fail
    go_ret
    exact ⟨by rw [hw.out]; rfl, rfl⟩
  · simp only [Bool.false_eq_true, if_false, if_true] at hw
    replace hw := Lib.hid hw
    clear hle
    go_enter Try.func38, Try.ntmps38
    go_wp2_with fail
    refine (B.out _).mono ?_
    rintro e w' ⟨rfl, rfl⟩
    go_wp2_with fail
    refine (P.out _).mono ?_
    rintro e w' ⟨rfl, rfl⟩
    go_wp2_with fail
    go_ret
    refine ⟨?_, rfl⟩
    rw [hw.out]
    have e2 : ((i + q : Nat) : Int) = (i : Int) + q := by omega
    rw [e2]
    rfl
  · simp only [Bool.true_eq_false, if_false, Bool.false_eq_true] at hw
    have hqi := hle rfl
    replace hw := Lib.hid hw
    clear hle
    go_enter Try.func38, Try.ntmps38
    go_wp2_with fail
    refine (B.out _).mono ?_
    rintro e w' ⟨rfl, rfl⟩
    go_wp2_with fail
    refine (P.out _).mono ?_
    rintro e w' ⟨rfl, rfl⟩
    go_wp2_with fail
    go_ret
    refine ⟨?_, rfl⟩
    rw [hw.out]
    have e2 : ((i - q : Nat) : Int) = (i : Int) - q := by omega
    rw [e2]
    rfl
  · simp only [if_true] at hw
    replace hw := Lib.hid hw
    clear hle
    go_enter Try.func38, Try.ntmps38
    go_wp2_with fail
    refine (B.out _).mono ?_
    rintro e w' ⟨rfl, rfl⟩
    go_wp2_with fail
    go_ret
    exact ⟨by rw [hw.out]; rfl, rfl⟩

/-- append of many elements at a plain region's list. -/
theorem wpList_appendm {P : Program} {w : World} {ops : Array Oper} {rest : List Oper} {o : Oper} {a : Act} {Q : Exit → Act → World → Prop} (hgd : o.guard = none) (s x : Operand) (t : TypeId)
    (ho : o.op = .call { callee := .builtin .append, args := #[s, x], argTypes := #[t, t] })
    (base : Nat) (e : TypeId) (i : TypeInfo) (z : Value) (size bytes : Nat) (ht : P.underlying t = some (.slice e)) (hi : P.info? e = some i) (hz : i.zero = some z)
    (hsize : i.size = size) (hby : i.bytes = bytes) (hzs : z.cells.size = size) (hsz : 0 < size) (hb : bytes ≤ 1000)
    (v : Value) (n : Nat) (xs : List Value) (hs : a.eval s = v) (hown : w.ownsRow base e size v n xs)
    (ad : Addr) (m c : Nat) (news : List Value) (hx : a.eval x = .slice (some ad) m c) (hl : news.length = m * size) (hnews : ∀ j u, news[j]? = some u → w.cell? (ad.add j) = some u) (h1 : ∀ u ∈ news, u.oneCell' = true) (hm : 0 < m) (h63 : n + m ≤ 1000000000) (hbase : base ≤ w.heap.size)
    (h : ∀ g cap' w', w'.ownsRow base e size (.slice (some ⟨g, 0, none⟩) (n + m) cap') (n + m) (xs ++ news) → Grew (fun _ => False) w w' v (.slice (some ⟨g, 0, none⟩) (n + m) cap') → wpList P ops Q rest (a.put o.dst (.slice (some ⟨g, 0, none⟩) (n + m) cap')) w') :
    wpList P ops Q (o :: rest) a w :=
  wpList_plain hgd fun K hK => by
    obtain ⟨g, cap, w', hr, h2, h3, h4, _⟩ := run_append_lies (P := P) (w := w) t o.type base e i z size bytes ht hi hz hsize hby hzs hsz v n xs hown ad m c news hl hnews h1 hm (by unfold maxLen; omega)
      (Nat.le_trans (Nat.mul_le_mul h63 hb) (by omega)) hbase _ rfl
    unfold Oper.wp execOp
    simp only [ho, resolve, invoke, builtin, Sem.run_bind, Sem.run_pure, Result.andThen_ok, List.map_toArray, List.map_cons, List.map_nil, hs, hx, hr]
    refine hK _ _ (h g cap w' h2 ⟨(Fr.refl _ _).grown h3 (fun k hk _ => .inl hk), fun k hk => ?_⟩)
    simp only [Value.ownBlock, Option.some.injEq] at hk
    subst hk
    rcases h4 with h4 | h4
    · exact .inl h4
    · exact .inr (Nat.le_of_eq h4.symm)

theorem grew_fresh {w W w1 : World} {v v' : Value} (hs : Same w W) (hG : Grew (fun _ => False) W w1 v v') (hv : ∀ k, v.ownBlock = some k → w.heap.size ≤ k) : Same w w1 :=
  hs.trans hG.1 (fun i hi h => by
    rcases h with h | h
    · have := hv i h; omega
    · exact h)

def qOp (all : Bool) : Bool → Bool → Bool := fun x y => x && y || (!all && (x || y))

theorem qOp_false : qOp false = fun x y => x || y := by funext x y; cases x <;> cases y <;> rfl
theorem qOp_true : qOp true = fun x y => x && y := by funext x y; cases x <;> cases y <;> rfl

set_option maxRecDepth 100000 in
set_option maxHeartbeats 4000000 in
theorem rquant_any (n : Nat) (all : Bool) (t : List Bool) (qs : List Int) (aT aQ : Option Addr) (capT capQ : Nat) (w : World) (hn : n ≤ 10) (ht : t.length = 2 ^ n) (hl7 : qs.length ≤ 1000)
    (hT : RowAt w (.slice aT t.length capT) t.length (boolCells t)) (hQ : RowAt w (.slice aQ qs.length capQ) qs.length (intCells qs)) (hu : ∀ i : Nat, i < qs.length → 0 ≤ toF qs i ∧ toF qs i < n) :
    Calls Try.prog 41 #[.int .i64 n, .slice aT t.length capT, .slice aQ qs.length capQ, .bool all] w
      fun e w' => ∃ a cap, e = .returned (.slice a (2 ^ n) cap) ∧ RowAt w' (.slice a (2 ^ n) cap) (2 ^ n) (boolCells (quantT (qOp all) n (qs.map Int.toNat) t)) ∧ Same w w' := by
  obtain ⟨M, hM⟩ : ∃ M, M = 2 ^ n := ⟨_, rfl⟩
  have hM1 : 0 < M := by rw [hM]; exact Nat.two_pow_pos _
  have hM2 : M ≤ 1024 := by rw [hM]; exact Nat.pow_le_pow_right (by omega) hn
  obtain ⟨q, hq⟩ : ∃ q, q = qs.length := ⟨_, rfl⟩
  rw [← hq] at hQ hu hl7 ⊢
  have htM : t.length = M := by omega
  rw [htM] at hT ⊢
  rw [← hM]
  obtain ⟨bT, oT, rfl, hbT, hcT⟩ := hT.cell hM1
  obtain ⟨i3, hi3, hi3z, hi3s, hi3b⟩ := info_parts info4
  have cur_len : ∀ k, (quantT (qOp all) n ((qs.take k).map Int.toNat) t).length = M := fun k => by rw [hM]; exact quantT_length _ _ _ _ (by omega)
  have cur_succ : ∀ k, k < q → quantT (qOp all) n ((qs.take (k + 1)).map Int.toNat) t = oneT (qOp all) n (toF qs k).toNat (quantT (qOp all) n ((qs.take k).map Int.toNat) t) := by
    intro k hk
    rw [List.take_succ_eq_append_getElem (by omega), List.map_append, List.map_cons, List.map_nil, quantT_snoc]
    congr 2
    simp [toF, List.getD, show k < qs.length by omega]
  have WITH := fun j v b W (hv : v < n) (hj : j < M) => with_any n j v b W hv (by omega) (by rw [← hM]; exact hj)
  have wlt := fun j v b (hv : v < n) (hj : j < M) => (show withF n j v b < M by rw [hM]; exact with_lt n j v b (by rw [← hM]; exact hj) hv)
  have one_get : ∀ (u : Nat) (l : List Bool) (j : Nat), j < M → (oneT (qOp all) n u l).getD j false = qOp all (l.getD (withF n j u false) false) (l.getD (withF n j u true) false) := by
    intro u l j hj
    simp [oneT, List.getD, ← hM, hj]
  have one_len : ∀ (u : Nat) (l : List Bool), (oneT (qOp all) n u l).length = M := fun u l => by rw [hM]; exact oneT_length _ _ _ _
  have hcW : ∀ W, Same w W → ∀ j u, (boolCells t)[j]? = some u → W.cell? ⟨bT, oT + j, none⟩ = some u := by
    intro W hW j u hj
    obtain ⟨b', o', e', _, h'⟩ := (hT.same hW).cell hM1
    simp only [Option.some.injEq, Addr.mk.injEq, and_true] at e'
    obtain ⟨rfl, rfl⟩ := e'
    exact h' j u hj
  have htl : (boolCells t).length = M * 1 := by rw [boolCells_len, htM, Nat.mul_one]
  have h1c : ∀ u ∈ boolCells t, u.oneCell' = true := by
    intro u hu
    simp only [boolCells, List.mem_map] at hu
    obtain ⟨b, _, rfl⟩ := hu
    rfl
  clear hcT
  replace hcW := Lib.hid hcW; replace htl := Lib.hid htl; replace h1c := Lib.hid h1c
  replace hM := Lib.hid hM; replace ht := Lib.hid ht; replace hT := Lib.hid hT; replace hQ := Lib.hid hQ; replace hu := Lib.hid hu; replace hq := Lib.hid hq; replace htM := Lib.hid htM; replace cur_len := Lib.hid cur_len; replace cur_succ := Lib.hid cur_succ; replace WITH := Lib.hid WITH; replace wlt := Lib.hid wlt; replace one_get := Lib.hid one_get; replace one_len := Lib.hid one_len
  go_enter Try.func41, Try.ntmps41
  go_wp2_with (at_builtin; refine wpList_appendm rfl (.tmp 15) (.tmp 16) 26 rfl w.heap.size 4 i3 (.bool false) 1 1 Try.underlying26 hi3 hi3z hi3s hi3b rfl (by decide) (by decide) (.slice (some ⟨w.heap.size, 0, none⟩) 0 0) 0 [] rfl (own_of_block (heap_new _ _) (Nat.le_refl _) rfl rfl (by unfold maxLen; omega)) ⟨bT, oT, none⟩ M capT (boolCells t) rfl htl.out (by intro j u hj; rw [Addr.add_lit]; exact hcW.out _ (by repeat (first | exact Fr.refl _ _ | apply Fr.alloc | apply Fr.drewN | apply Fr.drew | apply Fr.undrew | apply Fr.undrewN)) j u hj) h1c.out hM1 (by omega) (by simp) ?_; intro g cap1 w1 ho1 hG1; simp only [Nat.zero_add, List.nil_append] at ho1 hG1 ⊢; have hR1 := (SliceAt.of_owns ho1).row; have hs1 : Same w w1 := grew_fresh (W := w.alloc (.cells #[] 4)) (by repeat (first | exact Fr.refl _ _ | apply Fr.alloc | apply Fr.drewN | apply Fr.drew | apply Fr.undrew | apply Fr.undrewN)) hG1 (fun k hk => by simp only [Value.ownBlock, Option.some.injEq] at hk; omega); replace hR1 := Lib.hid hR1; replace hs1 := Lib.hid hs1; clear ho1 hG1)
  go_loopw [9, 10] (fun o i wr => ∃ (k : Nat) (a : Option Addr) (cap : Nat), i = .int .i64 k ∧ o = .slice a M cap ∧ k ≤ q ∧ RowAt wr (.slice a M cap) M (boolCells (quantT (qOp all) n ((qs.take k).map Int.toNat) t)) ∧ Same w wr) (fun _ i _ => q - (intOf i).toNat)
  case atStart => exact ⟨0, some ⟨g, 0, none⟩, cap1, rfl, rfl, by omega, hR1.out, hs1.out⟩
  case round =>
    obtain ⟨k, a, cap, rfl, rfl, hk, hRw, hs⟩ := hrel
    by_cases hlt : k < q
    · have hsuc := cur_succ.out k hlt
      have hln := cur_len.out k
      obtain ⟨cur, hcur⟩ : ∃ cur, cur = quantT (qOp all) n ((qs.take k).map Int.toNat) t := ⟨_, rfl⟩
      rw [← hcur] at hsuc hRw hln
      obtain ⟨ba, oa, rfl, hba, hca⟩ := hRw.cell hM1
      obtain ⟨bq, oq, rfl, hbq, hcq⟩ := ints_row (l := qs) (by rw [← hq.out]; exact hQ.out.same hs) (by rw [← hq.out]; omega)
      have ck := hcq k (by rw [← hq.out]; exact hlt)
      have huk := hu.out k hlt
      obtain ⟨u, hu'⟩ : ∃ u : Nat, toF qs k = u := ⟨(toF qs k).toNat, by omega⟩
      rw [hu'] at ck huk hsuc
      have hun : u < n := by omega
      have e1 : ((u : Int).toNat) = u := rfl
      rw [e1] at hsuc
      have hca' : ∀ j, j < M → wr.cell? ⟨ba, oa + j, none⟩ = some (.bool (cur.getD j false)) := fun j hj => hca j _ (by simp [boolCells, List.getD, hln, hj])
      obtain ⟨nx, hnx⟩ : ∃ nx, nx = oneT (qOp all) n u cur := ⟨_, rfl⟩
      have hnl := one_len.out u cur
      have hng := fun j hj => one_get.out u cur j hj
      rw [← hnx] at hsuc hnl hng
      obtain ⟨wo, rfl⟩ : ∃ wo : World, wo = wr := ⟨_, rfl⟩
      clear hcq hca
      replace hsuc := Lib.hid hsuc; replace hln := Lib.hid hln; replace hRw := Lib.hid hRw; replace hs := Lib.hid hs; replace huk := Lib.hid huk; replace hca' := Lib.hid hca'; replace hnx := Lib.hid hnx; replace hnl := Lib.hid hnl; replace hng := Lib.hid hng; replace hu' := Lib.hid hu'; replace hcur := Lib.hid hcur
      go_wp2_with (at_make; refine wpList_mkb _ rfl (.tmp 25) (.tmp 25) 26 rfl 4 i3 Try.underlying26 hi3 hi3z hi3s hi3b M rfl rfl (by omega) ?_)
      go_loopw [12] (fun i wr => ∃ (j : Nat) (cs : List Bool), i = .int .i64 j ∧ j ≤ M ∧ cs.length = M ∧ (∀ p, p < j → cs.getD p false = nx.getD p false) ∧ BoolsAt wr wo.heap.size cs ∧ Same wo wr) (fun i _ => M - (intOf i).toNat)
      case atStart => exact ⟨0, List.replicate M false, rfl, by omega, by simp, fun p h => by omega, heap_new _ _, (by repeat (first | exact Fr.refl _ _ | apply Fr.alloc | apply Fr.drewN | apply Fr.drew | apply Fr.undrew | apply Fr.undrewN))⟩
      case round =>
        obtain ⟨j, cs, rfl, hj, hcs, hgood, hO, hso⟩ := hrel
        by_cases hjl : j < M
        · have lo := hO.lt
          have ckr : wr.cell? ⟨bq, oq + k, none⟩ = some (.int .i64 u) := by rw [← ck]; exact World.cell?_of_block (a := ⟨bq, oq + k, none⟩) (hso.block _ (by have := hbq; have := hs.out.size; omega) id)
          have w0 := wlt.out j u false hun hjl
          have w1' := wlt.out j u true hun hjl
          have c0 : wr.cell? ⟨ba, oa + withF n j u false, none⟩ = some (.bool (cur.getD (withF n j u false) false)) := by rw [← hca'.out _ w0]; exact World.cell?_of_block (a := ⟨ba, oa + withF n j u false, none⟩) (hso.block _ hba id)
          have c1 : wr.cell? ⟨ba, oa + withF n j u true, none⟩ = some (.bool (cur.getD (withF n j u true) false)) := by rw [← hca'.out _ w1']; exact World.cell?_of_block (a := ⟨ba, oa + withF n j u true, none⟩) (hso.block _ hba id)
          have W0 := fun W => WITH.out j u false W hun hjl
          have W1 := fun W => WITH.out j u true W hun hjl
          have hnj := hng.out j hjl
          obtain ⟨p0, hp0⟩ : ∃ p0, p0 = withF n j u false := ⟨_, rfl⟩
          obtain ⟨p1, hp1⟩ : ∃ p1, p1 = withF n j u true := ⟨_, rfl⟩
          rw [← hp0] at c0 W0 w0 hnj
          rw [← hp1] at c1 W1 w1' hnj
          obtain ⟨x, hx⟩ : ∃ x, x = cur.getD p0 false := ⟨_, rfl⟩
          obtain ⟨y, hy⟩ : ∃ y, y = cur.getD p1 false := ⟨_, rfl⟩
          rw [← hx] at c0 hnj
          rw [← hy] at c1 hnj
          have lba : ba < wr.heap.size := Nat.lt_of_lt_of_le hba hso.size
          have lbq : bq < wr.heap.size := Nat.lt_of_lt_of_le hbq hso.size
          have co := hO.cell (k := j) (by omega)
          have fo := hO.free j
          replace hcs := Lib.hid hcs; replace hgood := Lib.hid hgood; replace hO := Lib.hid hO; replace hso := Lib.hid hso; replace W0 := Lib.hid W0; replace W1 := Lib.hid W1; replace hnj := Lib.hid hnj; replace hp0 := Lib.hid hp0; replace hp1 := Lib.hid hp1; replace hx := Lib.hid hx; replace hy := Lib.hid hy
          go_wp2_with fail
          refine wp_region_sched (L2 bq ba) [0, 0, 0, 0, 0, 0, 1, 2, 0, 1, 0, 0, 0, 0, 0, 0, 1, 2, 0, 1, 0, 0] [0, 1, 2, 3, 4, 5, 10, 11, 12, 13, 14, 15, 6, 16, 7, 8, 9, 17, 18, 20, 19, 21] (by kernel_rfl) (by kernel_rfl) ?_
          repeat (first | (refine sched_w rfl rfl (fun _ hK => ?_); go_simp; refine hK _ ?_; clear hK) | (refine sched_s rfl rfl (fun _ hK => ?_); go_simp; first | (refine hK _ ?_; clear hK) | (refine ⟨_, fun _ => rfl, hK _ ?_⟩; clear hK)))
          refine sched_g rfl rfl (fun _ hK => ?_)
          go_simp
          refine (W0.out _).mono ?_
          rintro e w5 ⟨rfl, rfl⟩
          refine hK _ _ (Kp.of_same (by repeat (first | exact Fr.refl _ _ | apply Fr.undrew | apply Fr.undrewN | apply Fr.drew | apply Fr.drewN | apply Fr.alloc))) ?_
          clear hK
          try simp only [Act.put, List.setIfInBounds_toArray, List.set_cons_zero, List.set_cons_succ]
          repeat (first | (refine sched_w rfl rfl (fun _ hK => ?_); go_simp; refine hK _ ?_; clear hK) | (refine sched_s rfl rfl (fun _ hK => ?_); go_simp; first | (refine hK _ ?_; clear hK) | (refine ⟨_, fun _ => rfl, hK _ ?_⟩; clear hK)))
          refine sched_g rfl rfl (fun _ hK => ?_)
          go_simp
          refine (W1.out _).mono ?_
          rintro e w5 ⟨rfl, rfl⟩
          refine hK _ _ (Kp.of_same (by repeat (first | exact Fr.refl _ _ | apply Fr.undrew | apply Fr.undrewN | apply Fr.drew | apply Fr.drewN | apply Fr.alloc))) ?_
          clear hK
          try simp only [Act.put, List.setIfInBounds_toArray, List.set_cons_zero, List.set_cons_succ]
          repeat (first | (refine sched_w rfl rfl (fun _ hK => ?_); go_simp; refine hK _ ?_; clear hK) | (refine sched_s rfl rfl (fun _ hK => ?_); go_simp; first | (refine hK _ ?_; clear hK) | (refine ⟨_, fun _ => rfl, hK _ ?_⟩; clear hK)))
          refine sched_nil (NoPanic.normal ?_)
          cases x <;> cases y <;> cases all
          all_goals
            go_wp2_with fail
            go_roundw
            case rel =>
              refine ⟨j + 1, _, by go_num, by omega, ?_, ?_, BoolsAt.set (hO.out.fr (S := fun _ => False) (by repeat (first | exact Fr.refl _ _ | apply Fr.alloc | apply Fr.drewN | apply Fr.drew | apply Fr.undrew | apply Fr.undrewN)) id) j _, (by repeat (first | exact hso.out | apply Fr.drew | (refine Fr.setCell ?_ _ _ (fun h => by simp only at h; omega))))⟩
              · simp [hcs.out]
              · intro p hp
                by_cases hpj : p = j
                · subst hpj
                  have : p < cs.length := by rw [hcs.out]; exact hjl
                  rw [hnj.out]
                  simp only [List.getD_eq_getElem?_getD, List.getElem?_set_self this, Option.getD_some]
                  rfl
                · have h1 := hgood.out p (by omega)
                  rw [← h1]
                  simp only [List.getD_eq_getElem?_getD]
                  rw [List.getElem?_set_ne (by omega)]
            case measure => simp [intOf]; omega
        · have hjM : j = M := by omega
          subst hjM
          have hcn : cs = nx := by
            refine List.ext_getElem (by rw [hcs, hnl.out]) (fun p h1 h2 => ?_)
            have := hgood p (by omega)
            simp only [List.getD_eq_getElem?_getD, List.getElem?_eq_getElem h1, List.getElem?_eq_getElem h2, Option.getD_some] at this
            exact this
          have hRn := (hO.slice (by omega)).row
          rw [hcs, hcn, ← hsuc.out] at hRn
          have hsn := hs.out.same hso
          replace hcs := Lib.hid hcs; replace hgood := Lib.hid hgood; replace hO := Lib.hid hO; replace hso := Lib.hid hso; replace hRn := Lib.hid hRn; replace hsn := Lib.hid hsn; replace hcn := Lib.hid hcn
          go_wp2_with fail
          go_roundw
          case rel => exact ⟨k + 1, some ⟨wo.heap.size, 0, none⟩, j, by go_num, rfl, by omega, hRn.out, hsn.out⟩
          case measure => simp [intOf]; omega
    · have hkq : k = q := by omega
      subst hkq
      have hfin : qs.take k = qs := List.take_of_length_le (by rw [← hq.out]; exact Nat.le_refl _)
      rw [hfin] at hRw
      replace hRw := Lib.hid hRw; replace hs := Lib.hid hs; replace hfin := Lib.hid hfin
      go_wp2_with fail
      go_ret
      exact ⟨a, cap, rfl, hRw.out, hs.out⟩
end Go.Proofs.Ytaebjalpebgliaa
