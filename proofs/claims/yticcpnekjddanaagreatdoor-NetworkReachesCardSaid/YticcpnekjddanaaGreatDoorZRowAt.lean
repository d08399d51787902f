/-  -/
import Derived.WalkKit
import Derived.Deep.AppendLies
import Derived.Deep.Draws
import Derived.Test.YticcpnekjddanaaGreatDoorZMaps
set_option linter.unusedVariables false
namespace Go.Proofs.YticcpnekjddanaaGreatDoor
open Go.RowKit
structure Fr (S : Nat → Prop) (w w' : World) : Prop where
 os : w'.os = w.os
 tape : w'.tape = w.tape
 output : w'.output = w.output
 size : w.heap.size ≤ w'.heap.size
 block : ∀ k, k < w.heap.size → ¬ S k → w'.heap[k]? = w.heap[k]?
abbrev qad : World → World → Prop := Fr (fun _ => False)
theorem Fr.refl (S : Nat → Prop) (w : World) : Fr S w w := ⟨rfl, rfl, rfl, Nat.le_refl _, fun _ _ _ => rfl⟩
theorem Fr.trans {S T : Nat → Prop} {a b c : World} (h : Fr S a b) (k : Fr T b c) (hT : ∀ i, i < a.heap.size → T i → S i) : Fr S a c :=
 ⟨k.os.trans h.os, k.tape.trans h.tape, k.output.trans h.output, Nat.le_trans h.size k.size,
  fun i hi hS => (k.block i (Nat.lt_of_lt_of_le hi h.size) (fun ht => hS (hT i hi ht))).trans (h.block i hi hS)⟩
theorem Fr.mono {S T : Nat → Prop} {a b : World} (h : Fr S a b) (hT : ∀ i, i < a.heap.size → S i → T i) : Fr T a b :=
 ⟨h.os, h.tape, h.output, h.size, fun i hi hS => h.block i hi (fun hs => hS (hT i hi hs))⟩
theorem Fr.same {S : Nat → Prop} {a b c : World} (h : Fr S a b) (k : qad b c) : Fr S a c := h.trans k (fun _ _ f => f.elim)
theorem Fr.below {w w' : World} (h : qad w w') : Below w.heap.size w w' := ⟨h.os, h.tape, h.output, h.size, fun k hk => h.block k hk id⟩
theorem Fr.of_below {w w' : World} (h : Below w.heap.size w w') : qad w w' := ⟨h.os, h.tape, h.output, h.size, fun k hk _ => h.block k hk⟩
theorem Fr.alloc {S : Nat → Prop} {a w : World} (h : Fr S a w) (o : Obj) : Fr S a (w.alloc o) :=
 h.same ⟨rfl, rfl, rfl, by simp, fun k hk _ => Below.heap_alloc w o k hk⟩
theorem Fr.drew {S : Nat → Prop} {a w : World} (h : Fr S a w) : Fr S a w.drew := h.same ⟨rfl, rfl, rfl, Nat.le_refl _, fun _ _ _ => rfl⟩
theorem Fr.drewN {S : Nat → Prop} {a w : World} (h : Fr S a w) (n : Nat) : Fr S a (w.drewN n) := h.same ⟨rfl, rfl, rfl, Nat.le_refl _, fun _ _ _ => rfl⟩
theorem Fr.setCell {S : Nat → Prop} {a w : World} (h : Fr S a w) (p : Addr) (u : Value) (hp : p.block < a.heap.size → S p.block) : Fr S a (w.setCell p u) :=
 h.trans (T := fun k => k = p.block) ⟨rfl, rfl, rfl, by simp [World.setCell], fun k _ hne => Below.heap_setCell _ _ _ _ hne⟩ (fun i hi e => by subst e; exact hp hi)
theorem Fr.setObj {S : Nat → Prop} {a w : World} (h : Fr S a w) (m : Nat) (o : Obj) (hp : m < a.heap.size → S m) : Fr S a (setObj w m o) :=
 h.trans (T := fun k => k = m) ⟨rfl, rfl, rfl, by simp [Proofs.YticcpnekjddanaaGreatDoor.setObj], fun k _ hne => qbi hne⟩ (fun i hi e => by subst e; exact hp hi)
theorem Fr.grown {S : Nat → Prop} {a w w' : World} {row : Option Nat} (h : Fr S a w) (hg : w.grownBy w' row) (hr : ∀ k, row = some k → k < a.heap.size → S k) : Fr S a w' :=
 h.trans (T := fun k => row = some k) ⟨hg.os, hg.tape, hg.output, hg.size, fun k hk hne => hg.block k hk (fun e => hne e.symm)⟩ (fun i hi e => hr i e hi)
theorem Fr.at {S : Nat → Prop} {w w' : World} (h : Fr S w w') {k : Nat} {o : Obj} (hk : w.heap[k]? = some o) (hS : ¬ S k) : w'.heap[k]? = some o :=
 (h.block k (Array.getElem?_eq_some_iff.1 hk).1 hS).trans hk
theorem gu {w : World} {k : Nat} {o : Obj} (hk : w.heap[k]? = some o) : k < w.heap.size := (Array.getElem?_eq_some_iff.1 hk).1
theorem gn {w : World} {b : Nat} {cur : Array Value} {T : TypeId} {fr : Nat × Nat} (h : w.heap[b]? = some (.cells cur T fr)) (j : Nat) : w.cell? ⟨b, j, none⟩ = cur[j]? := by
 simp [World.cell?, h]
theorem qak {w : World} {b : Nat} {cur : Array Value} {T : TypeId} (h : w.heap[b]? = some (.cells cur T (0, 0))) (j : Nat) : w.frozen? ⟨b, j, none⟩ = false := by
 simp [World.frozen?, h]
theorem qaf {w : World} {b : Nat} {cur : Array Value} {T : TypeId} {fr : Nat × Nat} (h : w.heap[b]? = some (.cells cur T fr)) (j : Nat) (u : Value) :
 (w.setCell ⟨b, j, none⟩ u).heap[b]? = some (.cells (cur.setIfInBounds j u) T fr) := by
 simp [World.setCell, Array.getElem?_modify, h]
theorem qaS {w : World} {p : Addr} {k : Nat} (hk : k ≠ p.block) (u : Value) : (w.setCell p u).heap[k]? = w.heap[k]? := Below.heap_setCell _ _ _ _ hk
theorem gv (w : World) (o : Obj) : (w.alloc o).heap[w.heap.size]? = some o := (MapKept.heap_alloc w o).1
theorem qae {w : World} {k : Nat} (h : k = w.heap.size) (o : Obj) : (w.alloc o).heap[k]? = some o := by subst h; exact gv w o
theorem qab {w : World} {k : Nat} {o' : Obj} (h : w.heap[k]? = some o') (o : Obj) : (w.alloc o).heap[k]? = some o' := (Below.heap_alloc w o k (gu h)).trans h
def qaa (w : World) (T : TypeId) (sz : Nat) (v : Value) (n : Nat) (cells : List Value) : Prop :=
 cells.length = n * sz ∧ ∃ a cap, v = .slice a n cap ∧ n ≤ cap ∧ cap ≤ maxLen ∧ (a = none → cap = 0) ∧
  (0 < n → ∃ b off cur, a = some ⟨b, off, none⟩ ∧ w.heap[b]? = some (.cells cur T (0, 0)) ∧ (cur.toList.drop off).take (n * sz) = cells)
theorem qaa.cell {w : World} {T : TypeId} {sz : Nat} {a : Option Addr} {cap n : Nat} {cells : List Value} (h : qaa w T sz (.slice a n cap) n cells) (hn : 0 < n) :
 ∃ b off, a = some ⟨b, off, none⟩ ∧ b < w.heap.size ∧ ∀ j u, cells[j]? = some u → w.cell? ⟨b, off + j, none⟩ = some u := by
 obtain ⟨hl, a', cap', he, _, _, _, hb⟩ := h
 cases he
 obtain ⟨b, off, cur, rfl, hh, hc⟩ := hb hn
 refine ⟨b, off, rfl, gu hh, fun j u hu => ?_⟩
 rw [← hc, List.getElem?_take] at hu
 split at hu
 · simp only [List.getElem?_drop, Array.getElem?_toList] at hu
   simp [World.cell?, hh, hu]
 · simp at hu
theorem qaa.fr {S : Nat → Prop} {w w' : World} {T : TypeId} {sz : Nat} {v : Value} {n : Nat} {cells : List Value} (h : qaa w T sz v n cells) (hf : Fr S w w')
 (hS : ∀ k cur, w.heap[k]? = some (.cells cur T (0, 0)) → ¬ S k) : qaa w' T sz v n cells := by
 obtain ⟨hl, a, cap, he, h1, h2, h3, hb⟩ := h
 refine ⟨hl, a, cap, he, h1, h2, h3, fun hn => ?_⟩
 obtain ⟨b, off, cur, ha, hh, hc⟩ := hb hn
 exact ⟨b, off, cur, ha, hf.at hh (hS b cur hh), hc⟩
theorem qaa.same {w w' : World} {T : TypeId} {sz : Nat} {v : Value} {n : Nat} {cells : List Value} (h : qaa w T sz v n cells) (hf : qad w w') : qaa w' T sz v n cells :=
 h.fr hf (fun _ _ _ => id)
theorem qaa.form {w : World} {T : TypeId} {sz : Nat} {v : Value} {n : Nat} {cells : List Value} (h : qaa w T sz v n cells) : ∃ a cap, v = .slice a n cap ∧ n ≤ cap ∧ cap ≤ maxLen := by
 obtain ⟨_, a, cap, he, h1, h2, _⟩ := h
 exact ⟨a, cap, he, h1, h2⟩
theorem qaa.of_owns {w : World} {base : Nat} {T : TypeId} {sz : Nat} {v : Value} {n : Nat} {xs : List Value} (h : w.ownsRow base T sz v n xs) : qaa w T sz v n xs := by
 refine ⟨h.1, ?_⟩
 rcases h.2 with ⟨rfl, rfl⟩ | ⟨g, cap, cur, rfl, _, hg, h1, h2, _, h4⟩
 · exact ⟨none, 0, rfl, Nat.le_refl _, Nat.zero_le _, fun _ => rfl, fun h => absurd h (Nat.lt_irrefl 0)⟩
 · exact ⟨some ⟨g, 0, none⟩, cap, rfl, h1, h2, (by simp), fun _ => ⟨g, 0, cur, rfl, hg, by simpa using h4⟩⟩
theorem qaa.nil (w : World) (T : TypeId) (sz : Nat) : qaa w T sz (.slice none 0 0) 0 [] := qaa.of_owns (World.ownsRow_nil w 0 T sz)
theorem qaa.cut {w : World} {T : TypeId} {a : Option Addr} {n cap : Nat} {cells : List Value} (h : qaa w T 1 (.slice a n cap) n cells) (hn : 0 < n) (k l : Nat) (hkl : k ≤ l) (hl : l ≤ n) (hk : k < n) :
 ∃ b off, a = some ⟨b, off, none⟩ ∧ qaa w T 1 (.slice (some ⟨b, off + k, none⟩) (l - k) (cap - k)) (l - k) ((cells.drop k).take (l - k)) := by
 obtain ⟨hlen, a', cap', he, h1, h2, h3, hb⟩ := h
 cases he
 obtain ⟨b, off, cur, rfl, hh, hc⟩ := hb hn
 refine ⟨b, off, rfl, by simp only [List.length_take, List.length_drop, hlen]; omega, _, _, rfl, by omega, by omega, by simp, fun _ => ⟨b, off + k, cur, rfl, hh, ?_⟩⟩
 rw [← hc, List.drop_take, List.take_take, List.drop_drop]
 congr 1
 omega
def qaK (S : Nat → Prop) (w w' : World) (v v' : Value) : Prop :=
 Fr (fun k => v.ownBlock = some k ∨ S k) w w' ∧ ∀ k, v'.ownBlock = some k → v.ownBlock = some k ∨ w.heap.size ≤ k
theorem qaK.refl (S : Nat → Prop) (w : World) (v : Value) : qaK S w w v v := ⟨Fr.refl _ _, fun _ h => .inl h⟩
theorem qaK.trans {S : Nat → Prop} {w w1 w2 : World} {v v1 v2 : Value} (h : qaK S w w1 v v1) (k : qaK S w1 w2 v1 v2) : qaK S w w2 v v2 := by
 refine ⟨h.1.trans k.1 ?_, fun i hi => ?_⟩
 · intro i hi ht
   rcases ht with ht | ht
   · rcases h.2 i ht with h' | h'
     · exact .inl h'
     · omega
   · exact .inr ht
 · rcases k.2 i hi with h' | h'
   · exact h.2 i h'
   · exact .inr (Nat.le_trans h.1.size h')
theorem qaK.of_same {S : Nat → Prop} {w w' : World} (v : Value) (h : qad w w') : qaK S w w' v v := ⟨h.mono (fun _ _ f => f.elim), fun _ h => .inl h⟩
theorem qag {w W : World} {base : Nat} {T : TypeId} {sz : Nat} {v : Value} {n : Nat} {xs : List Value} (h : w.ownsRow base T sz v n xs) (hf : qad w W) : W.ownsRow base T sz v n xs :=
 h.kept (row := none) ⟨hf.os, hf.tape, hf.output, hf.size, fun k hk _ => hf.block k hk id⟩ (by cases v.ownBlock <;> simp)
theorem qaN {S : Nat → Prop} {w W : World} {base : Nat} {T : TypeId} {sz : Nat} {v : Value} {n : Nat} {xs : List Value} (h : w.ownsRow base T sz v n xs) (hf : Fr S w W) (hS : ∀ k, v.ownBlock = some k → ¬ S k) : W.ownsRow base T sz v n xs := by
 refine ⟨h.1, ?_⟩
 rcases h.2 with hn | ⟨g, cap, cur, rfl, hb, hgg, rest⟩
 · exact .inl hn
 · exact .inr ⟨g, cap, cur, rfl, hb, hf.at hgg (hS g rfl), rest⟩
theorem qaj {w : World} {base : Nat} {T : TypeId} {sz : Nat} {v : Value} {n : Nat} {xs : List Value} (h : w.ownsRow base T sz v n xs) {k : Nat} (hk : v.ownBlock = some k) : ∃ cur, w.heap[k]? = some (.cells cur T (0, 0)) := by
 rcases h.2 with ⟨rfl, _⟩ | ⟨g, cap, cur, rfl, _, hg, _⟩
 · simp [Value.ownBlock] at hk
 · simp [Value.ownBlock] at hk
   subst hk
   exact ⟨cur, hg⟩
theorem qhP {P : Program} {w : World} (t ty : TypeId) (base : Nat) (e : TypeId) (i : TypeInfo) (z : Value) (size bytes : Nat) (ht : P.underlying t = some (.slice e)) (hi : P.info? e = some i) (hz : i.zero = some z)
 (hsize : i.size = size) (hby : i.bytes = bytes) (hzs : z.cells.size = size) (hsz : 0 < size) (hb : bytes ≤ 1000)
 (aS : Option Addr) (n cap : Nat) (xs : List Value) (hown : w.ownsRow base e size (.slice aS n cap) n xs) (hn : n ≤ 1000000000)
 (B : Nat) (news : List Value) (hl : news.length = size) (hB : w.heap[B]? = some (.cells news.toArray e (0, 0))) (h1 : ∀ u ∈ news, u.oneCell' = true) (hbase : base ≤ w.heap.size) :
 ∃ a' cap' w', (Builtin.append_ #[t, t] ty #[.slice aS n cap, .slice (some ⟨B, 0, none⟩) 1 1]).run P w = .ok (.slice a' (n + 1) cap') w' ∧
  w'.ownsRow base e size (.slice a' (n + 1) cap') (n + 1) (xs ++ news) ∧ qaK (fun _ => False) w w' (.slice aS n cap) (.slice a' (n + 1) cap') := by
 obtain ⟨g, c, w', hr, h2, h3, h4, _⟩ := run_append_lies (P := P) w t ty base e i z size bytes ht hi hz hsize hby hzs hsz (.slice aS n cap) n xs hown ⟨B, 0, none⟩ 1 1 news (by omega)
  (World.news_of_block (cs := news.toArray) hB) h1 (by omega) (by unfold maxLen; omega) (Nat.le_trans (Nat.mul_le_mul (show n + 1 ≤ 1000000001 by omega) hb) (by omega)) hbase _ rfl
 refine ⟨_, c, w', hr, h2, (Fr.refl _ _).grown h3 (fun k hk _ => .inl hk), fun k hk => ?_⟩
 simp only [Value.ownBlock, Option.some.injEq] at hk
 subst hk
 rcases h4 with h4 | h4
 · exact .inl h4
 · exact .inr (Nat.le_of_eq h4.symm)
theorem qbe {P : Program} {w : World} {ops : Array Oper} {o : Oper} {a : Act} {K : Act → World → Prop} {Q : Exit → Act → World → Prop} {E : Prop} (hgd : o.guard = none) (s x : Operand) (t : TypeId)
 (ho : o.op = .call { callee := .builtin .append, args := #[s, x], argTypes := #[t, t] })
 (base : Nat) (e : TypeId) (i : TypeInfo) (z : Value) (size bytes : Nat) (ht : P.underlying t = some (.slice e)) (hi : P.info? e = some i) (hz : i.zero = some z)
 (hsize : i.size = size) (hby : i.bytes = bytes) (hzs : z.cells.size = size) (hsz : 0 < size) (hb : bytes ≤ 1000)
 (aS : Option Addr) (n cap : Nat) (xs : List Value) (hs : a.eval s = .slice aS n cap) (hown : w.ownsRow base e size (.slice aS n cap) n xs) (hn : n ≤ 1000000000)
 (B : Nat) (news : List Value) (hx : a.eval x = .slice (some ⟨B, 0, none⟩) 1 1) (hl : news.length = size) (hB : w.heap[B]? = some (.cells news.toArray e (0, 0))) (h1 : ∀ u ∈ news, u.oneCell' = true) (hbase : base ≤ w.heap.size)
 (h : ∀ a' cap' w', w'.ownsRow base e size (.slice a' (n + 1) cap') (n + 1) (xs ++ news) → qaK (fun _ => False) w w' (.slice aS n cap) (.slice a' (n + 1) cap') → K (a.put o.dst (.slice a' (n + 1) cap')) w') :
 if Region.wanted o (yielded ops a.tmps) = true then Oper.wp P o a w K Q else E := by
 have hw : Region.wanted o (yielded ops a.tmps) = true := by simp [Region.wanted, hgd]
 rw [if_pos hw]
 obtain ⟨a', cap', w', hr, h2, h3⟩ := qhP (P := P) (w := w) t o.type base e i z size bytes ht hi hz hsize hby hzs hsz hb aS n cap xs hown hn B news hl hB h1 hbase
 unfold Oper.wp execOp
 simp only [ho, resolve, invoke, builtin, Sem.run_bind, Sem.run_pure, Result.andThen_ok, List.map_toArray, List.map_cons, List.map_nil, hs, hx, hr]
 exact h a' cap' w' h2 h3
theorem qai {P : Program} {w : World} {ops : Array Oper} {rest : List Oper} {o : Oper} {a : Act} {Q : Exit → Act → World → Prop} (hgd : o.guard = none) (s x : Operand) (t : TypeId)
 (ho : o.op = .call { callee := .builtin .append, args := #[s, x], argTypes := #[t, t] })
 (base : Nat) (e : TypeId) (i : TypeInfo) (z : Value) (size bytes : Nat) (ht : P.underlying t = some (.slice e)) (hi : P.info? e = some i) (hz : i.zero = some z)
 (hsize : i.size = size) (hby : i.bytes = bytes) (hzs : z.cells.size = size) (hsz : 0 < size) (hb : bytes ≤ 1000)
 (aS : Option Addr) (n cap : Nat) (xs : List Value) (hs : a.eval s = .slice aS n cap) (hown : w.ownsRow base e size (.slice aS n cap) n xs) (hn : n ≤ 1000000000)
 (B : Nat) (news : List Value) (hx : a.eval x = .slice (some ⟨B, 0, none⟩) 1 1) (hl : news.length = size) (hB : w.heap[B]? = some (.cells news.toArray e (0, 0))) (h1 : ∀ u ∈ news, u.oneCell' = true) (hbase : base ≤ w.heap.size)
 (h : ∀ a' cap' w', w'.ownsRow base e size (.slice a' (n + 1) cap') (n + 1) (xs ++ news) → qaK (fun _ => False) w w' (.slice aS n cap) (.slice a' (n + 1) cap') → wpList P ops Q rest (a.put o.dst (.slice a' (n + 1) cap')) w') :
 wpList P ops Q (o :: rest) a w :=
 wpList_plain hgd fun K hK => by
  have := qbe (P := P) (w := w) (ops := ops) (o := o) (a := a) (K := K) (Q := Q) (E := False) hgd s x t ho base e i z size bytes ht hi hz hsize hby hzs hsz hb aS n cap xs hs hown hn B news hx hl hB h1 hbase
   (fun a' cap' w' h2 h3 => hK _ _ (h a' cap' w' h2 h3))
  rwa [if_pos (by simp [Region.wanted, hgd])] at this
def ndv (x : Nd) : Value := .agg #[.int .i64 x.1, .int .i64 x.2.1, .int .i64 x.2.2]
def qap : List Nd → List Value
 | [] => []
 | x :: l => .int .i64 x.1 :: .int .i64 x.2.1 :: .int .i64 x.2.2 :: qap l
theorem qgt (l : List Nd) : (qap l).length = l.length * 3 := by
 induction l with
 | nil => rfl
 | cons x l ih => simp [qap, ih]; omega
theorem qbu (l m : List Nd) : qap (l ++ m) = qap l ++ qap m := by
 induction l with
 | nil => rfl
 | cons x l ih => simp [qap, ih]
theorem qfu (l : List Nd) (i : Nat) (h : i < l.length) :
 (qap l)[i * 3]? = some (.int .i64 l[i].1) ∧ (qap l)[i * 3 + 1]? = some (.int .i64 l[i].2.1) ∧ (qap l)[i * 3 + 2]? = some (.int .i64 l[i].2.2) := by
 induction l generalizing i with
 | nil => simp at h
 | cons x l ih =>
  cases i with
  | zero => simp [qap]
  | succ i =>
   have := ih i (by simpa using h)
   have e : (i + 1) * 3 = i * 3 + 3 := by omega
   rw [e]
   simpa [qap] using this
theorem qaa.node {w : World} {T : TypeId} {a : Option Addr} {cap : Nat} {L : List Nd} (h : qaa w T 3 (.slice a L.length cap) L.length (qap L)) {k : Nat} (hk : k < L.length) :
 ∃ b off, a = some ⟨b, off, none⟩ ∧ b < w.heap.size ∧ w.cell? ⟨b, off + k * 3, none⟩ = some (.int .i64 L[k].1) ∧ w.cell? ⟨b, off + k * 3 + 1, none⟩ = some (.int .i64 L[k].2.1) ∧ w.cell? ⟨b, off + k * 3 + 2, none⟩ = some (.int .i64 L[k].2.2) := by
 obtain ⟨b, off, ha, hbl, hc⟩ := h.cell (by omega)
 have c3 := qfu L k hk
 exact ⟨b, off, ha, hbl, hc _ _ c3.1, hc _ _ c3.2.1, hc _ _ c3.2.2⟩
def qbb (w : World) (a : Option Addr) (L : List Nd) (cap : Nat) : Prop :=
 L.length ≤ cap ∧ cap ≤ maxLen ∧ (a = none → cap = 0) ∧ (0 < L.length → ∃ b off, a = some ⟨b, off, none⟩ ∧ b < w.heap.size ∧ ∀ j u, (qap L)[j]? = some u → w.cell? ⟨b, off + j, none⟩ = some u)
theorem qaa.nds {w : World} {T : TypeId} {a : Option Addr} {cap : Nat} {L : List Nd} (h : qaa w T 3 (.slice a L.length cap) L.length (qap L)) : qbb w a L cap := by
 obtain ⟨hl, a', cap', he, h1, h2, h3, hb⟩ := id h
 cases he
 exact ⟨h1, h2, h3, fun hn => h.cell hn⟩
theorem qbb.same {w w' : World} {a : Option Addr} {cap : Nat} {L : List Nd} (h : qbb w a L cap) (hf : qad w w') : qbb w' a L cap := by
 obtain ⟨h1, h2, h3, h4⟩ := h
 refine ⟨h1, h2, h3, fun hn => ?_⟩
 obtain ⟨b, off, ha, hb, hc⟩ := h4 hn
 refine ⟨b, off, ha, Nat.lt_of_lt_of_le hb hf.size, fun j u hu => ?_⟩
 have hh := hf.block b hb id
 rw [← hc j u hu]
 simp [World.cell?, hh]
theorem qbb.node {w : World} {a : Option Addr} {cap : Nat} {L : List Nd} (h : qbb w a L cap) {k : Nat} (hk : k < L.length) :
 ∃ b off, a = some ⟨b, off, none⟩ ∧ b < w.heap.size ∧ w.cell? ⟨b, off + k * 3, none⟩ = some (.int .i64 L[k].1) ∧ w.cell? ⟨b, off + k * 3 + 1, none⟩ = some (.int .i64 L[k].2.1) ∧ w.cell? ⟨b, off + k * 3 + 2, none⟩ = some (.int .i64 L[k].2.2) := by
 obtain ⟨b, off, ha, hbl, hc⟩ := h.2.2.2 (by omega)
 have c3 := qfu L k hk
 exact ⟨b, off, ha, hbl, hc _ _ c3.1, hc _ _ c3.2.1, hc _ _ c3.2.2⟩
theorem qbb.below {w : World} {a : Option Addr} {cap : Nat} {L : List Nd} (h : qbb w a L cap) (hn : 0 < L.length) : ∀ k, (Value.slice a L.length cap).ownBlock = some k → k < w.heap.size := by
 obtain ⟨b, off, rfl, hb, _⟩ := h.2.2.2 hn
 intro k hk
 simp [Value.ownBlock] at hk
 omega
def qaP : List Nd → Int → List (Nd × Int)
 | [], _ => []
 | x :: l, k => (x, k) :: qaP l (k + 1)
theorem qdv (L : List Nd) (x : Nd) (c : Int) (hc : 0 < c) : qa0 (qaP L c) x = if qaq L x c = 0 then none else some (qaq L x c) := by
 induction L generalizing c with
 | nil => simp [qaP, qa0, qaq]
 | cons y L ih =>
  simp only [qaP, qa0, qaq]
  by_cases h : y = x
  · subst h; simp; omega
  · simp only [if_neg (Ne.symm h), if_neg h]; exact ih (c + 1) (by omega)
theorem qgC (L : List Nd) (x : Nd) (c : Int) (hc : 0 < c) (h : qaq L x c = 0) : qbW (qaP L c) x (c + L.length) = qaP (L ++ [x]) c := by
 induction L generalizing c with
 | nil => simp [qaP, qbW]
 | cons y L ih =>
  simp only [qaq] at h
  split at h
  · omega
  · rename_i hne
    have := ih (c + 1) (by omega) h
    simp only [List.length_cons, List.cons_append, qaP, qbW, if_neg (Ne.symm hne)]
    rw [← this]
    congr 2
    omega
theorem fs1 {S : Nat → Prop} {a w : World} (h : Fr S a w := by repeat (first | exact Fr.refl _ _ | apply Fr.alloc | apply Fr.drewN | apply Fr.drew)) : Fr S a w := h
theorem gi {p : Prop} (h : p) : Go.RowKit.Hid p := h
theorem gj {α : Type} : (∀ (l : List α) (i : Nat) (a : α), l.toArray.setIfInBounds i a = (l.set i a).toArray) ∧ (∀ (x y : α) (l : List α), (x :: l).set 0 y = y :: l) ∧ (∀ (x y : α) (l : List α) (n : Nat), (x :: l).set (n + 1) y = x :: l.set n y) := ⟨fun _ _ _ => List.setIfInBounds_toArray .., fun _ _ _ => rfl, fun _ _ _ _ => rfl⟩
theorem g1l {w : World} {b : Nat} {cur : Array Value} {T : TypeId} {fr : Nat × Nat} (h : w.heap[b]? = some (.cells cur T fr)) : w.cell? ⟨b, 0, none⟩ = cur[0]? ∧ b < w.heap.size := ⟨gn h 0, gu h⟩
theorem g2 {w : World} {b : Nat} {cur : Array Value} {T : TypeId} {fr : Nat × Nat} (h : w.heap[b]? = some (.cells cur T fr)) : w.cell? ⟨b, 0, none⟩ = cur[0]? ∧ w.cell? ⟨b, 1, none⟩ = cur[1]? := ⟨gn h 0, gn h 1⟩
theorem g2l {w : World} {b : Nat} {cur : Array Value} {T : TypeId} {fr : Nat × Nat} (h : w.heap[b]? = some (.cells cur T fr)) : w.cell? ⟨b, 0, none⟩ = cur[0]? ∧ w.cell? ⟨b, 1, none⟩ = cur[1]? ∧ b < w.heap.size := ⟨gn h 0, gn h 1, gu h⟩
theorem g3 {w : World} {b : Nat} {cur : Array Value} {T : TypeId} {fr : Nat × Nat} (h : w.heap[b]? = some (.cells cur T fr)) : w.cell? ⟨b, 0, none⟩ = cur[0]? ∧ w.cell? ⟨b, 1, none⟩ = cur[1]? ∧ w.cell? ⟨b, 2, none⟩ = cur[2]? := ⟨gn h 0, gn h 1, gn h 2⟩
theorem g3l {w : World} {b : Nat} {cur : Array Value} {T : TypeId} {fr : Nat × Nat} (h : w.heap[b]? = some (.cells cur T fr)) : w.cell? ⟨b, 0, none⟩ = cur[0]? ∧ w.cell? ⟨b, 1, none⟩ = cur[1]? ∧ w.cell? ⟨b, 2, none⟩ = cur[2]? ∧ b < w.heap.size := ⟨gn h 0, gn h 1, gn h 2, gu h⟩
theorem g4 {w : World} {b : Nat} {cur : Array Value} {T : TypeId} {fr : Nat × Nat} (h : w.heap[b]? = some (.cells cur T fr)) : w.cell? ⟨b, 0, none⟩ = cur[0]? ∧ w.cell? ⟨b, 1, none⟩ = cur[1]? ∧ w.cell? ⟨b, 2, none⟩ = cur[2]? ∧ w.cell? ⟨b, 3, none⟩ = cur[3]? := ⟨gn h 0, gn h 1, gn h 2, gn h 3⟩
theorem g4l {w : World} {b : Nat} {cur : Array Value} {T : TypeId} {fr : Nat × Nat} (h : w.heap[b]? = some (.cells cur T fr)) : w.cell? ⟨b, 0, none⟩ = cur[0]? ∧ w.cell? ⟨b, 1, none⟩ = cur[1]? ∧ w.cell? ⟨b, 2, none⟩ = cur[2]? ∧ w.cell? ⟨b, 3, none⟩ = cur[3]? ∧ b < w.heap.size := ⟨gn h 0, gn h 1, gn h 2, gn h 3, gu h⟩
theorem g5 {w : World} {b : Nat} {cur : Array Value} {T : TypeId} {fr : Nat × Nat} (h : w.heap[b]? = some (.cells cur T fr)) : w.cell? ⟨b, 0, none⟩ = cur[0]? ∧ w.cell? ⟨b, 1, none⟩ = cur[1]? ∧ w.cell? ⟨b, 2, none⟩ = cur[2]? ∧ w.cell? ⟨b, 3, none⟩ = cur[3]? ∧ w.cell? ⟨b, 4, none⟩ = cur[4]? := ⟨gn h 0, gn h 1, gn h 2, gn h 3, gn h 4⟩
theorem g5l {w : World} {b : Nat} {cur : Array Value} {T : TypeId} {fr : Nat × Nat} (h : w.heap[b]? = some (.cells cur T fr)) : w.cell? ⟨b, 0, none⟩ = cur[0]? ∧ w.cell? ⟨b, 1, none⟩ = cur[1]? ∧ w.cell? ⟨b, 2, none⟩ = cur[2]? ∧ w.cell? ⟨b, 3, none⟩ = cur[3]? ∧ w.cell? ⟨b, 4, none⟩ = cur[4]? ∧ b < w.heap.size := ⟨gn h 0, gn h 1, gn h 2, gn h 3, gn h 4, gu h⟩
end Go.Proofs.YticcpnekjddanaaGreatDoor
namespace Go.Proofs.YticcpnekjddanaaGreatDoor
open Go.RowKit
def qan (w : World) (v : Value) (n : Nat) (cells : List Value) : Prop :=
 cells.length = n ∧ ∃ a cap, v = .slice a n cap ∧ n ≤ cap ∧ cap ≤ maxLen ∧ (a = none → cap = 0) ∧
  (0 < n → ∃ b off, a = some ⟨b, off, none⟩ ∧ b < w.heap.size ∧ ∀ j u, cells[j]? = some u → w.cell? ⟨b, off + j, none⟩ = some u)
theorem qaa.row {w : World} {T : TypeId} {a : Option Addr} {n cap : Nat} {cells : List Value} (h : qaa w T 1 (.slice a n cap) n cells) : qan w (.slice a n cap) n cells := by
 refine ⟨by rw [h.1, Nat.mul_one], ?_⟩
 obtain ⟨hl, a', cap', he, h1, h2, h3, h4⟩ := id h
 cases he
 exact ⟨a, cap, rfl, h1, h2, h3, fun hn => h.cell hn⟩
theorem qan.cell {w : World} {a : Option Addr} {cap n : Nat} {cells : List Value} (h : qan w (.slice a n cap) n cells) (hn : 0 < n) :
 ∃ b off, a = some ⟨b, off, none⟩ ∧ b < w.heap.size ∧ ∀ j u, cells[j]? = some u → w.cell? ⟨b, off + j, none⟩ = some u := by
 obtain ⟨hl, a', cap', he, _, _, _, hb⟩ := h
 cases he
 exact hb hn
theorem qan.form {w : World} {v : Value} {n : Nat} {cells : List Value} (h : qan w v n cells) : ∃ a cap, v = .slice a n cap ∧ n ≤ cap ∧ cap ≤ maxLen := by
 obtain ⟨_, a, cap, he, h1, h2, _⟩ := h
 exact ⟨a, cap, he, h1, h2⟩
theorem qan.keep {w w' : World} {a : Option Addr} {n cap : Nat} {cells : List Value} (h : qan w (.slice a n cap) n cells) (hs : w.heap.size ≤ w'.heap.size)
 (hk : ∀ k, (Value.slice a n cap).ownBlock = some k → k < w.heap.size → w'.heap[k]? = w.heap[k]?) : qan w' (.slice a n cap) n cells := by
 obtain ⟨hl, a', cap', he, h1, h2, h3, hb⟩ := h
 cases he
 refine ⟨hl, a, cap, rfl, h1, h2, h3, fun hn => ?_⟩
 obtain ⟨b, off, ha, hlt, hc⟩ := hb hn
 have hh := hk b (by simp [Value.ownBlock, ha]) hlt
 refine ⟨b, off, ha, Nat.lt_of_lt_of_le hlt hs, fun j u hu => ?_⟩
 rw [← hc j u hu]
 simp [World.cell?, hh]
theorem qan.same {w w' : World} {v : Value} {n : Nat} {cells : List Value} (h : qan w v n cells) (hf : qad w w') : qan w' v n cells := by
 obtain ⟨a, cap, rfl, _⟩ := h.form
 exact h.keep hf.size (fun k _ hk => hf.block k hk id)
theorem qan.nil (w : World) : qan w (.slice none 0 0) 0 [] := ⟨rfl, none, 0, rfl, Nat.le_refl _, Nat.zero_le _, fun _ => rfl, fun h => absurd h (Nat.lt_irrefl 0)⟩
theorem qan.cut {w : World} {a : Option Addr} {n cap : Nat} {cells : List Value} (h : qan w (.slice a n cap) n cells) (hn : 0 < n) (k l : Nat) (hkl : k ≤ l) (hl : l ≤ n) (hk : k < n) :
 ∃ b off, a = some ⟨b, off, none⟩ ∧ qan w (.slice (some ⟨b, off + k, none⟩) (l - k) (cap - k)) (l - k) ((cells.drop k).take (l - k)) := by
 obtain ⟨hlen, a', cap', he, h1, h2, h3, hb⟩ := h
 cases he
 obtain ⟨b, off, rfl, hlt, hc⟩ := hb hn
 refine ⟨b, off, rfl, by simp only [List.length_take, List.length_drop, hlen]; omega, _, _, rfl, by omega, by omega, by simp, fun _ => ⟨b, off + k, rfl, hlt, fun j u hu => ?_⟩⟩
 rw [List.getElem?_take] at hu
 split at hu
 · rw [List.getElem?_drop] at hu
   rw [Nat.add_assoc]
   exact hc _ _ hu
 · cases hu
theorem qan.below {w : World} {n : Nat} {a : Option Addr} {cap : Nat} {cells : List Value} (h : qan w (.slice a n cap) n cells) (hn : 0 < n) : ∀ k, (Value.slice a n cap).ownBlock = some k → k < w.heap.size := by
 obtain ⟨b, off, rfl, hb, _⟩ := h.cell hn
 intro k hk
 simp [Value.ownBlock] at hk
 omega
end Go.Proofs.YticcpnekjddanaaGreatDoor
