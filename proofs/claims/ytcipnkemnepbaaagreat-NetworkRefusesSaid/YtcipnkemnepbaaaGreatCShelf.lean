/-  -/
import Derived.Shelf.Sort.Plain
import Derived.Ground.Names2Prog
import Derived.Shelf.Slices.Clone
import Derived.Shelf.Slices.CompactI
import Derived.Shelf.Slices.In.SortNone
import Derived.Shelf.Spec.SlicesInsert
import Derived.Test.YtcipnkemnepbaaaGreatProg

namespace Go.Proofs
open Go.Shelf
def Tryz.lays189_ren : Go.Shelf.Ren := ⟨fun | 189 => 162 | 125 => 88 | 257 => 168 | 128 => 125 | 129 => 126 | 294 => 172 | 295 => 173 | 296 => 174 | 297 => 175 | 298 => 176 | 299 => 177 | 216 => 160 | 300 => 178 | 301 => 179 | 328 => 180 | 329 => 136 | 330 => 137 | 331 => 181 | 332 => 182 | 215 => 127 | 343 => 183 | n => n, fun | 28 => 31 | 3 => 3 | 46 => 151 | 0 => 0 | 51 => 179 | 53 => 70 | 4 => 4 | 183 => 173 | 182 => 172 | 131 => 140 | 5 => 5 | 9 => 9 | 218 => 188 | 222 => 192 | 228 => 202 | 229 => 203 | n => n, fun | n => n⟩
theorem Tryz.lays189 : Go.Proofs.Lays.n189 Tryz.prog Tryz.lays189_ren := {
 mixed := by kernel_rfl
 f125 := Tryz.func88.trans (congrArg some (by kernel_rfl))
 f128 := Tryz.func125.trans (congrArg some (by kernel_rfl))
 f129 := Tryz.func126.trans (congrArg some (by kernel_rfl))
 f189 := Tryz.func162.trans (congrArg some (by kernel_rfl))
 f215 := Tryz.func127.trans (congrArg some (by kernel_rfl))
 f216 := Tryz.func160.trans (congrArg some (by kernel_rfl))
 f257 := Tryz.func168.trans (congrArg some (by kernel_rfl))
 f294 := Tryz.func172.trans (congrArg some (by kernel_rfl))
 f295 := Tryz.func173.trans (congrArg some (by kernel_rfl))
 f296 := Tryz.func174.trans (congrArg some (by kernel_rfl))
 f297 := Tryz.func175.trans (congrArg some (by kernel_rfl))
 f298 := Tryz.func176.trans (congrArg some (by kernel_rfl))
 f299 := Tryz.func177.trans (congrArg some (by kernel_rfl))
 f300 := Tryz.func178.trans (congrArg some (by kernel_rfl))
 f301 := Tryz.func179.trans (congrArg some (by kernel_rfl))
 f328 := Tryz.func180.trans (congrArg some (by kernel_rfl))
 f329 := Tryz.func136.trans (congrArg some (by kernel_rfl))
 f330 := Tryz.func137.trans (congrArg some (by kernel_rfl))
 f331 := Tryz.func181.trans (congrArg some (by kernel_rfl))
 f332 := Tryz.func182.trans (congrArg some (by kernel_rfl))
 f343 := Tryz.func183.trans (congrArg some (by kernel_rfl))
 t0 := Tryz.underlying0
 a0 := Tryz.isAgg0
 z0 := Tryz.sizeOf0
 v0 := Tryz.zeroValue0
 t3 := Tryz.underlying3
 a3 := Tryz.isAgg3
 z3 := Tryz.sizeOf3
 v3 := Tryz.zeroValue3
 t4 := Tryz.underlying4
 a4 := Tryz.isAgg4
 z4 := Tryz.sizeOf4
 v4 := Tryz.zeroValue4
 t5 := Tryz.underlying5
 a5 := Tryz.isAgg5
 z5 := Tryz.sizeOf5
 v5 := Tryz.zeroValue5
 t9 := Tryz.underlying9
 a9 := Tryz.isAgg9
 z9 := Tryz.sizeOf9
 v9 := Tryz.zeroValue9
 t28 := Tryz.underlying31
 a28 := Tryz.isAgg31
 z28 := Tryz.sizeOf31
 v28 := Tryz.zeroValue31
 t46 := Tryz.underlying151
 a46 := Tryz.isAgg151
 z46 := Tryz.sizeOf151
 v46 := Tryz.zeroValue151
 t51 := Tryz.underlying179
 a51 := Tryz.isAgg179
 z51 := Tryz.sizeOf179
 v51 := Tryz.zeroValue179
 t53 := Tryz.underlying70
 a53 := Tryz.isAgg70
 z53 := Tryz.sizeOf70
 v53 := Tryz.zeroValue70
 t131 := Tryz.underlying140
 a131 := Tryz.isAgg140
 z131 := Tryz.sizeOf140
 v131 := Tryz.zeroValue140
 t182 := Tryz.underlying172
 a182 := Tryz.isAgg172
 z182 := Tryz.sizeOf172
 v182 := Tryz.zeroValue172
 t183 := Tryz.underlying173
 a183 := Tryz.isAgg173
 z183 := Tryz.sizeOf173
 v183 := Tryz.zeroValue173
 t218 := Tryz.underlying188
 a218 := Tryz.isAgg188
 z218 := Tryz.sizeOf188
 v218 := Tryz.zeroValue188
 t222 := Tryz.underlying192
 a222 := Tryz.isAgg192
 z222 := Tryz.sizeOf192
 v222 := Tryz.zeroValue192
 t228 := Tryz.underlying202
 a228 := Tryz.isAgg202
 z228 := Tryz.sizeOf202
 v228 := Tryz.zeroValue202
 t229 := Tryz.underlying203
 a229 := Tryz.isAgg203
 z229 := Tryz.sizeOf203
 v229 := Tryz.zeroValue203 }
open Go.Sort Go.RowKit in
theorem Tryz.slices_Sort_int (blk off cap : Nat) (zs : List Int) (w : World) (hH : Holds (Value.int .i64) w blk off zs.toArray) (hblk : blk < w.heap.size) (hsz : zs.length < 4611686018427387904) :
 Calls Tryz.prog 162 #[.slice (some ⟨blk, off, none⟩) zs.length cap] w fun e w' =>
  e = .returned (.tuple #[]) ∧ ∃ n os, w' = grow (putRow (Value.int .i64) (Sort.ahead w n) blk off (zs.mergeSort fun x y => decide (x ≤ y)).toArray) os := Any.slices_Sort_int Tryz.lays189 blk off cap zs w hH hblk hsz
def Tryz.laysNm215_ren : Go.Shelf.Ren := ⟨fun | 15 => 40 | n => n, fun | 22 => 31 | 3 => 3 | 4 => 4 | n => n, fun | n => n⟩
theorem Tryz.laysNm215 : Go.Proofs.Lays2.n15 Tryz.prog Tryz.laysNm215_ren := {
 mixed := by kernel_rfl
 f15 := Tryz.func40.trans (congrArg some (by kernel_rfl))
 t3 := Tryz.underlying3
 a3 := Tryz.isAgg3
 z3 := Tryz.sizeOf3
 v3 := Tryz.zeroValue3
 t4 := Tryz.underlying4
 a4 := Tryz.isAgg4
 z4 := Tryz.sizeOf4
 v4 := Tryz.zeroValue4
 t22 := Tryz.underlying31
 a22 := Tryz.isAgg31
 z22 := Tryz.sizeOf31
 v22 := Tryz.zeroValue31
 i3 := by kernel_rfl }
open Go.RowKit Go.Lib in
theorem Tryz.slices_Clone_int (b off n c : Nat) (zs : List Int) (w : World) (hz : n ≤ zs.length) (hbig : n * 8 ≤ 140737488355328) (hc : ∀ j, j < zs.length → w.cell? ⟨b, off + j, none⟩ = some (.int .i64 (zs.getD j 0))) :
 Calls Tryz.prog 40 #[.slice (some ⟨b, off, none⟩) n c] w fun e w' => ∃ v', e = .returned v' ∧ w'.ownsRow w.heap.size 3 1 v' n ((zs.take n).map (Value.int .i64)) ∧ v' ≠ .slice none 0 0 ∧ Below w.heap.size w w' := Any.slices_Clone_int Tryz.laysNm215 b off n c zs w hz hbig hc
open Go.RowKit Go.Lib in
theorem Tryz.slices_Clone_int_nil (n c : Nat) (w : World) :
 Calls Tryz.prog 40 #[.slice none n c] w fun e w' => e = .returned (.slice none 0 0) ∧ w' = w := Any.slices_Clone_int_nil Tryz.laysNm215 n c w
open Go.RowKit Go.Lib in
theorem Tryz.slices_Clone_int_zero (a : Addr) (c : Nat) (w : World) :
 Calls Tryz.prog 40 #[.slice (some a) 0 c] w fun e w' => ∃ v', e = .returned v' ∧ w'.ownsRow w.heap.size 3 1 v' 0 [] ∧ v' ≠ .slice none 0 0 ∧ Below w.heap.size w w' := Any.slices_Clone_int_zero Tryz.laysNm215 a c w
def Tryz.laysNm220_ren : Go.Shelf.Ren := ⟨fun | 20 => 164 | n => n, fun | 22 => 31 | 3 => 3 | 4 => 4 | 0 => 0 | n => n, fun | n => n⟩
theorem Tryz.laysNm220 : Go.Proofs.Lays2.n20 Tryz.prog Tryz.laysNm220_ren := {
 mixed := by kernel_rfl
 f20 := Tryz.func164.trans (congrArg some (by kernel_rfl))
 t0 := Tryz.underlying0
 a0 := Tryz.isAgg0
 z0 := Tryz.sizeOf0
 v0 := Tryz.zeroValue0
 t3 := Tryz.underlying3
 a3 := Tryz.isAgg3
 z3 := Tryz.sizeOf3
 v3 := Tryz.zeroValue3
 t4 := Tryz.underlying4
 a4 := Tryz.isAgg4
 z4 := Tryz.sizeOf4
 v4 := Tryz.zeroValue4
 t22 := Tryz.underlying31
 a22 := Tryz.isAgg31
 z22 := Tryz.sizeOf31
 v22 := Tryz.zeroValue31
 i3 := by kernel_rfl }
open Go.RowKit Go.Lib Go.Sort in
theorem Tryz.slices_Compact_int (blk off cap : Nat) (zs : List Int) (w : World) (hH : Holds (Value.int .i64) w blk off zs.toArray) (hsz : zs.length ≤ 9223372036854775807) (hcap : zs.length ≤ cap) :
 Calls Tryz.prog 164 #[.slice (some ⟨blk, off, none⟩) zs.length cap] w fun e w' => e = .returned (.slice (some ⟨blk, off, none⟩) (Lib.compact zs).length cap) ∧ ∃ q, w' = putRow (Value.int .i64) (Sort.ahead w q) blk off (Lib.compact zs ++ List.replicate (zs.length - (Lib.compact zs).length) 0).toArray := Any.slices_Compact_int Tryz.laysNm220 blk off cap zs w hH hsz hcap
open Go.RowKit Go.Lib Go.Sort in
theorem Tryz.slices_Compact_int_empty (a : Option Addr) (cap : Nat) (w : World) :
 Calls Tryz.prog 164 #[.slice a 0 cap] w fun e w' => e = .returned (.slice a 0 cap) ∧ w' = w := Any.slices_Compact_int_empty Tryz.laysNm220 a cap w
open Go.RowKit Go.Sort in
theorem Tryz.slices_Sort_int_none (p : Option Addr) (cap : Nat) (w : World) :
 Calls Tryz.prog 162 #[.slice p 0 cap] w fun e w' => e = .returned (.tuple #[]) ∧ w' = w := Any.slices_Sort_int_none Tryz.lays189 p cap w
def Tryz.laysNm221_ren : Go.Shelf.Ren := ⟨fun | 21 => 38 | 27 => 68 | 28 => 69 | 35 => 102 | 39 => 133 | n => n, fun | 22 => 31 | 3 => 3 | 4 => 4 | 0 => 0 | n => n, fun | n => n⟩
theorem Tryz.laysNm221 : Go.Proofs.Lays2.n21 Tryz.prog Tryz.laysNm221_ren := {
 mixed := by kernel_rfl
 f21 := Tryz.func38.trans (congrArg some (by kernel_rfl))
 f27 := Tryz.func68.trans (congrArg some (by kernel_rfl))
 f28 := Tryz.func69.trans (congrArg some (by kernel_rfl))
 f35 := Tryz.func102.trans (congrArg some (by kernel_rfl))
 f39 := Tryz.func133.trans (congrArg some (by kernel_rfl))
 t0 := Tryz.underlying0
 a0 := Tryz.isAgg0
 z0 := Tryz.sizeOf0
 v0 := Tryz.zeroValue0
 t3 := Tryz.underlying3
 a3 := Tryz.isAgg3
 z3 := Tryz.sizeOf3
 v3 := Tryz.zeroValue3
 t4 := Tryz.underlying4
 a4 := Tryz.isAgg4
 z4 := Tryz.sizeOf4
 v4 := Tryz.zeroValue4
 t22 := Tryz.underlying31
 a22 := Tryz.isAgg31
 z22 := Tryz.sizeOf31
 v22 := Tryz.zeroValue31
 i3 := by kernel_rfl }
open Go.RowKit Go.Lib in
theorem Tryz.slices_Insert_int_shift (b off n c i vb voff m vc : Nat) (cs vs : List Value) (w : World) (hi : i < n) (hm : 0 < m) (hroom : n + m ≤ c) (hc63 : c ≤ 9223372036854775807) (hvb : vb ≠ b) (hcl : cs.length = n) (hvl : vs.length = m) (hcs : ∀ j v, cs[j]? = some v → w.cell? ⟨b, off + j, none⟩ = some v) (hsp : ∀ j, j < n + m → (w.cell? ⟨b, off + j, none⟩).isSome = true) (hfz : ∀ j, j < n + m → w.frozen? ⟨b, off + j, none⟩ = false) (hvs : ∀ j v, vs[j]? = some v → w.cell? ⟨vb, voff + j, none⟩ = some v) (h1c : ∀ v ∈ cs, v.oneCell' = true) (h1v : ∀ v ∈ vs, v.oneCell' = true) (tA tB : TypeId) (kA kB : Nat) (hsa : w.shape? vb = some (tA, kA)) (hsb : w.shape? b = some (tB, kB)) (hkB : kB ≠ 0) (hfa : w.frozen? ⟨vb, voff, none⟩ = false) (hfe : w.frozen? ⟨vb, kA, none⟩ = false) :
 Calls Tryz.prog 38 #[.slice (some ⟨b, off, none⟩) n c, .int .i64 i, .slice (some ⟨vb, voff, none⟩) m vc] w fun e w' => e = .returned (.slice (some ⟨b, off, none⟩) (n + m) c) ∧ w' = (w.drew.setCells b (off + (i + m)) (cs.drop i)).setCells b (off + i) vs := Any2.slices_Insert_int_shift Tryz.laysNm221 b off n c i vb voff m vc cs vs w hi hm hroom hc63 hvb hcl hvl hcs hsp hfz hvs h1c h1v tA tB kA kB hsa hsb hkB hfa hfe
open Go.RowKit Go.Lib in
theorem Tryz.slices_Insert_int_end_room (b off n c vb voff m vc : Nat) (vs : List Value) (w : World) (hm : 0 < m) (hroom : n + m ≤ c) (hc63 : c ≤ 9223372036854775807) (hvl : vs.length = m) (hsp : ∀ j, j < m → (w.cell? ⟨b, off + n + j, none⟩).isSome = true) (hfz : ∀ j, j < m → w.frozen? ⟨b, off + n + j, none⟩ = false) (hvs : ∀ j v, vs[j]? = some v → w.cell? ⟨vb, voff + j, none⟩ = some v) (h1v : ∀ v ∈ vs, v.oneCell' = true) :
 Calls Tryz.prog 38 #[.slice (some ⟨b, off, none⟩) n c, .int .i64 n, .slice (some ⟨vb, voff, none⟩) m vc] w fun e w' => e = .returned (.slice (some ⟨b, off, none⟩) (n + m) c) ∧ w' = w.setCells b (off + n) vs := Any2.slices_Insert_int_end_room Tryz.laysNm221 b off n c vb voff m vc vs w hm hroom hc63 hvl hsp hfz hvs h1v
open Go.RowKit Go.Lib in
theorem Tryz.slices_Insert_int_end_grow (base : Option Addr) (n c vb voff m vc : Nat) (cs vs : List Value) (w : World) (hm : 0 < m) (hnc : n ≤ c) (hroom : c < n + m) (hbig : (n + m) * 8 ≤ 140737488355328) (hcl : cs.length = n) (hvl : vs.length = m) (hnil : base = none → n = 0) (hcs : ∀ a, base = some a → ∀ j v, cs[j]? = some v → w.cell? (a.add j) = some v) (hvs : ∀ j v, vs[j]? = some v → w.cell? ⟨vb, voff + j, none⟩ = some v) (h1v : ∀ v ∈ vs, v.oneCell' = true) :
 Calls Tryz.prog 38 #[.slice base n c, .int .i64 n, .slice (some ⟨vb, voff, none⟩) m vc] w fun e w' => e = .returned (.slice (some ⟨w.heap.size, 0, none⟩) (n + m) (grownCap w (n + m) c 3)) ∧ w' = w.drew.alloc (.cells ((cs ++ vs).toArray ++ Builtin.zeroCells (Value.int .i64 0).cells (grownCap w (n + m) c 3 - (n + m))) 3) := Any2.slices_Insert_int_end_grow Tryz.laysNm221 base n c vb voff m vc cs vs w hm hnc hroom hbig hcl hvl hnil hcs hvs h1v
end Go.Proofs
