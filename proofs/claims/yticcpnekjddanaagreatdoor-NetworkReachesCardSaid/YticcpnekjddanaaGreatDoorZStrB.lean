/-  -/
import Derived.Shelf.Strings.BuilderK
import Derived.Shelf.LaysM
import Derived.Test.YticcpnekjddanaaGreatDoorZKey2

namespace Go.Proofs
open Go.Shelf
def Tryz.strB_ren : Go.Shelf.Ren := ⟨fun | 240 => 89 | 276 => 114 | 167 => 55 | 166 => 53 | 169 => 56 | n => n, fun | 0 => 0 | 3 => 3 | 4 => 4 | 5 => 5 | 9 => 9 | 20 => 20 | 37 => 105 | 70 => 104 | 72 => 107 | 75 => 109 | 80 => 114 | 127 => 145 | 164 => 169 | n => n, fun | n => n⟩
theorem Tryz.strB167 : Go.Proofs.Lays.n167 Tryz.prog Tryz.strB_ren := {
 mixed := by kernel_rfl
 f167 := Tryz.func55.trans (congrArg some (by kernel_rfl))
 f240 := Tryz.func89.trans (congrArg some (by kernel_rfl))
 f276 := Tryz.func114.trans (congrArg some (by kernel_rfl))
 t0 := Tryz.underlying0
 a0 := Tryz.isAgg0
 z0 := Tryz.sizeOf0
 v0 := Tryz.zeroValue0
 t4 := Tryz.underlying4
 a4 := Tryz.isAgg4
 z4 := Tryz.sizeOf4
 v4 := Tryz.zeroValue4
 t5 := Tryz.underlying5
 a5 := Tryz.isAgg5
 z5 := Tryz.sizeOf5
 v5 := Tryz.zeroValue5
 t9 := Tryz.underlying9
 a9 := Tryz.isAgg9
 z9 := Tryz.sizeOf9
 v9 := Tryz.zeroValue9
 t20 := Tryz.underlying20
 a20 := Tryz.isAgg20
 z20 := Tryz.sizeOf20
 v20 := Tryz.zeroValue20
 t37 := Tryz.underlying105
 a37 := Tryz.isAgg105
 z37 := Tryz.sizeOf105
 v37 := Tryz.zeroValue105
 t70 := Tryz.underlying104
 a70 := Tryz.isAgg104
 z70 := Tryz.sizeOf104
 v70 := Tryz.zeroValue104
 t72 := Tryz.underlying107
 a72 := Tryz.isAgg107
 z72 := Tryz.sizeOf107
 v72 := Tryz.zeroValue107
 t75 := Tryz.underlying109
 a75 := Tryz.isAgg109
 z75 := Tryz.sizeOf109
 v75 := Tryz.zeroValue109
 t164 := Tryz.underlying169
 a164 := Tryz.isAgg169
 z164 := Tryz.sizeOf169
 v164 := Tryz.zeroValue169
}
theorem Tryz.strB166 : Go.Proofs.Lays.n166 Tryz.prog Tryz.strB_ren := {
 mixed := by kernel_rfl
 f166 := Tryz.func53.trans (congrArg some (by kernel_rfl))
 f240 := Tryz.func89.trans (congrArg some (by kernel_rfl))
 f276 := Tryz.func114.trans (congrArg some (by kernel_rfl))
 t0 := Tryz.underlying0
 a0 := Tryz.isAgg0
 z0 := Tryz.sizeOf0
 v0 := Tryz.zeroValue0
 t3 := Tryz.underlying3
 a3 := Tryz.isAgg3
 z3 := Tryz.sizeOf3
 v3 := Tryz.zeroValue3
 t4 := Tryz.underlying4
 a4 := Tryz.isAgg4
 z4 := Tryz.sizeOf4
 v4 := Tryz.zeroValue4
 t9 := Tryz.underlying9
 a9 := Tryz.isAgg9
 z9 := Tryz.sizeOf9
 v9 := Tryz.zeroValue9
 t20 := Tryz.underlying20
 a20 := Tryz.isAgg20
 z20 := Tryz.sizeOf20
 v20 := Tryz.zeroValue20
 t37 := Tryz.underlying105
 a37 := Tryz.isAgg105
 z37 := Tryz.sizeOf105
 v37 := Tryz.zeroValue105
 t70 := Tryz.underlying104
 a70 := Tryz.isAgg104
 z70 := Tryz.sizeOf104
 v70 := Tryz.zeroValue104
 t72 := Tryz.underlying107
 a72 := Tryz.isAgg107
 z72 := Tryz.sizeOf107
 v72 := Tryz.zeroValue107
 t75 := Tryz.underlying109
 a75 := Tryz.isAgg109
 z75 := Tryz.sizeOf109
 v75 := Tryz.zeroValue109
 t164 := Tryz.underlying169
 a164 := Tryz.isAgg169
 z164 := Tryz.sizeOf169
 v164 := Tryz.zeroValue169
}
theorem Tryz.strB169 : Go.Proofs.Lays.n169 Tryz.prog Tryz.strB_ren := {
 mixed := by kernel_rfl
 f169 := Tryz.func56.trans (congrArg some (by kernel_rfl))
 t0 := Tryz.underlying0
 a0 := Tryz.isAgg0
 z0 := Tryz.sizeOf0
 v0 := Tryz.zeroValue0
 t3 := Tryz.underlying3
 a3 := Tryz.isAgg3
 z3 := Tryz.sizeOf3
 v3 := Tryz.zeroValue3
 t9 := Tryz.underlying9
 a9 := Tryz.isAgg9
 z9 := Tryz.sizeOf9
 v9 := Tryz.zeroValue9
 t37 := Tryz.underlying105
 a37 := Tryz.isAgg105
 z37 := Tryz.sizeOf105
 v37 := Tryz.zeroValue105
 t70 := Tryz.underlying104
 a70 := Tryz.isAgg104
 z70 := Tryz.sizeOf104
 v70 := Tryz.zeroValue104
 t72 := Tryz.underlying107
 a72 := Tryz.isAgg107
 z72 := Tryz.sizeOf107
 v72 := Tryz.zeroValue107
 t127 := Tryz.underlying145
 a127 := Tryz.isAgg145
 z127 := Tryz.sizeOf145
 v127 := Tryz.zeroValue145
}
theorem Tryz.strBX : Builder.Extra Tryz.prog Tryz.strB_ren := {
 sizeBuilder := by kernel_rfl
 liesBuilder := by kernel_rfl
 t5 := Tryz.underlying5
 a5 := Tryz.isAgg5
 z5 := Tryz.sizeOf5
 v5 := Tryz.zeroValue5
 infoByte := by kernel_rfl
 cellsByte := by kernel_rfl
 sizeByte := by kernel_rfl
 neB5 := by decide }
open Go.RowKit in
theorem Tryz.sb_writeByte (B b : Nat) (bs : List Value) (c : Int) (w : World) (h : Lib.IsBuilderF 107 5 B b bs w) (hlen : bs.length + 1 ≤ 140737488355328) (hBw : B ≤ w.heap.size) :
 Calls Tryz.prog 55 #[.pointer (some ⟨b, 0, none⟩), .int .u8 c] w fun e w' => e = .returned .nilIface ∧ (Lib.BuilderAtF 107 5 B b (.pointer (some ⟨b, 0, none⟩)) (bs ++ [.int .u8 c]) w' ∧ Below B w w' ∧ Lib.OthersKept 5 (some b) w w') :=
 Any.Builder_WriteByte_k Tryz.strB167 Tryz.strBX B b bs c w h hlen hBw
open Go.RowKit in
theorem Tryz.sb_writeString (B b : Nat) (bs : List Value) (s : ByteArray) (w : World) (h : Lib.IsBuilderF 107 5 B b bs w) (hlen : bs.length + s.size ≤ 140737488355328) (hBw : B ≤ w.heap.size) :
 Calls Tryz.prog 53 #[.pointer (some ⟨b, 0, none⟩), .string s] w fun e w' => e = .returned (.tuple #[.int .i64 s.size, .nilIface]) ∧ (Lib.BuilderAtF 107 5 B b (.pointer (some ⟨b, 0, none⟩)) (bs ++ Lib.strCells s) w' ∧ Below B w w' ∧ Lib.OthersKept 5 (some b) w w') :=
 Any.Builder_WriteString_k Tryz.strB166 Tryz.strBX B b bs s w h hlen hBw
open Go.RowKit in
theorem Tryz.sb_string (B b : Nat) (l : List UInt8) (w : World) (h : Lib.IsBuilderF 107 5 B b (Lib.byteCells l) w) (hBw : B ≤ w.heap.size) :
 Calls Tryz.prog 56 #[.pointer (some ⟨b, 0, none⟩)] w fun e w' => e = .returned (.string ⟨l.toArray⟩) ∧ (Lib.IsBuilderF 107 5 B b (Lib.byteCells l) w' ∧ Below B w w' ∧ Lib.OthersKept 5 (some b) w w') :=
 Any.Builder_String_any_k Tryz.strB169 Tryz.strBX B b l w h hBw
end Go.Proofs
