/-  -/
import Derived.Shelf.LaysM
import Derived.Shelf.Strconv.Itoa3
import Derived.Test.YticcpnekjddanaaGreatDoorProg

namespace Go.Proofs
open Go.Shelf
open Go.RowKit Go.Sort Go.Lib in
def Tryz.lays171_ren : Go.Shelf.Ren := ⟨fun | 171 => 54 | 243 => 90 | 246 => 115 | 283 => 129 | 284 => 130 | 285 => 131 | 286 => 132 | 129 => 140 | 317 => 139 | 318 => 141 | 319 => 142 | 320 => 143 | 337 => 150 | 338 => 151 | n => n, fun | 3 => 3 | 9 => 9 | 2 => 2 | 4 => 4 | 171 => 182 | 0 => 0 | 53 => 183 | 37 => 105 | 5 => 5 | 173 => 186 | 212 => 193 | 51 => 194 | 20 => 20 | 213 => 195 | 46 => 172 | 232 => 205 | 233 => 206 | n => n, fun | 17 => 0 | 18 => 1 | 19 => 2 | n => n⟩
theorem Tryz.lays171 : Go.Proofs.Lays.n171 Tryz.prog Tryz.lays171_ren := {
 mixed := by kernel_rfl
 f129 := Tryz.func140.trans (congrArg some (by kernel_rfl))
 f171 := Tryz.func54.trans (congrArg some (by kernel_rfl))
 f243 := Tryz.func90.trans (congrArg some (by kernel_rfl))
 f246 := Tryz.func115.trans (congrArg some (by kernel_rfl))
 f283 := Tryz.func129.trans (congrArg some (by kernel_rfl))
 f284 := Tryz.func130.trans (congrArg some (by kernel_rfl))
 f285 := Tryz.func131.trans (congrArg some (by kernel_rfl))
 f286 := Tryz.func132.trans (congrArg some (by kernel_rfl))
 f317 := Tryz.func139.trans (congrArg some (by kernel_rfl))
 f318 := Tryz.func141.trans (congrArg some (by kernel_rfl))
 f319 := Tryz.func142.trans (congrArg some (by kernel_rfl))
 f320 := Tryz.func143.trans (congrArg some (by kernel_rfl))
 f337 := Tryz.func150.trans (congrArg some (by kernel_rfl))
 f338 := Tryz.func151.trans (congrArg some (by kernel_rfl))
 t0 := Tryz.underlying0
 a0 := Tryz.isAgg0
 z0 := Tryz.sizeOf0
 v0 := Tryz.zeroValue0
 t2 := Tryz.underlying2
 a2 := Tryz.isAgg2
 z2 := Tryz.sizeOf2
 v2 := Tryz.zeroValue2
 t3 := Tryz.underlying3
 a3 := Tryz.isAgg3
 z3 := Tryz.sizeOf3
 v3 := Tryz.zeroValue3
 t4 := Tryz.underlying4
 a4 := Tryz.isAgg4
 z4 := Tryz.sizeOf4
 v4 := Tryz.zeroValue4
 t5 := Tryz.underlying5
 a5 := Tryz.isAgg5
 z5 := Tryz.sizeOf5
 v5 := Tryz.zeroValue5
 t9 := Tryz.underlying9
 a9 := Tryz.isAgg9
 z9 := Tryz.sizeOf9
 v9 := Tryz.zeroValue9
 t20 := Tryz.underlying20
 a20 := Tryz.isAgg20
 z20 := Tryz.sizeOf20
 v20 := Tryz.zeroValue20
 t37 := Tryz.underlying105
 a37 := Tryz.isAgg105
 z37 := Tryz.sizeOf105
 v37 := Tryz.zeroValue105
 t46 := Tryz.underlying172
 a46 := Tryz.isAgg172
 z46 := Tryz.sizeOf172
 v46 := Tryz.zeroValue172
 t51 := Tryz.underlying194
 a51 := Tryz.isAgg194
 z51 := Tryz.sizeOf194
 v51 := Tryz.zeroValue194
 t53 := Tryz.underlying183
 a53 := Tryz.isAgg183
 z53 := Tryz.sizeOf183
 v53 := Tryz.zeroValue183
 t171 := Tryz.underlying182
 a171 := Tryz.isAgg182
 z171 := Tryz.sizeOf182
 v171 := Tryz.zeroValue182
 t173 := Tryz.underlying186
 a173 := Tryz.isAgg186
 z173 := Tryz.sizeOf186
 v173 := Tryz.zeroValue186
 t212 := Tryz.underlying193
 a212 := Tryz.isAgg193
 z212 := Tryz.sizeOf193
 v212 := Tryz.zeroValue193
 t213 := Tryz.underlying195
 a213 := Tryz.isAgg195
 z213 := Tryz.sizeOf195
 t232 := Tryz.underlying205
 a232 := Tryz.isAgg205
 z232 := Tryz.sizeOf205
 v232 := Tryz.zeroValue205
 t233 := Tryz.underlying206
 a233 := Tryz.isAgg206
 z233 := Tryz.sizeOf206
 v233 := Tryz.zeroValue206
 g17 := by kernel_rfl
 g18 := by kernel_rfl
 g19 := by kernel_rfl }
open Go.RowKit Go.Sort Go.Lib in
theorem Tryz.strconv_Itoa_small (i : Nat) (hi : i < 100) (w : World) :
 Calls Tryz.prog 54 #[.int .i64 i] w fun e w' => e = .returned (.string ⟨(Lib.decDigits i).toArray⟩) ∧ w' = w := Any.strconv_Itoa_small Tryz.lays171 i hi w
end Go.Proofs
