/- BddCombines: region 18: the plan's check. -/
import Derived.Test.YtaebjalpebgliaaLCombP
namespace Go.Proofs.Ytaebjalpebgliaa
open Go.RowKit

/-- A region's operations. -/
def opsOf : Code → List Oper
  | .region _ o _ => o.toList
  | _ => []

set_option maxRecDepth 100000 in
theorem r18_check : (Region.noSelect (opsOf (regionOf Try.f3 18)).toArray && planF .any (opsOf (regionOf Try.f3 18)).toArray [0, 0, 0, 0, 0, 1, 0, 0, 0, 1, 0, 0, 0, 0, 1, 0, 2, 2, 0, 0, 1, 0, 0, 0, 1, 0, 0, 0, 0, 1, 0, 2, 2, 0, 0, 1, 0, 0, 0, 1, 0, 0, 0, 1, 0, 2, 3, 0, 3, 0, 3, 0, 3] (.fork [0, 1, 2, 3, 4, 6, 7, 8, 18, 19, 21, 22, 23, 33, 34, 36, 37, 38, 40, 41, 42, 5, 9, 10, 11, 12, 13, 14, 15, 20, 24, 35, 39, 43, 44] 16 (.fork [] 17 (.fork [25, 26, 27, 28, 29, 30] 31 (.fork [] 32 (.run [45, 46, 47, 48, 49, 50, 51, 52]) 45 (.run [32, 46, 47, 48, 49, 50, 51, 52])) 45 (.run [31, 32, 46, 47, 48, 49, 50, 51, 52])) 45 (.run [17, 25, 26, 27, 28, 29, 30, 31, 32, 46, 47, 48, 49, 50, 51, 52])) 45 (.run [16, 17, 25, 26, 27, 28, 29, 30, 31, 32, 46, 47, 48, 49, 50, 51, 52])) (opsOf (regionOf Try.f3 18)).length (Array.replicate (opsOf (regionOf Try.f3 18)).length false)) = true := by kernel_rfl
end Go.Proofs.Ytaebjalpebgliaa
