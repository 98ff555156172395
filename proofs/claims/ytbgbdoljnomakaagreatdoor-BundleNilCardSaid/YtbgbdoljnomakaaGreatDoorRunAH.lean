/- Parts of the run. -/
import Derived.Test.YtbgbdoljnomakaaGreatDoorStatA
namespace Go.Proofs.YtbgbdoljnomakaaGreatDoor
open Go Go.AM
theorem ac17 : chk Tryz.prog [3, 10, 11, 12, 13, 14, 15, 16, 17, 18, 1178, 1182, 1184, 1185, 1186, 1187, 2166, 2200, 2228, 2292, 2341, 2407, 2425, 2426, 2427, 2428] (@runF sums Tryz.prog 8 34485 as17) = some as18 := by kernel_rfl
theorem ac18 : chk Tryz.prog [3, 10, 11, 12, 13, 14, 15, 16, 17, 18, 1178, 1182, 1184, 1185, 1186, 1187, 2166, 2200, 2228, 2292, 2341, 2407, 2425, 2426, 2527, 2528, 2529, 2532, 2536, 2537, 2538, 2558, 2559, 2560, 2561, 2564, 2565, 2566, 2567] (@runF sums Tryz.prog 8 22800 as18) = some as19 := by kernel_rfl
end Go.Proofs.YtbgbdoljnomakaaGreatDoor
