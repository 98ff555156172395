/- Parts of the run. -/
import Derived.Test.YtbgbdoljnomakaaGreatDoorLStatA
namespace Go.Proofs.YtbgbdoljnomakaaGreatDoor
open Go Go.AM
theorem bc17 : chk Tryz.prog [3, 8, 11, 12, 13, 14, 15, 16, 17, 18, 19, 1182, 1186, 1188, 1189, 1190, 1191, 2170, 2204, 2232, 2296, 2345, 2411, 2429, 2430, 2431, 2432] (@runF (sumsL true) Tryz.prog 8 34428 bs17) = some bs18 := by kernel_rfl
theorem bc18 : chk Tryz.prog [3, 8, 11, 12, 13, 14, 15, 16, 17, 18, 19, 1182, 1186, 1188, 1189, 1190, 1191, 2170, 2204, 2232, 2296, 2345, 2411, 2429, 2430, 2531, 2532, 2533, 2536, 2540, 2541, 2542, 2562, 2563, 2564, 2565, 2568, 2569, 2570, 2571] (@runF (sumsL true) Tryz.prog 8 22857 bs18) = some bs19 := by kernel_rfl
end Go.Proofs.YtbgbdoljnomakaaGreatDoor
