/- Parts of the run. -/
import Derived.Test.YtbgbdoljnomakaaGreatDoorLStatA
namespace Go.Proofs.YtbgbdoljnomakaaGreatDoor
open Go Go.AM
theorem bc21 : chk Tryz.prog [3, 8, 11, 12, 13, 14, 15, 16, 17, 18, 19, 1182, 1186, 1188, 1189, 1190, 1191, 2170, 2204, 2232, 2296, 2345, 2411, 2429, 2833, 3116] (@runF (sumsL true) Tryz.prog 8 34162 bs21) = some bs22 := by kernel_rfl
theorem bc22 : chk Tryz.prog [3, 8, 11, 12, 13, 14, 15, 16, 17, 18, 19, 1182, 1191, 2170, 2204, 2232, 2296, 2345, 2411, 2429, 3231, 3236, 3249, 3286, 3293] (@runF (sumsL true) Tryz.prog 8 34143 bs22) = some bs23 := by kernel_rfl
end Go.Proofs.YtbgbdoljnomakaaGreatDoor
