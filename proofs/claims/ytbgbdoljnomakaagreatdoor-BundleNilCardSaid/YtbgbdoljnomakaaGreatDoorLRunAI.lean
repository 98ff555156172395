/- Parts of the run. -/
import Derived.Test.YtbgbdoljnomakaaGreatDoorLStatA
namespace Go.Proofs.YtbgbdoljnomakaaGreatDoor
open Go Go.AM
theorem bc19 : chk Tryz.prog [3, 8, 11, 12, 13, 14, 15, 16, 17, 18, 19, 1182, 1186, 1188, 1189, 1190, 1191, 2170, 2204, 2232, 2296, 2345, 2411, 2429, 2833, 2834] (@runF (sumsL true) Tryz.prog 8 29089 bs19) = some bs20 := by kernel_rfl
theorem bc20 : chk Tryz.prog [3, 8, 11, 12, 13, 14, 15, 16, 17, 18, 19, 1182, 1186, 1188, 1189, 1190, 1191, 2170, 2204, 2232, 2296, 2345, 2411, 2429, 2833, 2834, 2835] (@runF (sumsL true) Tryz.prog 8 32281 bs20) = some bs21 := by kernel_rfl
end Go.Proofs.YtbgbdoljnomakaaGreatDoor
