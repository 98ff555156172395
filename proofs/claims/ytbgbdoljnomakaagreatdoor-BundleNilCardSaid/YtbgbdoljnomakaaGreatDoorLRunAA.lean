/- Parts of the run. -/
import Derived.Test.YtbgbdoljnomakaaGreatDoorLStatA
namespace Go.Proofs.YtbgbdoljnomakaaGreatDoor
open Go Go.AM
theorem bc0 : chk Tryz.prog [3, 8, 11, 12, 13, 14, 15, 16, 17, 18, 19, 20, 21, 22, 23, 114] (@runF (sumsL true) Tryz.prog 8 32547 bs0) = some bs1 := by kernel_rfl
theorem bc1 : chk Tryz.prog [3, 8, 11, 12, 13, 14, 15, 16, 17, 18, 19, 20, 21, 304] (@runF (sumsL true) Tryz.prog 8 34162 bs1) = some bs2 := by kernel_rfl
end Go.Proofs.YtbgbdoljnomakaaGreatDoor
