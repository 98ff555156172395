/- Parts of the run. -/
import Derived.Test.YtbgbdoljnomakaaGreatDoorLStatA
namespace Go.Proofs.YtbgbdoljnomakaaGreatDoor
open Go Go.AM
theorem bc10 : chk Tryz.prog [3, 8, 11, 12, 13, 14, 15, 16, 17, 18, 19, 20, 416, 422, 423, 564, 574, 577, 578, 579, 989, 999, 1006, 1012, 1030, 1037, 1177] (@runF (sumsL true) Tryz.prog 8 22192 bs10) = some bs11 := by kernel_rfl
theorem bc11 : chk Tryz.prog [3, 8, 11, 12, 13, 14, 15, 16, 17, 18, 19, 1182, 1186] (@runF (sumsL true) Tryz.prog 8 31160 bs11) = some bs12 := by kernel_rfl
end Go.Proofs.YtbgbdoljnomakaaGreatDoor
