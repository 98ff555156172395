/- Parts of the run. -/
import Derived.Test.YtbgbdoljnomakaaGreatDoorLStatA
namespace Go.Proofs.YtbgbdoljnomakaaGreatDoor
open Go Go.AM
theorem bc15 : chk Tryz.prog [3, 8, 11, 12, 13, 14, 15, 16, 17, 18, 19, 1182, 1186, 1188, 1189, 1190, 1191, 1192, 1193, 1194, 1195, 1196, 1197, 1198, 1199, 1911, 1912, 1916] (@runF (sumsL true) Tryz.prog 8 24510 bs15) = some bs16 := by kernel_rfl
theorem bc16 : chk Tryz.prog [3, 8, 11, 12, 13, 14, 15, 16, 17, 18, 19, 1182, 1186, 1188, 1189, 1190, 1191, 1192, 2046, 2047, 2048] (@runF (sumsL true) Tryz.prog 8 30020 bs16) = some bs17 := by kernel_rfl
end Go.Proofs.YtbgbdoljnomakaaGreatDoor
