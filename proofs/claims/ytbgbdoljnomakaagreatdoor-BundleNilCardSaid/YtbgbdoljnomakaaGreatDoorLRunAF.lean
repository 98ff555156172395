/- Parts of the run. -/
import Derived.Test.YtbgbdoljnomakaaGreatDoorLStatA
namespace Go.Proofs.YtbgbdoljnomakaaGreatDoor
open Go Go.AM
theorem bc12 : chk Tryz.prog [3, 8, 11, 12, 13, 14, 15, 16, 17, 18, 19, 1182, 1186, 1188, 1189, 1190, 1191, 1192, 1193, 1194, 1195, 1196, 1197, 1198, 1199, 1322, 1323, 1327] (@runF (sumsL true) Tryz.prog 8 24016 bs12) = some bs13 := by kernel_rfl
theorem bc13 : chk Tryz.prog [3, 8, 11, 12, 13, 14, 15, 16, 17, 18, 19, 1182, 1186, 1188, 1189, 1190, 1191, 1192, 1193, 1194, 1195, 1196, 1197, 1198, 1199, 1490, 1491, 1495] (@runF (sumsL true) Tryz.prog 8 22857 bs13) = some bs14 := by kernel_rfl
theorem bc14 : chk Tryz.prog [3, 8, 11, 12, 13, 14, 15, 16, 17, 18, 19, 1182, 1186, 1188, 1189, 1190, 1191, 1192, 1193, 1194, 1195, 1196, 1197, 1198, 1199, 1630, 1631, 1635] (@runF (sumsL true) Tryz.prog 8 21964 bs14) = some bs15 := by kernel_rfl
end Go.Proofs.YtbgbdoljnomakaaGreatDoor
