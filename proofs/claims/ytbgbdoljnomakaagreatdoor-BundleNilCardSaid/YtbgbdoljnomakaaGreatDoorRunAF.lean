/- Parts of the run. -/
import Derived.Test.YtbgbdoljnomakaaGreatDoorStatA
namespace Go.Proofs.YtbgbdoljnomakaaGreatDoor
open Go Go.AM
theorem ac12 : chk Tryz.prog [3, 10, 11, 12, 13, 14, 15, 16, 17, 18, 1178, 1182, 1184, 1185, 1186, 1187, 1188, 1189, 1190, 1191, 1192, 1193, 1194, 1195, 1318, 1319, 1323] (@runF sums Tryz.prog 8 24111 as12) = some as13 := by kernel_rfl
theorem ac13 : chk Tryz.prog [3, 10, 11, 12, 13, 14, 15, 16, 17, 18, 1178, 1182, 1184, 1185, 1186, 1187, 1188, 1189, 1190, 1191, 1192, 1193, 1194, 1195, 1486, 1487, 1491] (@runF sums Tryz.prog 8 22781 as13) = some as14 := by kernel_rfl
theorem ac14 : chk Tryz.prog [3, 10, 11, 12, 13, 14, 15, 16, 17, 18, 1178, 1182, 1184, 1185, 1186, 1187, 1188, 1189, 1190, 1191, 1192, 1193, 1194, 1195, 1626, 1627, 1631] (@runF sums Tryz.prog 8 21983 as14) = some as15 := by kernel_rfl
end Go.Proofs.YtbgbdoljnomakaaGreatDoor
